/- A range over a function whose iterator hands over what it has laid anew: a law for the caller. No condition. -/
import Derived.Test.YthlhfhfhagfelaaBase
import Derived.RangeFuncNested
import Derived.RangeFuncBound
import Derived.RangeFuncCalls
import Derived.RangeFuncLeaves
set_option linter.unusedVariables false
set_option linter.unusedSimpArgs false
namespace Go.Proofs.Ythlhfhfhagfelaa
open Go.RowKit

/-- Cells, and what lies below B, are as they were; what is no cells and lies from B on may have turned; there may be more. -/
structure Calm (B : Nat) (W W' : World) : Prop where
  os : W'.os = W.os
  tape : W'.tape = W.tape
  output : W'.output = W.output
  size : W.heap.size ≤ W'.heap.size
  keep : ∀ (k : Nat) (o : Obj), W.heap[k]? = some o → (k < B ∨ o.isCells = true) → W'.heap[k]? = some o
theorem Calm.refl (B : Nat) (W : World) : Calm B W W := ⟨rfl, rfl, rfl, Nat.le_refl _, fun _ _ h _ => h⟩
theorem Calm.trans {B : Nat} {X Y Z : World} (h : Calm B X Y) (k : Calm B Y Z) : Calm B X Z :=
  ⟨k.os.trans h.os, k.tape.trans h.tape, k.output.trans h.output, Nat.le_trans h.size k.size, fun i o hi ho => k.keep i o (h.keep i o hi ho) ho⟩
theorem Calm.of_below {B : Nat} {W W' : World} (h : Below W.heap.size W W') : Calm B W W' :=
  ⟨h.os, h.tape, h.output, h.size, fun k o hk _ => (h.block k (Array.getElem?_eq_some_iff.1 hk).1).trans hk⟩
theorem Calm.put {B l : Nat} {W : World} {o : Obj} (o' : Obj) (hB : B ≤ l) (hl : W.heap[l]? = some o) (ho : o.isCells = false) : Calm B W (W.putObj l o') := by
  have hg := grownBy_putObj' W l o'
  refine ⟨hg.os, hg.tape, hg.output, hg.size, fun k p hk hp => (hg.block k (Array.getElem?_eq_some_iff.1 hk).1 (fun e => ?_)).trans hk⟩
  injection e with e
  subst e
  rw [hl] at hk
  injection hk with hk
  subst hk
  rcases hp with hp | hp
  · omega
  · rw [ho] at hp; cases hp
def Stable {β : Type} (B : Nat) (I : β → World → Prop) : Prop := ∀ s W W', I s W → Calm B W W' → I s W'

/-- The iterator's word: each x that it hands over is, in the world in which it calls, as G says over the world in which the round ahead ended. -/
def SeqFresh {α : Type} (F : Fence) (n : Nat) (P : Program) (gf : Nat) (lb : Array Value) (encs : α → Array Value) (G : List α → α → World → World → Prop) (Kp : World → World → Prop) (S Sp : List α → Prop) (N : Nat) (w : World) : Prop :=
  ∀ (l : Nat) (J Jx : List α → World → Prop) (W : World), Below w.heap.size w W → (∀ pre A B, J pre A → Below A.heap.size A B → J pre B) →
    (∀ pre x Ws W1, J pre Ws → Below Ws.heap.size Ws W1 → G pre x Ws W1 → pre.length < N → YieldAt F (n - 1) P l (encs x) W1 fun e W' =>
      (e = .returned (.bool true) ∧ J (pre ++ [x]) W' ∧ Kp W1 W') ∨ (e = .returned (.bool false) ∧ Jx (pre ++ [x]) W')) →
    J [] W →
    CallsIn F n P gf (#[.func (.yield l) #[] #[]] ++ lb) W fun e W' => (∃ v, e = .returned v) ∧ ((∃ xs, S xs ∧ J xs W') ∨ (∃ pre, Sp pre ∧ Jx pre W'))

variable {F : Fence} {n : Nat} {P : Program} {w : World}

theorem rangeFunc_fresh {α : Type} {g : Operand} {ps : Array Tmp} {assign body : Code} {Q : Exit → Act → World → Prop} {a : Act}
    (hro : F.round = none) (h1 : 1 ≤ n) {gf : Nat} {lb : Array Value} (hg : a.eval g = .func (.func gf) #[] lb) (hFg : F.fn gf) (eg : ∀ args w, (callFunc gf args).run P w = .ok (.enter gf args) w)
    {encs : α → Array Value} {G : List α → α → World → World → Prop} {Kp : World → World → Prop} {S Sp : List α → Prop} {N : Nat} (hseq : SeqFresh F (n - 1) P gf lb encs G Kp S Sp N w)
    (hKt : ∀ {A B C : World}, Kp A B → Kp B C → Kp A C) (hKc : ∀ {A B : World}, Calm w.heap.size A B → Kp A B) (hps : ∀ x, (encs x).size = ps.size)
    (I : List α → World → Prop) (Ix : Code → List α → World → Prop) (hI : Stable w.heap.size I) (hIx : ∀ c, Stable w.heap.size (Ix c)) (h0 : I [] w)
    (M : List α → α → Act → World → Prop) (hM : ∀ pre x a', Stable w.heap.size (fun (_ : Unit) W => M pre x a' W))
    (hassign : ∀ (l : Nat) (pre : List α) (x : α) (Ws W : World) (K : Act → World → Prop), I pre Ws → Below Ws.heap.size Ws W → G pre x Ws W → (∀ a' W', KeepsFrom w.heap.size W W' → Kp W W' → M pre x a' W' → K a' W') →
      assign.wpIn (F.inRound l) (n - 1 - 1) P (Exit.then K (fun _ _ _ => False)) { tmps := (ps.zip (encs x)).foldl (fun t (p, v) => t.setIfInBounds p v) a.tmps, defers := [] } W)
    (hbody : ∀ (l : Nat) (pre : List α) (x : α) (a' : Act) (W : World), M pre x a' W → pre.length < N → body.wpIn (F.inRound l) (n - 1 - 1) P (ownPostG w.heap.size Kp I Ix (pre ++ [x]) W) a' W)
    (hdone : ∀ (D : Nat) (xs : List α) (W : World), w.heap.size ≤ D → S xs → I xs W → W.heap[D]? = some (.deferred (some [])) → Q .normal { a with defers := { target := .collected D, args := #[] } :: a.defers } W)
    (hstop : ∀ (D : Nat) (c : Code) (pre : List α) (W : World), w.heap.size ≤ D → Sp pre → Ix c pre W → W.heap[D]? = some (.deferred (some [])) → c.wpIn F n P Q { a with defers := { target := .collected D, args := #[] } :: a.defers } W) :
    (Code.rangeFunc g ps assign body).wpIn F n P Q a w := by
  refine wpIn_rangeFunc fun fn hfn => ?_
  rw [hro]
  -- the record, by its state and the pending jump; where it lies, and where the rounds' deferred calls lie
  let rec' : LoopState → Option Code → Loop := fun st pe => { state := st, pending := pe, fn, tmps := a.tmps, params := ps, assign, body, defers := w.heap.size }
  let L := w.heap.size + 1
  let D := w.heap.size
  have hstart : Below w.heap.size w ((w.alloc (.deferred (some []))).alloc (.loop (rec' .ready none))) := ((Below.refl _ w).alloc (Nat.le_refl _) _).alloc (by simp) _
  have recAt : ((w.alloc (.deferred (some []))).alloc (.loop (rec' .ready none))).heap[L]? = some (.loop (rec' .ready none)) := by
    have := World.alloc_heap_new (w.alloc (.deferred (some []))) (.loop (rec' .ready none))
    rwa [World.size_alloc] at this
  have defAt : ((w.alloc (.deferred (some []))).alloc (.loop (rec' .ready none))).heap[D]? = some (.deferred (some [])) :=
    (Below.heap_alloc _ _ _ (by simp [D])).trans (World.alloc_heap_new w _)
  refine ⟨L, _, _, _, _, gf, _, _, run_enterLoop_outer _ _ _ _ _, by simp only [resolve, hg]; simp [go_sem]; exact ⟨rfl, rfl⟩, ?_, by simp [invoke, go_sem, eg]; exact ⟨rfl, rfl⟩, fun _ => h1, ?_⟩
  · intro f' hf'
    simp [Target.leads] at hf'
    subst hf'
    exact hFg
  -- a turn of the record
  have turn : ∀ {W : World} {st pe} (r' : Loop), W.heap[L]? = some (.loop (rec' st pe)) → Calm D W (W.putObj L (.loop r')) := fun r' h => Calm.put _ (by simp [L, D]) h rfl
  have turned : ∀ {W : World} {r : Loop} (r' : Loop), W.heap[L]? = some (.loop r) → (W.putObj L (.loop r')).heap[L]? = some (.loop r') := fun r' h => World.putObj_heap_same (Array.getElem?_eq_some_iff.1 h).1
  have other : ∀ {W : World} (r' : Loop), W.heap[D]? = some (.deferred (some [])) → (W.putObj L (.loop r')).heap[D]? = some (.deferred (some [])) := fun r' h => (World.putObj_heap_other (by simp [L, D])).trans h
  refine (hseq L (fun pre W => I pre W ∧ W.heap[L]? = some (.loop (rec' .ready none)) ∧ W.heap[D]? = some (.deferred (some [])))
    (fun pre W => ∃ c, Ix c pre W ∧ W.heap[L]? = some (.loop (rec' .done (some c))) ∧ W.heap[D]? = some (.deferred (some []))) _ hstart (fun pre A B hj hb => ⟨hI pre A B hj.1 (Calm.of_below hb), (hb.block L (Array.getElem?_eq_some_iff.1 hj.2.1).1).trans hj.2.1, (hb.block D (Array.getElem?_eq_some_iff.1 hj.2.2).1).trans hj.2.2⟩) ?_ ⟨hI [] _ _ h0 (Calm.of_below hstart), recAt, defAt⟩).mono ?_
  · -- one round
    rintro pre x Ws W ⟨hi, hl, hk⟩ hb hG hlen
    replace hl := (hb.block L (Array.getElem?_eq_some_iff.1 hl).1).trans hl
    replace hk := (hb.block D (Array.getElem?_eq_some_iff.1 hk).1).trans hk
    refine ⟨fn, _, assign, body, run_yield hl (hps x), roundIn_of_wpIn hfn (hassign L pre x Ws W _ hi hb hG ?_)⟩
    intro a' Wa hkf hkp hm
    replace hl := hkf.same L _ (by simp [L]) hl rfl
    replace hk := hkf.same D _ (Nat.le_refl _) hk rfl
    have cb := turn { rec' .ready none with state := .busy } hl
    have lb' := turned { rec' .ready none with state := .busy } hl
    have kb := other { rec' .ready none with state := .busy } hk
    refine ⟨_, run_beginRound hl rfl, wpIn_mono (hbody L pre x a' _ (hM pre x a' () _ _ hm cb) hlen) ?_⟩
    have fin : ∀ (jump : Option Code) (W3 : World), KeepsFrom w.heap.size (Wa.putObj L (.loop { rec' .ready none with state := .busy })) W3 →
        (Instr.endRound L jump).run P W3 = .ok (.bool jump.isNone) (W3.putObj L (.loop (rec' (if jump.isNone then .ready else .done) jump))) ∧
          Calm D W3 (W3.putObj L (.loop (rec' (if jump.isNone then .ready else .done) jump))) ∧
          (W3.putObj L (.loop (rec' (if jump.isNone then .ready else .done) jump))).heap[L]? = some (.loop (rec' (if jump.isNone then .ready else .done) jump)) ∧
          (W3.putObj L (.loop (rec' (if jump.isNone then .ready else .done) jump))).heap[D]? = some (.deferred (some [])) := fun jump W3 hk3 => by
      have hl3 := hk3.same L _ (by simp [L]) lb' rfl
      exact ⟨run_endRound jump hl3, Calm.put _ (by simp [L, D]) hl3 rfl, turned _ hl3, other _ (hk3.same D _ (Nat.le_refl _) kb rfl)⟩
    have leave : ∀ (c : Code) (W3 : World), KeepsFrom w.heap.size (Wa.putObj L (.loop { rec' .ready none with state := .busy })) W3 → Ix c (pre ++ [x]) W3 →
        ∃ v w', (Instr.endRound L (some c)).run P W3 = .ok v w' ∧ ((Ending.returned v = .returned (.bool true) ∧ (I (pre ++ [x]) w' ∧ w'.heap[L]? = some (.loop (rec' .ready none)) ∧ w'.heap[D]? = some (.deferred (some []))) ∧ Kp W w') ∨
          (Ending.returned v = .returned (.bool false) ∧ ∃ c, Ix c (pre ++ [x]) w' ∧ w'.heap[L]? = some (.loop (rec' .done (some c))) ∧ w'.heap[D]? = some (.deferred (some [])))) := fun c W3 hk3 hix => by
      obtain ⟨hr, hc, hl4, hk4⟩ := fin (some c) W3 hk3
      exact ⟨_, _, hr, .inr ⟨rfl, c, hIx c _ _ _ hix hc, hl4, hk4⟩⟩
    rintro e a3 W3 hp
    cases e with
    | normal =>
      obtain ⟨hk3, hkp3, hi3⟩ := hp
      obtain ⟨hr, hc, hl4, hk4⟩ := fin none W3 hk3
      exact ⟨_, _, hr, .inl ⟨rfl, ⟨hI _ _ _ hi3 hc, hl4, hk4⟩, hKt hkp (hKt (hKc cb) (hKt hkp3 (hKc hc)))⟩⟩
    | ret => exact leave .ret W3 hp.1 hp.2
    | exit id => exact leave (.exit id) W3 hp.1 hp.2
    | goto t => exact leave (.goto t) W3 hp.1 hp.2
    | panic ch => exact hp.elim
    | outgrown => exact hp.elim
  · -- behind the iterator
    rintro e W2 ⟨⟨v, rfl⟩, (⟨xs, hS, hi, hl, hk⟩ | ⟨pre, hSp, c, hi, hl, hk⟩)⟩
    · exact ⟨none, _, run_endLoop hl (by simp [rec']), hdone D xs _ (Nat.le_refl _) hS (hI _ _ _ hi (Calm.put _ (by simp [L]) hl rfl)) (other _ hk)⟩
    · exact ⟨some c, _, run_endLoop hl (by simp [rec']), hstop D c pre _ (Nat.le_refl _) hSp (hIx c _ _ _ hi (Calm.put _ (by simp [L]) hl rfl)) (other _ hk)⟩

/-! ### More on what is calm -/
theorem Rd.calm {w w' : World} {e : TypeId} {S : Nat → Prop} {size n b : Nat} {A : Option Addr} {xs : List Value} (h : Rd w e S size A n xs) (hc : Calm b w w') : Rd w' e S size A n xs :=
  ⟨h.1, fun hn => by
    obtain ⟨g, o, cs, fr, hA, hS, hb, hcell⟩ := h.2 hn
    have hk : w'.heap[g]? = w.heap[g]? := (hc.keep _ _ hb (.inr rfl)).trans hb.symm
    exact ⟨g, o, cs, fr, hA, hS, hk.trans hb, fun j u hu => (World.cell?_of_block (a := ⟨g, o + j, none⟩) hk).trans (hcell j u hu)⟩⟩
theorem Blk.calm {w w' : World} {g b : Nat} {t : TypeId} {cs : Array Value} (h : Blk w g t cs) (hc : Calm b w w') : Blk w' g t cs := hc.keep _ _ h (.inr rfl)
theorem own_calm {w w' : World} {base n b : Nat} {e : TypeId} {size : Nat} {v : Value} {xs : List Value} (h : w.ownsRow base e size v n xs) (hc : Calm b w w') : w'.ownsRow base e size v n xs := by
  refine ⟨h.1, ?_⟩
  rcases h.2 with hn | ⟨g, cap, cur, rfl, hb, hgg, rest⟩
  · exact .inl hn
  · exact .inr ⟨g, cap, cur, rfl, hb, hc.keep _ _ hgg (.inr rfl), rest⟩
theorem keepsFrom_of_upd {b : Nat} {S : Nat → Prop} {W W' : World} (hu : Upd S W W') (hS : ∀ k, S k → ∃ cs t fr, W.heap[k]? = some (.cells cs t fr)) : KeepsFrom b W W' :=
  ⟨hu.size, fun k o _ hk ho => (hu.block k (Array.getElem?_eq_some_iff.1 hk).1 (fun hs => by
    obtain ⟨cs, t, fr, hc⟩ := hS k hs
    rw [hk] at hc
    injection hc with hc
    subst hc
    cases ho)).trans hk⟩

theorem with_act {P : Program} {c : Code} {Q : Exit → Act → World → Prop} {a : Act} {w : World} (h : ∀ a0, a0 = a → c.wp P Q a0 w) : c.wp P Q a w := h a rfl
def KeepK (K : Nat → Prop) (A B : World) : Prop := A.heap.size ≤ B.heap.size ∧ ∀ k, K k → k < A.heap.size → B.heap[k]? = A.heap[k]?
theorem KeepK.trans {K : Nat → Prop} {A B C : World} (h : KeepK K A B) (k : KeepK K B C) : KeepK K A C := ⟨Nat.le_trans h.1 k.1, fun i hi hl => (k.2 i hi (Nat.lt_of_lt_of_le hl h.1)).trans (h.2 i hi hl)⟩
theorem KeepK.of_below {K : Nat → Prop} {A B : World} (h : Below A.heap.size A B) : KeepK K A B := ⟨h.size, fun k _ hl => h.block k hl⟩
theorem KeepK.of_calm {K : Nat → Prop} {b : Nat} (hK : ∀ k, K k → k < b) {A B : World} (h : Calm b A B) : KeepK K A B := ⟨h.size, fun k hk hl => by
  rw [Array.getElem?_eq_getElem hl]
  exact h.keep k _ (Array.getElem?_eq_getElem hl) (.inl (hK k hk))⟩
def coll (D : Nat) : Deferred := { target := .collected D, args := #[] }
theorem leaves_coll {F : Fence} {n : Nat} {P : Program} {fn : Func} {tmps : Array Value} {R : Ending → World → Prop} : ∀ (Ds : List Nat) (W : World), Ds.Pairwise (· ≠ ·) → (∀ D ∈ Ds, W.heap[D]? = some (.deferred (some []))) →
    (∀ W', Upd (fun k => k ∈ Ds) W W' → LeavesIn F n P fn tmps R [] .returning W') → LeavesInM F n P fn tmps R (Ds.map coll) .returning W := by
  intro Ds
  induction Ds with
  | nil => intro W _ _ h; exact h W (Upd.refl _ _)
  | cons D Ds ih =>
    intro W hp hd h
    rw [List.pairwise_cons] at hp
    have hD := hd D (by simp)
    refine ⟨by simp, .inl ⟨D, _, rfl, run_takeDeferred hD, ?_⟩⟩
    have hu : Upd (fun k => k ∈ D :: Ds) W (W.putObj D (.deferred none)) := (Upd.refl _ _).grown (grownBy_putObj' W D _) (fun k e => .inl (by injection e with e; rw [← e]; simp))
    exact ih _ hp.2 (fun D' hD' => (World.putObj_heap_other (Ne.symm (hp.1 D' hD'))).trans (hd D' (by simp [hD']))) (fun W' hW' => h W' (hu.trans hW' (fun i _ hi => by simp [hi])))

end Go.Proofs.Ythlhfhfhagfelaa
