/- NetPlays: what holds between two steps, and in the loop over All. No condition. -/
import Derived.Test.YtgifmadidgjgbaaPlaysA
import Derived.Test.YtgifmadidgjgbaaAllC
import Derived.Test.YtgifmadidgjgbaaRound
set_option linter.unusedVariables false
set_option linter.unusedSimpArgs false
namespace Go.Proofs.Ytgifmadidgjgbaa
open Go.RowKit

/-! ### Marks among the deferred calls -/
def coll (D : Nat) : Deferred := { target := .collected D, args := #[] }
theorem leaves_coll {F : Fence} {n : Nat} {P : Program} {fn : Func} {tmps : Array Value} {R : Ending → World → Prop} : ∀ (Ds : List Nat) (W : World), Ds.Pairwise (· ≠ ·) → (∀ D ∈ Ds, W.heap[D]? = some (.deferred (some []))) →
    (∀ W', Upd (fun k => k ∈ Ds) W W' → LeavesIn F n P fn tmps R [] .returning W') → LeavesInM F n P fn tmps R (Ds.map coll) .returning W := by
  intro Ds
  induction Ds with
  | nil => intro W _ _ h; exact h W (Upd.refl _ _)
  | cons D Ds ih =>
    intro W hp hd h
    rw [List.pairwise_cons] at hp
    have hD := hd D (by simp)
    refine ⟨by simp, .inl ⟨D, _, rfl, run_takeDeferred hD, ?_⟩⟩
    have hu : Upd (fun k => k ∈ D :: Ds) W (W.putObj D (.deferred none)) := (Upd.refl _ _).grown (grownBy_putObj' W D _) (fun k e => .inl (by injection e with e; rw [← e]; simp))
    exact ih _ hp.2 (fun D' hD' => (World.putObj_heap_other (Ne.symm (hp.1 D' hD'))).trans (hd D' (by simp [hD']))) (fun W' hW' => h W' (hu.trans hW' (fun i _ hi => by simp [hi])))

/-! ### Between two steps -/
def O5 (bq br : Nat) (Ds : List Nat) : Nat → Prop := fun k => k = bq ∨ k = br ∨ k ∈ Ds
/-- Behind t steps; bq: the result's cell, br: the reference's variable, Ds: the marks. -/
structure P5c (w wr : World) (B B' bq br : Nat) (Ds : List Nat) (t : Nat) (S S' : Nat → Prop) (v v' : Value) (l l' : List Ent) (last : Int) : Prop where
  two : Two w wr B B' S S' (O5 bq br Ds) v v' l l' last last
  same : Same2 l l'
  la : last ≤ t
  qb : Blk wr bq 4 #[.bool false]
  rb : Blk wr br 47 #[.pointer (some ⟨B', 0, none⟩)]
  qz : w.heap.size ≤ bq
  qr : bq ≠ br
  df : ∀ D ∈ Ds, wr.heap[D]? = some (.deferred (some [])) ∧ w.heap.size ≤ D
  nd : Ds.Pairwise (· ≠ ·)
def P5 (w wr : World) (B B' bq br : Nat) (Ds : List Nat) (t : Nat) : Prop := ∃ S S' v v' l l' last, P5c w wr B B' bq br Ds t S S' v v' l l' last

section
variable {w wr w2 W0 W W' : World} {B B' bq br t bk : Nat} {Ds : List Nat} {S S' : Nat → Prop} {v v' : Value} {l l' : List Ent} {last : Int}
theorem P5.start (hb : Below (w.heap.size + 1) (w.alloc (.cells #[.bool false] 4)) w2) : P5 w (((w2.alloc (.cells #[.slice none 0 0, .int .i64 0] 59)).alloc (.cells #[.slice none 0 0, .int .i64 0] 50)).alloc (.cells #[.pointer (some ⟨w2.heap.size + 1, 0, none⟩)] 47)) w2.heap.size (w2.heap.size + 1) w.heap.size (w2.heap.size + 1 + 1) [] 0 := by
  have hz := hb.size
  simp at hz
  have hbw : Below w.heap.size w w2 := ((Below.refl _ w).alloc (Nat.le_refl _) _).trans (hb.mono (by omega))
  have n1 := ((NetAt.new 59 w2).below ((Below.refl _ _).alloc (Nat.le_refl _) (.cells #[.slice none 0 0, .int .i64 0] 50))).below ((Below.refl _ _).alloc (Nat.le_refl _) (.cells #[.pointer (some ⟨w2.heap.size + 1, 0, none⟩)] 47))
  have n2 := (NetAt.new 50 (w2.alloc (.cells #[.slice none 0 0, .int .i64 0] 59))).below ((Below.refl _ _).alloc (Nat.le_refl _) (.cells #[.pointer (some ⟨w2.heap.size + 1, 0, none⟩)] 47))
  have q := ((((Blk.new w 4 #[.bool false]).below hb (by omega)).alloc (.cells #[.slice none 0 0, .int .i64 0] 59)).alloc (.cells #[.slice none 0 0, .int .i64 0] 50)).alloc (.cells #[.pointer (some ⟨w2.heap.size + 1, 0, none⟩)] 47)
  have r := Blk.new ((w2.alloc (.cells #[.slice none 0 0, .int .i64 0] 59)).alloc (.cells #[.slice none 0 0, .int .i64 0] 50)) 47 #[.pointer (some ⟨w2.heap.size + 1, 0, none⟩)]
  simp only [World.size_alloc] at n2 r
  refine ⟨_, _, _, _, [], [], 0, ⟨n1, n2, fun k h1 h2 => by omega, fun k hk => ?_, ((hbw.alloc (by omega) _).alloc (by simp; omega) _).alloc (by simp; omega) _, fun k hk => by omega, fun k hk => by omega⟩, rfl, by omega, q, r, Nat.le_refl _, by omega, fun D hD => by simp at hD, List.Pairwise.nil⟩
  rcases hk with rfl | rfl | hk
  · exact ⟨by omega, by omega, by simp; omega⟩
  · exact ⟨by omega, by omega, by simp⟩
  · simp at hk
theorem P5c.top (h : P5c w wr B B' bq br Ds t S S' v v' l l' last) (hb : Below wr.heap.size wr W) : P5c w W B B' bq br Ds t S S' v v' l l' last :=
  ⟨(h.two.top hb).1, h.same, h.la, h.qb.below hb h.qb.lt, h.rb.below hb h.rb.lt, h.qz, h.qr, fun D hD => ⟨(hb.block D (Array.getElem?_eq_some_iff.1 (h.df D hD).1).1).trans (h.df D hD).1, (h.df D hD).2⟩, h.nd⟩
theorem P5c.keepO {O' : Nat → Prop} {S1 S1' : Nat → Prop} {v1 v1' : Value} {l1 l1' : List Ent} {last1 : Int} {t1 : Nat} (h : P5c w wr B B' bq br Ds t S S' v v' l l' last) (hk : KeepO (O5 bq br Ds) wr W) (ht : Two w W B B' S1 S1' O' v1 v1' l1 l1' last1 last1) (hO : ∀ k, O5 bq br Ds k → O' k) (hs : Same2 l1 l1') (hl : last1 ≤ t1) : P5c w W B B' bq br Ds t1 S1 S1' v1 v1' l1 l1' last1 :=
  ⟨ht.more (fun k hk => .inl (hO k hk)), hs, hl, (hk bq (.inl rfl)).trans h.qb, (hk br (.inr (.inl rfl))).trans h.rb, h.qz, h.qr, fun D hD => ⟨(hk D (.inr (.inr hD))).trans (h.df D hD).1, (h.df D hD).2⟩, h.nd⟩
theorem P5.top (h : P5 w wr B B' bq br Ds t) (hb : Below wr.heap.size wr W) : P5 w W B B' bq br Ds t := by
  obtain ⟨S, S', v, v', l, l', last, h⟩ := h
  exact ⟨_, _, _, _, _, _, _, h.top hb⟩
/-- A step of both is over. -/
theorem P5.next {O' : Nat → Prop} {wr1 : World} (h : P5c w wr B B' bq br Ds t S S' v v' l l' last) (hb : Below wr.heap.size wr wr1) (hO : ∀ k, O5 bq br Ds k → O' k) (ha : BothAfter w wr1 B B' O' last w2) : P5 w w2 B B' bq br Ds (t + 1) := by
  obtain ⟨hk, S1, S1', v1, v1', l1, l1', last1, ht, hs, hl⟩ := ha
  have := h.la
  exact ⟨_, _, _, _, _, _, _, (h.top hb).keepO (fun k hk' => hk k (hO k hk')) ht hO hs (by push_cast; omega)⟩
theorem P5c.newer (h : P5c w wr B B' bq br Ds t S S' v v' l l' last) : ∀ k, wr.heap.size ≤ k → ¬ S k ∧ ¬ S' k ∧ ¬ O5 bq br Ds k ∧ w.heap.size ≤ k := fun k hk =>
  ⟨fun e => by have := h.two.net.old k e; omega, fun e => by have := h.two.ref.old k e; omega, fun e => by have := (h.two.oth k e).2.2; omega, Nat.le_trans h.two.below.size hk⟩
theorem P5c.upd {U : Nat → Prop} (h : P5c w wr B B' bq br Ds t S S' v v' l l' last) (hu : Upd U wr W) (hU : ∀ k, U k → ¬ S k ∧ ¬ S' k ∧ ¬ O5 bq br Ds k ∧ w.heap.size ≤ k) : P5c w W B B' bq br Ds t S S' v v' l l' last := by
  have hz := hu.size
  refine h.keepO (O' := O5 bq br Ds) (fun k hk => hu.block k (h.two.oth k hk).2.2 (fun e => (hU k e).2.2.1 hk)) ⟨h.two.net.upd hu (fun k hk e => (hU k e).1 hk), h.two.ref.upd hu (fun k hk e => (hU k e).2.1 hk), h.two.dis, fun k hk => ⟨(h.two.oth k hk).1, (h.two.oth k hk).2.1, Nat.lt_of_lt_of_le (h.two.oth k hk).2.2 hz⟩,
    h.two.below.trans (hu.below h.two.below.size (fun k hk => (hU k hk).2.2.2)), h.two.own, h.two.own'⟩ (fun _ h => h) h.same h.la
theorem P5c.mark {D : Nat} (h : P5c w wr B B' bq br Ds t S S' v v' l l' last) (hD : wr.heap[D]? = some (.deferred (some []))) (hn : ¬ S D ∧ ¬ S' D ∧ ¬ O5 bq br Ds D ∧ w.heap.size ≤ D) : P5c w wr B B' bq br (D :: Ds) t S S' v v' l l' last := by
  refine ⟨h.two.more (fun k hk => ?_), h.same, h.la, h.qb, h.rb, h.qz, h.qr, fun D' hD' => ?_, ?_⟩
  · rcases hk with hk | hk | hk
    · exact .inl (.inl hk)
    · exact .inl (.inr (.inl hk))
    · rcases List.mem_cons.1 hk with rfl | hk
      · exact .inr ⟨hn.1, hn.2.1, (Array.getElem?_eq_some_iff.1 hD).1⟩
      · exact .inl (.inr (.inr hk))
  · rcases List.mem_cons.1 hD' with rfl | hD'
    · exact ⟨hD, hn.2.2.2⟩
    · exact h.df D' hD'
  · rw [List.pairwise_cons]
    exact ⟨fun D' hD' e => hn.2.2.1 (.inr (.inr (by rw [e]; exact hD'))), h.nd⟩
/-- A Take of both, and the two held side by side. -/
theorem take2 {O' : Nat → Prop} {Q : World → Prop} {wr1 : World} (hT : Two w wr1 B B' S S' O' v v' l l' last last) (hs : Same2 l l') (hke : ∀ W, KeepO O' wr1 W → (W.cell? ⟨br, 0, none⟩ = some (.pointer (some ⟨B', 0, none⟩)) ∧ br < W.heap.size) ∧ Q W)
    (hnx : ∀ w2, BothAfter w wr1 B B' O' last w2 → P5 w w2 B B' bq br Ds t) :
    ∀ W, Below wr1.heap.size wr1 W → ∀ no : Int, Calls Try.prog 12 #[.pointer (some ⟨B, 0, none⟩), .int .i64 no] W fun r w1 => ∃ (x : Snt) (A : Option Addr) (c : Nat) (cd : Int), r = .returned (.tuple #[.agg #[.int .i64 x.no, .int .u32 x.fh, .int .i64 x.fp, .int .u32 x.th, .int .i64 x.tp, .slice A x.b.length c], .int .i64 cd]) ∧
            (w1.cell? ⟨br, 0, none⟩ = some (.pointer (some ⟨B', 0, none⟩)) ∧ br < w1.heap.size) ∧ Hid (∀ X, Below w1.heap.size w1 X → Calls Try.prog 18 #[.pointer (some ⟨B', 0, none⟩), .int .i64 no] X fun r2 w2 => ∃ (A' : Option Addr) (c' : Nat), r2 = .returned (.tuple #[.agg #[.int .i64 x.no, .int .u32 x.fh, .int .i64 x.fp, .int .u32 x.th, .int .i64 x.tp, .slice A' x.b.length c'], .int .i64 cd]) ∧
              (∀ k, w1.heap.size ≤ k → k < X.heap.size → w2.heap[k]? = X.heap[k]?) ∧ X.heap.size ≤ w2.heap.size ∧ Hid (∀ Y, Below w2.heap.size w2 Y → Calls Try.prog 19 #[.agg #[.int .i64 x.no, .int .u32 x.fh, .int .i64 x.fp, .int .u32 x.th, .int .i64 x.tp, .slice A x.b.length c], .agg #[.int .i64 x.no, .int .u32 x.fh, .int .i64 x.fp, .int .u32 x.th, .int .i64 x.tp, .slice A' x.b.length c']] Y fun r w' => r = .returned (.bool true) ∧ P5 w w' B B' bq br Ds t)) := fun W hW no => by
  obtain ⟨t1, k1⟩ := hT.top hW
  refine (TakeBoth t1 hs no).mono ?_
  rintro r w1 ⟨x, A, c, cd, hr, hk, hx, hcall⟩
  refine ⟨x, A, c, cd, hr, (hke w1 (k1.trans hk)).1, fun X hX => (hcall.out X hX).mono ?_⟩
  rintro r2 w2 ⟨A', c', hr2, hz, hkk, ⟨T1, hd1⟩, ⟨T2, hd2⟩, hba⟩
  refine ⟨A', c', hr2, hkk, hz, fun Y hY => ?_⟩
  have hba2 : BothAfter w wr1 B B' O' last w2 := ⟨k1.trans hba.1, hba.2⟩
  refine (SameR x (hd1.same (fun k _ hl => hY.block k hl) hY.size) (hd2.same (fun k _ hl => hY.block k hl) hY.size) c c' (by omega)).mono ?_
  rintro r w' ⟨hr3, hb3⟩
  exact ⟨hr3, ((hnx w2 hba2).top hY).top hb3⟩
/-- At the end. -/
theorem P5.fin (h : P5 w wr B B' bq br Ds t) : Ds.Pairwise (· ≠ ·) ∧ (∀ D ∈ Ds, (wr.setCell ⟨bq, 0, none⟩ (.bool true)).heap[D]? = some (.deferred (some []))) ∧ (wr.cell? ⟨bq, 0, none⟩ = some (.bool false) ∧ wr.frozen? ⟨bq, 0, none⟩ = false) ∧
    ∀ W', Upd (fun k => k ∈ Ds) (wr.setCell ⟨bq, 0, none⟩ (.bool true)) W' → W'.cell? ⟨bq, 0, none⟩ = some (.bool true) ∧ Below w.heap.size w W' := by
  obtain ⟨S, S', v, v', l, l', last, h⟩ := h
  have hne : ∀ D ∈ Ds, D ≠ bq := fun D hD e => by
    have h1 := (h.df D hD).1
    have h2 := h.qb
    unfold Blk at h2
    rw [e, h2] at h1
    cases h1
  refine ⟨h.nd, fun D hD => (Below.heap_setCell _ _ _ _ (hne D hD)).trans (h.df D hD).1, ⟨h.qb.cell 0, h.qb.frozen 0⟩, fun W' hu => ?_⟩
  have hq := h.qb.set_ 0 (.bool true)
  refine ⟨(hq.upd hu (fun hm => hne bq hm rfl)).cell 0, ?_⟩
  have hb1 : Below w.heap.size w (wr.setCell ⟨bq, 0, none⟩ (.bool true)) := h.two.below.setCell (p := ⟨bq, 0, none⟩) h.qz _
  exact hb1.trans (hu.below hb1.size (fun k hk => (h.df k hk).2))

/-! ### The loop over All -/
def U5 (W0 : World) (bk : Nat) : Nat → Prop := fun k => k = bk ∨ W0.heap.size ≤ k
def K5 (W0 : World) (bk : Nat) : Nat → Prop := fun k => k < W0.heap.size ∧ k ≠ bk
def I5 (W0 : World) (bk : Nat) (pre : List Ent) (W : World) : Prop := Upd (U5 W0 bk) W0 W ∧ Blk W bk 3 #[.int .i64 pre.length]
def M5 (W0 : World) (bk : Nat) (l : List Ent) (a0 : Act) (pre : List Ent) (x : Ent) (a' : Act) (W : World) : Prop :=
  ∃ Bx, I5 W0 bk pre W ∧ W0.heap.size ≤ Bx ∧ Blk W Bx 39 x.cells.toArray ∧ (∃ n0, W.ownsRow n0 5 1 (.slice x.A x.x.b.length x.c) x.x.b.length (enc8 x.x.b)) ∧ (∃ e, l[pre.length]? = some e ∧ x.x = e.x) ∧
    a' = { tmps := (a0.tmps.setIfInBounds 140 (.agg x.cells.toArray)).setIfInBounds 21 (.pointer (some ⟨Bx, 0, none⟩)), defers := [] }
theorem Upd.calm5 (h : Upd (U5 W0 bk) W0 W) (hc : Calm W0.heap.size W W') : Upd (U5 W0 bk) W0 W' :=
  ⟨hc.os.trans h.os, hc.tape.trans h.tape, hc.output.trans h.output, Nat.le_trans h.size hc.size, fun k hk hn => by
    have h1 := h.block k hk hn
    have h2 : W.heap[k]? = some (W.heap[k]'(Nat.lt_of_lt_of_le hk h.size)) := Array.getElem?_eq_getElem _
    rw [hc.keep k _ h2 (.inl hk), ← h2, h1]⟩
theorem I5.stable : Stable W0.heap.size (I5 W0 bk) := fun pre W W' h hc => ⟨h.1.calm5 hc, h.2.calm hc⟩
theorem M5.stable {a0 : Act} (pre : List Ent) (x : Ent) (a' : Act) : Stable W0.heap.size (fun (_ : Unit) W => M5 W0 bk l a0 pre x a' W) := fun _ W W' h hc => by
  obtain ⟨Bx, h1, h2, h3, ⟨n0, h4⟩, h5, h6⟩ := h
  exact ⟨Bx, ⟨h1.1.calm5 hc, h1.2.calm hc⟩, h2, h3.calm hc, ⟨n0, own_calm h4 hc⟩, h5, h6⟩
theorem K5.of (h : Upd (U5 W0 bk) W W') : KeepK (K5 W0 bk) W W' := ⟨h.size, fun k hk hl => h.block k hl (fun e => by
  rcases e with e | e
  · exact hk.2 e
  · have := hk.1; omega)⟩
theorem M5.start {pre : List Ent} {x : Ent} {Ws : World} (hi : I5 W0 bk pre Ws) (hb : Below Ws.heap.size Ws W) (hG : Handed l pre x Ws W) (o : Obj) (ho : o = .cells x.cells.toArray 39) : I5 W0 bk pre (W.alloc o) ∧ W0.heap.size ≤ W.heap.size ∧ Blk (W.alloc o) W.heap.size 39 x.cells.toArray ∧ (∃ n0, (W.alloc o).ownsRow n0 5 1 (.slice x.A x.x.b.length x.c) x.x.b.length (enc8 x.x.b)) ∧ (∃ e, l[pre.length]? = some e ∧ x.x = e.x) := by
  subst ho
  have hz := hi.1.size
  have hz2 := hb.size
  exact ⟨⟨(hi.1.calm5 (Calm.of_below hb)).alloc _, (hi.2.below hb hi.2.lt).alloc _⟩, by omega, Blk.new W 39 _, ⟨_, hG.2.alloc _⟩, hG.1⟩
theorem Src5 {w3 : World} {Bs c : Nat} {A : Option Addr} (h : P5c w w2 B B' bq br Ds t S S' v v' l l' last) (hW : P5c w W0 B B' bq br Ds t S S' v v' l l' last) (h3 : w3.heap.size = w2.heap.size + 1) (hbox : Blk W0 Bs 48 #[.slice A l.length c]) (hBs : w3.heap.size ≤ Bs) (hrow : Rd W0 39 (fun k => w3.heap.size ≤ k) 6 A l.length (cellsOf l)) : Src W0 (K5 W0 w2.heap.size) Bs A c l :=
  ⟨hbox, ⟨hbox.lt, by omega⟩, hrow.more (fun k hk hl => ⟨hl, by omega⟩), fun e he => ⟨(hW.two.net.byt e he).1.more (fun k hk hl => ⟨hl, fun e => by have := h.two.net.old k hk; omega⟩), (hW.two.net.byt e he).2⟩⟩
theorem I5.next {pre : List Ent} {x : Ent} (hI : I5 W0 bk pre W) : ∀ w7, Below W.drew.heap.size W.drew w7 → (w7.cell? ⟨bk, 0, none⟩ = some (.int .i64 (pre.length : Int)) ∧ w7.frozen? ⟨bk, 0, none⟩ = false) ∧ KeepsFrom W0.heap.size W (w7.setCell ⟨bk, 0, none⟩ (.int .i64 ((pre.length : Int) + 1))) ∧
    KeepK (K5 W0 bk) W (w7.setCell ⟨bk, 0, none⟩ (.int .i64 ((pre.length : Int) + 1))) ∧ I5 W0 bk (pre ++ [x]) (w7.setCell ⟨bk, 0, none⟩ (.int .i64 ((pre.length : Int) + 1))) := fun w7 hb7 => by
  have hb : Below W.heap.size W w7 := ((Below.refl W.heap.size W).drew).trans hb7
  have hk7 := hI.2.below hb hI.2.lt
  have hu : Upd (fun k => k = bk) W (w7.setCell ⟨bk, 0, none⟩ (.int .i64 ((pre.length : Int) + 1))) := ((Upd.new (S := fun k => k = bk) hb).setCell (p := ⟨bk, 0, none⟩) (.inl rfl) _)
  refine ⟨⟨hk7.cell 0, hk7.frozen 0⟩, keepsFrom_of_upd hu (fun k hk => by obtain rfl : k = bk := hk; exact ⟨_, _, _, hI.2⟩), ⟨hu.size, fun k hk hl => hu.block k hl hk.2⟩, ?_, ?_⟩
  · exact hI.1.trans hu (fun i _ hi => .inl hi)
  · have h1 := hk7.set_ 0 (.int .i64 ((pre.length : Int) + 1))
    have h2 : ((pre ++ [x]).length : Int) = (pre.length : Int) + 1 := by simp
    rw [h2]
    exact h1
end
end Go.Proofs.Ytgifmadidgjgbaa
