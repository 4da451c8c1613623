/- What holds between the steps of NetAll. No condition. -/
import Derived.Test.YtgifmadidgjgbaaAllB
import Derived.Test.YtgifmadidgjgbaaSameA
set_option linter.unusedVariables false
set_option linter.unusedSimpArgs false
namespace Go.Proofs.Ytgifmadidgjgbaa
open Go.RowKit

theorem Rd.calm {w w' : World} {e : TypeId} {S : Nat → Prop} {size n b : Nat} {A : Option Addr} {xs : List Value} (h : Rd w e S size A n xs) (hc : Calm b w w') : Rd w' e S size A n xs :=
  ⟨h.1, fun hn => by
    obtain ⟨g, o, cs, fr, hA, hS, hb, hcell⟩ := h.2 hn
    have hk : w'.heap[g]? = w.heap[g]? := (hc.keep _ _ hb (.inr rfl)).trans hb.symm
    exact ⟨g, o, cs, fr, hA, hS, hk.trans hb, fun j u hu => (World.cell?_of_block (a := ⟨g, o + j, none⟩) hk).trans (hcell j u hu)⟩⟩
theorem Blk.calm {w w' : World} {g b : Nat} {t : TypeId} {cs : Array Value} (h : Blk w g t cs) (hc : Calm b w w') : Blk w' g t cs := hc.keep _ _ h (.inr rfl)
theorem own_calm {w w' : World} {base n b : Nat} {e : TypeId} {size : Nat} {v : Value} {xs : List Value} (h : w.ownsRow base e size v n xs) (hc : Calm b w w') : w'.ownsRow base e size v n xs := by
  refine ⟨h.1, ?_⟩
  rcases h.2 with hn | ⟨g, cap, cur, rfl, hb, hgg, rest⟩
  · exact .inl hn
  · exact .inr ⟨g, cap, cur, rfl, hb, hc.keep _ _ hgg (.inr rfl), rest⟩
theorem NetAt.calm {T : TypeId} {w w' : World} {B b : Nat} {S : Nat → Prop} {v : Value} {l : List Ent} {last : Int} (h : NetAt T w B S v l last) (hc : Calm b w w') : NetAt T w' B S v l last :=
  ⟨h.blk.calm hc, own_calm h.row hc, h.inB, h.inV, fun e he => ⟨(h.byt e he).1.calm hc, (h.byt e he).2⟩, fun k hk => Nat.lt_of_lt_of_le (h.old k hk) hc.size, h.len, h.lo, h.hi⟩
/-- The blocks that are used. -/
theorem NetAt.tight {T : TypeId} {w : World} {B : Nat} {S : Nat → Prop} {v : Value} {l : List Ent} {last : Int} (h : NetAt T w B S v l last) :
    ∃ S', NetAt T w B S' v l last ∧ (∀ k, S' k → S k) ∧ ∀ k, S' k → ∃ cs t fr, w.heap[k]? = some (.cells cs t fr) := by
  refine ⟨fun k => S k ∧ ∃ cs t fr, w.heap[k]? = some (.cells cs t fr), ⟨h.blk, h.row, ⟨h.inB, _, _, _, h.blk⟩, fun g hg => ⟨h.inV g hg, ?_⟩, fun e he => ⟨?_, (h.byt e he).2⟩, fun k hk => h.old k hk.1, h.len, h.lo, h.hi⟩, fun k hk => hk.1, fun k hk => hk.2⟩
  · rcases h.row.2 with ⟨rfl, _⟩ | ⟨g', cap, cur, rfl, _, hh, _⟩
    · simp [Value.ownBlock] at hg
    · have : g' = g := by simpa [Value.ownBlock] using hg
      subst this
      exact ⟨_, _, _, hh⟩
  · have hr := (h.byt e he).1
    exact ⟨hr.1, fun hn => by
      obtain ⟨g, o, cs, fr, hA, hS, hb, hcell⟩ := hr.2 hn
      exact ⟨g, o, cs, fr, hA, ⟨hS, _, _, _, hb⟩, hb, hcell⟩⟩
/-- What writes cells alone. -/
theorem keepsFrom_of_upd {b : Nat} {S : Nat → Prop} {W W' : World} (hu : Upd S W W') (hS : ∀ k, S k → ∃ cs t fr, W.heap[k]? = some (.cells cs t fr)) : KeepsFrom b W W' :=
  ⟨hu.size, fun k o _ hk ho => (hu.block k (Array.getElem?_eq_some_iff.1 hk).1 (fun hs => by
    obtain ⟨cs, t, fr, hc⟩ := hS k hs
    rw [hk] at hc
    injection hc with hc
    subst hc
    cases ho)).trans hk⟩

/-- From the i-th of the rows on. -/
structure FrontL (i : Nat) (bs : List (List UInt8)) (l : List Ent) (last : Int) : Prop where
  hd : ∀ j b, bs[i + j]? = some b → ∃ e, l[j]? = some e ∧ e.x = ⟨(i : Int) + j + 1, 1, 1, 1, 1, b⟩
  gt : ∀ e ∈ l, (i : Int) < e.x.no
  le : ∀ e ∈ l, e.x.no ≤ last
  ap : Apart l
  lo : (i : Int) ≤ last
theorem FrontL.nil (bs : List (List UInt8)) : FrontL 0 (bs.take 0) [] 0 := ⟨fun j b h => by simp at h, fun e he => by simp at he, fun e he => by simp at he, fun i j a b _ ha => by simp at ha, by omega⟩
theorem FrontL.more {i : Nat} {bs : List (List UInt8)} {l : List Ent} {last : Int} (h : FrontL i bs l last) (e : Ent) (he : e.x.no = last + 1) : FrontL i bs (l ++ [e]) (last + 1) := by
  refine ⟨fun j b hj => ?_, fun a ha => ?_, fun a ha => ?_, h.ap.more (fun a ha => ?_), by have := h.lo; omega⟩
  · obtain ⟨e', h1, h2⟩ := h.hd j b hj
    exact ⟨e', by rw [List.getElem?_append_left (List.getElem?_eq_some_iff.1 h1).1]; exact h1, h2⟩
  · rcases List.mem_append.1 ha with h1 | h1
    · exact h.gt a h1
    · simp at h1; subst h1; have := h.lo; omega
  · rcases List.mem_append.1 ha with h1 | h1
    · have := h.le a h1; omega
    · simp at h1; subst h1; omega
  · have := h.le a ha; omega
theorem FrontL.next {bs : List (List UInt8)} {l : List Ent} {k : Nat} {b : List UInt8} (h : FrontL 0 (bs.take k) l k) (hl : l.length = k) (hb : bs[k]? = some b) (e : Ent) (he : e.x = ⟨(k : Int) + 1, 1, 1, 1, 1, b⟩) : FrontL 0 (bs.take (k + 1)) (l ++ [e]) ((k : Int) + 1) := by
  have h1 := h.more e (by rw [he])
  refine ⟨fun j b' hj => ?_, h1.gt, h1.le, h1.ap, h1.lo⟩
  rw [Nat.zero_add, List.getElem?_take] at hj
  split at hj
  · by_cases hjk : j < k
    · exact h1.hd j b' (by rw [Nat.zero_add, List.getElem?_take, if_pos hjk]; exact hj)
    · obtain rfl : j = k := by omega
      rw [hb] at hj
      injection hj with hj
      subst hj
      exact ⟨e, by rw [← hl]; simp, by rw [he]; congr 1; push_cast; omega⟩
  · cases hj
theorem FrontL.take {i : Nat} {bs : List (List UInt8)} {l : List Ent} {last : Int} (h : FrontL i bs l last) {b : List UInt8} (hi : bs[i]? = some b) : FrontL (i + 1) bs (l.eraseIdx 0) last := by
  obtain ⟨e, h1, h2⟩ := h.hd 0 b (by simpa using hi)
  have hno : e.x.no = i + 1 := by rw [h2]; simp
  refine ⟨fun j b' hj => ?_, fun a ha => ?_, fun a ha => h.le a (List.mem_of_mem_eraseIdx ha), h.ap.erase 0, ?_⟩
  · obtain ⟨e', h3, h4⟩ := h.hd (j + 1) b' (by rw [show i + (j + 1) = i + 1 + j by omega]; exact hj)
    refine ⟨e', by rw [List.getElem?_eraseIdx, if_neg (by omega)]; exact h3, ?_⟩
    rw [h4]
    congr 1
    push_cast
    omega
  · have := h.gt a (List.mem_of_mem_eraseIdx ha)
    have h3 := h.ap.gone h1 ha
    push_cast
    omega
  · have := h.le e (List.mem_of_getElem? h1)
    push_cast; omega

/-- The blocks that stay, in the loop over All: what was there when it began, but for the count's box and what the net may write. -/
def Stay (W0 : World) (bn : Nat) (S0 : Nat → Prop) : Nat → Prop := fun k => k < W0.heap.size ∧ k ≠ bn ∧ (¬ S0 k ∨ ∃ cs fr, W0.heap[k]? = some (.cells cs 5 fr))
/-- What stands while All's iterator runs: cnt rounds are over. -/
structure CoreA (w W0 W : World) (B bx ba bp bn : Nat) (stop : Int) (bs : List (List UInt8)) (S0 S : Nat → Prop) (v : Value) (l : List Ent) (last : Int) (sent cnt : Nat) : Prop where
  net : NetAt 59 W B S v l last
  fr : FrontL 0 bs l last
  len : l.length = bs.length + sent
  la : last = bs.length + sent
  cel : ∀ k, S k → ∃ cs t fr, W.heap[k]? = some (.cells cs t fr)
  sub : ∀ k, S k → S0 k ∨ W0.heap.size ≤ k
  below : Below w.heap.size w W
  own : ∀ k, S k → w.heap.size ≤ k
  xb : Blk W bx 26 #[.pointer (some ⟨B, 0, none⟩)]
  ab : Blk W ba 30 #[.int .u32 1, .int .i64 1]
  pb : Blk W bp 5 #[.int .u8 stop]
  nb : Blk W bn 3 #[.int .i64 cnt]
  xn : ¬ S bx
  an : ¬ S ba
  pn : ¬ S bp
  nn : ¬ S bn
  nz : w.heap.size ≤ bn
  z0 : bx < W0.heap.size ∧ ba < W0.heap.size ∧ bp < W0.heap.size ∧ bn < W0.heap.size
  keep : KeepK (Stay W0 bn S0) W0 W
section
variable {w W0 W W' : World} {B bx ba bp bn sent cnt : Nat} {stop : Int} {bs : List (List UInt8)} {S0 S S' : Nat → Prop} {v v' : Value} {l l' : List Ent} {last last' : Int}
theorem below_calm {b : Nat} (hb : w.heap.size ≤ b) (h : Below w.heap.size w W) (hc : Calm b W W') : Below w.heap.size w W' :=
  ⟨hc.os.trans h.os, hc.tape.trans h.tape, hc.output.trans h.output, Nat.le_trans h.size hc.size, fun k hk => by
    have hl : k < W.heap.size := Nat.lt_of_lt_of_le hk h.size
    rw [← h.block k hk, Array.getElem?_eq_getElem hl]
    exact hc.keep k _ (Array.getElem?_eq_getElem hl) (.inl (by omega))⟩
theorem CoreA.calm (h : CoreA w W0 W B bx ba bp bn stop bs S0 S v l last sent cnt) (hw : w.heap.size ≤ W0.heap.size) (hc : Calm W0.heap.size W W') : CoreA w W0 W' B bx ba bp bn stop bs S0 S v l last sent cnt :=
  ⟨h.net.calm hc, h.fr, h.len, h.la, fun k hk => by obtain ⟨cs, t, fr, hh⟩ := h.cel k hk; exact ⟨cs, t, fr, hc.keep _ _ hh (.inr rfl)⟩, h.sub, below_calm hw h.below hc, h.own,
    h.xb.calm hc, h.ab.calm hc, h.pb.calm hc, h.nb.calm hc, h.xn, h.an, h.pn, h.nn, h.nz, h.z0, h.keep.trans (KeepK.of_calm (fun k hk => hk.1) hc)⟩
theorem CoreA.top (h : CoreA w W0 W B bx ba bp bn stop bs S0 S v l last sent cnt) (hw : w.heap.size ≤ W0.heap.size) (hb : Below W.heap.size W W') : CoreA w W0 W' B bx ba bp bn stop bs S0 S v l last sent cnt := h.calm hw (Calm.of_below hb)
/-- A store into a block that is none of these. -/
theorem CoreA.write (h : CoreA w W0 W B bx ba bp bn stop bs S0 S v l last sent cnt) (hw : w.heap.size ≤ W0.heap.size) {g j : Nat} (hg : W0.heap.size ≤ g) (hS : ¬ S g) (u : Value) : CoreA w W0 (W.setCell ⟨g, j, none⟩ u) B bx ba bp bn stop bs S0 S v l last sent cnt := by
  have hu : Upd (fun k => k = g) W (W.setCell ⟨g, j, none⟩ u) := (Upd.refl (fun k => k = g) _).setCell (p := ⟨g, j, none⟩) (.inl rfl) _
  obtain ⟨z1, z2, z3, z4⟩ := h.z0
  refine ⟨h.net.upd hu (fun k hk e => hS (by rw [← show k = g from e]; exact hk)), h.fr, h.len, h.la, fun k hk => ?_, h.sub, h.below.trans ((Below.refl _ _).setCell (p := ⟨g, j, none⟩) (by show _ ≤ g; omega) _), h.own,
    h.xb.upd hu (by show ¬ bx = g; omega), h.ab.upd hu (by show ¬ ba = g; omega), h.pb.upd hu (by show ¬ bp = g; omega), h.nb.upd hu (by show ¬ bn = g; omega), h.xn, h.an, h.pn, h.nn, h.nz, h.z0, h.keep.trans ⟨hu.size, fun k hk hl => hu.block k hl (by show ¬ k = g; have := hk.1; omega)⟩⟩
  obtain ⟨cs, t, fr, hh⟩ := h.cel k hk
  exact ⟨cs, t, fr, (hu.block k (h.net.old k hk) (fun e => hS (by rw [← show k = g from e]; exact hk))).trans hh⟩
/-- One more is sent. -/
theorem CoreA.sent_ (h : CoreA w W0 W B bx ba bp bn stop bs S0 S v l last sent cnt) (hw : w.heap.size ≤ W0.heap.size) {e : Ent} (he : e.x.no = last + 1) (hn : NetAt 59 W' B S' v' (l ++ [e]) (last + 1)) (ha : After S S' W W') :
    ∃ S'', CoreA w W0 W' B bx ba bp bn stop bs S0 S'' v' (l ++ [e]) (last + 1) (sent + 1) cnt ∧ (∀ k, S'' k → S k ∨ W.heap.size ≤ k) ∧ KeepsFrom W0.heap.size W W' ∧ KeepK (Stay W0 bn S0) W W' := by
  obtain ⟨S'', hn2, hs2, hc2⟩ := hn.tight
  have hold : ∀ k, S'' k → S k ∨ W.heap.size ≤ k := fun k hk => ha.own k (hs2 k hk)
  obtain ⟨t0, t1⟩ := ha.base h.own h.below.size
  have hW : W0.heap.size ≤ W.heap.size := h.keep.1
  have no : ∀ b, b < W.heap.size → ¬ S b → ¬ S'' b := fun b hb hs hk => by
    rcases hold b hk with h1 | h1
    · exact hs h1
    · omega
  have hkeep : KeepK (Stay W0 bn S0) W W' := ⟨ha.upd.size, fun k hk hl => by
    rcases hk.2.2 with h1 | ⟨cs, fr, h1⟩
    · exact ha.upd.block k hl (fun hs => by
        rcases h.sub k hs with h2 | h2
        · exact h1 h2
        · have := hk.1; omega)
    · have h2 := (h.keep.2 k hk hk.1).trans h1
      exact (ha.keep _ _ _ h2).trans h2.symm⟩
  refine ⟨S'', ⟨hn2, h.fr.more e he, by simp [h.len]; omega, by rw [h.la]; push_cast; omega, hc2, fun k hk => ?_, h.below.trans t1, fun k hk => t0 k (hs2 k hk), h.xb.upd ha.upd h.xn, h.ab.upd ha.upd h.an, h.pb.upd ha.upd h.pn, h.nb.upd ha.upd h.nn,
    no _ h.xb.lt h.xn, no _ h.ab.lt h.an, no _ h.pb.lt h.pn, no _ h.nb.lt h.nn, h.nz, h.z0, h.keep.trans hkeep⟩, hold, keepsFrom_of_upd ha.upd h.cel, hkeep⟩
  rcases hold k hk with h1 | h1
  · exact h.sub k h1
  · exact .inr (by omega)
/-- The count goes on. -/
theorem CoreA.tick (h : CoreA w W0 W B bx ba bp bn stop bs S0 S v l last sent cnt) (hw : w.heap.size ≤ W0.heap.size) : CoreA w W0 (W.setCell ⟨bn, 0, none⟩ (.int .i64 ((cnt : Int) + 1))) B bx ba bp bn stop bs S0 S v l last sent (cnt + 1) ∧
    KeepK (Stay W0 bn S0) W (W.setCell ⟨bn, 0, none⟩ (.int .i64 ((cnt : Int) + 1))) := by
  have hu : Upd (fun k => k = bn) W (W.setCell ⟨bn, 0, none⟩ (.int .i64 ((cnt : Int) + 1))) := (Upd.refl (fun k => k = bn) _).setCell (p := ⟨bn, 0, none⟩) (.inl rfl) _
  have hk : KeepK (Stay W0 bn S0) W (W.setCell ⟨bn, 0, none⟩ (.int .i64 ((cnt : Int) + 1))) := ⟨hu.size, fun k hk hl => hu.block k hl hk.2.1⟩
  refine ⟨⟨h.net.upd hu (fun k hk e => h.nn (by rw [← show k = bn from e]; exact hk)), h.fr, h.len, h.la, fun k hk => ?_, h.sub, h.below.trans ((Below.refl _ _).setCell (p := ⟨bn, 0, none⟩) h.nz _), h.own,
    h.xb.upd hu (fun e => Blk.ne_ h.xb h.nb (by decide) e), h.ab.upd hu (fun e => Blk.ne_ h.ab h.nb (by decide) e), h.pb.upd hu (fun e => Blk.ne_ h.pb h.nb (by decide) e), ?_, h.xn, h.an, h.pn, h.nn, h.nz, h.z0, h.keep.trans hk⟩, hk⟩
  · obtain ⟨cs, t, fr, hh⟩ := h.cel k hk
    exact ⟨cs, t, fr, (hu.block k (h.net.old k hk) (fun e => h.nn (by rw [← show k = bn from e]; exact hk))).trans hh⟩
  · have := h.nb.set_ 0 (.int .i64 ((cnt : Int) + 1))
    exact this
end

/-- A walk may name the frame that it stands at. -/
theorem with_act {P : Program} {c : Code} {Q : Exit → Act → World → Prop} {a : Act} {w : World} (h : ∀ a0, a0 = a → c.wp P Q a0 w) : c.wp P Q a w := h a rfl
end Go.Proofs.Ytgifmadidgjgbaa
