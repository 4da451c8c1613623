/- NetAll's last loop: what holds. No condition. -/
import Derived.Test.YtgifmadidgjgbaaAllD
set_option linter.unusedVariables false
set_option linter.unusedSimpArgs false
namespace Go.Proofs.Ytgifmadidgjgbaa
open Go.RowKit

structure L3 (w wr : World) (B bx D j : Nat) (bs : List (List UInt8)) (S : Nat → Prop) (v : Value) (l : List Ent) (last : Int) : Prop where
  net : NetAt 59 wr B S v l last
  fr : FrontL j bs l last
  below : Below w.heap.size w wr
  own : ∀ k, S k → w.heap.size ≤ k
  xb : Blk wr bx 26 #[.pointer (some ⟨B, 0, none⟩)]
  xn : ¬ S bx
  df : wr.heap[D]? = some (.deferred (some []))
  dn : ¬ S D
  dz : w.heap.size ≤ D
def L3X (w wr : World) (B bx D : Nat) (bs : List (List UInt8)) (j : Nat) : Prop := ∃ S v l last, L3 w wr B bx D j bs S v l last
section
variable {w W0 W wr w2 : World} {B bx ba bp bn D j : Nat} {stop : Int} {bs : List (List UInt8)} {S0 S : Nat → Prop} {v : Value} {l : List Ent} {last : Int} {c1 c2 : Nat}
theorem L3X.start (h : CoreA w W0 W B bx ba bp bn stop bs S0 S v l last c1 c2) (hD : W0.heap.size ≤ D) (hw : w.heap.size ≤ W0.heap.size) (hd : W.heap[D]? = some (.deferred (some []))) : L3X w W B bx D bs 0 :=
  ⟨S, v, l, last, h.net, h.fr, h.below, h.own, h.xb, h.xn, hd, fun hk => (by obtain ⟨cs, t, fr, hc⟩ := h.cel D hk; rw [hd] at hc; cases hc), by omega⟩
theorem L3X.top (h : L3X w wr B bx D bs j) (hb : Below wr.heap.size wr w2) : L3X w w2 B bx D bs j := by
  obtain ⟨S, v, l, last, h⟩ := h
  exact ⟨S, v, l, last, h.net.below hb, h.fr, h.below.trans (hb.mono h.below.size), h.own, h.xb.below hb h.xb.lt, h.xn, (hb.block D (Array.getElem?_eq_some_iff.1 h.df).1).trans h.df, h.dn, h.dz⟩
theorem L3X.key (h : L3X w wr B bx D bs j) {b : List UInt8} (hj : bs[j]? = some b) : wr.cell? ⟨bx, 0, none⟩ = some (.pointer (some ⟨B, 0, none⟩)) ∧ Below w.heap.size w wr ∧ b.length ≤ 1200 ∧ ∃ (A' : Option Addr) (c' : Nat),
    Calls Try.prog 12 #[.pointer (some ⟨B, 0, none⟩), .int .i64 ((j : Int) + 1)] wr fun r w2 => r = .returned (.tuple #[.agg #[.int .i64 ((j : Int) + 1), .int .u32 1, .int .i64 1, .int .u32 1, .int .i64 1, .slice A' b.length c'], .int .i64 0]) ∧
      (∃ S, Rd w2 5 S 1 A' b.length (enc8 b)) ∧ L3X w w2 B bx D bs (j + 1) := by
  obtain ⟨S, v, l, last, h⟩ := h
  obtain ⟨e, he, hx⟩ := h.fr.hd 0 b (by simpa using hj)
  have hfn := findNo_at l h.fr.ap 0 e he
  have hb := h.net.byt e (List.mem_of_getElem? he)
  obtain ⟨x, A', c'⟩ := e
  simp only at hx
  subst hx
  have e0 : (j : Int) + ((0 : Nat) : Int) + 1 = (j : Int) + 1 := by omega
  refine ⟨h.xb.cell 0, h.below, hb.2.2, A', c', (TakeHit h.net ((j : Int) + 1) 0 _ he (by rw [← e0]; exact hfn)).mono fun r w2 ⟨hr, S', v', hn, ha⟩ => ⟨by rw [hr]; simp, ⟨S, hb.1.keep ha.keep⟩, ?_⟩⟩
  obtain ⟨s1, t1⟩ := ha.base h.own h.below.size
  have no : ∀ b, b < wr.heap.size → ¬ S b → ¬ S' b := fun b hb hs hk => by
    rcases ha.own b hk with h1 | h1
    · exact hs h1
    · omega
  have hDl := (Array.getElem?_eq_some_iff.1 h.df).1
  exact ⟨S', v', _, last, hn, h.fr.take hj, h.below.trans t1, s1, h.xb.upd ha.upd h.xn, no _ h.xb.lt h.xn, (ha.upd.block D hDl h.dn).trans h.df, no _ hDl h.dn, h.dz⟩
theorem L3X.low (h : L3X w wr B bx D bs j) : Below w.heap.size w wr := by
  obtain ⟨S, v, l, last, h⟩ := h
  exact h.below
theorem L3X.fin (h : L3X w wr B bx D bs j) : wr.heap[D]? = some (.deferred (some [])) ∧ Below w.heap.size w (wr.putObj D (.deferred none)) := by
  obtain ⟨S, v, l, last, h⟩ := h
  exact ⟨h.df, h.below.trans (belowK_b (w := w) (Nat.le_refl _) wr D _ _ h.dz h.df rfl rfl)⟩
end
end Go.Proofs.Ytgifmadidgjgbaa
