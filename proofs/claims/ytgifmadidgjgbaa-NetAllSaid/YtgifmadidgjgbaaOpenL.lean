/- A row of rows of bytes that came in. No condition. -/
import Derived.Test.YtgifmadidgjgbaaOpen
import Derived.Test.YtgifmadidgjgbaaAllW
set_option linter.unusedVariables false
set_option linter.unusedSimpArgs false
namespace Go.Proofs.Ytgifmadidgjgbaa
open Go.ChangeShapes Go.WideShapes Go.ChangeAt Go.RowKit Go.Deep
section
variable {H : Type} {enc : TypeId × Value → H} {w : World} {base : Nat} {held : Bool}
theorem open_list {fuel : Nat} {cs : List Value} {x : DataW H × List MemPlace} (h22 : Try.prog.cellsOf 22 = 1) (h5 : Try.prog.cellsOf 5 = 1)
    (h : DataW.trod enc Try.prog w base (fun _ => true) held fuel 55 cs = some x) : ∃ (A : Option Addr) (rs : List BRow) (c : Nat), cs = [.slice A rs.length c] ∧ rs.length ≤ maxLen ∧ ListAt w w.heap.size A rs := by
  rcases open_slice Try.underlying55 h with ⟨h0, _⟩ | ⟨a, len, cap, m, n, D, Pl, hcs, hb, hl, hm, hmm, hx, hi⟩
  · exact ⟨none, [], 0, h0, Nat.zero_le _, RdA.nil, fun d hd => by simp at hd⟩
  · simp at hmm
    subst hmm
    rw [h22] at hi
    have key : ∀ i, i < m → ∃ r : BRow, w.cell? (a.add i) = some r.val ∧ RdA w (fun k => k < w.heap.size) 1 r.A r.b.length (enc8 r.b) ∧ r.b.length ≤ r.c := fun i him => by
      obtain ⟨cs', hcells, htr⟩ := hi i him
      obtain ⟨A, b, c, rfl, h1, _, h2⟩ := open_bytes Try.underlying22 Try.underlying5 h5 htr
      obtain ⟨_, hcl, hat⟩ := World.cells?_some hcells
      have h3 := hat 0 (by omega)
      refine ⟨⟨A, b, c⟩, ?_, h2, h1⟩
      rw [add_of_add, Nat.mul_one, Nat.add_zero] at h3
      exact h3
    have hex : ∀ k, k ≤ m → ∃ rs : List BRow, rs.length = k ∧ ∀ i r, rs[i]? = some r → w.cell? (a.add i) = some r.val ∧ RdA w (fun k => k < w.heap.size) 1 r.A r.b.length (enc8 r.b) ∧ r.b.length ≤ r.c := by
      intro k
      induction k with
      | zero => intro _; exact ⟨[], rfl, fun i d hd => by simp at hd⟩
      | succ k ih =>
        intro hk
        obtain ⟨ds, hd1, hd2⟩ := ih (by omega)
        obtain ⟨d, hd⟩ := key k (by omega)
        refine ⟨ds ++ [d], by simp [hd1], fun i d' hi' => ?_⟩
        by_cases hil : i < ds.length
        · rw [List.getElem?_append_left hil] at hi'
          exact hd2 i d' hi'
        · have : i = ds.length := by
            have := (List.getElem?_eq_some_iff.1 hi').1
            simp at this; omega
          subst this
          rw [List.getElem?_append_right (Nat.le_refl _)] at hi'
          simp at hi'
          rw [← hi', hd1]
          exact hd
    obtain ⟨rs, hd1, hd2⟩ := hex len hl
    refine ⟨some a, rs, m, by rw [hd1]; exact hcs, by omega, RdA.of_cells (by simp) (by omega) (fun j u hu => ?_), fun r hr => ?_⟩
    · have hj : j < rs.length := by have := (List.getElem?_eq_some_iff.1 hu).1; simpa using this
      have := (hd2 j _ (List.getElem?_eq_getElem hj)).1
      rw [this]
      simp [hj] at hu
      rw [← hu]
    · obtain ⟨i, hi'⟩ := List.mem_iff_getElem?.1 hr
      exact (hd2 i r hi').2
end
end Go.Proofs.Ytgifmadidgjgbaa
