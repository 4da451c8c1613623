/- Arguments opened: places. No condition. -/
import Derived.Test.YthlhfhfhagfelaaWalkC
import Derived.WalkKit
import Derived.ProofKit
import Derived.OpenShut
import Derived.ChangeOld
import Derived.Below
import Derived.SizedLaws
import Derived.Deep.Slices
set_option linter.unusedVariables false
set_option linter.unusedSimpArgs false
namespace Go.Proofs.Ythlhfhfhagfelaa
open Go.ChangeShapes Go.WideShapes Go.ChangeAt Go.RowKit Go.Deep

theorem spot_none {w : World} {x : Addr} {u : Value} (h : w.cell? x = some u) : x = ⟨x.block, x.off, none⟩ := by
  obtain ⟨b, o, s⟩ := x
  cases s with
  | none => rfl
  | some s =>
    simp only [World.cell?] at h
    split at h
    · simp at h
    · cases h
theorem add_plain (b o j : Nat) : (⟨b, o, none⟩ : Addr).add j = ⟨b, o + j, none⟩ := by unfold Addr.add; split <;> simp_all
/-- A row from its cells. -/
theorem RdA.of_cells {w : World} {x : Addr} {size n : Nat} {xs : List Value} (hl : xs.length = n * size) (hs : 0 < size) (hc : ∀ j u, xs[j]? = some u → w.cell? (x.add j) = some u) : RdA w (fun k => k < w.heap.size) size (some x) n xs := by
  refine ⟨hl, fun hn => ?_⟩
  have hpos : 0 < xs.length := by rw [hl]; exact Nat.mul_pos hn hs
  have h0 := hc 0 _ (List.getElem?_eq_getElem hpos)
  have hx0 : x.add 0 = x := by simp [Addr.add]
  rw [hx0] at h0
  have hx := spot_none h0
  refine ⟨x.block, x.off, by rw [← hx], World.block_lt_of_cell? w x h0, World.block_lt_of_cell? w x h0, fun j u hu => ?_⟩
  have h1 := hc j u hu
  rwa [hx, add_plain] at h1

section
variable {H : Type} {enc : TypeId × Value → H} {w : World} {base : Nat} {held : Bool}
/-- An address that came in. -/
theorem open_addr {fuel : Nat} {cs : List Value} {x : DataW H × List MemPlace} (h3 : Try.prog.cellsOf 3 = 1) (h22 : Try.prog.cellsOf 22 = 1)
    (h : DataW.trod enc Try.prog w base (fun _ => true) held fuel 29 cs = some x) (hl : cs.length = 2) : ∃ a b : Int, cs = [.int .u32 a, .int .i64 b] ∧ 0 ≤ a ∧ a ≤ 4294967295 := by
  match cs, hl with
  | [c0, c1], _ =>
    obtain ⟨ys, m, _, _, _, hy, hg⟩ := DataW.trod_struct Try.underlying29 h
    have hy2 : ys.length = 2 := hy
    have k0 : DataW.trod enc Try.prog w base (fun _ => true) held m 22 (([c0, c1].drop 0).take (Try.prog.cellsOf 22)) = ys[0]? := hg 0 _ rfl
    have k1 : DataW.trod enc Try.prog w base (fun _ => true) held m 3 (([c0, c1].drop 1).take (Try.prog.cellsOf 3)) = ys[1]? := hg 1 _ rfl
    simp only [h3, h22, List.drop_succ_cons, List.drop_zero, List.take_succ_cons, List.take_zero] at k0 k1
    rw [List.getElem?_eq_getElem (by omega)] at k0 k1
    obtain ⟨z0, g0, _, w0⟩ := DataW.trod_int Try.underlying22 k0
    obtain ⟨z1, g1, _, _⟩ := DataW.trod_int Try.underlying3 k1
    injection g0 with g0; injection g1 with g1
    subst g0 g1
    exact ⟨z0, z1, rfl, (bounds_u32 w0).1, (bounds_u32 w0).2⟩
/-- A place that came in. -/
theorem open_place {fuel : Nat} {cs : List Value} {x : DataW H × List MemPlace} (hC : Try.prog.cellsOf 31 = 4) (h29 : Try.prog.cellsOf 29 = 2) (h3 : Try.prog.cellsOf 3 = 1) (h22 : Try.prog.cellsOf 22 = 1) (h4 : Try.prog.cellsOf 4 = 1)
    (h : DataW.trod enc Try.prog w base (fun _ => true) held fuel 31 cs = some x) : ∃ d : Plc, cs = d.cells ∧ d.ok := by
  obtain ⟨xs, n, _, _, hl, hx, hf⟩ := DataW.trod_struct Try.underlying31 h
  rw [hC] at hl
  have hx3 : xs.length = 3 := hx
  match cs, hl with
  | [c0, c1, c2, c3], _ =>
    have f0 : DataW.trod enc Try.prog w base (fun _ => true) held n 29 (([c0, c1, c2, c3].drop 0).take (Try.prog.cellsOf 29)) = xs[0]? := hf 0 _ rfl
    have f1 : DataW.trod enc Try.prog w base (fun _ => true) held n 3 (([c0, c1, c2, c3].drop 2).take (Try.prog.cellsOf 3)) = xs[1]? := hf 1 _ rfl
    have f2 : DataW.trod enc Try.prog w base (fun _ => true) held n 4 (([c0, c1, c2, c3].drop 3).take (Try.prog.cellsOf 4)) = xs[2]? := hf 2 _ rfl
    simp only [h29, h3, h4, List.drop_succ_cons, List.drop_zero, List.take_succ_cons, List.take_zero] at f0 f1 f2
    rw [List.getElem?_eq_getElem (by omega)] at f0 f1 f2
    obtain ⟨a, b, g0, w0, w1⟩ := open_addr h3 h22 f0 rfl
    obtain ⟨z1, g1, _, _⟩ := DataW.trod_int Try.underlying3 f1
    obtain ⟨z2, g2, _⟩ := DataW.trod_bool Try.underlying4 f2
    injection g0 with g00 g01; injection g01 with g01; injection g1 with g1; injection g2 with g2
    subst g00 g01 g1 g2
    exact ⟨⟨a, b, z1, z2⟩, rfl, w0, w1⟩
/-- Places that came in. -/
theorem open_places {fuel : Nat} {cs : List Value} {x : DataW H × List MemPlace} (hC : Try.prog.cellsOf 31 = 4) (h29 : Try.prog.cellsOf 29 = 2) (h3 : Try.prog.cellsOf 3 = 1) (h22 : Try.prog.cellsOf 22 = 1) (h4 : Try.prog.cellsOf 4 = 1)
    (h : DataW.trod enc Try.prog w base (fun _ => true) held fuel 23 cs = some x) : ∃ (A : Option Addr) (l : List Plc) (c : Nat), cs = [.slice A l.length c] ∧ l.length ≤ maxLen ∧ Pls w (fun k => k < w.heap.size) A l ∧ ∀ d ∈ l, d.ok := by
  rcases open_slice Try.underlying23 h with ⟨h0, _⟩ | ⟨a, len, cap, m, n, D, Pl, hcs, hb, hl, hm, hmm, hx, hi⟩
  · exact ⟨none, [], 0, h0, Nat.zero_le _, RdA.nil, fun d hd => by simp at hd⟩
  · simp at hmm
    subst hmm
    rw [hC] at hi
    have key : ∀ i, i < m → ∃ d : Plc, (∀ j u, d.cells[j]? = some u → w.cell? (a.add (i * 4 + j)) = some u) ∧ d.ok := fun i him => by
      obtain ⟨cs', hcells, htr⟩ := hi i him
      obtain ⟨d, rfl, h1⟩ := open_place hC h29 h3 h22 h4 htr
      obtain ⟨_, hcl, hat⟩ := World.cells?_some hcells
      refine ⟨d, fun j u hu => ?_, h1⟩
      have hj : j < 4 := by have := (List.getElem?_eq_some_iff.1 hu).1; rw [d.cells_length] at this; exact this
      rw [← add_of_add, hat j hj]
      exact hu
    have hex : ∀ k, k ≤ m → ∃ ds : List Plc, ds.length = k ∧ ∀ i d, ds[i]? = some d → (∀ j u, d.cells[j]? = some u → w.cell? (a.add (i * 4 + j)) = some u) ∧ d.ok := by
      intro k
      induction k with
      | zero => intro _; exact ⟨[], rfl, fun i d hd => by simp at hd⟩
      | succ k ih =>
        intro hk
        obtain ⟨ds, hd1, hd2⟩ := ih (by omega)
        obtain ⟨d, hd⟩ := key k (by omega)
        refine ⟨ds ++ [d], by simp [hd1], fun i d' hi' => ?_⟩
        by_cases hil : i < ds.length
        · rw [List.getElem?_append_left hil] at hi'
          exact hd2 i d' hi'
        · have : i = ds.length := by
            have := (List.getElem?_eq_some_iff.1 hi').1
            simp at this; omega
          subst this
          rw [List.getElem?_append_right (Nat.le_refl _)] at hi'
          simp at hi'
          rw [← hi', hd1]
          exact hd
    obtain ⟨ds, hd1, hd2⟩ := hex len hl
    refine ⟨some a, ds, m, by rw [hd1]; exact hcs, by omega, RdA.of_cells (by rw [pcells, flat_length _ 4 Plc.cells_length]) (by omega) (fun j u hu => ?_), fun d hd => ?_⟩
    · have hjl : j < ds.length * 4 := by have := (List.getElem?_eq_some_iff.1 hu).1; rwa [pcells, flat_length _ 4 Plc.cells_length] at this
      have hq : j / 4 < ds.length := by omega
      have hat := pcells_at ds (j / 4) _ (List.getElem?_eq_getElem hq) (j % 4) (by omega)
      rw [show j / 4 * 4 + j % 4 = j by omega, hu] at hat
      have := (hd2 (j / 4) _ (List.getElem?_eq_getElem hq)).1 (j % 4) u hat.symm
      rwa [show j / 4 * 4 + j % 4 = j by omega] at this
    · obtain ⟨i, hi'⟩ := List.mem_iff_getElem?.1 hd
      exact (hd2 i d hi').2
end
end Go.Proofs.Ythlhfhfhagfelaa
