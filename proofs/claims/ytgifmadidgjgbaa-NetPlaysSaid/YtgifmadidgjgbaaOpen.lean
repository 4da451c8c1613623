/- Arguments opened: rows of bytes, rows of ints, scripts. No condition. -/
import Derived.Test.YtgifmadidgjgbaaOnce
import Derived.WalkKit
import Derived.ProofKit
import Derived.OpenShut
import Derived.ChangeOld
import Derived.Below
import Derived.SizedLaws
import Derived.Deep.Slices
set_option linter.unusedVariables false
set_option linter.unusedSimpArgs false
namespace Go.Proofs.Ytgifmadidgjgbaa
open Go.ChangeShapes Go.WideShapes Go.ChangeAt Go.RowKit Go.Deep

theorem spot_none {w : World} {x : Addr} {u : Value} (h : w.cell? x = some u) : x = ⟨x.block, x.off, none⟩ := by
  obtain ⟨b, o, s⟩ := x
  cases s with
  | none => rfl
  | some s =>
    simp only [World.cell?] at h
    split at h
    · simp at h
    · cases h
theorem add_plain (b o j : Nat) : (⟨b, o, none⟩ : Addr).add j = ⟨b, o + j, none⟩ := by unfold Addr.add; split <;> simp_all
/-- A row from its cells. -/
theorem RdA.of_cells {w : World} {x : Addr} {size n : Nat} {xs : List Value} (hl : xs.length = n * size) (hs : 0 < size) (hc : ∀ j u, xs[j]? = some u → w.cell? (x.add j) = some u) : RdA w (fun k => k < w.heap.size) size (some x) n xs := by
  refine ⟨hl, fun hn => ?_⟩
  have hpos : 0 < xs.length := by rw [hl]; exact Nat.mul_pos hn hs
  have h0 := hc 0 _ (List.getElem?_eq_getElem hpos)
  have hx0 : x.add 0 = x := by simp [Addr.add]
  rw [hx0] at h0
  have hx := spot_none h0
  refine ⟨x.block, x.off, by rw [← hx], World.block_lt_of_cell? w x h0, World.block_lt_of_cell? w x h0, fun j u hu => ?_⟩
  have h1 := hc j u hu
  rwa [hx, add_plain] at h1

section
variable {H : Type} {enc : TypeId × Value → H} {P : Program} {w : World} {base : Nat} {held : Bool}
/-- A row of bytes that came in. -/
theorem open_bytes {t e : TypeId} {fuel : Nat} {cs : List Value} {x : DataW H × List MemPlace} (ht : P.underlying t = some (.slice e)) (he : P.underlying e = some (.int .u8)) (hc : P.cellsOf e = 1)
    (h : DataW.trod enc P w base (fun _ => true) held fuel t cs = some x) : ∃ (A : Option Addr) (b : List UInt8) (c : Nat), cs = [.slice A b.length c] ∧ b.length ≤ c ∧ c ≤ maxLen ∧ RdA w (fun k => k < w.heap.size) 1 A b.length (enc8 b) := by
  rcases open_ints ht he hc h with ⟨hcs, _⟩ | ⟨y, l, c, zs, hcs, _, hl, hm, hz, _, hcell, hwz⟩
  · exact ⟨none, [], 0, hcs, Nat.le_refl _, Nat.zero_le _, RdA.nil⟩
  · simp at hz
    have hlen : ((zs.take l).map fun z => UInt8.ofNat z.toNat).length = l := by simp; omega
    refine ⟨some y, (zs.take l).map fun z => UInt8.ofNat z.toNat, c, by rw [hlen]; exact hcs, by rw [hlen]; exact hl, hm, ?_⟩
    rw [hlen]
    refine RdA.of_cells (by rw [enc8_length, hlen]; omega) (by omega) (fun j u hu => ?_)
    have hj : j < l := by have := (List.getElem?_eq_some_iff.1 hu).1; rw [enc8_length, hlen] at this; exact this
    have hjz : j < zs.length := by omega
    rw [hcell j hjz]
    have hb := bounds_u8 (hwz _ (List.getElem_mem hjz))
    simp [enc8, hj, hjz] at hu
    rw [← hu]
    simp [List.getD, hjz, UInt8.toNat_ofNat]
    omega

/-- A step that came in. -/
theorem open_step {fuel : Nat} {cs : List Value} {x : DataW H × List MemPlace} (hC : Try.prog.cellsOf 37 = 7) (h3 : Try.prog.cellsOf 3 = 1) (h30 : Try.prog.cellsOf 30 = 2) (h22 : Try.prog.cellsOf 22 = 1) (h28 : Try.prog.cellsOf 28 = 1) (h5 : Try.prog.cellsOf 5 = 1)
    (h : DataW.trod enc Try.prog w base (fun _ => true) held fuel 37 cs = some x) : ∃ d : Step, cs = d.cells ∧ d.b.length ≤ d.c ∧ RdA w (fun k => k < w.heap.size) 1 d.A d.b.length (enc8 d.b) := by
  obtain ⟨xs, n, _, _, hl, hx, hf⟩ := DataW.trod_struct Try.underlying37 h
  rw [hC] at hl
  have hx5 : xs.length = 5 := hx
  match cs, hl with
  | [c0, c1, c2, c3, c4, c5, c6], _ =>
    have f0 : DataW.trod enc Try.prog w base (fun _ => true) held n 3 (([c0, c1, c2, c3, c4, c5, c6].drop 0).take (Try.prog.cellsOf 3)) = xs[0]? := hf 0 _ rfl
    have f1 : DataW.trod enc Try.prog w base (fun _ => true) held n 3 (([c0, c1, c2, c3, c4, c5, c6].drop 1).take (Try.prog.cellsOf 3)) = xs[1]? := hf 1 _ rfl
    have f2 : DataW.trod enc Try.prog w base (fun _ => true) held n 30 (([c0, c1, c2, c3, c4, c5, c6].drop 2).take (Try.prog.cellsOf 30)) = xs[2]? := hf 2 _ rfl
    have f3 : DataW.trod enc Try.prog w base (fun _ => true) held n 30 (([c0, c1, c2, c3, c4, c5, c6].drop 4).take (Try.prog.cellsOf 30)) = xs[3]? := hf 3 _ rfl
    have f4 : DataW.trod enc Try.prog w base (fun _ => true) held n 22 (([c0, c1, c2, c3, c4, c5, c6].drop 6).take (Try.prog.cellsOf 22)) = xs[4]? := hf 4 _ rfl
    simp only [h3, h30, h22, List.drop_succ_cons, List.drop_zero, List.take_succ_cons, List.take_zero] at f0 f1 f2 f3 f4
    rw [List.getElem?_eq_getElem (by omega)] at f0 f1 f2 f3 f4
    obtain ⟨z0, g0, _, _⟩ := DataW.trod_int Try.underlying3 f0
    obtain ⟨z1, g1, _, _⟩ := DataW.trod_int Try.underlying3 f1
    obtain ⟨ys, m, _, _, _, hy, hg⟩ := DataW.trod_struct Try.underlying30 f2
    have hy2 : ys.length = 2 := hy
    have k0 : DataW.trod enc Try.prog w base (fun _ => true) held m 28 (([c2, c3].drop 0).take (Try.prog.cellsOf 28)) = ys[0]? := hg 0 _ rfl
    have k1 : DataW.trod enc Try.prog w base (fun _ => true) held m 3 (([c2, c3].drop 1).take (Try.prog.cellsOf 3)) = ys[1]? := hg 1 _ rfl
    simp only [h3, h28, List.drop_succ_cons, List.drop_zero, List.take_succ_cons, List.take_zero] at k0 k1
    rw [List.getElem?_eq_getElem (by omega)] at k0 k1
    obtain ⟨z2, g2, _, _⟩ := DataW.trod_int Try.underlying28 k0
    obtain ⟨z3, g3, _, _⟩ := DataW.trod_int Try.underlying3 k1
    obtain ⟨ys', m', _, _, _, hy', hg'⟩ := DataW.trod_struct Try.underlying30 f3
    have hy2' : ys'.length = 2 := hy'
    have k2 : DataW.trod enc Try.prog w base (fun _ => true) held m' 28 (([c4, c5].drop 0).take (Try.prog.cellsOf 28)) = ys'[0]? := hg' 0 _ rfl
    have k3 : DataW.trod enc Try.prog w base (fun _ => true) held m' 3 (([c4, c5].drop 1).take (Try.prog.cellsOf 3)) = ys'[1]? := hg' 1 _ rfl
    simp only [h3, h28, List.drop_succ_cons, List.drop_zero, List.take_succ_cons, List.take_zero] at k2 k3
    rw [List.getElem?_eq_getElem (by omega)] at k2 k3
    obtain ⟨z4, g4, _, _⟩ := DataW.trod_int Try.underlying28 k2
    obtain ⟨z5, g5, _, _⟩ := DataW.trod_int Try.underlying3 k3
    obtain ⟨A, b, c, g6, hbc, _, hrd⟩ := open_bytes Try.underlying22 Try.underlying5 h5 f4
    injection g0 with g0; injection g1 with g1; injection g2 with g2; injection g3 with g3; injection g4 with g4; injection g5 with g5; injection g6 with g6
    subst g0 g1 g2 g3 g4 g5 g6
    exact ⟨⟨z0, z1, z2, z3, z4, z5, b, A, c⟩, rfl, hbc, hrd⟩

/-- A script that came in. -/
theorem open_script {fuel : Nat} {cs : List Value} {x : DataW H × List MemPlace} (hC : Try.prog.cellsOf 37 = 7) (h3 : Try.prog.cellsOf 3 = 1) (h30 : Try.prog.cellsOf 30 = 2) (h22 : Try.prog.cellsOf 22 = 1) (h28 : Try.prog.cellsOf 28 = 1) (h5 : Try.prog.cellsOf 5 = 1)
    (h : DataW.trod enc Try.prog w base (fun _ => true) held fuel 23 cs = some x) : ∃ (A : Option Addr) (ds : List Step) (c : Nat), cs = [.slice A ds.length c] ∧ ds.length ≤ maxLen ∧ ScriptAt w w.heap.size A ds := by
  rcases open_slice Try.underlying23 h with ⟨h0, _⟩ | ⟨a, len, cap, m, n, D, Pl, hcs, hb, hl, hm, hmm, hx, hi⟩
  · exact ⟨none, [], 0, h0, Nat.zero_le _, RdA.nil, fun d hd => by simp at hd⟩
  · simp at hmm
    subst hmm
    rw [hC] at hi
    have key : ∀ i, i < m → ∃ d : Step, (∀ j u, d.cells[j]? = some u → w.cell? (a.add (i * 7 + j)) = some u) ∧ d.b.length ≤ d.c ∧ RdA w (fun k => k < w.heap.size) 1 d.A d.b.length (enc8 d.b) := fun i him => by
      obtain ⟨cs', hcells, htr⟩ := hi i him
      obtain ⟨d, rfl, h1, h2⟩ := open_step hC h3 h30 h22 h28 h5 htr
      obtain ⟨_, hcl, hat⟩ := World.cells?_some hcells
      refine ⟨d, fun j u hu => ?_, h1, h2⟩
      have hj : j < 7 := by have := (List.getElem?_eq_some_iff.1 hu).1; rw [d.cells_length] at this; exact this
      rw [← add_of_add, hat j hj]
      exact hu
    have hex : ∀ k, k ≤ m → ∃ ds : List Step, ds.length = k ∧ ∀ i d, ds[i]? = some d → (∀ j u, d.cells[j]? = some u → w.cell? (a.add (i * 7 + j)) = some u) ∧ d.b.length ≤ d.c ∧ RdA w (fun k => k < w.heap.size) 1 d.A d.b.length (enc8 d.b) := by
      intro k
      induction k with
      | zero => intro _; exact ⟨[], rfl, fun i d hd => by simp at hd⟩
      | succ k ih =>
        intro hk
        obtain ⟨ds, hd1, hd2⟩ := ih (by omega)
        obtain ⟨d, hd⟩ := key k (by omega)
        refine ⟨ds ++ [d], by simp [hd1], fun i d' hi' => ?_⟩
        by_cases hil : i < ds.length
        · rw [List.getElem?_append_left hil] at hi'
          exact hd2 i d' hi'
        · have : i = ds.length := by
            have := (List.getElem?_eq_some_iff.1 hi').1
            simp at this; omega
          subst this
          rw [List.getElem?_append_right (Nat.le_refl _)] at hi'
          simp at hi'
          rw [← hi', hd1]
          exact hd
    obtain ⟨ds, hd1, hd2⟩ := hex len hl
    refine ⟨some a, ds, m, by rw [hd1]; exact hcs, by omega, RdA.of_cells (by rw [stepCells, flat_length _ 7 Step.cells_length]) (by omega) (fun j u hu => ?_), fun d hd => ?_⟩
    · have hjl : j < ds.length * 7 := by have := (List.getElem?_eq_some_iff.1 hu).1; rwa [stepCells, flat_length _ 7 Step.cells_length] at this
      have hq : j / 7 < ds.length := by omega
      have hat := stepCells_at ds (j / 7) _ (List.getElem?_eq_getElem hq) (j % 7) (by omega)
      rw [show j / 7 * 7 + j % 7 = j by omega, hu] at hat
      have := (hd2 (j / 7) _ (List.getElem?_eq_getElem hq)).1 (j % 7) u hat.symm
      rwa [show j / 7 * 7 + j % 7 = j by omega] at this
    · obtain ⟨i, hi'⟩ := List.mem_iff_getElem?.1 hd
      exact ⟨(hd2 i d hi').2.2, (hd2 i d hi').2.1⟩
end
end Go.Proofs.Ytgifmadidgjgbaa
