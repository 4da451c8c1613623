/- PathLost returns true for every input, and what the arguments hold is as it was. No condition. -/
import Derived.Test.YthlhfhfhagfelaaRows
import Derived.Test.YthlhfhfhagfelaaLostW
import Derived.Test.YthlhfhfhagfelaaOpen
set_option linter.unusedVariables false
set_option linter.unusedSimpArgs false
namespace Go.Proofs.Ythlhfhfhagfelaa.pathLost
open Go.ChangeShapes Go.WideShapes Go.ChangeAt Go.RowKit
theorem own : ownKnob Try.prog.godebug = none := by kernel_rfl
theorem laidOut : laidOutB Try.prog = true := by kernel_rfl
set_option maxRecDepth 100000 in
theorem lifted (os : Os) (started : os.Started) (H : Type) (enc : TypeId × Value → H) :
    ReturnsInHanded {} Try.checked os 6 .any (Rows.pathLostSpec.pre6 enc Try.prog Try.f6 Rows.pathLostRow.domain false) (Rows.pathLostSpec.post enc Try.prog Try.f6 false true false false) := by
  refine returnsInHanded_of_change_sized (C := Try.checked) own started (by kernel_rfl) Try.func6
    (ChangeSpec.witness6 (enc := enc) (C := Try.checked) false ⟨#[], #[.int .u32 0, .slice none 0 0, .agg #[.int .u32 0, .int .i64 0]], []⟩ 8 (by kernel_rfl) (by kernel_rfl) (by kernel_rfl) (by kernel_rfl)) ?_
  intro W base args ds gs before hval0 hW hcnd hsz0 _
  have hval : ∀ (j : Nat) t v, Try.f6.params[j]? = some t → args[j]? = some v → Value.okWide Try.prog W .any base t v := hval0
  have hW' := hW
  obtain ⟨p, q, hA0, hV, rfl, hfz, hnd⟩ := hW
  have hA : DataW.TrodAll enc Try.prog W 0 (fun _ => true) true Try.f6.params.toList args.toList ds p := hA0
  rw [Try.params6] at hA hval
  obtain ⟨v0, vs0, d0, ds0, p0, q0, hargs, rfl, rfl, h0, r0⟩ := trodAll_cons hA
  obtain ⟨v1, vs1, d1, ds1, p1, q1, rfl, rfl, rfl, h1, r1⟩ := trodAll_cons r0
  obtain ⟨v2, vs2, d2, ds2, p2, q2, rfl, rfl, rfl, h2, r2⟩ := trodAll_cons r1
  obtain ⟨rfl, rfl, rfl⟩ := trodAll_nil r2
  obtain rfl : args = #[v0, v1, v2] := by cases args; simp_all
  obtain ⟨rfl, rfl⟩ := trodVars_none hV
  obtain ⟨a0, rfl, rfl, rfl, w0⟩ := open_int Try.underlying22 (hval 0 22 v0 rfl rfl) h0
  obtain ⟨a1, len1, cap1, rfl⟩ := okWide_slice Try.underlying23 (hval 1 23 v1 rfl rfl)
  obtain ⟨cs2, rfl, hz2⟩ := okWide_struct Try.underlying29 (hval 2 29 v2 rfl rfl)
  have k1 := h1
  have lt1 : ∀ x ∈ p1, x.block < W.heap.size := by obtain ⟨m, hm⟩ := k1; exact DataW.trod_lt m _ _ _ hm
  have k2 := h2
  have lt2 : ∀ x ∈ p2, x.block < W.heap.size := by obtain ⟨m, hm⟩ := k2; exact DataW.trod_lt m _ _ _ hm
  obtain ⟨bh, bp, hcs2⟩ : ∃ bh bp : Int, cs2 = #[.int .u32 bh, .int .i64 bp] := by
    have hl2 : cs2.toList.length = 2 := by rw [Array.length_toList, hz2]; kernel_rfl
    obtain ⟨fuel, hf⟩ := h2
    obtain ⟨a, b, he, _, _⟩ := open_addr (by kernel_rfl) (by kernel_rfl) hf hl2
    exact ⟨a, b, by have := congrArg List.toArray he; simpa [Value.cells] using this⟩
  subst hcs2
  obtain ⟨sc, hs1, hs2, hs3, hs4⟩ : ∃ sc : List Plc, sc.length = len1 ∧ sc.length ≤ maxLen ∧ Pls W (fun k => k < W.heap.size) a1 sc ∧ ∀ d ∈ sc, d.ok := by
    obtain ⟨fuel, hf⟩ := h1
    obtain ⟨A, sc, c, hcs, h3, h4, h5⟩ := open_places (by kernel_rfl) (by kernel_rfl) (by kernel_rfl) (by kernel_rfl) (by kernel_rfl) hf
    simp [Value.cells] at hcs
    obtain ⟨rfl, rfl, rfl⟩ := hcs
    exact ⟨sc, rfl, h3, h4, h5⟩
  subst hs1
  clear hA0 hval0 hsz0
  obtain ⟨ho0, ho1⟩ := bounds_u32 w0
  refine (PathLost_walk a0 ho0 ho1 a1 cap1 sc bh bp W hs3 (by unfold maxLen at hs2; omega) hs4).mono fun e W' ⟨he, bel⟩ => ?_
  subst he
  exact ⟨_, rfl, _, _, _, [], _, [], hW', trodAll_mk1 (shut_bool Try.underlying4 _), (trodAll_cons_mk (shut_int Try.underlying22 w0) (trodAll_cons_mk (Below.trod laidOut (by kernel_rfl) (of_decide_eq_true (by kernel_rfl)) k1 bel lt1) (trodAll_cons_mk (Below.trod laidOut (by kernel_rfl) (of_decide_eq_true (by kernel_rfl)) k2 bel lt2) trodAll_mk0))), rfl, bel.frame _, fun h => by cases h⟩
theorem over : Rows.pathLostRow.holds Try.pinned (OpenSpec.ofChange Rows.pathLostSpec) :=
  OpenClaim.holds_of_wide 6 Try.f6 rfl rfl rfl rfl rfl rfl rfl ⟨rfl, rfl, rfl, rfl, rfl⟩ rfl rfl rfl rfl rfl (by kernel_rfl) Try.func6 (by kernel_rfl)
    (of_decide_eq_true (by kernel_rfl)) (by unfold Func.isWrapper; first | (rw [if_pos (by decide +kernel)]; kernel_rfl) | (rw [if_neg (by decide +kernel)]; exact ⟨rfl, rfl⟩))
    (fun os started H enc _ => lifted os started H enc)
theorem proved : Rows.PathLostSaid := over
#print axioms proved
end Go.Proofs.Ythlhfhfhagfelaa.pathLost
namespace Go.Proofs.Ythlhfhfhagfelaa
/-- The row, under a short name, for the claim. -/
theorem pathLost_holds : Rows.PathLostSaid := pathLost.proved
end Go.Proofs.Ythlhfhfhagfelaa
