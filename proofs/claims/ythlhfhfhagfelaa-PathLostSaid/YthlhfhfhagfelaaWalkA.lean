/- Contracts of small functions: what may be, what is inside, of which kind. No condition. -/
import Derived.Test.YthlhfhfhagfelaaProg
import Derived.Test.YthlhfhfhagfelaaPlain
import Derived.Lib.Hide
set_option linter.unusedVariables false
set_option linter.unusedSimpArgs false
namespace Go.Proofs.Ythlhfhfhagfelaa
open Go.RowKit

theorem May (h p : Int) (w : World) : Calls Try.prog 35 #[.agg #[.int .u32 h, .int .i64 p]] w fun e w' => e = .returned (.bool (mayB h p)) ∧ Below w.heap.size w w' := by
  go_enter Try.func35, Try.ntmps35
  go_wp2
  all_goals
    go_ret
    refine ⟨ret_bool ?_, (Below.refl _ _).alloc (Nat.le_refl _) _⟩
    rw [Bool.eq_iff_iff]
    simp [mayB]
    omega
theorem RefMay (h p : Int) (w : World) (h0 : 0 ≤ h) : Calls Try.prog 36 #[.agg #[.int .u32 h, .int .i64 p]] w fun e w' => e = .returned (.bool (mayB h p)) ∧ Below w.heap.size w w' := by
  go_enter Try.func36, Try.ntmps36
  go_wp2
  all_goals
    go_ret
    refine ⟨ret_bool ?_, (Below.refl _ _).alloc (Nat.le_refl _) _⟩
    rw [Bool.eq_iff_iff]
    simp [mayB]
    omega
theorem Inside (h : Int) (h0 : 0 ≤ h) (h1 : h ≤ 4294967295) (w : World) : Calls Try.prog 28 #[.int .u32 h] w fun e w' => e = .returned (.bool (insideB h)) ∧ w' = w := by
  go_enter Try.func28, Try.ntmps28
  go_wp2
  all_goals
    go_ret
    refine ⟨ret_bool ?_, rfl⟩
    rw [Bool.eq_iff_iff]
    simp [insideB]
    omega
theorem RInside (h : Int) (h0 : 0 ≤ h) (h1 : h ≤ 4294967295) (w : World) : Calls Try.prog 38 #[.int .u32 h] w fun e w' => e = .returned (.bool (insideB h)) ∧ w' = w := by
  go_enter Try.func38, Try.ntmps38
  go_wp2
  all_goals
    go_ret
    refine ⟨ret_bool ?_, rfl⟩
    rw [Bool.eq_iff_iff]
    simp [insideB]
    omega
theorem MayTime (n : Int) (w : World) : Calls Try.prog 25 #[.int .i64 n] w fun e w' => e = .returned (.bool (decide (0 ≤ n ∧ n ≤ 1099511627776))) ∧ w' = w := by
  go_enter Try.func25, Try.ntmps25
  go_wp2
  all_goals
    go_ret
    refine ⟨ret_bool ?_, rfl⟩
    rw [Bool.eq_iff_iff]
    simp
    omega
theorem RTime (n : Int) (w : World) : Calls Try.prog 33 #[.int .i64 n] w fun e w' => e = .returned (.bool (decide (0 ≤ n ∧ n ≤ 1099511627776))) ∧ w' = w := by
  go_enter Try.func33, Try.ntmps33
  go_wp2
  all_goals
    go_ret
    refine ⟨ret_bool ?_, rfl⟩
    rw [Bool.eq_iff_iff]
    simp
    omega
end Go.Proofs.Ythlhfhfhagfelaa
