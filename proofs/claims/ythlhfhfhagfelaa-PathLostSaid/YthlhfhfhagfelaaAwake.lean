/- What the laws ask first. No condition. -/
import Derived.Test.YthlhfhfhagfelaaMethB
set_option linter.unusedVariables false
set_option linter.unusedSimpArgs false
namespace Go.Proofs.Ythlhfhfhagfelaa
open Go.RowKit

theorem run_field35 (st h p id nx : Int) (v : Bool) (W : World) : (Instr.field 35 (.agg #[.int .i64 st, .int .u32 h, .int .i64 p, .int .i64 id, .bool v, .int .i64 nx]) 0).run Try.prog W = .ok (.int .i64 st) W := by
  simp [Instr.field, go_sem, asAgg]
def pA : Plc := ⟨7, 7, 3, true⟩
def pB : Plc := ⟨8, 8, 0, false⟩
theorem ways_awake : waysW 1 [pA, pB] = [pB, pA] := by decide
theorem start_awake : startF [pB, pA] 0 Pth.off 0 = ⟨pB, true, 0, ⟨1, pB, 10⟩⟩ := rfl
theorem tick_awake : tickF [pB, pA] 0 ⟨1, pB, 10⟩ 9 = ⟨Plc.zero, false, 0, ⟨1, pB, 10⟩⟩ := rfl
theorem tick_awake2 : tickF [pB, pA] 0 ⟨1, pB, 10⟩ 10 = ⟨pA, true, 1, ⟨1, pA, 20⟩⟩ := rfl
theorem open_awake : openF ⟨1, pA, 20⟩ 11 = (true, ⟨3, pA, 0⟩) := rfl
theorem punch_awake : punchF ⟨3, pA, 0⟩ 12 9 9 = (true, ⟨2, ⟨9, 9, 0, false⟩, 0⟩) := rfl

set_option maxHeartbeats 3200000 in
set_option maxRecDepth 100000 in
theorem awake (w : World) : Calls Try.prog 8 #[] w fun r w' => r = .returned (.bool true) ∧ Below w.heap.size w w' := by
  have hneq : ∀ (W : World) (b : Nat), (binOp .eql 25 (.pointer (some ⟨b, 0, none⟩)) (.pointer none)).run Try.prog W = .ok (.bool false) W := fun W b => by simp [go_sem]
  have hnew := New_ 1 (by decide) (by decide) (some ⟨w.heap.size, 0, none⟩) 2 [pA, pB] (w.alloc (.cells #[.int .u32 7, .int .i64 7, .int .i64 3, .bool true, .int .u32 8, .int .i64 8, .int .i64 0, .bool false] 31))
    (((Rd.new w 31 (pcells [pA, pB]) 4 2 rfl).more (T := fun k => k < (w.alloc (.cells #[.int .u32 7, .int .i64 7, .int .i64 3, .bool true, .int .u32 8, .int .i64 8, .int .i64 0, .bool false] 31)).heap.size) (fun k _ hl => hl)).a) (by simp) (fun x hx => by simp at hx; rcases hx with rfl | rfl <;> exact ⟨by decide, by decide⟩)
  rw [ways_awake] at hnew
  have HN := Lib.hid hnew
  clear hnew
  have hfld := run_field35
  go_enter Try.func8, Try.ntmps8
  go_wp2_with (first | (go_at_call 9; refine HN.out.mono ?_; rintro r w1 ⟨B, A, c, rfl, hB, hwk, hpl, hbl⟩; have HB := Lib.hid hbl; have HW := Lib.hid hwk; clear hwk hpl hbl))
  go_wp2_with fail
  have hs := Start_ HW.out 0
  rw [start_awake] at hs
  refine hs.mono ?_
  rintro r w2 ⟨hr, hw2, hu2⟩
  try dsimp only [pB] at hr
  subst hr
  have hz1 := HB.out.size
  have hBl := HW.out.blk.lt
  have hz2 := hu2.size
  have hb2 := Blk.new w2 31 #[.int .u32 8, .int .i64 8, .int .i64 0, .bool false]
  have HW2 := Lib.hid (hw2.below ((Below.refl _ w2).alloc (Nat.le_refl _) (.cells #[.int .u32 8, .int .i64 8, .int .i64 0, .bool false] 31)))
  have HU2 : Hid (Upd (fun k => k = B) w1 (w2.alloc (.cells #[.int .u32 8, .int .i64 8, .int .i64 0, .bool false] 31))) := hu2.alloc _
  have HX2 := Lib.hid hb2
  clear hs hw2 hu2 hb2 HW
  go_wp2_with fail
  generalize w2.alloc (.cells #[.int .u32 8, .int .i64 8, .int .i64 0, .bool false] 31) = W2 at *
  generalize hb2 : w2.heap.size = b2 at *
  clear hb2
  have hs := Tick_ HW2.out 9 (by decide)
  try dsimp only at hs
  rw [tick_awake] at hs
  refine hs.mono ?_
  rintro r w3 ⟨hr, hw3, hu3⟩
  try dsimp only [Plc.zero] at hr
  subst hr
  have hne2 : b2 ≠ B := by omega
  have hx3 := (HX2.out.upd hu3 (by show ¬ b2 = B; omega)).alloc (.cells #[.int .u32 0, .int .i64 0, .int .i64 0, .bool false] 31)
  have HW3 := Lib.hid (hw3.below ((Below.refl _ w3).alloc (Nat.le_refl _) (.cells #[.int .u32 0, .int .i64 0, .int .i64 0, .bool false] 31)))
  have HU3 : Hid (Upd (fun k => k = B) w1 (w3.alloc (.cells #[.int .u32 0, .int .i64 0, .int .i64 0, .bool false] 31))) := (HU2.out.trans hu3 (fun i _ h => h)).alloc _
  have HX3 := Lib.hid hx3
  clear hs hw3 hu3 hx3 HW2 HU2 HX2
  go_wp2_with fail
  generalize w3.alloc (.cells #[.int .u32 0, .int .i64 0, .int .i64 0, .bool false] 31) = W3 at *
  have hs := Tick_ HW3.out 10 (by decide)
  try dsimp only at hs
  rw [tick_awake2] at hs
  refine hs.mono ?_
  rintro r w4 ⟨hr, hw4, hu4⟩
  try dsimp only [pA] at hr
  subst hr
  have hx4 := (HX3.out.upd hu4 (by show ¬ b2 = B; omega)).alloc (.cells #[.int .u32 7, .int .i64 7, .int .i64 3, .bool true] 31)
  have hy4 := Blk.new w4 31 #[.int .u32 7, .int .i64 7, .int .i64 3, .bool true]
  have HW4 := Lib.hid (hw4.below ((Below.refl _ w4).alloc (Nat.le_refl _) (.cells #[.int .u32 7, .int .i64 7, .int .i64 3, .bool true] 31)))
  have HU4 : Hid (Upd (fun k => k = B) w1 (w4.alloc (.cells #[.int .u32 7, .int .i64 7, .int .i64 3, .bool true] 31))) := (HU3.out.trans hu4 (fun i _ h => h)).alloc _
  have hzz := (HU3.out.trans hu4 (fun i _ h => h)).size
  have HX4 := Lib.hid hx4
  have HY4 := Lib.hid hy4
  clear hs hw4 hu4 hx4 hy4 HW3 HU3 HX3
  go_wp2_with fail
  generalize w4.alloc (.cells #[.int .u32 7, .int .i64 7, .int .i64 3, .bool true] 31) = W4 at *
  have hb4n : w4.heap.size ≠ B := by omega
  generalize hb4 : w4.heap.size = b4 at *
  clear hb4
  have hs := Open_ HW4.out 11
  try dsimp only at hs
  rw [open_awake] at hs
  refine hs.mono ?_
  rintro r w5 ⟨rfl, hw5, hu5⟩
  have hx5 := HX4.out.upd hu5 (by show ¬ b2 = B; omega)
  have hy5 := HY4.out.upd hu5 (by show ¬ b4 = B; omega)
  have c0 : w5.cell? ⟨b2, 0, none⟩ = some (.int .u32 8) := hx5.cell 0
  have c3 : w5.cell? ⟨b4, 3, none⟩ = some (.bool true) := hy5.cell 3
  have HW5 := Lib.hid hw5
  have HU5 := Lib.hid (HU4.out.trans hu5 (fun i _ h => h))
  clear hs hw5 hu5 hx5 hy5 HW4 HU4 HX4 HY4
  go_wp2_with fail
  have hs := State_ HW5.out
  try dsimp only [pA] at hs
  refine hs.mono ?_
  rintro r w6 ⟨rfl, hb6⟩
  have HW6 := Lib.hid (HW5.out.below hb6)
  have HU6 : Hid (Upd (fun k => k = B) w1 w6) := HU5.out.trans (Upd.new (S := fun k => k = B) hb6) (fun i _ h => h)
  clear hs hb6 HW5 HU5 c0 c3
  go_wp2_with fail
  have hs := Punched_ HW6.out 12 9 9
  rw [punch_awake] at hs
  refine hs.mono ?_
  rintro r w7 ⟨rfl, hw7, hu7⟩
  have HW7 := Lib.hid hw7
  have HU7 := Lib.hid (HU6.out.trans hu7 (fun i _ h => h))
  clear hs hw7 hu7 HW6 HU6
  go_wp2_with fail
  have hs := State_ HW7.out
  try dsimp only at hs
  refine hs.mono ?_
  rintro r w8 ⟨rfl, hb8⟩
  have HU8 : Hid (Upd (fun k => k = B) w1 w8) := HU7.out.trans (Upd.new (S := fun k => k = B) hb8) (fun i _ h => h)
  clear hs hb8 HW7 HU7
  go_wp2
  go_ret
  have hb1 : Below w.heap.size w w1 := ((Below.refl _ w).alloc (Nat.le_refl _) _).trans (HB.out.mono (by simp))
  exact ⟨rfl, hb1.trans (HU8.out.below hb1.size (fun k hk => by have := hB; simp at this; omega))⟩
end Go.Proofs.Ythlhfhfhagfelaa
