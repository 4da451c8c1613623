/- Contracts: places; the kinds. No condition. -/
import Derived.Test.YthlhfhfhagfelaaWalkA
set_option linter.unusedVariables false
set_option linter.unusedSimpArgs false
namespace Go.Proofs.Ythlhfhfhagfelaa
open Go.RowKit

theorem MayPlace (x : Plc) (w : World) : Calls Try.prog 40 #[.agg #[.int .u32 x.h, .int .i64 x.p, .int .i64 x.id, .bool x.via]] w fun e w' => e = .returned (.bool (placeB x)) ∧ Below w.heap.size w w' := by
  obtain ⟨h, p, id, via⟩ := x
  dsimp only
  cases hm : mayB h p with
  | false =>
    go_enter Try.func40, Try.ntmps40
    go_wp2_with (go_at_call 35; refine (May _ _ _).mono ?_; rintro r w1 ⟨rfl, hb1⟩; obtain ⟨hc1, hf1⟩ := bcell hb1; have HB1 := Lib.hid hb1; clear hb1)
    go_ret
    exact ⟨ret_bool (by simp [placeB, hm]), ((Below.refl _ w).alloc (Nat.le_refl _) _).trans (HB1.out.mono (by simp))⟩
  | true =>
    cases via
    all_goals
      go_enter Try.func40, Try.ntmps40
      go_wp2_with (go_at_call 35; refine (May _ _ _).mono ?_; rintro r w1 ⟨rfl, hb1⟩; have hx := (Blk.new w 31 #[.int .u32 h, .int .i64 p, .int .i64 id, .bool _]).below hb1 (by simp); have q2 := hx.cell 2; have q3 := hx.cell 3; simp only [List.getElem?_toArray, List.getElem?_cons_zero, List.getElem?_cons_succ] at q2 q3; have HB1 := Lib.hid hb1; clear hb1 hx)
      all_goals
        go_ret
        refine ⟨ret_bool ?_, ((Below.refl _ w).alloc (Nat.le_refl _) _).trans (HB1.out.mono (by simp))⟩
        rw [Bool.eq_iff_iff]
        simp [placeB, hm]
        try omega
theorem RPlace (x : Plc) (hx : x.ok) (w : World) : Calls Try.prog 37 #[.agg #[.int .u32 x.h, .int .i64 x.p, .int .i64 x.id, .bool x.via]] w fun e w' => e = .returned (.bool (placeB x)) ∧ Below w.heap.size w w' := by
  obtain ⟨h, p, id, via⟩ := x
  have h0 : 0 ≤ h := hx.1
  clear hx
  dsimp only
  cases hm : mayB h p with
  | false =>
    go_enter Try.func37, Try.ntmps37
    go_wp2_with (go_at_call 36; refine (RefMay _ _ _ h0).mono ?_; rintro r w1 ⟨rfl, hb1⟩; obtain ⟨hc1, hf1⟩ := bcell hb1; have HB1 := Lib.hid hb1; clear hb1)
    go_ret
    exact ⟨ret_bool (by simp [placeB, hm]), ((Below.refl _ w).alloc (Nat.le_refl _) _).trans (HB1.out.mono (by simp))⟩
  | true =>
    cases via
    all_goals
      go_enter Try.func37, Try.ntmps37
      go_wp2_with (go_at_call 36; refine (RefMay _ _ _ h0).mono ?_; rintro r w1 ⟨rfl, hb1⟩; have hx := (Blk.new w 31 #[.int .u32 h, .int .i64 p, .int .i64 id, .bool _]).below hb1 (by simp); have q2 := hx.cell 2; have q3 := hx.cell 3; simp only [List.getElem?_toArray, List.getElem?_cons_zero, List.getElem?_cons_succ] at q2 q3; have HB1 := Lib.hid hb1; clear hb1 hx)
      all_goals
        go_ret
        refine ⟨ret_bool ?_, ((Below.refl _ w).alloc (Nat.le_refl _) _).trans (HB1.out.mono (by simp))⟩
        rw [Bool.eq_iff_iff]
        simp [placeB, hm]
        try omega
theorem Is1 (own : Int) (x : Plc) (hx : x.ok) (w : World) : Calls Try.prog 27 #[.agg #[.int .u32 x.h, .int .i64 x.p, .int .i64 x.id, .bool x.via]] w fun e w' => e = .returned (.bool (isB own 1 x)) ∧ Below w.heap.size w w' := by
  obtain ⟨h, p, id, via⟩ := x
  obtain ⟨h0, h1⟩ := hx
  dsimp only at *
  cases via
  all_goals
    go_enter Try.func27, Try.ntmps27
    go_wp2_with (go_at_call 28; refine (Inside _ h0 h1 _).mono ?_; rintro r w1 ⟨rfl, rfl⟩)
    go_ret
    exact ⟨ret_bool (by simp [isB]), (Below.refl _ _).alloc (Nat.le_refl _) _⟩
theorem Is2 (own : Int) (ho0 : 0 ≤ own) (ho1 : own ≤ 4294967295) (Bo : Nat) (x : Plc) (hx : x.ok) (w : World) (hB : Bo < w.heap.size) (hc : w.cell? ⟨Bo, 0, none⟩ = some (.int .u32 own)) :
    Calls Try.prog 29 #[.agg #[.int .u32 x.h, .int .i64 x.p, .int .i64 x.id, .bool x.via], .pointer (some ⟨Bo, 0, none⟩)] w fun e w' => e = .returned (.bool (isB own 2 x)) ∧ Below w.heap.size w w' := by
  obtain ⟨h, p, id, via⟩ := x
  obtain ⟨h0, h1⟩ := hx
  dsimp only at *
  have hne : Bo ≠ w.heap.size := by omega
  cases via
  · cases hi : insideB h
    all_goals
      go_enter Try.func29, Try.ntmps29
      go_wp2_with (go_at_call 28; refine (Inside _ h0 h1 _).mono ?_; rintro r w1 ⟨rfl, rfl⟩)
      go_ret
      refine ⟨ret_bool ?_, (Below.refl _ _).alloc (Nat.le_refl _) _⟩
      rw [Bool.eq_iff_iff]
      simp [isB, hi, nearB]
      try omega
  · go_enter Try.func29, Try.ntmps29
    go_wp2
    go_ret
    exact ⟨ret_bool (by simp [isB]), (Below.refl _ _).alloc (Nat.le_refl _) _⟩
theorem Is3 (own : Int) (x : Plc) (w : World) : Calls Try.prog 30 #[.agg #[.int .u32 x.h, .int .i64 x.p, .int .i64 x.id, .bool x.via]] w fun e w' => e = .returned (.bool (isB own 3 x)) ∧ Below w.heap.size w w' := by
  go_enter Try.func30, Try.ntmps30
  go_wp2
  go_ret
  exact ⟨ret_bool (by simp [isB]), (Below.refl _ _).alloc (Nat.le_refl _) _⟩
theorem RKind (own : Int) (ho0 : 0 ≤ own) (ho1 : own ≤ 4294967295) (x : Plc) (hx : x.ok) (w : World) :
    Calls Try.prog 24 #[.int .u32 own, .agg #[.int .u32 x.h, .int .i64 x.p, .int .i64 x.id, .bool x.via]] w fun e w' => e = .returned (.int .i64 (kindN own x : Int)) ∧ Below w.heap.size w w' := by
  have hpl := fun W => RPlace x hx W
  obtain ⟨h, p, id, via⟩ := x
  obtain ⟨h0, h1⟩ := hx
  dsimp only at *
  have HPL := Lib.hid hpl
  clear hpl
  by_cases hp : placeB ⟨h, p, id, via⟩ = true
  · cases via
    · cases hi : insideB h
      · go_enter Try.func24, Try.ntmps24
        go_wp2_with (first | (go_at_call 37; refine (HPL.out _).mono ?_; rintro r w1 ⟨rfl, hb1⟩; have hx := (Blk.new w 31 #[.int .u32 h, .int .i64 p, .int .i64 id, .bool false]).below hb1 (by simp); have q0 := hx.cell 0; have q3 := hx.cell 3; simp only [List.getElem?_toArray, List.getElem?_cons_zero, List.getElem?_cons_succ] at q0 q3; have HB1 := Lib.hid hb1; clear hb1 hx) | (go_at_call 38; refine (RInside _ h0 h1 _).mono ?_; rintro r w1 ⟨rfl, rfl⟩))
        go_ret
        exact ⟨ret_int (by simp [kindN, hp, hi]), ((Below.refl _ w).alloc (Nat.le_refl _) _).trans (HB1.out.mono (by simp))⟩
      · by_cases hq : h / 256 = own / 256
        all_goals
          go_enter Try.func24, Try.ntmps24
          go_wp2_with (first | (go_at_call 37; refine (HPL.out _).mono ?_; rintro r w1 ⟨rfl, hb1⟩; have hx := (Blk.new w 31 #[.int .u32 h, .int .i64 p, .int .i64 id, .bool false]).below hb1 (by simp); have q0 := hx.cell 0; have q3 := hx.cell 3; simp only [List.getElem?_toArray, List.getElem?_cons_zero, List.getElem?_cons_succ] at q0 q3; have HB1 := Lib.hid hb1; clear hb1 hx) | (go_at_call 38; refine (RInside _ h0 h1 _).mono ?_; rintro r w1 ⟨rfl, rfl⟩))
          go_ret
          exact ⟨ret_int (by simp [kindN, hp, hi, nearB, hq]), ((Below.refl _ w).alloc (Nat.le_refl _) _).trans (HB1.out.mono (by simp))⟩
    · go_enter Try.func24, Try.ntmps24
      go_wp2_with (first | (go_at_call 37; refine (HPL.out _).mono ?_; rintro r w1 ⟨rfl, hb1⟩; have hx := (Blk.new w 31 #[.int .u32 h, .int .i64 p, .int .i64 id, .bool true]).below hb1 (by simp); have q0 := hx.cell 0; have q3 := hx.cell 3; simp only [List.getElem?_toArray, List.getElem?_cons_zero, List.getElem?_cons_succ] at q0 q3; have HB1 := Lib.hid hb1; clear hb1 hx))
      go_ret
      exact ⟨ret_int (by simp [kindN, hp]), ((Below.refl _ w).alloc (Nat.le_refl _) _).trans (HB1.out.mono (by simp))⟩
  · have hp' : placeB ⟨h, p, id, via⟩ = false := by simpa using hp
    go_enter Try.func24, Try.ntmps24
    go_wp2_with (first | (go_at_call 37; refine (HPL.out _).mono ?_; rintro r w1 ⟨rfl, hb1⟩; have HB1 := Lib.hid hb1; clear hb1))
    go_ret
    exact ⟨ret_int (by simp [kindN, hp']), ((Below.refl _ w).alloc (Nat.le_refl _) _).trans (HB1.out.mono (by simp))⟩
end Go.Proofs.Ythlhfhfhagfelaa
