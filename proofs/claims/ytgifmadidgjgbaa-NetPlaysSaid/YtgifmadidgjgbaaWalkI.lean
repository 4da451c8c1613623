/- Contracts of this seat: awake answers true. No condition. -/
import Derived.Test.YtgifmadidgjgbaaWalkH
import Derived.Lib.SlBytesConst
import Derived.Lib.SmallJoins
import Derived.Lib.BufferRead
set_option linter.unusedVariables false
set_option linter.unusedSimpArgs false
namespace Go.Proofs.Ytgifmadidgjgbaa
open Go.RowKit

/-- A row of bytes as a string. -/
theorem conv_bytes {w : World} {S : Nat → Prop} {A : Option Addr} {b : List UInt8} (h : Rd w 5 S 1 A b.length (enc8 b)) (c : Nat) :
    (convert 22 9 (.slice A b.length c)).run Try.prog w = .ok (.string ⟨b.toArray⟩) w := by
  cases A with
  | none =>
    have hl : b.length = 0 := by
      rcases Nat.eq_zero_or_pos b.length with h0 | h0
      · exact h0
      · obtain ⟨_, _, _, _, h, _⟩ := h.2 h0; cases h
    obtain rfl : b = [] := List.eq_nil_of_length_eq_zero hl
    exact Lib.run_convert_nil_bytes w 22 9 5 c Try.underlying22 Try.underlying5 Try.underlying9
  | some ad =>
    refine run_convert_bytes_back w 22 9 5 ad c b Try.underlying22 Try.underlying5 Try.underlying9 (fun j hj => ?_)
    obtain ⟨g, o, cs, fr, hA, _, _, hc⟩ := h.2 (by omega)
    injection hA with hA
    subst hA
    rw [show (⟨g, o, none⟩ : Addr).add j = ⟨g, o + j, none⟩ by unfold Addr.add; split <;> simp_all]
    exact hc j _ (by simp [enc8, hj])

theorem After.base {S S' : Nat → Prop} {w w' : World} {B0 : Nat} (h : After S S' w w') (hS : ∀ k, S k → B0 ≤ k) (hB : B0 ≤ w.heap.size) : (∀ k, S' k → B0 ≤ k) ∧ Below B0 w w' :=
  ⟨fun k hk => by
    rcases h.own k hk with h1 | h1
    · exact hS k h1
    · omega, h.upd.below hB hS⟩

def e1 (A : Option Addr) (c : Nat) : Ent := ⟨⟨1, 1, 1, 1, 1, [104, 105]⟩, A, c⟩
def e2 (A : Option Addr) (c : Nat) : Ent := ⟨⟨2, 1, 1, 1, 1, [104, 105]⟩, A, c⟩

set_option maxHeartbeats 1600000 in
set_option maxRecDepth 100000 in
theorem awake (w : World) : Calls Try.prog 7 #[] w fun r w' => r = .returned (.bool true) ∧ Below w.heap.size w w' := by
  have kc := fun (w : World) (C : Array Value) (n c g : Nat) (hg : g = w.heap.size) => Joins.run_convert_bytes_const_at (P := Try.prog) w 22 5 C n c g hg Try.underlying22 Try.underlying5
  have N0 := NetAt.new 59 w
  generalize hW0 : w.alloc (.cells #[.slice none 0 0, .int .i64 0] 59) = W0 at N0
  have HW0 := Lib.hid hW0
  clear hW0
  have hbw : Below w.heap.size w W0 := by rw [← HW0.out]; exact (Below.refl _ w).alloc (Nat.le_refl _) _
  have hr1 : Rd ((W0.alloc (.cells #[.int .u32 1, .int .i64 1] 30)).alloc (.cells #[.int .u8 104, .int .u8 105] 5 (2, 3))) 5 (fun k => k ≠ w.heap.size) 1 (some ⟨W0.heap.size + 1, 0, none⟩) 2 (enc8 [104, 105]) :=
    ⟨rfl, fun _ => ⟨W0.heap.size + 1, 0, _, _, rfl, by have := hbw.size; omega, by rw [← World.size_alloc (o := .cells #[.int .u32 1, .int .i64 1] 30)]; exact heap_alloc_new _ _, fun j u hu => by
      have hh : ((W0.alloc (.cells #[.int .u32 1, .int .i64 1] 30)).alloc (.cells #[.int .u8 104, .int .u8 105] 5 (2, 3))).heap[W0.heap.size + 1]? = some (.cells #[.int .u8 104, .int .u8 105] 5 (2, 3)) := by
        rw [← World.size_alloc (o := .cells #[.int .u32 1, .int .i64 1] 30)]; exact heap_alloc_new _ _
      rw [cell_of_row _ _ _ _ _ _ hh]
      simpa [enc8] using hu⟩⟩
  have HR1 := Lib.hid hr1
  have HN0 := Lib.hid N0
  clear hr1 N0
  go_enter Try.func7, Try.ntmps7
  go_wp2_with (go_at_call 9; refine (New _).mono ?_; rintro r w1 ⟨rfl, rfl⟩; rw [HW0.out])
  refine (Send_room (HN0.out.below (((Below.refl _ W0).alloc (Nat.le_refl _) _).alloc (by simp) _)) (by decide) (by decide) ⟨0, 1, 1, 1, 1, [104, 105]⟩ _ 2 _ HR1.out.a (fun k hk => hk) (by decide) (by decide) (by decide) (by decide) rfl).mono ?_
  rintro r w2 ⟨rfl, S1, v1, A1, c1, N1, F1⟩
  have HN1 : Hid (NetAt 59 w2 w.heap.size S1 v1 [e1 A1 c1] 1) := N1
  have HF1 := Lib.hid F1
  clear N1 F1
  go_wp2_with fail
  refine (Copy_room HN1.out 1 0 (e1 A1 c1) rfl rfl (by simp) (by decide)).mono ?_
  rintro r w3 ⟨rfl, S2, v2, A2, c2, N2, F2⟩
  have HN2 : Hid (NetAt 59 w3 w.heap.size S2 v2 [e1 A1 c1, e2 A2 c2] 2) := N2
  have HF2 := Lib.hid F2
  clear N2 F2
  go_wp2_with fail
  refine (TakeHit HN2.out 1 0 ⟨⟨1, 1, 1, 1, 1, [104, 105]⟩, A1, c1⟩ rfl rfl).mono ?_
  rintro r w4 ⟨rfl, S3, v3, N3, F3⟩
  have HN3 : Hid (NetAt 59 w4 w.heap.size S3 v3 [e2 A2 c2] 2) := N3
  have HF3 := Lib.hid F3
  have HD : Hid (Rd w4 5 S2 1 A1 2 (enc8 [104, 105])) := ((HN2.out.byt (e1 A1 c1) (by simp)).1.keep F3.keep)
  clear N3 F3
  have HK : Hid (Blk (w4.alloc (.cells #[.int .i64 1, .int .u32 1, .int .i64 1, .int .u32 1, .int .i64 1, .slice A1 2 c1] 39)) w4.heap.size 39 #[.int .i64 1, .int .u32 1, .int .i64 1, .int .u32 1, .int .i64 1, .slice A1 2 c1]) := Blk.new w4 39 _
  go_wp2_with fail
  refine (TakeMiss (HN3.out.below ((Below.refl _ w4).alloc (Nat.le_refl _) _)) 1 rfl).mono ?_
  rintro r w5 ⟨rfl, hb5⟩
  have h45 : w4.heap.size < w5.heap.size := by have := hb5.size; simp at this; omega
  have HN6 : Hid (NetAt 59 (w5.alloc (.cells #[.int .i64 0, .int .u32 0, .int .i64 0, .int .u32 0, .int .i64 0, .slice none 0 0] 39)) w.heap.size S3 v3 [e2 A2 c2] 2) :=
    ((HN3.out.below ((Below.refl _ w4).alloc (Nat.le_refl _) _)).below hb5).below ((Below.refl _ w5).alloc (Nat.le_refl _) _)
  have hK6 := (HK.out.below hb5 HK.out.lt).alloc (.cells #[.int .i64 0, .int .u32 0, .int .i64 0, .int .u32 0, .int .i64 0, .slice none 0 0] 39)
  have k5 : (w5.alloc (.cells #[.int .i64 0, .int .u32 0, .int .i64 0, .int .u32 0, .int .i64 0, .slice none 0 0] 39)).cell? ⟨w4.heap.size, 5, none⟩ = some (.slice A1 2 c1) := hK6.cell 5
  have hcv : (convert 22 9 (.slice A1 2 c1)).run Try.prog (w5.alloc (.cells #[.int .i64 0, .int .u32 0, .int .i64 0, .int .u32 0, .int .i64 0, .slice none 0 0] 39)) = .ok (.string ⟨#[104, 105]⟩) (w5.alloc (.cells #[.int .i64 0, .int .u32 0, .int .i64 0, .int .u32 0, .int .i64 0, .slice none 0 0] 39)) :=
    conv_bytes (((HD.out.alloc _).below hb5).alloc _) c1
  have HC := Lib.hid (Count HN6.out)
  have HA := Lib.hid (At_ HN6.out (-7) (by simp) (e2 A2 c2) (by show [e2 A2 c2][atIdx 1 (-7)]? = _; rw [show atIdx 1 (-7) = 0 by decide]; rfl))
  have HB : Hid (Below w.heap.size w w5) := by
    have u1 := (hbw.alloc hbw.size (.cells #[.int .u32 1, .int .i64 1] 30)).alloc (by have := hbw.size; simp; omega) (.cells #[.int .u8 104, .int .u8 105] 5 (2, 3))
    obtain ⟨s1, t1⟩ := HF1.out.base (B0 := w.heap.size) (fun k hk => by rw [hk]; exact Nat.le_refl _) u1.size
    have u2 := u1.trans t1
    obtain ⟨s2, t2⟩ := HF2.out.base s1 u2.size
    have u3 := u2.trans t2
    obtain ⟨s3, t3⟩ := HF3.out.base s2 u3.size
    have u4 := u3.trans t3
    exact (u4.alloc u4.size _).trans (hb5.mono (by have := u4.size; simp; omega))
  clear hb5 hK6
  go_wp2_with (first | (go_at_call 13; refine HC.out.mono ?_; rintro r w7 ⟨rfl, rfl⟩) | (go_at_call 14; refine HA.out.mono ?_; rintro r w8 ⟨rfl, hb8⟩))
  go_ret
  exact ⟨rfl, (HB.out.alloc HB.out.size _).trans (hb8.mono (by have := HB.out.size; simp; omega))⟩
end Go.Proofs.Ytgifmadidgjgbaa
