/- Contracts of small functions of this seat: addresses, bytes.Clone. No condition. -/
import Derived.Test.YtgifmadidgjgbaaProg
import Derived.Test.YtgifmadidgjgbaaBase
import Derived.Lib.SliceRun
import Derived.Lib.Hide
set_option linter.unusedVariables false
set_option linter.unusedSimpArgs false
namespace Go.Proofs.Ytgifmadidgjgbaa
open Go.RowKit

def mayB (h p : Int) : Bool := (h != 0) && (decide (1 ≤ p) && decide (p ≤ 65535))
theorem mayB_h (p : Int) : mayB 0 p = false := by simp [mayB]
theorem mayB_lo {h p : Int} (hp : p < 1) : mayB h p = false := by simp [mayB]; omega
theorem mayB_hi {h p : Int} (hp : 1 ≤ p) : mayB h p = (h != 0 && decide (p ≤ 65535)) := by simp [mayB, hp]

theorem ret_bool {a b : Bool} (h : a = b) : Ending.returned (.bool a) = .returned (.bool b) := by rw [h]
theorem ret_int {k : IntKind} {a b : Int} (h : a = b) : Ending.returned (.int k a) = .returned (.int k b) := by rw [h]

theorem May (h p : Int) (w : World) : Calls Try.prog 22 #[.agg #[.int .u32 h, .int .i64 p]] w fun e w' => e = .returned (.bool (mayB h p)) ∧ Below w.heap.size w w' := by
  go_enter Try.func22, Try.ntmps22
  go_wp2
  all_goals
    go_ret
    refine ⟨ret_bool ?_, (Below.refl _ _).alloc (Nat.le_refl _) _⟩
    rw [Bool.eq_iff_iff]
    simp [mayB]
    omega

theorem RefMay (h p : Int) (w : World) (h0 : 0 ≤ h) : Calls Try.prog 26 #[.agg #[.int .u32 h, .int .i64 p]] w fun e w' => e = .returned (.bool (mayB h p)) ∧ Below w.heap.size w w' := by
  go_enter Try.func26, Try.ntmps26
  go_wp2
  all_goals
    go_ret
    refine ⟨ret_bool ?_, (Below.refl _ _).alloc (Nat.le_refl _) _⟩
    rw [Bool.eq_iff_iff]
    simp [mayB]
    omega

/-! ### bytes -/
def enc8 (b : List UInt8) : List Value := b.map fun x => .int .u8 (x.toNat : Int)
theorem enc8_length (b : List UInt8) : (enc8 b).length = b.length := by simp [enc8]
theorem enc8_one (b : List UInt8) : ∀ u ∈ enc8 b, u.oneCell' = true := by
  intro u hu
  obtain ⟨x, _, rfl⟩ := List.mem_map.1 hu
  rfl
theorem info5 : (Try.prog.info? 5).map (fun i => (i.zero, i.size, i.bytes)) = some (some (.int .u8 0), 1, 1) := by kernel_rfl

/-- What a copied row of bytes is: it reads as b, in a block of its own, or it is nil, or holds nothing. -/
def Cloned (w : World) (b : List UInt8) (e : Ending) (w' : World) : Prop :=
  ∃ A c, e = .returned (.slice A b.length c) ∧ Rd w' 5 (fun k => w.heap.size ≤ k) 1 A b.length (enc8 b) ∧ b.length ≤ c ∧ Below w.heap.size w w'

theorem Clone (A : Option Addr) (c : Nat) (S : Nat → Prop) (b : List UInt8) (w : World) (hr : RdA w S 1 A b.length (enc8 b)) (hb : b.length ≤ 100000) (hc : b.length ≤ c) :
    Calls Try.prog 31 #[.slice A b.length c] w (Cloned w b) := by
  have heq := fun w a n c => Lib.run_eql_slice_nil (P := Try.prog) w 22 5 a n c 0 0 Try.underlying22
  obtain ⟨i0, hi, hz0, hz1, hz2⟩ := info_parts info5
  cases A with
  | none =>
    have hl : b.length = 0 := by
      rcases Nat.eq_zero_or_pos b.length with h0 | h0
      · exact h0
      · obtain ⟨_, _, h, _⟩ := hr.2 h0; cases h
    obtain rfl : b = [] := List.eq_nil_of_length_eq_zero hl
    go_enter Try.func31, Try.ntmps31
    go_wp2
    go_ret
    exact ⟨none, 0, rfl, Rd.nil, Nat.le_refl _, Below.refl _ _⟩
  | some ad =>
    have h1 := enc8_one b
    have hnn := hr.alloc (.cells #[] 5)
    have hown : (w.alloc (.cells #[] 5)).ownsRow w.heap.size 5 1 (.slice (some ⟨w.heap.size, 0, none⟩) 0 0) 0 [] := World.ownsRow_made w #[] 0 (Nat.le_refl _) (by simp [maxLen]) rfl
    clear hr
    generalize hn : b.length = n at *
    have HN := Lib.hid hn
    generalize hxs : enc8 b = xs at *
    have HX := Lib.hid hxs
    clear hn hxs
    go_enter Try.func31, Try.ntmps31
    go_wp2_with (at_builtin; refine wpList_append_any _ rfl (.tmp 5) (.tmp 6) 22 rfl w.heap.size 5 i0 (.int .u8 0) 1 1 Try.underlying22 hi hz0 hz1 hz2 rfl (by decide) (.slice (some ⟨w.heap.size, 0, none⟩) 0 0) 0 [] rfl hown S (some ad) n c xs rfl hnn h1 (by unfold maxLen; omega) (by omega) (by simp) ?_; intro v' w1 hown1 hgrow hblk)
    go_ret
    have hb1 : Below w.heap.size w w1 := ((Below.refl _ w).alloc (Nat.le_refl _) _).grown hgrow (by simp) (fun k e => by simp [Value.ownBlock] at e; omega)
    simp only [Nat.zero_add, List.nil_append] at hown1
    obtain ⟨A, c', rfl⟩ : ∃ A c', v' = .slice A n c' := by
      rcases hown1.2 with ⟨rfl, rfl⟩ | ⟨g, cap, cur, rfl, _⟩
      · exact ⟨none, 0, rfl⟩
      · exact ⟨_, cap, rfl⟩
    refine ⟨A, c', by rw [HN.out]; rfl, ?_, ?_, hb1⟩
    · rw [HN.out, HX.out]
      exact Rd.of_own hown1 (fun g hg => (hown1.lt g hg).1)
    · rw [HN.out]
      rcases hown1.2 with ⟨h, rfl⟩ | ⟨g, cap, cur, h, _, _, hle, _⟩
      · omega
      · injection h; omega
end Go.Proofs.Ytgifmadidgjgbaa
