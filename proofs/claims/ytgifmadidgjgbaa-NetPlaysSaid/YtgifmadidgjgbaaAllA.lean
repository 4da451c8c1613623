/- Contracts of this seat: slices.Clone of datagrams, All, and its iterator. No condition. -/
import Derived.Test.YtgifmadidgjgbaaRange
import Derived.Shelf.Abstract
import Derived.Shelf.RegionOpen
import Derived.WalkKit
import Derived.OwnWalkIn
import Derived.TacticsInMore
import Derived.LoopNIn
import Derived.LoopIn
set_option linter.unusedVariables false
set_option linter.unusedSimpArgs false
namespace Go.Proofs.Ytgifmadidgjgbaa
open Go.RowKit

variable {T : TypeId} {w w' : World} {B : Nat} {S U : Nat → Prop} {v : Value} {l : List Ent} {last : Int}

/-- The same as Clone, where the row may be written. -/
theorem Clone2 (A : Option Addr) (c : Nat) (S : Nat → Prop) (b : List UInt8) (w : World) (hr : RdA w S 1 A b.length (enc8 b)) (hb : b.length ≤ 100000) (hc : b.length ≤ c) :
    Calls Try.prog 31 #[.slice A b.length c] w fun e w' => ∃ A' c', e = .returned (.slice A' b.length c') ∧ w'.ownsRow w.heap.size 5 1 (.slice A' b.length c') b.length (enc8 b) ∧ Below w.heap.size w w' := by
  have heq := fun w a n c => Lib.run_eql_slice_nil (P := Try.prog) w 22 5 a n c 0 0 Try.underlying22
  obtain ⟨i0, hi, hz0, hz1, hz2⟩ := info_parts info5
  cases A with
  | none =>
    have hl : b.length = 0 := by
      rcases Nat.eq_zero_or_pos b.length with h0 | h0
      · exact h0
      · obtain ⟨_, _, h, _⟩ := hr.2 h0; cases h
    obtain rfl : b = [] := List.eq_nil_of_length_eq_zero hl
    go_enter Try.func31, Try.ntmps31
    go_wp2
    go_ret
    exact ⟨none, 0, rfl, World.ownsRow_nil _ _ _ _, Below.refl _ _⟩
  | some ad =>
    have h1 := enc8_one b
    have hnn := hr.alloc (.cells #[] 5)
    have hown : (w.alloc (.cells #[] 5)).ownsRow w.heap.size 5 1 (.slice (some ⟨w.heap.size, 0, none⟩) 0 0) 0 [] := World.ownsRow_made w #[] 0 (Nat.le_refl _) (by simp [maxLen]) rfl
    clear hr
    generalize hn : b.length = n at *
    have HN := Lib.hid hn
    generalize hxs : enc8 b = xs at *
    have HX := Lib.hid hxs
    clear hn hxs
    go_enter Try.func31, Try.ntmps31
    go_wp2_with (at_builtin; refine wpList_append_any _ rfl (.tmp 5) (.tmp 6) 22 rfl w.heap.size 5 i0 (.int .u8 0) 1 1 Try.underlying22 hi hz0 hz1 hz2 rfl (by decide) (.slice (some ⟨w.heap.size, 0, none⟩) 0 0) 0 [] rfl hown S (some ad) n c xs rfl hnn h1 (by unfold maxLen; omega) (by omega) (by simp) ?_; intro v' w1 hown1 hgrow hblk)
    go_ret
    have hb1 : Below w.heap.size w w1 := ((Below.refl _ w).alloc (Nat.le_refl _) _).grown hgrow (by simp) (fun k e => by simp [Value.ownBlock] at e; omega)
    simp only [Nat.zero_add, List.nil_append] at hown1
    obtain ⟨A', c', rfl, _⟩ := own_slice hown1
    exact ⟨A', c', rfl, hown1, hb1⟩

theorem Clone48 (A : Option Addr) (c : Nat) (S : Nat → Prop) (l : List Ent) (w : World) (hr : RdA w S 6 A l.length (cellsOf l)) (hb : l.length ≤ 300) (hc : l.length ≤ c) :
    Calls Try.prog 29 #[.slice A l.length c] w fun e w' => ∃ A' c', e = .returned (.slice A' l.length c') ∧ Rd w' 39 (fun k => w.heap.size ≤ k) 6 A' l.length (cellsOf l) ∧ Below w.heap.size w w' := by
  have heq := fun w a n c => Lib.run_eql_slice_nil (P := Try.prog) w 48 39 a n c 0 0 Try.underlying48
  obtain ⟨i0, hi, hz0, hz1, hz2⟩ := info_parts info39
  cases A with
  | none =>
    have hl : l.length = 0 := by
      rcases Nat.eq_zero_or_pos l.length with h0 | h0
      · exact h0
      · obtain ⟨_, _, h, _⟩ := hr.2 h0; cases h
    obtain rfl : l = [] := List.eq_nil_of_length_eq_zero hl
    go_enter Try.func29, Try.ntmps29
    go_wp2
    go_ret
    exact ⟨none, 0, rfl, Rd.nil, Below.refl _ _⟩
  | some ad =>
    have h1 := cellsOf_one l
    have hnn := hr.alloc (.cells #[] 39)
    have hown : (w.alloc (.cells #[] 39)).ownsRow w.heap.size 39 6 (.slice (some ⟨w.heap.size, 0, none⟩) 0 0) 0 [] := World.ownsRow_made w #[] 0 (Nat.le_refl _) (by simp [maxLen]) rfl
    clear hr
    generalize hn : l.length = n at *
    have HN := Lib.hid hn
    generalize hxs : cellsOf l = xs at *
    have HX := Lib.hid hxs
    clear hn hxs
    go_enter Try.func29, Try.ntmps29
    go_wp2_with (at_builtin; refine wpList_append_any _ rfl (.tmp 5) (.tmp 6) 48 rfl w.heap.size 39 i0 _ 6 64 Try.underlying48 hi hz0 hz1 hz2 rfl (by decide) (.slice (some ⟨w.heap.size, 0, none⟩) 0 0) 0 [] rfl hown S (some ad) n c xs rfl hnn h1 (by unfold maxLen; omega) (by omega) (by simp) ?_; intro v' w1 hown1 hgrow hblk)
    go_ret
    have hb1 : Below w.heap.size w w1 := ((Below.refl _ w).alloc (Nat.le_refl _) _).grown hgrow (by simp) (fun k e => by simp [Value.ownBlock] at e; omega)
    simp only [Nat.zero_add, List.nil_append] at hown1
    obtain ⟨A, c', rfl⟩ : ∃ A c', v' = .slice A n c' := by
      rcases hown1.2 with ⟨rfl, rfl⟩ | ⟨g, cap, cur, rfl, _⟩
      · exact ⟨none, 0, rfl⟩
      · exact ⟨_, cap, rfl⟩
    refine ⟨A, c', rfl, ?_, hb1⟩
    exact Rd.of_own hown1 (fun g hg => (hown1.lt g hg).1)

/-- What All hands back: an iterator over a copy of what is there. -/
def Alled (w : World) (l : List Ent) (e : Ending) (w' : World) : Prop :=
  ∃ Bs A' c', e = .returned (.func (.func 30) #[] #[.pointer (some ⟨Bs, 0, none⟩)]) ∧ Blk w' Bs 48 #[.slice A' l.length c'] ∧ w.heap.size ≤ Bs ∧ Rd w' 39 (fun k => w.heap.size ≤ k) 6 A' l.length (cellsOf l) ∧ Below w.heap.size w w'
theorem All_ (h : NetAt 59 w B S v l last) : Calls Try.prog 20 #[.pointer (some ⟨B, 0, none⟩)] w (Alled w l) := by
  obtain ⟨A, c, rfl, hnc, hcm⟩ := own_slice h.row
  have hc0 : w.cell? ⟨B, 0, none⟩ = some (.slice A l.length c) := h.blk.cell 0
  have hcall := Clone48 A c S l w h.rd.a h.len hnc
  have HC := Lib.hid hcall
  have HN := Lib.hid h
  clear hcall h
  generalize hn : l.length = n at *
  have Hn := Lib.hid hn
  clear hn
  go_enter Try.func20, Try.ntmps20
  go_wp2_with (go_at_call 29; refine HC.out.mono ?_; rintro r w1 ⟨A', c', rfl, hr, hb⟩)
  go_ret
  refine ⟨w1.heap.size, A', c', rfl, ?_, hb.size, ?_, hb.alloc hb.size _⟩
  · rw [Hn.out]; exact Blk.new w1 48 _
  · rw [Hn.out]; exact hr.alloc _
end Go.Proofs.Ytgifmadidgjgbaa
