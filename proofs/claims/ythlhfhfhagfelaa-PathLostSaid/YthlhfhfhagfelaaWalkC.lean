/- Contracts: whether a place is among places. No condition. -/
import Derived.Test.YthlhfhfhagfelaaWalkB
set_option linter.unusedVariables false
set_option linter.unusedSimpArgs false
namespace Go.Proofs.Ythlhfhfhagfelaa
open Go.RowKit

def Plc.val (x : Plc) : Value := .agg #[.int .u32 x.h, .int .i64 x.p, .int .i64 x.id, .bool x.via]
/-- The slice at A reads as the places l. -/
def Pls (w : World) (S : Nat → Prop) (A : Option Addr) (l : List Plc) : Prop := RdA w S 4 A l.length (pcells l)
theorem Pls.elem {w : World} {S : Nat → Prop} {A : Option Addr} {l : List Plc} (h : Pls w S A l) {i : Nat} {x : Plc} (hx : l[i]? = some x) :
    ∃ b o, A = some ⟨b, o, none⟩ ∧ b < w.heap.size ∧ w.cell? ⟨b, o + i * 4, none⟩ = some (.int .u32 x.h) ∧ w.cell? ⟨b, o + i * 4 + 1, none⟩ = some (.int .i64 x.p) ∧ w.cell? ⟨b, o + i * 4 + 2, none⟩ = some (.int .i64 x.id) ∧ w.cell? ⟨b, o + i * 4 + 3, none⟩ = some (.bool x.via) := by
  obtain ⟨b, o, hA, hM, hl, hc⟩ := RdA.elem h (List.getElem?_eq_some_iff.1 hx).1
  have key : ∀ j u, j < 4 → x.cells[j]? = some u → w.cell? ⟨b, o + i * 4 + j, none⟩ = some u := fun j u hj hu => hc j u (by rw [pcells_at l i x hx j hj]; exact hu)
  exact ⟨b, o, hA, hl, key 0 _ (by omega) rfl, key 1 _ (by omega) rfl, key 2 _ (by omega) rfl, key 3 _ (by omega) rfl⟩

theorem belowN {B : Nat} {w w' : World} (h : Below B w w') (n : Nat) : Below B w (w'.drewN n) := ⟨h.os, h.tape, h.output, h.size, h.block⟩
theorem run_eql31 (a b : Plc) (W : World) : (binOp .eql 31 (.agg #[.int .u32 a.h, .int .i64 a.p, .int .i64 a.id, .bool a.via]) (.agg #[.int .u32 b.h, .int .i64 b.p, .int .i64 b.id, .bool b.via])).run Try.prog W = .ok (.bool (a.eqB b)) W := by
  simp [go_sem, Plc.eqB]
  by_cases h1 : a.h = b.h <;> by_cases h2 : a.p = b.p <;> by_cases h3 : a.id = b.id <;> cases h4 : a.via <;> cases h5 : b.via <;> simp [h1, h2, h3]
theorem run_neq31 (a b : Plc) (W : World) : (binOp .neq 31 (.agg #[.int .u32 a.h, .int .i64 a.p, .int .i64 a.id, .bool a.via]) (.agg #[.int .u32 b.h, .int .i64 b.p, .int .i64 b.id, .bool b.via])).run Try.prog W = .ok (.bool (!a.eqB b)) W := by
  simp [go_sem, Plc.eqB]
  by_cases h1 : a.h = b.h <;> by_cases h2 : a.p = b.p <;> by_cases h3 : a.id = b.id <;> cases h4 : a.via <;> cases h5 : b.via <;> simp [h1, h2, h3]

/-- Where a place stands: from 0 on, if it is there. -/
def IdxOf (w : World) (l : List Plc) (x : Plc) (r : Ending) (w' : World) : Prop := ∃ z : Int, r = .returned (.int .i64 z) ∧ (0 ≤ z ↔ x ∈ l) ∧ Below w.heap.size w w'
set_option maxHeartbeats 800000 in
theorem Index_ {w : World} {S : Nat → Prop} {A : Option Addr} {l : List Plc} (h : Pls w S A l) (hl : l.length ≤ 100000) (c : Nat) (x : Plc) : Calls Try.prog 41 #[.slice A l.length c, .agg #[.int .u32 x.h, .int .i64 x.p, .int .i64 x.id, .bool x.via]] w (IdxOf w l x) := by
  have HP := Lib.hid h
  clear h
  generalize hn : l.length = n at *
  have HN := Lib.hid hn
  clear hn
  go_enter Try.func41, Try.ntmps41
  go_wp2
  go_loopw [8] (fun s8 wr => ∃ k : Nat, k ≤ n ∧ s8 = .int .i64 k ∧ Hid (Below (w.heap.size + 1) (w.alloc (.cells #[.int .u32 x.h, .int .i64 x.p, .int .i64 x.id, .bool x.via] 31)) wr) ∧ Hid (x ∉ l.take k)) (fun s _ => n - (intOf s).toNat)
  case atStart => exact ⟨0, Nat.zero_le _, rfl, Below.refl _ _, (by simp : x ∉ l.take 0)⟩
  case round =>
    obtain ⟨k, hk, rfl, BW, NO⟩ := hrel
    have hbx := (Blk.new w 31 #[.int .u32 x.h, .int .i64 x.p, .int .i64 x.id, .bool x.via]).below BW.out (by omega)
    have HBW : Hid (Below w.heap.size w wr) := ((Below.refl _ w).alloc (Nat.le_refl _) _).trans (BW.out.mono (by omega))
    by_cases hlt : k < n
    · have hlt' : (k : Int) < (n : Int) := by omega
      obtain ⟨e, he⟩ : ∃ e, l[k]? = some e := ⟨l[k]'(by rw [HN.out]; exact hlt), List.getElem?_eq_getElem _⟩
      have hpw : Pls wr S A l := RdA.below HP.out HBW.out
      obtain ⟨b, o, rfl, hbl, c0, c1, c2, c3⟩ := hpw.elem he
      have d0 := hbx.cell 0
      have d1 := hbx.cell 1
      have d2 := hbx.cell 2
      have d3 := hbx.cell 3
      simp only [List.getElem?_toArray, List.getElem?_cons_zero, List.getElem?_cons_succ] at d0 d1 d2 d3
      have HE := Lib.hid he
      clear hpw hbx he
      have heq := fun W => run_eql31 x e W
      by_cases hq : x = e
      · subst hq
        have hqt : x.eqB x = true := (Plc.eqB_iff x x).2 rfl
        go_wp2
        go_quiet (fail)
        clear c0 c1 c2 c3 d0 d1 d2 d3
        go_wp2
        go_ret
        exact ⟨k, rfl, ⟨fun _ => List.mem_of_getElem? HE.out, fun _ => by omega⟩, belowN HBW.out _⟩
      · have hqf : x.eqB e = false := by
          cases hb : x.eqB e with
          | false => rfl
          | true => exact absurd ((Plc.eqB_iff x e).1 hb) hq
        go_wp2
        go_quiet (fail)
        clear c0 c1 c2 c3 d0 d1 d2 d3
        go_wp2
        go_roundw
        case rel =>
          refine ⟨k + 1, by omega, by go_num, belowN BW.out _, ?_⟩
          rw [List.take_add_one, HE.out]
          intro hm
          rcases List.mem_append.1 hm with h1 | h1
          · exact NO.out h1
          · simp at h1; exact hq h1
        case measure => simp [intOf]; omega
    · have hge : (n : Int) ≤ (k : Int) := by omega
      have hkn : k = n := by omega
      go_wp2
      go_ret
      refine ⟨-1, rfl, ⟨fun h => by omega, fun hm => ?_⟩, HBW.out⟩
      have := NO.out
      rw [List.take_of_length_le (by rw [HN.out]; omega)] at this
      exact absurd hm this
theorem Contains {w : World} {S : Nat → Prop} {A : Option Addr} {l : List Plc} (h : Pls w S A l) (hl : l.length ≤ 100000) (c : Nat) (x : Plc) : Calls Try.prog 32 #[.slice A l.length c, .agg #[.int .u32 x.h, .int .i64 x.p, .int .i64 x.id, .bool x.via]] w fun r w' => r = .returned (.bool (decide (x ∈ l))) ∧ Below w.heap.size w w' := by
  have HC := Lib.hid (Index_ (RdA.alloc h (.cells #[.int .u32 x.h, .int .i64 x.p, .int .i64 x.id, .bool x.via] 31)) hl c x)
  clear h
  by_cases hm : x ∈ l
  all_goals
    have HM := Lib.hid hm
    clear hm
    go_enter Try.func32, Try.ntmps32
    go_wp2_with (go_at_call 41; refine HC.out.mono ?_; rintro r w1 ⟨z, rfl, hz, hb1⟩; have HB1 := Lib.hid hb1; have HZ := Lib.hid hz; clear hb1 hz)
    go_ret
    refine ⟨ret_bool ?_, ((Below.refl _ w).alloc (Nat.le_refl _) _).trans (HB1.out.mono (by simp))⟩
    have h1 := HM.out
    have h2 := HZ.out
    rw [Bool.eq_iff_iff]
    simp [h1] at h2 ⊢
    omega
end Go.Proofs.Ythlhfhfhagfelaa
