/- Contracts of this seat: the reference's net: find, At. No condition. -/
import Derived.Test.YtgifmadidgjgbaaOnce
set_option linter.unusedVariables false
set_option linter.unusedSimpArgs false
namespace Go.Proofs.Ytgifmadidgjgbaa
open Go.RowKit

variable {w w' : World} {B : Nat} {S U : Nat → Prop} {v : Value} {l : List Ent} {last : Int}

set_option maxRecDepth 100000 in
theorem rfind (h : NetAt 50 w B S v l last) (no : Int) : Calls Try.prog 28 #[.pointer (some ⟨B, 0, none⟩), .int .i64 no] w fun r w' => r = .returned (.int .i64 (findNo l no 0)) ∧ w' = w := by
  obtain ⟨A, c, rfl, hnc, hcm⟩ := own_slice h.row
  have hc0 : w.cell? ⟨B, 0, none⟩ = some (.slice A l.length c) := h.blk.cell 0
  have hlen := h.len
  have HR := Lib.hid h.rd
  clear h
  generalize hn : l.length = n at *
  have Hn := Lib.hid hn
  clear hn
  go_enter Try.func28, Try.ntmps28
  go_wp2
  go_loopw [5] (fun s5 wr => ∃ k : Nat, k ≤ n ∧ s5 = .int .i64 k ∧ wr = w ∧ Hid (∀ j e, j < k → l[j]? = some e → e.x.no ≠ no)) (fun s _ => n - (intOf s).toNat)
  case atStart => exact ⟨0, Nat.zero_le _, rfl, rfl, fun j e hj => by omega⟩
  case round =>
    obtain ⟨k, hk, rfl, rfl, NO⟩ := hrel
    by_cases hlt : k < n
    · obtain ⟨b, o, rfl, hS, hbl, hcell⟩ := HR.out.elem hlt
      obtain ⟨e, he⟩ : ∃ e, l[k]? = some e := ⟨l[k]'(by rw [Hn.out]; exact hlt), List.getElem?_eq_getElem _⟩
      have c0 : wr.cell? ⟨b, o + k * 6, none⟩ = some (.int .i64 e.x.no) := by have := hcell 0 _ (cellsOf_at l k e he 0 (by omega)); exact this
      clear hcell
      have HE := Lib.hid he
      clear he
      have hlt' : (k : Int) < (n : Int) := by omega
      by_cases hq : e.x.no = no
      · have HQ := Lib.hid hq
        rw [hq] at c0
        clear hq
        go_wp2
        go_ret
        refine ⟨ret_int ?_, rfl⟩
        rw [findNo_skip l no 0 k NO.out, List.drop_eq_getElem_cons (by rw [Hn.out]; exact hlt)]
        have := HE.out
        rw [List.getElem?_eq_getElem (by rw [Hn.out]; exact hlt)] at this
        injection this with this
        rw [this, findNo, if_pos HQ.out]
        simp
      · have HQ := Lib.hid hq
        go_wp2
        go_roundw
        case rel =>
          refine ⟨k + 1, by omega, by go_num, trivial, fun j e' hj he' => ?_⟩
          by_cases e0 : j = k
          · subst e0
            have := HE.out
            rw [he'] at this
            injection this with this
            rw [this]; exact HQ.out
          · exact NO.out j e' (by omega) he'
        case measure => simp [intOf]; omega
    · have hge : (n : Int) ≤ (k : Int) := by omega
      have : k = n := by omega
      go_wp2
      go_ret
      refine ⟨ret_int ?_, rfl⟩
      rw [findNo_skip l no 0 k NO.out, List.drop_of_length_le (by rw [Hn.out]; omega)]
      rfl

set_option maxRecDepth 100000 in
theorem rAt_empty (h : NetAt 50 w B S v [] last) (p : Int) : Calls Try.prog 17 #[.pointer (some ⟨B, 0, none⟩), .int .i64 p] w fun r w' => r = .returned (.int .i64 0) ∧ w' = w := by
  obtain ⟨A, c, rfl, hnc, hcm⟩ := own_slice h.row
  have hc0 : w.cell? ⟨B, 0, none⟩ = some (.slice A 0 c) := h.blk.cell 0
  clear h
  go_enter Try.func17, Try.ntmps17
  go_wp2
  go_ret
  exact ⟨rfl, rfl⟩

theorem atIdx_ref (n : Nat) (p : Int) (hn : 0 < n) : (atIdx n p : Int) = if p.tmod n < 0 then p.tmod n + n else p.tmod n := by
  obtain ⟨b1, b2⟩ := tmod_bd p n hn
  unfold atIdx
  have h0 := Int.emod_nonneg (p.tmod n + n) (show (n : Int) ≠ 0 by omega)
  split
  · rw [Int.emod_eq_of_lt (by omega) (by omega)]
    omega
  · rw [Int.add_emod_right, Int.emod_eq_of_lt (by omega) (by omega)]
    omega

set_option maxHeartbeats 800000 in
set_option maxRecDepth 100000 in
theorem rAt (h : NetAt 50 w B S v l last) (p : Int) (hl : 0 < l.length) (e : Ent) (he : l[atIdx l.length p]? = some e) : Calls Try.prog 17 #[.pointer (some ⟨B, 0, none⟩), .int .i64 p] w fun r w' => r = .returned (.int .i64 e.x.no) ∧ w' = w := by
  obtain ⟨g, c, rfl, _, hgl⟩ := h.row.form hl
  have hc0 : w.cell? ⟨B, 0, none⟩ = some (.slice (some ⟨g, 0, none⟩) l.length c) := h.blk.cell 0
  have hlen := h.len
  obtain ⟨c0, _⟩ := h.elem he
  clear h he
  generalize l.length = n at *
  have hj := atIdx_ref n p hl
  have hjn := atIdx_lt n p hl
  obtain ⟨b1, b2⟩ := tmod_bd p n hl
  have hn0 : ¬ ((n : Int) = 0) := by omega
  have hn1 : n ≠ 0 := by omega
  generalize atIdx n p = j at *
  have hj1 : (j : Int) < (n : Int) := by omega
  have hj0 : (0 : Int) ≤ (j : Int) := by omega
  by_cases hneg : p.tmod (n : Int) < 0
  · rw [if_pos hneg] at hj
    have c0' : w.cell? ⟨g, (p.tmod n + n).toNat * 6, none⟩ = some (.int .i64 e.x.no) := by rw [show (p.tmod n + n).toNat = j by omega]; exact c0
    clear hj c0
    go_enter Try.func17, Try.ntmps17
    go_wp2
    go_ret
    exact ⟨rfl, rfl⟩
  · rw [if_neg hneg] at hj
    have c0' : w.cell? ⟨g, (p.tmod n).toNat * 6, none⟩ = some (.int .i64 e.x.no) := by rw [show (p.tmod (n : Int)).toNat = j by omega]; exact c0
    clear hj c0
    go_enter Try.func17, Try.ntmps17
    go_wp2
    go_ret
    exact ⟨rfl, rfl⟩
end Go.Proofs.Ytgifmadidgjgbaa
