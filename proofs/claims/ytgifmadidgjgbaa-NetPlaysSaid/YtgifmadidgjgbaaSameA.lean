/- Contracts of this seat: rows of bytes compared. No condition. -/
import Derived.Test.YtgifmadidgjgbaaOnce
set_option linter.unusedVariables false
set_option linter.unusedSimpArgs false
namespace Go.Proofs.Ytgifmadidgjgbaa
open Go.RowKit

theorem RdA.byte {w : World} {S : Nat → Prop} {A : Option Addr} {b : List UInt8} (h : RdA w S 1 A b.length (enc8 b)) {j : Nat} (hj : j < b.length) :
    ∃ g o, A = some ⟨g, o, none⟩ ∧ g < w.heap.size ∧ w.cell? ⟨g, o + j, none⟩ = some (.int .u8 ((b[j]'hj).toNat : Int)) := by
  obtain ⟨g, o, hA, _, hl, hc⟩ := h.2 (by omega)
  exact ⟨g, o, hA, hl, hc j _ (by simp [enc8, hj])⟩

set_option maxHeartbeats 800000 in
set_option maxRecDepth 100000 in
theorem Same01 {w : World} {S S' : Nat → Prop} {A A' : Option Addr} {b b' : List UInt8} (hr : RdA w S 1 A b.length (enc8 b)) (hr' : RdA w S' 1 A' b'.length (enc8 b')) (c c' : Nat) (hbl : b.length ≤ 100000) :
    Calls Try.prog 21 #[.slice A b.length c, .slice A' b'.length c'] w fun r w' => r = .returned (.bool (decide (b = b'))) ∧ ∃ m, w' = w.drewN m := by
  have H1 := Lib.hid hr
  have H2 := Lib.hid hr'
  clear hr hr'
  by_cases hlen : b.length = b'.length
  · rw [← hlen] at H2 ⊢
    have HL := Lib.hid hlen
    generalize hn : b.length = n at *
    have HN := Lib.hid hn
    clear hn hlen
    go_enter Try.func21, Try.ntmps21
    go_wp2
    go_loopw [5] (fun s5 wr => ∃ k : Nat, k ≤ n ∧ s5 = .int .i64 k ∧ Hid (∃ m, wr = w.drewN m) ∧ Hid (∀ j, j < k → b[j]? = b'[j]?)) (fun s _ => n - (intOf s).toNat)
    case atStart => exact ⟨0, Nat.zero_le _, rfl, ⟨0, rfl⟩, fun j hj => by omega⟩
    case round =>
      obtain ⟨k, hk, rfl, HW, HK⟩ := hrel
      by_cases hlt : k < n
      · obtain ⟨mm, hmm⟩ := HW.out
        have hb1 : k < b.length := by rw [HN.out]; exact hlt
        have hb2 : k < b'.length := by rw [← HL.out]; exact hlt
        have hr1 := H1.out
        have hr2 := H2.out
        rw [← HN.out] at hr1
        rw [← HN.out, HN.out.trans HL.out] at hr2
        obtain ⟨g, o, rfl, hg, hc⟩ := (hr1.same (w' := wr) (fun q _ _ => by rw [hmm]; rfl) (by rw [hmm]; exact Nat.le_refl _)).byte hb1
        obtain ⟨g', o', rfl, hg', hc'⟩ := (hr2.same (w' := wr) (fun q _ _ => by rw [hmm]; rfl) (by rw [hmm]; exact Nat.le_refl _)).byte hb2
        have hlt' : (k : Int) < (n : Int) := by omega
        have HMM := Lib.hid hmm
        have e1 : b[k]? = some (b[k]'hb1) := List.getElem?_eq_getElem hb1
        have e2 : b'[k]? = some (b'[k]'hb2) := List.getElem?_eq_getElem hb2
        clear hr1 hr2 hmm HW
        generalize b[k]'hb1 = x at *
        generalize b'[k]'hb2 = y at *
        have E1 := Lib.hid e1
        have E2 := Lib.hid e2
        clear e1 e2 hb1 hb2
        by_cases hxy : x = y
        · subst hxy
          go_wp2
          go_quiet (fail)
          go_wp2
          go_roundw
          case rel =>
            refine ⟨k + 1, by omega, by go_num, ⟨mm + nq, by rw [HMM.out, World.drewN_drewN]⟩, fun j hj => ?_⟩
            by_cases hjk : j = k
            · subst hjk; rw [E1.out, E2.out]
            · exact HK.out j (by omega)
          case measure => simp [intOf]; omega
        · have hne : ¬ ((x.toNat : Int) = (y.toNat : Int)) := fun h => hxy (by apply UInt8.toNat.inj; omega)
          go_wp2
          go_quiet (fail)
          go_wp2
          go_ret
          refine ⟨ret_bool (decide_eq_false fun h => hxy ?_).symm, ⟨mm + nq, by rw [HMM.out, World.drewN_drewN]⟩⟩
          have e1 := E1.out
          rw [h, E2.out] at e1
          injection e1 with e1
          exact e1.symm
      · obtain rfl : k = n := by omega
        go_wp2
        go_ret
        refine ⟨ret_bool (decide_eq_true ?_).symm, HW.out⟩
        apply List.ext_getElem?
        intro j
        by_cases hj : j < k
        · exact HK.out j hj
        · rw [List.getElem?_eq_none (by rw [HN.out]; omega), List.getElem?_eq_none (by rw [← HL.out]; omega)]
  · have hne : ¬ ((b.length : Int) = (b'.length : Int)) := by omega
    have hbb : decide (b = b') = false := decide_eq_false fun h => hlen (by rw [h])
    rw [hbb]
    generalize b.length = n at *
    generalize b'.length = n' at *
    go_enter Try.func21, Try.ntmps21
    go_wp2
    go_ret
    exact ⟨rfl, 0, rfl⟩
end Go.Proofs.Ytgifmadidgjgbaa
