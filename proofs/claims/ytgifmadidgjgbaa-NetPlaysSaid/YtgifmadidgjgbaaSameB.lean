/- Contracts of this seat: the reference's Same, at two that are the same. No condition. -/
import Derived.Test.YtgifmadidgjgbaaSameA
set_option linter.unusedVariables false
set_option linter.unusedSimpArgs false
namespace Go.Proofs.Ytgifmadidgjgbaa
open Go.RowKit

theorem Rd.dropA {w : World} {S : Nat → Prop} {size n : Nat} {g o : Nat} {xs : List Value} (h : RdA w S size (some ⟨g, o, none⟩) n xs) {k : Nat} (hk : k ≤ n) : RdA w S size (some ⟨g, o + k * size, none⟩) (n - k) (xs.drop (k * size)) := by
  refine ⟨by rw [List.length_drop, h.1, Nat.sub_mul], fun hn => ?_⟩
  obtain ⟨b, o', hA, hS, hl, hc⟩ := h.2 (by omega)
  injection hA with hA
  injection hA with h1 h2
  subst h1 h2
  refine ⟨g, o + k * size, rfl, hS, hl, fun j u hu => ?_⟩
  rw [Nat.add_assoc]
  exact hc _ u (by rw [List.getElem?_drop] at hu; exact hu)

set_option maxHeartbeats 800000 in
set_option maxRecDepth 100000 in
theorem SameR {w : World} {S S' : Nat → Prop} (x : Snt) {A A' : Option Addr} (hr : RdA w S 1 A x.b.length (enc8 x.b)) (hr' : RdA w S' 1 A' x.b.length (enc8 x.b)) (c c' : Nat) (hbl : x.b.length ≤ 100000) :
    Calls Try.prog 19 #[.agg #[.int .i64 x.no, .int .u32 x.fh, .int .i64 x.fp, .int .u32 x.th, .int .i64 x.tp, .slice A x.b.length c], .agg #[.int .i64 x.no, .int .u32 x.fh, .int .i64 x.fp, .int .u32 x.th, .int .i64 x.tp, .slice A' x.b.length c']] w
      fun r w' => r = .returned (.bool true) ∧ Below w.heap.size w w' := by
  have hcall := Same01 ((hr.alloc (.cells #[.int .i64 x.no, .int .u32 x.fh, .int .i64 x.fp, .int .u32 x.th, .int .i64 x.tp, .slice A x.b.length c] 39)).alloc (.cells #[.int .i64 x.no, .int .u32 x.fh, .int .i64 x.fp, .int .u32 x.th, .int .i64 x.tp, .slice A' x.b.length c'] 39))
    ((hr'.alloc (.cells #[.int .i64 x.no, .int .u32 x.fh, .int .i64 x.fp, .int .u32 x.th, .int .i64 x.tp, .slice A x.b.length c] 39)).alloc (.cells #[.int .i64 x.no, .int .u32 x.fh, .int .i64 x.fp, .int .u32 x.th, .int .i64 x.tp, .slice A' x.b.length c'] 39)) c c' hbl
  have HC := Lib.hid hcall
  clear hcall hr hr'
  go_enter Try.func19, Try.ntmps19
  go_wp2_with (go_at_call 21; refine HC.out.mono ?_; rintro r w1 ⟨rfl, m, rfl⟩)
  go_ret
  have hb := ((Below.refl w.heap.size w).alloc (Nat.le_refl _) (.cells #[.int .i64 x.no, .int .u32 x.fh, .int .i64 x.fp, .int .u32 x.th, .int .i64 x.tp, .slice A x.b.length c] 39)).alloc (by simp) (.cells #[.int .i64 x.no, .int .u32 x.fh, .int .i64 x.fp, .int .u32 x.th, .int .i64 x.tp, .slice A' x.b.length c'] 39)
  exact ⟨by simp, ⟨hb.os, hb.tape, hb.output, hb.size, hb.block⟩⟩
end Go.Proofs.Ytgifmadidgjgbaa
