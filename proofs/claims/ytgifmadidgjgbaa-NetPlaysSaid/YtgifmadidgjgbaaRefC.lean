/- Contracts of this seat: the reference's net: Send. No condition. -/
import Derived.Test.YtgifmadidgjgbaaRefB
set_option linter.unusedVariables false
set_option linter.unusedSimpArgs false
namespace Go.Proofs.Ytgifmadidgjgbaa
open Go.RowKit

variable {T : TypeId} {w w' : World} {B : Nat} {S U : Nat → Prop} {v : Value} {l : List Ent} {last : Int}

set_option maxRecDepth 100000 in
theorem rSend_bad (w : World) (p : Option Addr) (fh fp th tp : Int) (hf0 : 0 ≤ fh) (ht0 : 0 ≤ th) (A : Option Addr) (n c : Nat) (h : mayB fh fp = false ∨ mayB th tp = false ∨ 1200 < n) :
    Calls Try.prog 15 #[.pointer p, .agg #[.int .u32 fh, .int .i64 fp], .agg #[.int .u32 th, .int .i64 tp], .slice A n c] w fun r w' => r = .returned (.tuple #[.int .i64 0, .int .i64 1]) ∧ Below w.heap.size w w' := by
  have hb0 : Below w.heap.size w ((w.alloc (.cells #[.int .u32 fh, .int .i64 fp] 30)).alloc (.cells #[.int .u32 th, .int .i64 tp] 30)) := ((Below.refl _ w).alloc (Nat.le_refl _) _).alloc (by simp) _
  cases hm : mayB fh fp with
  | false =>
    clear h
    go_enter Try.func15, Try.ntmps15
    go_wp2_with (go_at_call 26; refine (RefMay _ _ _ (by assumption)).mono ?_; rintro r w1 ⟨rfl, hb1⟩; replace hb0 := hb0.trans (hb1.mono hb0.size); clear hb1)
    go_ret2
    exact ⟨rfl, hb0⟩
  | true =>
    cases hm2 : mayB th tp with
    | false =>
      clear h
      go_enter Try.func15, Try.ntmps15
      go_wp2_with (go_at_call 26; refine (RefMay _ _ _ (by assumption)).mono ?_; rintro r w1 ⟨rfl, hb1⟩; obtain ⟨hc1, hf1⟩ := bcell hb1; replace hb0 := hb0.trans (hb1.mono hb0.size); clear hb1)
      go_ret2
      exact ⟨rfl, hb0⟩
    | true =>
      have hn : 1200 < n := by simpa [hm, hm2] using h
      clear h
      have hn' : (1200 : Int) < (n : Int) := by omega
      go_enter Try.func15, Try.ntmps15
      go_wp2_with (go_at_call 26; refine (RefMay _ _ _ (by assumption)).mono ?_; rintro r w1 ⟨rfl, hb1⟩; obtain ⟨hc1, hf1⟩ := bcell hb1; replace hb0 := hb0.trans (hb1.mono hb0.size); clear hb1)
      go_ret2
      exact ⟨rfl, hb0⟩

set_option maxHeartbeats 800000 in
set_option maxRecDepth 100000 in
theorem rSend_full (h : NetAt 50 w B S v l last) (hf : 300 ≤ l.length) (fh fp th tp : Int) (hf0 : 0 ≤ fh) (ht0 : 0 ≤ th) (A : Option Addr) (n c : Nat) (hm : mayB fh fp = true) (hm2 : mayB th tp = true) (hn : n ≤ 1200) :
    Calls Try.prog 15 #[.pointer (some ⟨B, 0, none⟩), .agg #[.int .u32 fh, .int .i64 fp], .agg #[.int .u32 th, .int .i64 tp], .slice A n c] w fun r w' => r = .returned (.tuple #[.int .i64 0, .int .i64 10]) ∧ Below w.heap.size w w' := by
  have hb0 : Below w.heap.size w ((w.alloc (.cells #[.int .u32 fh, .int .i64 fp] 30)).alloc (.cells #[.int .u32 th, .int .i64 tp] 30)) := ((Below.refl _ w).alloc (Nat.le_refl _) _).alloc (by simp) _
  have F0 := (Blk.new w 30 #[.int .u32 fh, .int .i64 fp]).alloc (.cells #[.int .u32 th, .int .i64 tp] 30)
  have F1 := Blk.new (w.alloc (.cells #[.int .u32 fh, .int .i64 fp] 30)) 30 #[.int .u32 th, .int .i64 tp]
  rw [World.size_alloc] at F1
  have hn' : (n : Int) ≤ 1200 := by omega
  have HN := Lib.hid h
  have HF := Lib.hid hf
  clear h hf
  go_enter Try.func15, Try.ntmps15
  go_wp2_with (first | (go_at_call 26; refine (RefMay _ _ _ (by assumption)).mono ?_; rintro r w1 ⟨rfl, hb1⟩; replace F0 := F0.below hb1 F0.lt; replace F1 := F1.below hb1 F1.lt; have f00 := F0.cell 0; have f01 := F0.cell 1; have f10 := F1.cell 0; have f11 := F1.cell 1; simp at f00 f01 f10 f11; replace hb0 := hb0.trans (hb1.mono hb0.size); clear hb1) | (go_at_call 27; refine (rput_full (HN.out.below hb0) HF.out _ _ _ _ _ _).mono ?_; rintro r w1 ⟨rfl, hb1⟩; replace hb0 := hb0.trans (hb1.mono hb0.size); clear hb1))
  go_ret2
  exact ⟨rfl, hb0⟩

set_option maxHeartbeats 800000 in
set_option maxRecDepth 100000 in
theorem rSend_room (h : NetAt 50 w B S v l last) (hf : l.length < 300) (hlast : last < 1000000) (x : Snt) (A : Option Addr) (c : Nat) (S0 : Nat → Prop) (hr : RdA w S0 1 A x.b.length (enc8 x.b)) (hS0 : ∀ k, S0 k → k ≠ B) (hn : x.b.length ≤ 1200) (hcc : x.b.length ≤ c)
    (hm : mayB x.fh x.fp = true) (hm2 : mayB x.th x.tp = true) (h0 : x.no = 0) (hf0 : 0 ≤ x.fh) (ht0 : 0 ≤ x.th) :
    Calls Try.prog 15 #[.pointer (some ⟨B, 0, none⟩), .agg #[.int .u32 x.fh, .int .i64 x.fp], .agg #[.int .u32 x.th, .int .i64 x.tp], .slice A x.b.length c] w (Put 50 w B S l last x) := by
  have hb0 : Below w.heap.size w ((w.alloc (.cells #[.int .u32 x.fh, .int .i64 x.fp] 30)).alloc (.cells #[.int .u32 x.th, .int .i64 x.tp] 30)) := ((Below.refl _ w).alloc (Nat.le_refl _) _).alloc (by simp) _
  have F0 := (Blk.new w 30 #[.int .u32 x.fh, .int .i64 x.fp]).alloc (.cells #[.int .u32 x.th, .int .i64 x.tp] 30)
  have F1 := Blk.new (w.alloc (.cells #[.int .u32 x.fh, .int .i64 x.fp] 30)) 30 #[.int .u32 x.th, .int .i64 x.tp]
  rw [World.size_alloc] at F1
  have hn' : (x.b.length : Int) ≤ 1200 := by omega
  have HN := Lib.hid h
  have HF := Lib.hid hf
  have HR := Lib.hid hr
  have H0 := Lib.hid h0
  have hput : ∀ W, Below w.heap.size w W → Calls Try.prog 27 #[.pointer (some ⟨B, 0, none⟩), .agg #[.int .i64 0, .int .u32 x.fh, .int .i64 x.fp, .int .u32 x.th, .int .i64 x.tp, .slice A x.b.length c]] W (Put 50 w B S l last x) := fun W hW => by
    have := rput_room (HN.out.below hW) HF.out hlast x A c S0 (HR.out.below hW) hS0 hn hcc
    rw [H0.out] at this
    exact this.mono fun _ _ hh => hh.of_below hW
  have HP := Lib.hid hput
  clear h hf hr h0 hput
  go_enter Try.func15, Try.ntmps15
  go_wp2_with (first | (go_at_call 26; refine (RefMay _ _ _ (by assumption)).mono ?_; rintro r w1 ⟨rfl, hb1⟩; replace F0 := F0.below hb1 F0.lt; replace F1 := F1.below hb1 F1.lt; have f00 := F0.cell 0; have f01 := F0.cell 1; have f10 := F1.cell 0; have f11 := F1.cell 1; simp at f00 f01 f10 f11; replace hb0 := hb0.trans (hb1.mono hb0.size); clear hb1) | (go_at_call 27; refine (HP.out _ hb0).mono ?_; rintro r w1 ⟨rfl, hh⟩))
  go_ret2
  exact ⟨rfl, hh⟩
end Go.Proofs.Ytgifmadidgjgbaa
