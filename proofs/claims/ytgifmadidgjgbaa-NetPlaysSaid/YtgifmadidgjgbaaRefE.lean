/- Contracts of this seat: the reference's net: Take. No condition. -/
import Derived.Test.YtgifmadidgjgbaaRefD
set_option linter.unusedVariables false
set_option linter.unusedSimpArgs false
namespace Go.Proofs.Ytgifmadidgjgbaa
open Go.RowKit

variable {T : TypeId} {w w' : World} {B : Nat} {S U : Nat → Prop} {v : Value} {l : List Ent} {last : Int}

set_option maxRecDepth 100000 in
theorem rTakeMiss (h : NetAt 50 w B S v l last) (no : Int) (hf : findNo l no 0 = -1) : Calls Try.prog 18 #[.pointer (some ⟨B, 0, none⟩), .int .i64 no] w fun r w' => r = .returned (.tuple #[.agg #[.int .i64 0, .int .u32 0, .int .i64 0, .int .u32 0, .int .i64 0, .slice none 0 0], .int .i64 5]) ∧ Below w.heap.size w w' := by
  have hp := rplace (h.below (((Below.refl _ w).alloc (Nat.le_refl _) (.cells #[.int .i64 0, .int .u32 0, .int .i64 0, .int .u32 0, .int .i64 0, .slice none 0 0] 39)))) no
  rw [hf] at hp
  have HP := Lib.hid hp
  have hB := h.blk.lt
  have HN := Lib.hid h
  clear hp h hf
  go_enter Try.func18, Try.ntmps18
  go_wp2_with (go_at_call 28; refine HP.out.mono ?_; rintro r w1 ⟨rfl, hb1⟩; have hx1 := (Blk.new w 39 #[.int .i64 0, .int .u32 0, .int .i64 0, .int .u32 0, .int .i64 0, .slice none 0 0]).below hb1 (by simp); have q0 := hx1.cell 0; have q1 := hx1.cell 1; have q2 := hx1.cell 2; have q3 := hx1.cell 3; have q4 := hx1.cell 4; have q5 := hx1.cell 5; have z0 := hx1.frozen 0; have z1 := hx1.frozen 1; have z2 := hx1.frozen 2; have z3 := hx1.frozen 3; have z4 := hx1.frozen 4; have z5 := hx1.frozen 5; simp at q0 q1 q2 q3 q4 q5; have HB1 := Lib.hid hb1; have HX1 := Lib.hid hx1; clear hb1 hx1)
  change bodyPost _ _ _ _ _ (putL w1 w.heap.size 0 zero6)
  have hk := HX1.out.putAt zero6 rfl
  have hb2 : Below w.heap.size w (putL w1 w.heap.size 0 zero6) := below_putAt (((Below.refl _ w).alloc (Nat.le_refl _) _).trans (HB1.out.mono (by simp))) (Nat.le_refl _) _
  generalize putL w1 w.heap.size 0 zero6 = W at *
  clear q0 q1 q2 q3 q4 q5 z0 z1 z2 z3 z4 z5
  have p0 : W.cell? ⟨w.heap.size, 0, none⟩ = some (.int .i64 0) := hk.cell 0
  have p1 : W.cell? ⟨w.heap.size, 1, none⟩ = some (.int .u32 0) := hk.cell 1
  have p2 : W.cell? ⟨w.heap.size, 2, none⟩ = some (.int .i64 0) := hk.cell 2
  have p3 : W.cell? ⟨w.heap.size, 3, none⟩ = some (.int .u32 0) := hk.cell 3
  have p4 : W.cell? ⟨w.heap.size, 4, none⟩ = some (.int .i64 0) := hk.cell 4
  have p5 : W.cell? ⟨w.heap.size, 5, none⟩ = some (.slice none 0 0) := hk.cell 5
  refine bodyPost_ret (v := .tuple #[.agg #[.int .i64 0, .int .u32 0, .int .i64 0, .int .u32 0, .int .i64 0, .slice none 0 0], .int .i64 5]) (by simp [results, Try.results18, go_sem, p0, p1, p2, p3, p4, p5]) rfl ⟨rfl, hb2⟩

end Go.Proofs.Ytgifmadidgjgbaa
