/- Contracts of this seat: the reference's net: Copy. No condition. -/
import Derived.Test.YtgifmadidgjgbaaRefC
set_option linter.unusedVariables false
set_option linter.unusedSimpArgs false
namespace Go.Proofs.Ytgifmadidgjgbaa
open Go.RowKit

variable {T : TypeId} {w w' : World} {B : Nat} {S U : Nat → Prop} {v : Value} {l : List Ent} {last : Int}

theorem rplace (h : NetAt 50 w B S v l last) (no : Int) : Calls Try.prog 28 #[.pointer (some ⟨B, 0, none⟩), .int .i64 no] w fun r w' => r = .returned (.int .i64 (findNo l no 0)) ∧ Below w.heap.size w w' :=
  (rfind h no).mono fun r w' ⟨h1, h2⟩ => ⟨h1, by rw [h2]; exact Below.refl _ _⟩

set_option maxRecDepth 100000 in
theorem rCopy_miss (h : NetAt 50 w B S v l last) (no : Int) (hf : findNo l no 0 = -1) : Calls Try.prog 16 #[.pointer (some ⟨B, 0, none⟩), .int .i64 no] w fun r w' => r = .returned (.tuple #[.int .i64 0, .int .i64 5]) ∧ Below w.heap.size w w' := by
  have hp := rplace h no
  rw [hf] at hp
  have HP := Lib.hid hp
  clear h hf hp
  go_enter Try.func16, Try.ntmps16
  go_wp2_with (go_at_call 28; refine HP.out.mono ?_; rintro r w1 ⟨rfl, hb1⟩)
  go_ret2
  exact ⟨rfl, hb1⟩

set_option maxHeartbeats 800000 in
set_option maxRecDepth 100000 in
theorem rCopy_hit (h : NetAt 50 w B S v l last) (no : Int) (i : Nat) (e : Ent) (he : l[i]? = some e) (hf : findNo l no 0 = i) (Q : Ending → World → Prop)
    (hq : ∀ W, Below w.heap.size w W → Calls Try.prog 27 #[.pointer (some ⟨B, 0, none⟩), .agg #[.int .i64 e.x.no, .int .u32 e.x.fh, .int .i64 e.x.fp, .int .u32 e.x.th, .int .i64 e.x.tp, .slice e.A e.x.b.length e.c]] W fun r w' => ∃ a b : Int, r = .returned (.tuple #[.int .i64 a, .int .i64 b]) ∧ Q r w') :
    Calls Try.prog 16 #[.pointer (some ⟨B, 0, none⟩), .int .i64 no] w Q := by
  have hil : i < l.length := (List.getElem?_eq_some_iff.1 he).1
  obtain ⟨g, c, rfl, _, hgl⟩ := h.row.form (by omega)
  have hp := rplace h no
  rw [hf] at hp
  have HP := Lib.hid hp
  have HN := Lib.hid h
  have HE := Lib.hid he
  have HQ := Lib.hid hq
  have hi0 : ¬ (i : Int) < 0 := by omega
  clear h hf hp he hq
  generalize hn : l.length = n at *
  have Hn := Lib.hid hn
  clear hn
  have hi1 : (i : Int) < (n : Int) := by omega
  go_enter Try.func16, Try.ntmps16
  go_wp2_with (first | (go_at_call 28; refine HP.out.mono ?_; rintro r w1 ⟨rfl, hb1⟩; have hN1 := HN.out.below hb1; have q0 : w1.cell? ⟨B, 0, none⟩ = some (.slice (some ⟨g, 0, none⟩) n c) := hN1.blk.cell 0; obtain ⟨c0, c1, c2, c3, c4, c5⟩ := hN1.elem HE.out; have HB1 := Lib.hid hb1; clear hb1 hN1) | (go_at_call 27; refine (HQ.out _ HB1.out).mono ?_; rintro r w2 ⟨a, b, rfl, hh⟩))
  exact hh

theorem rCopy_full (h : NetAt 50 w B S v l last) (no : Int) (i : Nat) (e : Ent) (he : l[i]? = some e) (hf : findNo l no 0 = i) (hl : 300 ≤ l.length) :
    Calls Try.prog 16 #[.pointer (some ⟨B, 0, none⟩), .int .i64 no] w fun r w' => r = .returned (.tuple #[.int .i64 0, .int .i64 10]) ∧ Below w.heap.size w w' :=
  rCopy_hit h no i e he hf _ fun W hW => (rput_full (h.below hW) hl _ _ _ _ _ _).mono fun r w' ⟨hr, hb⟩ => ⟨0, 10, hr, hr, hW.trans (hb.mono hW.size)⟩

theorem rCopy_room (h : NetAt 50 w B S v l last) (no : Int) (i : Nat) (e : Ent) (he : l[i]? = some e) (hf : findNo l no 0 = i) (hl : l.length < 300) (hlast : last < 1000000) :
    Calls Try.prog 16 #[.pointer (some ⟨B, 0, none⟩), .int .i64 no] w (Put 50 w B S l last e.x) :=
  rCopy_hit h no i e he hf _ fun W hW => by
    obtain ⟨h1, h2, h3⟩ := h.byt e (List.mem_of_getElem? he)
    exact (rput_room (h.below hW) hl hlast e.x e.A e.c _ ((h1.ne h.blk (by decide)).below hW) (fun k hk => hk) h3 h2).mono fun r w' hh => ⟨last + 1, 0, hh.1, hh.of_below hW⟩

end Go.Proofs.Ytgifmadidgjgbaa
