/- Contracts of this seat: Copy, At. No condition. -/
import Derived.Test.YtgifmadidgjgbaaWalkG
set_option linter.unusedVariables false
set_option linter.unusedSimpArgs false
namespace Go.Proofs.Ytgifmadidgjgbaa
open Go.RowKit

variable {T : TypeId} {w w' : World} {B : Nat} {S U : Nat → Prop} {v : Value} {l : List Ent} {last : Int}

set_option maxRecDepth 100000 in
theorem Copy_miss (h : NetAt 59 w B S v l last) (no : Int) (hf : findNo l no 0 = -1) : Calls Try.prog 11 #[.pointer (some ⟨B, 0, none⟩), .int .i64 no] w fun r w' => r = .returned (.tuple #[.int .i64 0, .int .i64 5]) ∧ Below w.heap.size w w' := by
  have hp := place h no
  rw [hf] at hp
  have HP := Lib.hid hp
  clear h hf hp
  go_enter Try.func11, Try.ntmps11
  go_wp2_with (go_at_call 24; refine HP.out.mono ?_; rintro r w1 ⟨rfl, hb1⟩)
  go_ret2
  exact ⟨rfl, hb1⟩

set_option maxHeartbeats 800000 in
set_option maxRecDepth 100000 in
theorem Copy_hit (h : NetAt 59 w B S v l last) (no : Int) (i : Nat) (e : Ent) (he : l[i]? = some e) (hf : findNo l no 0 = i) (Q : Ending → World → Prop)
    (hq : ∀ W, Below w.heap.size w W → Calls Try.prog 23 #[.pointer (some ⟨B, 0, none⟩), .agg #[.int .i64 e.x.no, .int .u32 e.x.fh, .int .i64 e.x.fp, .int .u32 e.x.th, .int .i64 e.x.tp, .slice e.A e.x.b.length e.c]] W fun r w' => ∃ a b : Int, r = .returned (.tuple #[.int .i64 a, .int .i64 b]) ∧ Q r w') :
    Calls Try.prog 11 #[.pointer (some ⟨B, 0, none⟩), .int .i64 no] w Q := by
  have hil : i < l.length := (List.getElem?_eq_some_iff.1 he).1
  obtain ⟨g, c, rfl, _, hgl⟩ := h.row.form (by omega)
  have hp := place h no
  rw [hf] at hp
  have HP := Lib.hid hp
  have HN := Lib.hid h
  have HE := Lib.hid he
  have HQ := Lib.hid hq
  have hi0 : ¬ (i : Int) < 0 := by omega
  clear h hf hp he hq
  generalize hn : l.length = n at *
  have Hn := Lib.hid hn
  clear hn
  have hi1 : (i : Int) < (n : Int) := by omega
  go_enter Try.func11, Try.ntmps11
  go_wp2_with (first | (go_at_call 24; refine HP.out.mono ?_; rintro r w1 ⟨rfl, hb1⟩; have hN1 := HN.out.below hb1; have q0 : w1.cell? ⟨B, 0, none⟩ = some (.slice (some ⟨g, 0, none⟩) n c) := hN1.blk.cell 0; obtain ⟨c0, c1, c2, c3, c4, c5⟩ := hN1.elem HE.out; have HB1 := Lib.hid hb1; clear hb1 hN1) | (go_at_call 23; refine (HQ.out _ HB1.out).mono ?_; rintro r w2 ⟨a, b, rfl, hh⟩))
  exact hh

theorem Copy_full (h : NetAt 59 w B S v l last) (no : Int) (i : Nat) (e : Ent) (he : l[i]? = some e) (hf : findNo l no 0 = i) (hl : 300 ≤ l.length) :
    Calls Try.prog 11 #[.pointer (some ⟨B, 0, none⟩), .int .i64 no] w fun r w' => r = .returned (.tuple #[.int .i64 0, .int .i64 10]) ∧ Below w.heap.size w w' :=
  Copy_hit h no i e he hf _ fun W hW => (put_full (h.below hW) hl _ _ _ _ _ _).mono fun r w' ⟨hr, hb⟩ => ⟨0, 10, hr, hr, hW.trans (hb.mono hW.size)⟩

theorem Copy_room (h : NetAt 59 w B S v l last) (no : Int) (i : Nat) (e : Ent) (he : l[i]? = some e) (hf : findNo l no 0 = i) (hl : l.length < 300) (hlast : last < 1000000) :
    Calls Try.prog 11 #[.pointer (some ⟨B, 0, none⟩), .int .i64 no] w (Put 59 w B S l last e.x) :=
  Copy_hit h no i e he hf _ fun W hW => by
    obtain ⟨h1, h2, h3⟩ := h.byt e (List.mem_of_getElem? he)
    exact (put_room (h.below hW) hl hlast e.x e.A e.c _ ((h1.ne h.blk (by decide)).below hW) (fun k hk => hk) h3 h2).mono fun r w' hh => ⟨last + 1, 0, hh.1, hh.of_below hW⟩

set_option maxRecDepth 100000 in
theorem At_empty (h : NetAt 59 w B S v [] last) (p : Int) : Calls Try.prog 14 #[.pointer (some ⟨B, 0, none⟩), .int .i64 p] w fun r w' => r = .returned (.int .i64 0) ∧ w' = w := by
  obtain ⟨A, c, rfl, hnc, hcm⟩ := own_slice h.row
  have hc0 : w.cell? ⟨B, 0, none⟩ = some (.slice A 0 c) := h.blk.cell 0
  clear h
  go_enter Try.func14, Try.ntmps14
  go_wp2
  go_ret
  exact ⟨rfl, rfl⟩

/-- The place that is asked for, going round. -/
def atIdx (n : Nat) (p : Int) : Nat := ((p.tmod n + n) % n).toNat
theorem tmod_bd (p : Int) (n : Nat) (hn : 0 < n) : -(n : Int) < p.tmod n ∧ p.tmod n < n := by
  constructor
  · have := Int.lt_tmod_of_pos p (b := (n : Int)) (by omega); omega
  · exact Int.tmod_lt_of_pos p (by omega)

theorem atIdx_lt (n : Nat) (p : Int) (hn : 0 < n) : atIdx n p < n := by
  unfold atIdx
  have h0 := Int.emod_nonneg (p.tmod n + n) (show (n : Int) ≠ 0 by omega)
  have h1 := Int.emod_lt_of_pos (p.tmod n + n) (show (0 : Int) < n by omega)
  omega
theorem atIdx_eq (n : Nat) (p : Int) (hn : 0 < n) (hl : n ≤ 300) : (IntKind.i64.wrap (p.tmod n + n)).tmod n = (atIdx n p : Int) := by
  obtain ⟨b1, b2⟩ := tmod_bd p n hn
  rw [IntWalk.i64_in _ (by omega), Int.tmod_eq_emod_of_nonneg (by omega)]
  unfold atIdx
  have h0 := Int.emod_nonneg (p.tmod n + n) (show (n : Int) ≠ 0 by omega)
  omega

set_option maxHeartbeats 800000 in
set_option maxRecDepth 100000 in
theorem At_ (h : NetAt 59 w B S v l last) (p : Int) (hl : 0 < l.length) (e : Ent) (he : l[atIdx l.length p]? = some e) : Calls Try.prog 14 #[.pointer (some ⟨B, 0, none⟩), .int .i64 p] w fun r w' => r = .returned (.int .i64 e.x.no) ∧ Below w.heap.size w w' := by
  obtain ⟨g, c, rfl, _, hgl⟩ := h.row.form hl
  have hc0 : w.cell? ⟨B, 0, none⟩ = some (.slice (some ⟨g, 0, none⟩) l.length c) := h.blk.cell 0
  have hlen := h.len
  obtain ⟨c0, _⟩ := h.elem he
  clear h he
  generalize l.length = n at *
  have hj := atIdx_eq n p hl hlen
  have hjn := atIdx_lt n p hl
  have hn0 : ¬ ((n : Int) = 0) := by omega
  have hn1 : n ≠ 0 := by omega
  generalize atIdx n p = j at *
  have hj1 : (j : Int) < (n : Int) := by omega
  have hj0 : (0 : Int) ≤ (j : Int) := by omega
  have HJ := Lib.hid hj
  clear hj
  go_enter Try.func14, Try.ntmps14
  go_wp2
  have hj := HJ.out
  go_quiet (fail)
  clear hj
  go_wp2
  go_ret
  exact ⟨rfl, ⟨rfl, rfl, rfl, Nat.le_refl _, fun _ _ => rfl⟩⟩
end Go.Proofs.Ytgifmadidgjgbaa
