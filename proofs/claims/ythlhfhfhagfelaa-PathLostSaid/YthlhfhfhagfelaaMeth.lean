/- The steps of a path, the program's and the reference's. No condition. -/
import Derived.Test.YthlhfhfhagfelaaStep
set_option linter.unusedVariables false
set_option linter.unusedSimpArgs false
namespace Go.Proofs.Ythlhfhfhagfelaa
open Go.RowKit

def zero4 : Obj := .cells #[.int .u32 0, .int .i64 0, .int .i64 0, .bool false] 31
theorem step_end {T : TypeId} {w w2 : World} {B : Nat} {A : Option Addr} {c : Nat} {ws : List Plc} {i : Nat} {s : Pth} {q : Res} {r : Ending} (h : WkAt T w B A c ws i s) (hs : Stepped T (w.alloc (.cells #[.int .u32 0, .int .i64 0, .int .i64 0, .bool false] 31)) B A c ws q r w2) :
    Blk w2 w.heap.size 31 #[.int .u32 0, .int .i64 0, .int .i64 0, .bool false] ∧ WkAt T (putL w2 w.heap.size 0 q.x.cells) B A c ws q.i q.s ∧ Upd (fun k => k = B) w (putL w2 w.heap.size 0 q.x.cells) ∧ Blk (putL w2 w.heap.size 0 q.x.cells) w.heap.size 31 q.x.cells.toArray := by
  obtain ⟨hr, hw, hu⟩ := hs
  have hB := h.blk.lt
  have hx : Blk w2 w.heap.size 31 #[.int .u32 0, .int .i64 0, .int .i64 0, .bool false] := (Blk.new w 31 _).upd hu (by show ¬ w.heap.size = B; omega)
  have hu2 : Upd (fun k => k = B) w (putL w2 w.heap.size 0 q.x.cells) := (((Upd.refl _ w).alloc _).trans hu (fun i _ h => h)).putAt (.inr (Nat.le_refl _)) _
  refine ⟨hx, h.upd hu2 ?_ hw.iz, hu2, hx.putAt q.x.cells rfl⟩
  show (putL w2 w.heap.size 0 q.x.cells).heap[B]? = _
  rw [putL_heap _ _ _ _ (by omega)]
  exact hw.blk
theorem tryF_i (ws : List Plc) (now : Int) (i : Nat) : (tryF ws now i).i = i := by
  unfold tryF
  split <;> rfl
/-- What a step that answers yes or no leaves. -/
def Nodded (T : TypeId) (w : World) (B : Nat) (A : Option Addr) (c : Nat) (ws : List Plc) (i : Nat) (q : Bool × Pth) (r : Ending) (w' : World) : Prop :=
  r = .returned (.bool q.1) ∧ WkAt T w' B A c ws i q.2 ∧ Upd (fun k => k = B) w w'
section
variable {w w' : World} {B : Nat} {A : Option Addr} {c : Nat} {ws : List Plc} {i : Nat} {s : Pth}
set_option maxHeartbeats 1600000 in
set_option maxRecDepth 100000 in
theorem Start_ (h : WkAt 51 w B A c ws i s) (now : Int) : Calls Try.prog 11 #[.pointer (some ⟨B, 0, none⟩), .int .i64 now] w (Stepped 51 w B A c ws (startF ws i s now)) := by
  have HW := Lib.hid h
  have hB := h.blk.lt
  have hb := h.blk
  have hl8 := h.len
  have hiz := h.iz
  obtain ⟨st, ⟨xh, xp, xid, xv⟩, nx⟩ := s
  simp only [wcells] at hb
  have q0 := hb.cell 0; have q1 := hb.cell 1; have q2 := hb.cell 2; have q3 := hb.cell 3; have q4 := hb.cell 4; have q5 := hb.cell 5; have q6 := hb.cell 6; have q7 := hb.cell 7
  have z2 := hb.frozen 2; have z3 := hb.frozen 3; have z4 := hb.frozen 4; have z5 := hb.frozen 5; have z6 := hb.frozen 6; have z7 := hb.frozen 7
  simp only [List.getElem?_toArray, List.getElem?_cons_zero, List.getElem?_cons_succ] at q0 q1 q2 q3 q4 q5 q6 q7
  have hne : B ≠ w.heap.size := by omega
  have hmt := fun W => MayTime now W
  have HMT := Lib.hid hmt
  clear hmt
  by_cases hg : mayT now ∧ (st = 0 ∨ st = 4)
  · have he : startF ws i ⟨st, ⟨xh, xp, xid, xv⟩, nx⟩ now = tryF ws now 0 := if_pos hg
    rw [he]
    obtain ⟨hg1, hg2⟩ := hg
    rcases hg2 with rfl | rfl
    · have htr := try_any (HW.out.below ((Below.refl _ w).alloc (Nat.le_refl _) (.cells #[.int .u32 0, .int .i64 0, .int .i64 0, .bool false] 31))) now hg1 0 (by omega)
      rw [show ((0 : Nat) : Int) = 0 from rfl] at htr
      have HTR := Lib.hid htr
      have HMT1 : Hid (∀ W, Calls Try.prog 25 #[.int .i64 now] W fun e w' => e = .returned (.bool true) ∧ w' = W) := fun W => by have := HMT.out W; rw [decide_eq_true (show 0 ≤ now ∧ now ≤ 1099511627776 from hg1)] at this; exact this
      generalize tryF ws now 0 = q at *
      clear h hb htr HMT
      generalize ws.length = n at *
      go_enter Try.func11, Try.ntmps11
      go_wp2_with (first | (go_at_call 25; refine (HMT1.out _).mono ?_; rintro r w1 ⟨rfl, rfl⟩) | (go_at_call 26; refine HTR.out.mono ?_; intro r w2 hs; obtain ⟨hx2, hwk, hup, hkk⟩ := step_end HW.out hs; obtain ⟨rfl, _, _⟩ := hs; have r0 := hx2.cell 0; have r1 := hx2.cell 1; have r2 := hx2.cell 2; have r3 := hx2.cell 3; have y0 := hx2.frozen 0; have y1 := hx2.frozen 1; have y2 := hx2.frozen 2; have y3 := hx2.frozen 3; simp only [List.getElem?_toArray, List.getElem?_cons_zero, List.getElem?_cons_succ] at r0 r1 r2 r3; have HWK := Lib.hid hwk; have HUP := Lib.hid hup; have HKK := Lib.hid hkk; clear hwk hup hkk hx2))
      change bodyPost _ _ _ _ _ (putL w2 w.heap.size 0 q.x.cells)
      generalize putL w2 w.heap.size 0 q.x.cells = W at *
      clear r0 r1 r2 r3 y0 y1 y2 y3
      have p0 : W.cell? ⟨w.heap.size, 0, none⟩ = some (.int .u32 q.x.h) := HKK.out.cell 0
      have p1 : W.cell? ⟨w.heap.size, 1, none⟩ = some (.int .i64 q.x.p) := HKK.out.cell 1
      have p2 : W.cell? ⟨w.heap.size, 2, none⟩ = some (.int .i64 q.x.id) := HKK.out.cell 2
      have p3 : W.cell? ⟨w.heap.size, 3, none⟩ = some (.bool q.x.via) := HKK.out.cell 3
      exact bodyPost_ret (v := .tuple #[.agg #[.int .u32 q.x.h, .int .i64 q.x.p, .int .i64 q.x.id, .bool q.x.via], .bool q.ok]) (by simp [results, Try.results11, go_sem, p0, p1, p2, p3]) rfl ⟨rfl, HWK.out, HUP.out⟩
    · have htr := try_any (HW.out.below ((Below.refl _ w).alloc (Nat.le_refl _) (.cells #[.int .u32 0, .int .i64 0, .int .i64 0, .bool false] 31))) now hg1 0 (by omega)
      rw [show ((0 : Nat) : Int) = 0 from rfl] at htr
      have HTR := Lib.hid htr
      have HMT1 : Hid (∀ W, Calls Try.prog 25 #[.int .i64 now] W fun e w' => e = .returned (.bool true) ∧ w' = W) := fun W => by have := HMT.out W; rw [decide_eq_true (show 0 ≤ now ∧ now ≤ 1099511627776 from hg1)] at this; exact this
      generalize tryF ws now 0 = q at *
      clear h hb htr HMT
      generalize ws.length = n at *
      go_enter Try.func11, Try.ntmps11
      go_wp2_with (first | (go_at_call 25; refine (HMT1.out _).mono ?_; rintro r w1 ⟨rfl, rfl⟩) | (go_at_call 26; refine HTR.out.mono ?_; intro r w2 hs; obtain ⟨hx2, hwk, hup, hkk⟩ := step_end HW.out hs; obtain ⟨rfl, _, _⟩ := hs; have r0 := hx2.cell 0; have r1 := hx2.cell 1; have r2 := hx2.cell 2; have r3 := hx2.cell 3; have y0 := hx2.frozen 0; have y1 := hx2.frozen 1; have y2 := hx2.frozen 2; have y3 := hx2.frozen 3; simp only [List.getElem?_toArray, List.getElem?_cons_zero, List.getElem?_cons_succ] at r0 r1 r2 r3; have HWK := Lib.hid hwk; have HUP := Lib.hid hup; have HKK := Lib.hid hkk; clear hwk hup hkk hx2))
      change bodyPost _ _ _ _ _ (putL w2 w.heap.size 0 q.x.cells)
      generalize putL w2 w.heap.size 0 q.x.cells = W at *
      clear r0 r1 r2 r3 y0 y1 y2 y3
      have p0 : W.cell? ⟨w.heap.size, 0, none⟩ = some (.int .u32 q.x.h) := HKK.out.cell 0
      have p1 : W.cell? ⟨w.heap.size, 1, none⟩ = some (.int .i64 q.x.p) := HKK.out.cell 1
      have p2 : W.cell? ⟨w.heap.size, 2, none⟩ = some (.int .i64 q.x.id) := HKK.out.cell 2
      have p3 : W.cell? ⟨w.heap.size, 3, none⟩ = some (.bool q.x.via) := HKK.out.cell 3
      exact bodyPost_ret (v := .tuple #[.agg #[.int .u32 q.x.h, .int .i64 q.x.p, .int .i64 q.x.id, .bool q.x.via], .bool q.ok]) (by simp [results, Try.results11, go_sem, p0, p1, p2, p3]) rfl ⟨rfl, HWK.out, HUP.out⟩
  · have he : startF ws i ⟨st, ⟨xh, xp, xid, xv⟩, nx⟩ now = ⟨Plc.zero, false, i, ⟨st, ⟨xh, xp, xid, xv⟩, nx⟩⟩ := if_neg hg
    rw [he]
    by_cases hm : mayT now
    · have HMT1 : Hid (∀ W, Calls Try.prog 25 #[.int .i64 now] W fun e w' => e = .returned (.bool true) ∧ w' = W) := fun W => by have := HMT.out W; rw [decide_eq_true (show 0 ≤ now ∧ now ≤ 1099511627776 from hm)] at this; exact this
      clear HMT
      have h1 : ¬ st = 0 := fun e => hg ⟨hm, .inl e⟩
      have h2 : ¬ st = 4 := fun e => hg ⟨hm, .inr e⟩
      have h1b : (st != 0) = true := bne_iff_ne.2 h1
      have h1c : (st == 0) = false := beq_eq_false_iff_ne.2 h1
      have h1d : decide (st = 0) = false := decide_eq_false h1
      have h2b : (st != 4) = true := bne_iff_ne.2 h2
      have h2c : (st == 4) = false := beq_eq_false_iff_ne.2 h2
      have h2d : decide (st = 4) = false := decide_eq_false h2
      clear hg hm
      clear h hb
      generalize ws.length = n at *
      go_enter Try.func11, Try.ntmps11
      go_wp2_with (go_at_call 25; refine (HMT1.out _).mono ?_; rintro r w1 ⟨rfl, rfl⟩)
      exact bodyPost_ret (v := .tuple #[.agg #[.int .u32 0, .int .i64 0, .int .i64 0, .bool false], .bool false]) (by simp [results, Try.results11, go_sem]) rfl ⟨rfl, HW.out.below ((Below.refl _ w).alloc (Nat.le_refl _) _), (Upd.refl _ _).alloc _⟩
    · have HMT1 : Hid (∀ W, Calls Try.prog 25 #[.int .i64 now] W fun e w' => e = .returned (.bool false) ∧ w' = W) := fun W => by have := HMT.out W; rw [decide_eq_false (show ¬ (0 ≤ now ∧ now ≤ 1099511627776) from hm)] at this; exact this
      clear HMT
      clear hg hm
      clear h hb
      generalize ws.length = n at *
      go_enter Try.func11, Try.ntmps11
      go_wp2_with (go_at_call 25; refine (HMT1.out _).mono ?_; rintro r w1 ⟨rfl, rfl⟩)
      exact bodyPost_ret (v := .tuple #[.agg #[.int .u32 0, .int .i64 0, .int .i64 0, .bool false], .bool false]) (by simp [results, Try.results11, go_sem]) rfl ⟨rfl, HW.out.below ((Below.refl _ w).alloc (Nat.le_refl _) _), (Upd.refl _ _).alloc _⟩
set_option maxHeartbeats 1600000 in
set_option maxRecDepth 100000 in
theorem Tick_ (h : WkAt 51 w B A c ws i s) (now : Int) (hi : i < 1000) : Calls Try.prog 13 #[.pointer (some ⟨B, 0, none⟩), .int .i64 now] w (Stepped 51 w B A c ws (tickF ws i s now)) := by
  have HW := Lib.hid h
  have hB := h.blk.lt
  have hb := h.blk
  have hl8 := h.len
  have hiz := h.iz
  obtain ⟨st, ⟨xh, xp, xid, xv⟩, nx⟩ := s
  simp only [wcells] at hb
  have q0 := hb.cell 0; have q1 := hb.cell 1; have q2 := hb.cell 2; have q3 := hb.cell 3; have q4 := hb.cell 4; have q5 := hb.cell 5; have q6 := hb.cell 6; have q7 := hb.cell 7
  have z2 := hb.frozen 2; have z3 := hb.frozen 3; have z4 := hb.frozen 4; have z5 := hb.frozen 5; have z6 := hb.frozen 6; have z7 := hb.frozen 7
  simp only [List.getElem?_toArray, List.getElem?_cons_zero, List.getElem?_cons_succ] at q0 q1 q2 q3 q4 q5 q6 q7
  have hne : B ≠ w.heap.size := by omega
  have hmt := fun W => MayTime now W
  have HMT := Lib.hid hmt
  clear hmt
  by_cases hg : mayT now ∧ st = 1 ∧ nx ≤ now
  · have he : tickF ws i ⟨st, ⟨xh, xp, xid, xv⟩, nx⟩ now = tryF ws now (i + 1) := if_pos hg
    rw [he]
    obtain ⟨hg1, rfl, hg3⟩ := hg
    have hg4 := hg1
    obtain ⟨hn0, hn1⟩ := hg1
    have htr := try_any (HW.out.below ((Below.refl _ w).alloc (Nat.le_refl _) (.cells #[.int .u32 0, .int .i64 0, .int .i64 0, .bool false] 31))) now hg4 (i + 1) (by omega)
    push_cast at htr
    have HTR := Lib.hid htr
    have HMT1 : Hid (∀ W, Calls Try.prog 25 #[.int .i64 now] W fun e w' => e = .returned (.bool true) ∧ w' = W) := fun W => by have := HMT.out W; rw [decide_eq_true (show 0 ≤ now ∧ now ≤ 1099511627776 from hg4)] at this; exact this
    generalize tryF ws now (i + 1) = q at *
    clear h hb htr HMT
    generalize ws.length = n at *
    go_enter Try.func13, Try.ntmps13
    go_wp2_with (first | (go_at_call 25; refine (HMT1.out _).mono ?_; rintro r w1 ⟨rfl, rfl⟩) | (go_at_call 26; refine HTR.out.mono ?_; intro r w2 hs; obtain ⟨hx2, hwk, hup, hkk⟩ := step_end HW.out hs; obtain ⟨rfl, _, _⟩ := hs; have r0 := hx2.cell 0; have r1 := hx2.cell 1; have r2 := hx2.cell 2; have r3 := hx2.cell 3; have y0 := hx2.frozen 0; have y1 := hx2.frozen 1; have y2 := hx2.frozen 2; have y3 := hx2.frozen 3; simp only [List.getElem?_toArray, List.getElem?_cons_zero, List.getElem?_cons_succ] at r0 r1 r2 r3; have HWK := Lib.hid hwk; have HUP := Lib.hid hup; have HKK := Lib.hid hkk; clear hwk hup hkk hx2))
    change bodyPost _ _ _ _ _ (putL w2 w.heap.size 0 q.x.cells)
    generalize putL w2 w.heap.size 0 q.x.cells = W at *
    clear r0 r1 r2 r3 y0 y1 y2 y3
    have p0 : W.cell? ⟨w.heap.size, 0, none⟩ = some (.int .u32 q.x.h) := HKK.out.cell 0
    have p1 : W.cell? ⟨w.heap.size, 1, none⟩ = some (.int .i64 q.x.p) := HKK.out.cell 1
    have p2 : W.cell? ⟨w.heap.size, 2, none⟩ = some (.int .i64 q.x.id) := HKK.out.cell 2
    have p3 : W.cell? ⟨w.heap.size, 3, none⟩ = some (.bool q.x.via) := HKK.out.cell 3
    exact bodyPost_ret (v := .tuple #[.agg #[.int .u32 q.x.h, .int .i64 q.x.p, .int .i64 q.x.id, .bool q.x.via], .bool q.ok]) (by simp [results, Try.results13, go_sem, p0, p1, p2, p3]) rfl ⟨rfl, HWK.out, HUP.out⟩
  · have he : tickF ws i ⟨st, ⟨xh, xp, xid, xv⟩, nx⟩ now = ⟨Plc.zero, false, i, ⟨st, ⟨xh, xp, xid, xv⟩, nx⟩⟩ := if_neg hg
    rw [he]
    by_cases hm : mayT now
    · have HMT1 : Hid (∀ W, Calls Try.prog 25 #[.int .i64 now] W fun e w' => e = .returned (.bool true) ∧ w' = W) := fun W => by have := HMT.out W; rw [decide_eq_true (show 0 ≤ now ∧ now ≤ 1099511627776 from hm)] at this; exact this
      clear HMT
      by_cases h1 : st = 1
      · have hnx : now < nx := by
          by_cases h3 : nx ≤ now
          · exact absurd ⟨hm, h1, h3⟩ hg
          · omega
        subst h1
        clear hg hm
        clear h hb
        generalize ws.length = n at *
        go_enter Try.func13, Try.ntmps13
        go_wp2_with (go_at_call 25; refine (HMT1.out _).mono ?_; rintro r w1 ⟨rfl, rfl⟩)
        exact bodyPost_ret (v := .tuple #[.agg #[.int .u32 0, .int .i64 0, .int .i64 0, .bool false], .bool false]) (by simp [results, Try.results13, go_sem]) rfl ⟨rfl, HW.out.below ((Below.refl _ w).alloc (Nat.le_refl _) _), (Upd.refl _ _).alloc _⟩
      · clear hg hm
        clear h hb
        generalize ws.length = n at *
        go_enter Try.func13, Try.ntmps13
        go_wp2_with (go_at_call 25; refine (HMT1.out _).mono ?_; rintro r w1 ⟨rfl, rfl⟩)
        exact bodyPost_ret (v := .tuple #[.agg #[.int .u32 0, .int .i64 0, .int .i64 0, .bool false], .bool false]) (by simp [results, Try.results13, go_sem]) rfl ⟨rfl, HW.out.below ((Below.refl _ w).alloc (Nat.le_refl _) _), (Upd.refl _ _).alloc _⟩
    · have HMT1 : Hid (∀ W, Calls Try.prog 25 #[.int .i64 now] W fun e w' => e = .returned (.bool false) ∧ w' = W) := fun W => by have := HMT.out W; rw [decide_eq_false (show ¬ (0 ≤ now ∧ now ≤ 1099511627776) from hm)] at this; exact this
      clear HMT
      clear hg hm
      clear h hb
      generalize ws.length = n at *
      go_enter Try.func13, Try.ntmps13
      go_wp2_with (go_at_call 25; refine (HMT1.out _).mono ?_; rintro r w1 ⟨rfl, rfl⟩)
      exact bodyPost_ret (v := .tuple #[.agg #[.int .u32 0, .int .i64 0, .int .i64 0, .bool false], .bool false]) (by simp [results, Try.results13, go_sem]) rfl ⟨rfl, HW.out.below ((Below.refl _ w).alloc (Nat.le_refl _) _), (Upd.refl _ _).alloc _⟩
set_option maxHeartbeats 1600000 in
set_option maxRecDepth 100000 in
theorem Lost_ (h : WkAt 51 w B A c ws i s) (now : Int) : Calls Try.prog 22 #[.pointer (some ⟨B, 0, none⟩), .int .i64 now] w (Stepped 51 w B A c ws (lostF ws i s now)) := by
  have HW := Lib.hid h
  have hB := h.blk.lt
  have hb := h.blk
  have hl8 := h.len
  have hiz := h.iz
  obtain ⟨st, ⟨xh, xp, xid, xv⟩, nx⟩ := s
  simp only [wcells] at hb
  have q0 := hb.cell 0; have q1 := hb.cell 1; have q2 := hb.cell 2; have q3 := hb.cell 3; have q4 := hb.cell 4; have q5 := hb.cell 5; have q6 := hb.cell 6; have q7 := hb.cell 7
  have z2 := hb.frozen 2; have z3 := hb.frozen 3; have z4 := hb.frozen 4; have z5 := hb.frozen 5; have z6 := hb.frozen 6; have z7 := hb.frozen 7
  simp only [List.getElem?_toArray, List.getElem?_cons_zero, List.getElem?_cons_succ] at q0 q1 q2 q3 q4 q5 q6 q7
  have hne : B ≠ w.heap.size := by omega
  have hmt := fun W => MayTime now W
  have HMT := Lib.hid hmt
  clear hmt
  by_cases hg : mayT now ∧ (st = 2 ∨ st = 3)
  · have he : lostF ws i ⟨st, ⟨xh, xp, xid, xv⟩, nx⟩ now = tryF ws now 0 := if_pos hg
    rw [he]
    obtain ⟨hg1, hg2⟩ := hg
    rcases hg2 with rfl | rfl
    · have htr := try_any (HW.out.below ((Below.refl _ w).alloc (Nat.le_refl _) (.cells #[.int .u32 0, .int .i64 0, .int .i64 0, .bool false] 31))) now hg1 0 (by omega)
      rw [show ((0 : Nat) : Int) = 0 from rfl] at htr
      have HTR := Lib.hid htr
      have HMT1 : Hid (∀ W, Calls Try.prog 25 #[.int .i64 now] W fun e w' => e = .returned (.bool true) ∧ w' = W) := fun W => by have := HMT.out W; rw [decide_eq_true (show 0 ≤ now ∧ now ≤ 1099511627776 from hg1)] at this; exact this
      generalize tryF ws now 0 = q at *
      clear h hb htr HMT
      generalize ws.length = n at *
      go_enter Try.func22, Try.ntmps22
      go_wp2_with (first | (go_at_call 25; refine (HMT1.out _).mono ?_; rintro r w1 ⟨rfl, rfl⟩) | (go_at_call 26; refine HTR.out.mono ?_; intro r w2 hs; obtain ⟨hx2, hwk, hup, hkk⟩ := step_end HW.out hs; obtain ⟨rfl, _, _⟩ := hs; have r0 := hx2.cell 0; have r1 := hx2.cell 1; have r2 := hx2.cell 2; have r3 := hx2.cell 3; have y0 := hx2.frozen 0; have y1 := hx2.frozen 1; have y2 := hx2.frozen 2; have y3 := hx2.frozen 3; simp only [List.getElem?_toArray, List.getElem?_cons_zero, List.getElem?_cons_succ] at r0 r1 r2 r3; have HWK := Lib.hid hwk; have HUP := Lib.hid hup; have HKK := Lib.hid hkk; clear hwk hup hkk hx2))
      change bodyPost _ _ _ _ _ (putL w2 w.heap.size 0 q.x.cells)
      generalize putL w2 w.heap.size 0 q.x.cells = W at *
      clear r0 r1 r2 r3 y0 y1 y2 y3
      have p0 : W.cell? ⟨w.heap.size, 0, none⟩ = some (.int .u32 q.x.h) := HKK.out.cell 0
      have p1 : W.cell? ⟨w.heap.size, 1, none⟩ = some (.int .i64 q.x.p) := HKK.out.cell 1
      have p2 : W.cell? ⟨w.heap.size, 2, none⟩ = some (.int .i64 q.x.id) := HKK.out.cell 2
      have p3 : W.cell? ⟨w.heap.size, 3, none⟩ = some (.bool q.x.via) := HKK.out.cell 3
      exact bodyPost_ret (v := .tuple #[.agg #[.int .u32 q.x.h, .int .i64 q.x.p, .int .i64 q.x.id, .bool q.x.via], .bool q.ok]) (by simp [results, Try.results22, go_sem, p0, p1, p2, p3]) rfl ⟨rfl, HWK.out, HUP.out⟩
    · have htr := try_any (HW.out.below ((Below.refl _ w).alloc (Nat.le_refl _) (.cells #[.int .u32 0, .int .i64 0, .int .i64 0, .bool false] 31))) now hg1 0 (by omega)
      rw [show ((0 : Nat) : Int) = 0 from rfl] at htr
      have HTR := Lib.hid htr
      have HMT1 : Hid (∀ W, Calls Try.prog 25 #[.int .i64 now] W fun e w' => e = .returned (.bool true) ∧ w' = W) := fun W => by have := HMT.out W; rw [decide_eq_true (show 0 ≤ now ∧ now ≤ 1099511627776 from hg1)] at this; exact this
      generalize tryF ws now 0 = q at *
      clear h hb htr HMT
      generalize ws.length = n at *
      go_enter Try.func22, Try.ntmps22
      go_wp2_with (first | (go_at_call 25; refine (HMT1.out _).mono ?_; rintro r w1 ⟨rfl, rfl⟩) | (go_at_call 26; refine HTR.out.mono ?_; intro r w2 hs; obtain ⟨hx2, hwk, hup, hkk⟩ := step_end HW.out hs; obtain ⟨rfl, _, _⟩ := hs; have r0 := hx2.cell 0; have r1 := hx2.cell 1; have r2 := hx2.cell 2; have r3 := hx2.cell 3; have y0 := hx2.frozen 0; have y1 := hx2.frozen 1; have y2 := hx2.frozen 2; have y3 := hx2.frozen 3; simp only [List.getElem?_toArray, List.getElem?_cons_zero, List.getElem?_cons_succ] at r0 r1 r2 r3; have HWK := Lib.hid hwk; have HUP := Lib.hid hup; have HKK := Lib.hid hkk; clear hwk hup hkk hx2))
      change bodyPost _ _ _ _ _ (putL w2 w.heap.size 0 q.x.cells)
      generalize putL w2 w.heap.size 0 q.x.cells = W at *
      clear r0 r1 r2 r3 y0 y1 y2 y3
      have p0 : W.cell? ⟨w.heap.size, 0, none⟩ = some (.int .u32 q.x.h) := HKK.out.cell 0
      have p1 : W.cell? ⟨w.heap.size, 1, none⟩ = some (.int .i64 q.x.p) := HKK.out.cell 1
      have p2 : W.cell? ⟨w.heap.size, 2, none⟩ = some (.int .i64 q.x.id) := HKK.out.cell 2
      have p3 : W.cell? ⟨w.heap.size, 3, none⟩ = some (.bool q.x.via) := HKK.out.cell 3
      exact bodyPost_ret (v := .tuple #[.agg #[.int .u32 q.x.h, .int .i64 q.x.p, .int .i64 q.x.id, .bool q.x.via], .bool q.ok]) (by simp [results, Try.results22, go_sem, p0, p1, p2, p3]) rfl ⟨rfl, HWK.out, HUP.out⟩
  · have he : lostF ws i ⟨st, ⟨xh, xp, xid, xv⟩, nx⟩ now = ⟨Plc.zero, false, i, ⟨st, ⟨xh, xp, xid, xv⟩, nx⟩⟩ := if_neg hg
    rw [he]
    by_cases hm : mayT now
    · have HMT1 : Hid (∀ W, Calls Try.prog 25 #[.int .i64 now] W fun e w' => e = .returned (.bool true) ∧ w' = W) := fun W => by have := HMT.out W; rw [decide_eq_true (show 0 ≤ now ∧ now ≤ 1099511627776 from hm)] at this; exact this
      clear HMT
      have h1 : ¬ st = 2 := fun e => hg ⟨hm, .inl e⟩
      have h2 : ¬ st = 3 := fun e => hg ⟨hm, .inr e⟩
      have h1b : (st != 2) = true := bne_iff_ne.2 h1
      have h1c : (st == 2) = false := beq_eq_false_iff_ne.2 h1
      have h1d : decide (st = 2) = false := decide_eq_false h1
      have h2b : (st != 3) = true := bne_iff_ne.2 h2
      have h2c : (st == 3) = false := beq_eq_false_iff_ne.2 h2
      have h2d : decide (st = 3) = false := decide_eq_false h2
      clear hg hm
      clear h hb
      generalize ws.length = n at *
      go_enter Try.func22, Try.ntmps22
      go_wp2_with (go_at_call 25; refine (HMT1.out _).mono ?_; rintro r w1 ⟨rfl, rfl⟩)
      exact bodyPost_ret (v := .tuple #[.agg #[.int .u32 0, .int .i64 0, .int .i64 0, .bool false], .bool false]) (by simp [results, Try.results22, go_sem]) rfl ⟨rfl, HW.out.below ((Below.refl _ w).alloc (Nat.le_refl _) _), (Upd.refl _ _).alloc _⟩
    · have HMT1 : Hid (∀ W, Calls Try.prog 25 #[.int .i64 now] W fun e w' => e = .returned (.bool false) ∧ w' = W) := fun W => by have := HMT.out W; rw [decide_eq_false (show ¬ (0 ≤ now ∧ now ≤ 1099511627776) from hm)] at this; exact this
      clear HMT
      clear hg hm
      clear h hb
      generalize ws.length = n at *
      go_enter Try.func22, Try.ntmps22
      go_wp2_with (go_at_call 25; refine (HMT1.out _).mono ?_; rintro r w1 ⟨rfl, rfl⟩)
      exact bodyPost_ret (v := .tuple #[.agg #[.int .u32 0, .int .i64 0, .int .i64 0, .bool false], .bool false]) (by simp [results, Try.results22, go_sem]) rfl ⟨rfl, HW.out.below ((Below.refl _ w).alloc (Nat.le_refl _) _), (Upd.refl _ _).alloc _⟩
set_option maxHeartbeats 1600000 in
set_option maxRecDepth 100000 in
theorem rStart_ (h : WkAt 42 w B A c ws i s) (now : Int) : Calls Try.prog 16 #[.pointer (some ⟨B, 0, none⟩), .int .i64 now] w (Stepped 42 w B A c ws (startF ws i s now)) := by
  have HW := Lib.hid h
  have hB := h.blk.lt
  have hb := h.blk
  have hl8 := h.len
  have hiz := h.iz
  obtain ⟨st, ⟨xh, xp, xid, xv⟩, nx⟩ := s
  simp only [wcells] at hb
  have q0 := hb.cell 0; have q1 := hb.cell 1; have q2 := hb.cell 2; have q3 := hb.cell 3; have q4 := hb.cell 4; have q5 := hb.cell 5; have q6 := hb.cell 6; have q7 := hb.cell 7
  have z2 := hb.frozen 2; have z3 := hb.frozen 3; have z4 := hb.frozen 4; have z5 := hb.frozen 5; have z6 := hb.frozen 6; have z7 := hb.frozen 7
  simp only [List.getElem?_toArray, List.getElem?_cons_zero, List.getElem?_cons_succ] at q0 q1 q2 q3 q4 q5 q6 q7
  have hne : B ≠ w.heap.size := by omega
  have hmt := fun W => RTime now W
  have HMT := Lib.hid hmt
  clear hmt
  by_cases hg : mayT now ∧ (st = 0 ∨ st = 4)
  · have he : startF ws i ⟨st, ⟨xh, xp, xid, xv⟩, nx⟩ now = tryF ws now 0 := if_pos hg
    rw [he]
    obtain ⟨hg1, hg2⟩ := hg
    rcases hg2 with rfl | rfl
    · have htr := rtry_any (HW.out.below ((Below.refl _ w).alloc (Nat.le_refl _) (.cells #[.int .u32 0, .int .i64 0, .int .i64 0, .bool false] 31))) now hg1 0 (by omega)
      rw [show ((0 : Nat) : Int) = 0 from rfl] at htr
      have HTR := Lib.hid htr
      have HMT1 : Hid (∀ W, Calls Try.prog 33 #[.int .i64 now] W fun e w' => e = .returned (.bool true) ∧ w' = W) := fun W => by have := HMT.out W; rw [decide_eq_true (show 0 ≤ now ∧ now ≤ 1099511627776 from hg1)] at this; exact this
      generalize tryF ws now 0 = q at *
      clear h hb htr HMT
      generalize ws.length = n at *
      go_enter Try.func16, Try.ntmps16
      go_wp2_with (first | (go_at_call 33; refine (HMT1.out _).mono ?_; rintro r w1 ⟨rfl, rfl⟩) | (go_at_call 34; refine HTR.out.mono ?_; intro r w2 hs; obtain ⟨hx2, hwk, hup, hkk⟩ := step_end HW.out hs; obtain ⟨rfl, _, _⟩ := hs; have r0 := hx2.cell 0; have r1 := hx2.cell 1; have r2 := hx2.cell 2; have r3 := hx2.cell 3; have y0 := hx2.frozen 0; have y1 := hx2.frozen 1; have y2 := hx2.frozen 2; have y3 := hx2.frozen 3; simp only [List.getElem?_toArray, List.getElem?_cons_zero, List.getElem?_cons_succ] at r0 r1 r2 r3; have HWK := Lib.hid hwk; have HUP := Lib.hid hup; have HKK := Lib.hid hkk; clear hwk hup hkk hx2))
      change bodyPost _ _ _ _ _ (putL w2 w.heap.size 0 q.x.cells)
      generalize putL w2 w.heap.size 0 q.x.cells = W at *
      clear r0 r1 r2 r3 y0 y1 y2 y3
      have p0 : W.cell? ⟨w.heap.size, 0, none⟩ = some (.int .u32 q.x.h) := HKK.out.cell 0
      have p1 : W.cell? ⟨w.heap.size, 1, none⟩ = some (.int .i64 q.x.p) := HKK.out.cell 1
      have p2 : W.cell? ⟨w.heap.size, 2, none⟩ = some (.int .i64 q.x.id) := HKK.out.cell 2
      have p3 : W.cell? ⟨w.heap.size, 3, none⟩ = some (.bool q.x.via) := HKK.out.cell 3
      exact bodyPost_ret (v := .tuple #[.agg #[.int .u32 q.x.h, .int .i64 q.x.p, .int .i64 q.x.id, .bool q.x.via], .bool q.ok]) (by simp [results, Try.results16, go_sem, p0, p1, p2, p3]) rfl ⟨rfl, HWK.out, HUP.out⟩
    · have htr := rtry_any (HW.out.below ((Below.refl _ w).alloc (Nat.le_refl _) (.cells #[.int .u32 0, .int .i64 0, .int .i64 0, .bool false] 31))) now hg1 0 (by omega)
      rw [show ((0 : Nat) : Int) = 0 from rfl] at htr
      have HTR := Lib.hid htr
      have HMT1 : Hid (∀ W, Calls Try.prog 33 #[.int .i64 now] W fun e w' => e = .returned (.bool true) ∧ w' = W) := fun W => by have := HMT.out W; rw [decide_eq_true (show 0 ≤ now ∧ now ≤ 1099511627776 from hg1)] at this; exact this
      generalize tryF ws now 0 = q at *
      clear h hb htr HMT
      generalize ws.length = n at *
      go_enter Try.func16, Try.ntmps16
      go_wp2_with (first | (go_at_call 33; refine (HMT1.out _).mono ?_; rintro r w1 ⟨rfl, rfl⟩) | (go_at_call 34; refine HTR.out.mono ?_; intro r w2 hs; obtain ⟨hx2, hwk, hup, hkk⟩ := step_end HW.out hs; obtain ⟨rfl, _, _⟩ := hs; have r0 := hx2.cell 0; have r1 := hx2.cell 1; have r2 := hx2.cell 2; have r3 := hx2.cell 3; have y0 := hx2.frozen 0; have y1 := hx2.frozen 1; have y2 := hx2.frozen 2; have y3 := hx2.frozen 3; simp only [List.getElem?_toArray, List.getElem?_cons_zero, List.getElem?_cons_succ] at r0 r1 r2 r3; have HWK := Lib.hid hwk; have HUP := Lib.hid hup; have HKK := Lib.hid hkk; clear hwk hup hkk hx2))
      change bodyPost _ _ _ _ _ (putL w2 w.heap.size 0 q.x.cells)
      generalize putL w2 w.heap.size 0 q.x.cells = W at *
      clear r0 r1 r2 r3 y0 y1 y2 y3
      have p0 : W.cell? ⟨w.heap.size, 0, none⟩ = some (.int .u32 q.x.h) := HKK.out.cell 0
      have p1 : W.cell? ⟨w.heap.size, 1, none⟩ = some (.int .i64 q.x.p) := HKK.out.cell 1
      have p2 : W.cell? ⟨w.heap.size, 2, none⟩ = some (.int .i64 q.x.id) := HKK.out.cell 2
      have p3 : W.cell? ⟨w.heap.size, 3, none⟩ = some (.bool q.x.via) := HKK.out.cell 3
      exact bodyPost_ret (v := .tuple #[.agg #[.int .u32 q.x.h, .int .i64 q.x.p, .int .i64 q.x.id, .bool q.x.via], .bool q.ok]) (by simp [results, Try.results16, go_sem, p0, p1, p2, p3]) rfl ⟨rfl, HWK.out, HUP.out⟩
  · have he : startF ws i ⟨st, ⟨xh, xp, xid, xv⟩, nx⟩ now = ⟨Plc.zero, false, i, ⟨st, ⟨xh, xp, xid, xv⟩, nx⟩⟩ := if_neg hg
    rw [he]
    by_cases hm : mayT now
    · have HMT1 : Hid (∀ W, Calls Try.prog 33 #[.int .i64 now] W fun e w' => e = .returned (.bool true) ∧ w' = W) := fun W => by have := HMT.out W; rw [decide_eq_true (show 0 ≤ now ∧ now ≤ 1099511627776 from hm)] at this; exact this
      clear HMT
      have h1 : ¬ st = 0 := fun e => hg ⟨hm, .inl e⟩
      have h2 : ¬ st = 4 := fun e => hg ⟨hm, .inr e⟩
      have h1b : (st != 0) = true := bne_iff_ne.2 h1
      have h1c : (st == 0) = false := beq_eq_false_iff_ne.2 h1
      have h1d : decide (st = 0) = false := decide_eq_false h1
      have h2b : (st != 4) = true := bne_iff_ne.2 h2
      have h2c : (st == 4) = false := beq_eq_false_iff_ne.2 h2
      have h2d : decide (st = 4) = false := decide_eq_false h2
      clear hg hm
      clear h hb
      generalize ws.length = n at *
      go_enter Try.func16, Try.ntmps16
      go_wp2_with (go_at_call 33; refine (HMT1.out _).mono ?_; rintro r w1 ⟨rfl, rfl⟩)
      exact bodyPost_ret (v := .tuple #[.agg #[.int .u32 0, .int .i64 0, .int .i64 0, .bool false], .bool false]) (by simp [results, Try.results16, go_sem]) rfl ⟨rfl, HW.out.below ((Below.refl _ w).alloc (Nat.le_refl _) _), (Upd.refl _ _).alloc _⟩
    · have HMT1 : Hid (∀ W, Calls Try.prog 33 #[.int .i64 now] W fun e w' => e = .returned (.bool false) ∧ w' = W) := fun W => by have := HMT.out W; rw [decide_eq_false (show ¬ (0 ≤ now ∧ now ≤ 1099511627776) from hm)] at this; exact this
      clear HMT
      clear hg hm
      clear h hb
      generalize ws.length = n at *
      go_enter Try.func16, Try.ntmps16
      go_wp2_with (go_at_call 33; refine (HMT1.out _).mono ?_; rintro r w1 ⟨rfl, rfl⟩)
      exact bodyPost_ret (v := .tuple #[.agg #[.int .u32 0, .int .i64 0, .int .i64 0, .bool false], .bool false]) (by simp [results, Try.results16, go_sem]) rfl ⟨rfl, HW.out.below ((Below.refl _ w).alloc (Nat.le_refl _) _), (Upd.refl _ _).alloc _⟩
set_option maxHeartbeats 1600000 in
set_option maxRecDepth 100000 in
theorem rTick_ (h : WkAt 42 w B A c ws i s) (now : Int) (hi : i < 1000) : Calls Try.prog 17 #[.pointer (some ⟨B, 0, none⟩), .int .i64 now] w (Stepped 42 w B A c ws (tickF ws i s now)) := by
  have HW := Lib.hid h
  have hB := h.blk.lt
  have hb := h.blk
  have hl8 := h.len
  have hiz := h.iz
  obtain ⟨st, ⟨xh, xp, xid, xv⟩, nx⟩ := s
  simp only [wcells] at hb
  have q0 := hb.cell 0; have q1 := hb.cell 1; have q2 := hb.cell 2; have q3 := hb.cell 3; have q4 := hb.cell 4; have q5 := hb.cell 5; have q6 := hb.cell 6; have q7 := hb.cell 7
  have z2 := hb.frozen 2; have z3 := hb.frozen 3; have z4 := hb.frozen 4; have z5 := hb.frozen 5; have z6 := hb.frozen 6; have z7 := hb.frozen 7
  simp only [List.getElem?_toArray, List.getElem?_cons_zero, List.getElem?_cons_succ] at q0 q1 q2 q3 q4 q5 q6 q7
  have hne : B ≠ w.heap.size := by omega
  have hmt := fun W => RTime now W
  have HMT := Lib.hid hmt
  clear hmt
  by_cases hg : mayT now ∧ st = 1 ∧ nx ≤ now
  · have he : tickF ws i ⟨st, ⟨xh, xp, xid, xv⟩, nx⟩ now = tryF ws now (i + 1) := if_pos hg
    rw [he]
    obtain ⟨hg1, rfl, hg3⟩ := hg
    have hg4 := hg1
    obtain ⟨hn0, hn1⟩ := hg1
    have htr := rtry_any (HW.out.below ((Below.refl _ w).alloc (Nat.le_refl _) (.cells #[.int .u32 0, .int .i64 0, .int .i64 0, .bool false] 31))) now hg4 (i + 1) (by omega)
    push_cast at htr
    have HTR := Lib.hid htr
    have HMT1 : Hid (∀ W, Calls Try.prog 33 #[.int .i64 now] W fun e w' => e = .returned (.bool true) ∧ w' = W) := fun W => by have := HMT.out W; rw [decide_eq_true (show 0 ≤ now ∧ now ≤ 1099511627776 from hg4)] at this; exact this
    generalize tryF ws now (i + 1) = q at *
    clear h hb htr HMT
    generalize ws.length = n at *
    go_enter Try.func17, Try.ntmps17
    go_wp2_with (first | (go_at_call 33; refine (HMT1.out _).mono ?_; rintro r w1 ⟨rfl, rfl⟩) | (go_at_call 34; refine HTR.out.mono ?_; intro r w2 hs; obtain ⟨hx2, hwk, hup, hkk⟩ := step_end HW.out hs; obtain ⟨rfl, _, _⟩ := hs; have r0 := hx2.cell 0; have r1 := hx2.cell 1; have r2 := hx2.cell 2; have r3 := hx2.cell 3; have y0 := hx2.frozen 0; have y1 := hx2.frozen 1; have y2 := hx2.frozen 2; have y3 := hx2.frozen 3; simp only [List.getElem?_toArray, List.getElem?_cons_zero, List.getElem?_cons_succ] at r0 r1 r2 r3; have HWK := Lib.hid hwk; have HUP := Lib.hid hup; have HKK := Lib.hid hkk; clear hwk hup hkk hx2))
    change bodyPost _ _ _ _ _ (putL w2 w.heap.size 0 q.x.cells)
    generalize putL w2 w.heap.size 0 q.x.cells = W at *
    clear r0 r1 r2 r3 y0 y1 y2 y3
    have p0 : W.cell? ⟨w.heap.size, 0, none⟩ = some (.int .u32 q.x.h) := HKK.out.cell 0
    have p1 : W.cell? ⟨w.heap.size, 1, none⟩ = some (.int .i64 q.x.p) := HKK.out.cell 1
    have p2 : W.cell? ⟨w.heap.size, 2, none⟩ = some (.int .i64 q.x.id) := HKK.out.cell 2
    have p3 : W.cell? ⟨w.heap.size, 3, none⟩ = some (.bool q.x.via) := HKK.out.cell 3
    exact bodyPost_ret (v := .tuple #[.agg #[.int .u32 q.x.h, .int .i64 q.x.p, .int .i64 q.x.id, .bool q.x.via], .bool q.ok]) (by simp [results, Try.results17, go_sem, p0, p1, p2, p3]) rfl ⟨rfl, HWK.out, HUP.out⟩
  · have he : tickF ws i ⟨st, ⟨xh, xp, xid, xv⟩, nx⟩ now = ⟨Plc.zero, false, i, ⟨st, ⟨xh, xp, xid, xv⟩, nx⟩⟩ := if_neg hg
    rw [he]
    by_cases hm : mayT now
    · have HMT1 : Hid (∀ W, Calls Try.prog 33 #[.int .i64 now] W fun e w' => e = .returned (.bool true) ∧ w' = W) := fun W => by have := HMT.out W; rw [decide_eq_true (show 0 ≤ now ∧ now ≤ 1099511627776 from hm)] at this; exact this
      clear HMT
      by_cases h1 : st = 1
      · have hnx : now < nx := by
          by_cases h3 : nx ≤ now
          · exact absurd ⟨hm, h1, h3⟩ hg
          · omega
        subst h1
        clear hg hm
        clear h hb
        generalize ws.length = n at *
        go_enter Try.func17, Try.ntmps17
        go_wp2_with (go_at_call 33; refine (HMT1.out _).mono ?_; rintro r w1 ⟨rfl, rfl⟩)
        exact bodyPost_ret (v := .tuple #[.agg #[.int .u32 0, .int .i64 0, .int .i64 0, .bool false], .bool false]) (by simp [results, Try.results17, go_sem]) rfl ⟨rfl, HW.out.below ((Below.refl _ w).alloc (Nat.le_refl _) _), (Upd.refl _ _).alloc _⟩
      · clear hg hm
        clear h hb
        generalize ws.length = n at *
        go_enter Try.func17, Try.ntmps17
        go_wp2_with (go_at_call 33; refine (HMT1.out _).mono ?_; rintro r w1 ⟨rfl, rfl⟩)
        exact bodyPost_ret (v := .tuple #[.agg #[.int .u32 0, .int .i64 0, .int .i64 0, .bool false], .bool false]) (by simp [results, Try.results17, go_sem]) rfl ⟨rfl, HW.out.below ((Below.refl _ w).alloc (Nat.le_refl _) _), (Upd.refl _ _).alloc _⟩
    · have HMT1 : Hid (∀ W, Calls Try.prog 33 #[.int .i64 now] W fun e w' => e = .returned (.bool false) ∧ w' = W) := fun W => by have := HMT.out W; rw [decide_eq_false (show ¬ (0 ≤ now ∧ now ≤ 1099511627776) from hm)] at this; exact this
      clear HMT
      clear hg hm
      clear h hb
      generalize ws.length = n at *
      go_enter Try.func17, Try.ntmps17
      go_wp2_with (go_at_call 33; refine (HMT1.out _).mono ?_; rintro r w1 ⟨rfl, rfl⟩)
      exact bodyPost_ret (v := .tuple #[.agg #[.int .u32 0, .int .i64 0, .int .i64 0, .bool false], .bool false]) (by simp [results, Try.results17, go_sem]) rfl ⟨rfl, HW.out.below ((Below.refl _ w).alloc (Nat.le_refl _) _), (Upd.refl _ _).alloc _⟩
set_option maxHeartbeats 1600000 in
set_option maxRecDepth 100000 in
theorem rLost_ (h : WkAt 42 w B A c ws i s) (now : Int) : Calls Try.prog 23 #[.pointer (some ⟨B, 0, none⟩), .int .i64 now] w (Stepped 42 w B A c ws (lostF ws i s now)) := by
  have HW := Lib.hid h
  have hB := h.blk.lt
  have hb := h.blk
  have hl8 := h.len
  have hiz := h.iz
  obtain ⟨st, ⟨xh, xp, xid, xv⟩, nx⟩ := s
  simp only [wcells] at hb
  have q0 := hb.cell 0; have q1 := hb.cell 1; have q2 := hb.cell 2; have q3 := hb.cell 3; have q4 := hb.cell 4; have q5 := hb.cell 5; have q6 := hb.cell 6; have q7 := hb.cell 7
  have z2 := hb.frozen 2; have z3 := hb.frozen 3; have z4 := hb.frozen 4; have z5 := hb.frozen 5; have z6 := hb.frozen 6; have z7 := hb.frozen 7
  simp only [List.getElem?_toArray, List.getElem?_cons_zero, List.getElem?_cons_succ] at q0 q1 q2 q3 q4 q5 q6 q7
  have hne : B ≠ w.heap.size := by omega
  have hmt := fun W => RTime now W
  have HMT := Lib.hid hmt
  clear hmt
  by_cases hg : mayT now ∧ (st = 2 ∨ st = 3)
  · have he : lostF ws i ⟨st, ⟨xh, xp, xid, xv⟩, nx⟩ now = tryF ws now 0 := if_pos hg
    rw [he]
    obtain ⟨hg1, hg2⟩ := hg
    rcases hg2 with rfl | rfl
    · have htr := rtry_any (HW.out.below ((Below.refl _ w).alloc (Nat.le_refl _) (.cells #[.int .u32 0, .int .i64 0, .int .i64 0, .bool false] 31))) now hg1 0 (by omega)
      rw [show ((0 : Nat) : Int) = 0 from rfl] at htr
      have HTR := Lib.hid htr
      have HMT1 : Hid (∀ W, Calls Try.prog 33 #[.int .i64 now] W fun e w' => e = .returned (.bool true) ∧ w' = W) := fun W => by have := HMT.out W; rw [decide_eq_true (show 0 ≤ now ∧ now ≤ 1099511627776 from hg1)] at this; exact this
      generalize tryF ws now 0 = q at *
      clear h hb htr HMT
      generalize ws.length = n at *
      go_enter Try.func23, Try.ntmps23
      go_wp2_with (first | (go_at_call 33; refine (HMT1.out _).mono ?_; rintro r w1 ⟨rfl, rfl⟩) | (go_at_call 34; refine HTR.out.mono ?_; intro r w2 hs; obtain ⟨hx2, hwk, hup, hkk⟩ := step_end HW.out hs; obtain ⟨rfl, _, _⟩ := hs; have r0 := hx2.cell 0; have r1 := hx2.cell 1; have r2 := hx2.cell 2; have r3 := hx2.cell 3; have y0 := hx2.frozen 0; have y1 := hx2.frozen 1; have y2 := hx2.frozen 2; have y3 := hx2.frozen 3; simp only [List.getElem?_toArray, List.getElem?_cons_zero, List.getElem?_cons_succ] at r0 r1 r2 r3; have HWK := Lib.hid hwk; have HUP := Lib.hid hup; have HKK := Lib.hid hkk; clear hwk hup hkk hx2))
      change bodyPost _ _ _ _ _ (putL w2 w.heap.size 0 q.x.cells)
      generalize putL w2 w.heap.size 0 q.x.cells = W at *
      clear r0 r1 r2 r3 y0 y1 y2 y3
      have p0 : W.cell? ⟨w.heap.size, 0, none⟩ = some (.int .u32 q.x.h) := HKK.out.cell 0
      have p1 : W.cell? ⟨w.heap.size, 1, none⟩ = some (.int .i64 q.x.p) := HKK.out.cell 1
      have p2 : W.cell? ⟨w.heap.size, 2, none⟩ = some (.int .i64 q.x.id) := HKK.out.cell 2
      have p3 : W.cell? ⟨w.heap.size, 3, none⟩ = some (.bool q.x.via) := HKK.out.cell 3
      exact bodyPost_ret (v := .tuple #[.agg #[.int .u32 q.x.h, .int .i64 q.x.p, .int .i64 q.x.id, .bool q.x.via], .bool q.ok]) (by simp [results, Try.results23, go_sem, p0, p1, p2, p3]) rfl ⟨rfl, HWK.out, HUP.out⟩
    · have htr := rtry_any (HW.out.below ((Below.refl _ w).alloc (Nat.le_refl _) (.cells #[.int .u32 0, .int .i64 0, .int .i64 0, .bool false] 31))) now hg1 0 (by omega)
      rw [show ((0 : Nat) : Int) = 0 from rfl] at htr
      have HTR := Lib.hid htr
      have HMT1 : Hid (∀ W, Calls Try.prog 33 #[.int .i64 now] W fun e w' => e = .returned (.bool true) ∧ w' = W) := fun W => by have := HMT.out W; rw [decide_eq_true (show 0 ≤ now ∧ now ≤ 1099511627776 from hg1)] at this; exact this
      generalize tryF ws now 0 = q at *
      clear h hb htr HMT
      generalize ws.length = n at *
      go_enter Try.func23, Try.ntmps23
      go_wp2_with (first | (go_at_call 33; refine (HMT1.out _).mono ?_; rintro r w1 ⟨rfl, rfl⟩) | (go_at_call 34; refine HTR.out.mono ?_; intro r w2 hs; obtain ⟨hx2, hwk, hup, hkk⟩ := step_end HW.out hs; obtain ⟨rfl, _, _⟩ := hs; have r0 := hx2.cell 0; have r1 := hx2.cell 1; have r2 := hx2.cell 2; have r3 := hx2.cell 3; have y0 := hx2.frozen 0; have y1 := hx2.frozen 1; have y2 := hx2.frozen 2; have y3 := hx2.frozen 3; simp only [List.getElem?_toArray, List.getElem?_cons_zero, List.getElem?_cons_succ] at r0 r1 r2 r3; have HWK := Lib.hid hwk; have HUP := Lib.hid hup; have HKK := Lib.hid hkk; clear hwk hup hkk hx2))
      change bodyPost _ _ _ _ _ (putL w2 w.heap.size 0 q.x.cells)
      generalize putL w2 w.heap.size 0 q.x.cells = W at *
      clear r0 r1 r2 r3 y0 y1 y2 y3
      have p0 : W.cell? ⟨w.heap.size, 0, none⟩ = some (.int .u32 q.x.h) := HKK.out.cell 0
      have p1 : W.cell? ⟨w.heap.size, 1, none⟩ = some (.int .i64 q.x.p) := HKK.out.cell 1
      have p2 : W.cell? ⟨w.heap.size, 2, none⟩ = some (.int .i64 q.x.id) := HKK.out.cell 2
      have p3 : W.cell? ⟨w.heap.size, 3, none⟩ = some (.bool q.x.via) := HKK.out.cell 3
      exact bodyPost_ret (v := .tuple #[.agg #[.int .u32 q.x.h, .int .i64 q.x.p, .int .i64 q.x.id, .bool q.x.via], .bool q.ok]) (by simp [results, Try.results23, go_sem, p0, p1, p2, p3]) rfl ⟨rfl, HWK.out, HUP.out⟩
  · have he : lostF ws i ⟨st, ⟨xh, xp, xid, xv⟩, nx⟩ now = ⟨Plc.zero, false, i, ⟨st, ⟨xh, xp, xid, xv⟩, nx⟩⟩ := if_neg hg
    rw [he]
    by_cases hm : mayT now
    · have HMT1 : Hid (∀ W, Calls Try.prog 33 #[.int .i64 now] W fun e w' => e = .returned (.bool true) ∧ w' = W) := fun W => by have := HMT.out W; rw [decide_eq_true (show 0 ≤ now ∧ now ≤ 1099511627776 from hm)] at this; exact this
      clear HMT
      have h1 : ¬ st = 2 := fun e => hg ⟨hm, .inl e⟩
      have h2 : ¬ st = 3 := fun e => hg ⟨hm, .inr e⟩
      have h1b : (st != 2) = true := bne_iff_ne.2 h1
      have h1c : (st == 2) = false := beq_eq_false_iff_ne.2 h1
      have h1d : decide (st = 2) = false := decide_eq_false h1
      have h2b : (st != 3) = true := bne_iff_ne.2 h2
      have h2c : (st == 3) = false := beq_eq_false_iff_ne.2 h2
      have h2d : decide (st = 3) = false := decide_eq_false h2
      clear hg hm
      clear h hb
      generalize ws.length = n at *
      go_enter Try.func23, Try.ntmps23
      go_wp2_with (go_at_call 33; refine (HMT1.out _).mono ?_; rintro r w1 ⟨rfl, rfl⟩)
      exact bodyPost_ret (v := .tuple #[.agg #[.int .u32 0, .int .i64 0, .int .i64 0, .bool false], .bool false]) (by simp [results, Try.results23, go_sem]) rfl ⟨rfl, HW.out.below ((Below.refl _ w).alloc (Nat.le_refl _) _), (Upd.refl _ _).alloc _⟩
    · have HMT1 : Hid (∀ W, Calls Try.prog 33 #[.int .i64 now] W fun e w' => e = .returned (.bool false) ∧ w' = W) := fun W => by have := HMT.out W; rw [decide_eq_false (show ¬ (0 ≤ now ∧ now ≤ 1099511627776) from hm)] at this; exact this
      clear HMT
      clear hg hm
      clear h hb
      generalize ws.length = n at *
      go_enter Try.func23, Try.ntmps23
      go_wp2_with (go_at_call 33; refine (HMT1.out _).mono ?_; rintro r w1 ⟨rfl, rfl⟩)
      exact bodyPost_ret (v := .tuple #[.agg #[.int .u32 0, .int .i64 0, .int .i64 0, .bool false], .bool false]) (by simp [results, Try.results23, go_sem]) rfl ⟨rfl, HW.out.below ((Below.refl _ w).alloc (Nat.le_refl _) _), (Upd.refl _ _).alloc _⟩
end
end Go.Proofs.Ythlhfhfhagfelaa
