/- The steps of a path that answer yes or no; its state. No condition. -/
import Derived.Test.YthlhfhfhagfelaaMeth
set_option linter.unusedVariables false
set_option linter.unusedSimpArgs false
namespace Go.Proofs.Ythlhfhfhagfelaa
open Go.RowKit
section
variable {w w' : World} {B : Nat} {A : Option Addr} {c : Nat} {ws : List Plc} {i : Nat} {s : Pth}
set_option maxHeartbeats 1600000 in
set_option maxRecDepth 100000 in
theorem Open_ (h : WkAt 51 w B A c ws i s) (now : Int) : Calls Try.prog 18 #[.pointer (some ⟨B, 0, none⟩), .int .i64 now] w (Nodded 51 w B A c ws i (openF s now)) := by
  have HW := Lib.hid h
  have hB := h.blk.lt
  have hb := h.blk
  have hl8 := h.len
  have hiz := h.iz
  obtain ⟨st, ⟨xh, xp, xid, xv⟩, nx⟩ := s
  simp only [wcells] at hb
  have q0 := hb.cell 0; have q1 := hb.cell 1; have q2 := hb.cell 2; have q3 := hb.cell 3; have q4 := hb.cell 4; have q5 := hb.cell 5; have q6 := hb.cell 6; have q7 := hb.cell 7
  have z2 := hb.frozen 2; have z3 := hb.frozen 3; have z4 := hb.frozen 4; have z5 := hb.frozen 5; have z6 := hb.frozen 6; have z7 := hb.frozen 7
  simp only [List.getElem?_toArray, List.getElem?_cons_zero, List.getElem?_cons_succ] at q0 q1 q2 q3 q4 q5 q6 q7
  have hne : B ≠ w.heap.size := by omega
  have hmt := fun W => MayTime now W
  have HMT := Lib.hid hmt
  clear hmt
  by_cases hg : mayT now ∧ st = 1
  · obtain ⟨hm, rfl⟩ := hg
    have HMT1 : Hid (∀ W, Calls Try.prog 25 #[.int .i64 now] W fun e w' => e = .returned (.bool true) ∧ w' = W) := fun W => by have := HMT.out W; rw [decide_eq_true (show 0 ≤ now ∧ now ≤ 1099511627776 from hm)] at this; exact this
    clear HMT
    have he : openF ⟨1, ⟨xh, xp, xid, xv⟩, nx⟩ now = (true, ⟨if xv then 3 else 2, ⟨xh, xp, xid, xv⟩, 0⟩) := if_pos ⟨hm, rfl⟩
    rw [he]
    have HBB := Lib.hid hb
    cases xv
    · clear h hb hm he
      go_enter Try.func18, Try.ntmps18
      go_wp2_with (go_at_call 25; refine (HMT1.out _).mono ?_; rintro r w1 ⟨rfl, rfl⟩)
      go_ret
      have hb := HBB.out
      have b7 := ((hb.set_ 2 (.int .i64 2)).set_ 7 (.int .i64 0))
      simp only [List.setIfInBounds_toArray, List.set_cons_succ, List.set_cons_zero] at b7
      have hu := (((Upd.refl (fun k => k = B) w1).setCell (p := ⟨B, 2, none⟩) (.inl rfl) (.int .i64 2)).setCell (p := ⟨B, 7, none⟩) (.inl rfl) (.int .i64 0))
      exact ⟨rfl, HW.out.upd hu b7 HW.out.iz, hu⟩
    · clear h hb hm he
      go_enter Try.func18, Try.ntmps18
      go_wp2_with (go_at_call 25; refine (HMT1.out _).mono ?_; rintro r w1 ⟨rfl, rfl⟩)
      go_ret
      have hb := HBB.out
      have b7 := (((hb.set_ 2 (.int .i64 2)).set_ 7 (.int .i64 0)).set_ 2 (.int .i64 3))
      simp only [List.setIfInBounds_toArray, List.set_cons_succ, List.set_cons_zero] at b7
      have hu := ((((Upd.refl (fun k => k = B) w1).setCell (p := ⟨B, 2, none⟩) (.inl rfl) (.int .i64 2)).setCell (p := ⟨B, 7, none⟩) (.inl rfl) (.int .i64 0)).setCell (p := ⟨B, 2, none⟩) (.inl rfl) (.int .i64 3))
      exact ⟨rfl, HW.out.upd hu b7 HW.out.iz, hu⟩
  · have he : openF ⟨st, ⟨xh, xp, xid, xv⟩, nx⟩ now = (false, ⟨st, ⟨xh, xp, xid, xv⟩, nx⟩) := if_neg hg
    rw [he]
    by_cases hm : mayT now
    · have h1 : ¬ st = 1 := fun e => hg ⟨hm, e⟩
      have HMT1 : Hid (∀ W, Calls Try.prog 25 #[.int .i64 now] W fun e w' => e = .returned (.bool true) ∧ w' = W) := fun W => by have := HMT.out W; rw [decide_eq_true (show 0 ≤ now ∧ now ≤ 1099511627776 from hm)] at this; exact this
      clear HMT
      clear h hb hm hg
      go_enter Try.func18, Try.ntmps18
      go_wp2_with (go_at_call 25; refine (HMT1.out _).mono ?_; rintro r w1 ⟨rfl, rfl⟩)
      go_ret
      exact ⟨rfl, HW.out, Upd.refl _ _⟩
    · have HMT1 : Hid (∀ W, Calls Try.prog 25 #[.int .i64 now] W fun e w' => e = .returned (.bool false) ∧ w' = W) := fun W => by have := HMT.out W; rw [decide_eq_false (show ¬ (0 ≤ now ∧ now ≤ 1099511627776) from hm)] at this; exact this
      clear HMT
      clear h hb hm hg
      go_enter Try.func18, Try.ntmps18
      go_wp2_with (go_at_call 25; refine (HMT1.out _).mono ?_; rintro r w1 ⟨rfl, rfl⟩)
      go_ret
      exact ⟨rfl, HW.out, Upd.refl _ _⟩
set_option maxHeartbeats 1600000 in
set_option maxRecDepth 100000 in
theorem rOpen_ (h : WkAt 42 w B A c ws i s) (now : Int) : Calls Try.prog 19 #[.pointer (some ⟨B, 0, none⟩), .int .i64 now] w (Nodded 42 w B A c ws i (openF s now)) := by
  have HW := Lib.hid h
  have hB := h.blk.lt
  have hb := h.blk
  have hl8 := h.len
  have hiz := h.iz
  obtain ⟨st, ⟨xh, xp, xid, xv⟩, nx⟩ := s
  simp only [wcells] at hb
  have q0 := hb.cell 0; have q1 := hb.cell 1; have q2 := hb.cell 2; have q3 := hb.cell 3; have q4 := hb.cell 4; have q5 := hb.cell 5; have q6 := hb.cell 6; have q7 := hb.cell 7
  have z2 := hb.frozen 2; have z3 := hb.frozen 3; have z4 := hb.frozen 4; have z5 := hb.frozen 5; have z6 := hb.frozen 6; have z7 := hb.frozen 7
  simp only [List.getElem?_toArray, List.getElem?_cons_zero, List.getElem?_cons_succ] at q0 q1 q2 q3 q4 q5 q6 q7
  have hne : B ≠ w.heap.size := by omega
  have hmt := fun W => RTime now W
  have HMT := Lib.hid hmt
  clear hmt
  by_cases hg : mayT now ∧ st = 1
  · obtain ⟨hm, rfl⟩ := hg
    have HMT1 : Hid (∀ W, Calls Try.prog 33 #[.int .i64 now] W fun e w' => e = .returned (.bool true) ∧ w' = W) := fun W => by have := HMT.out W; rw [decide_eq_true (show 0 ≤ now ∧ now ≤ 1099511627776 from hm)] at this; exact this
    clear HMT
    have he : openF ⟨1, ⟨xh, xp, xid, xv⟩, nx⟩ now = (true, ⟨if xv then 3 else 2, ⟨xh, xp, xid, xv⟩, 0⟩) := if_pos ⟨hm, rfl⟩
    rw [he]
    have HBB := Lib.hid hb
    cases xv
    · clear h hb hm he
      go_enter Try.func19, Try.ntmps19
      go_wp2_with (go_at_call 33; refine (HMT1.out _).mono ?_; rintro r w1 ⟨rfl, rfl⟩)
      go_ret
      have hb := HBB.out
      have b7 := ((hb.set_ 7 (.int .i64 0)).set_ 2 (.int .i64 2))
      simp only [List.setIfInBounds_toArray, List.set_cons_succ, List.set_cons_zero] at b7
      have hu := (((Upd.refl (fun k => k = B) w1).setCell (p := ⟨B, 7, none⟩) (.inl rfl) (.int .i64 0)).setCell (p := ⟨B, 2, none⟩) (.inl rfl) (.int .i64 2))
      exact ⟨rfl, HW.out.upd hu b7 HW.out.iz, hu⟩
    · clear h hb hm he
      go_enter Try.func19, Try.ntmps19
      go_wp2_with (go_at_call 33; refine (HMT1.out _).mono ?_; rintro r w1 ⟨rfl, rfl⟩)
      go_ret
      have hb := HBB.out
      have b7 := (((hb.set_ 7 (.int .i64 0)).set_ 2 (.int .i64 2)).set_ 2 (.int .i64 3))
      simp only [List.setIfInBounds_toArray, List.set_cons_succ, List.set_cons_zero] at b7
      have hu := ((((Upd.refl (fun k => k = B) w1).setCell (p := ⟨B, 7, none⟩) (.inl rfl) (.int .i64 0)).setCell (p := ⟨B, 2, none⟩) (.inl rfl) (.int .i64 2)).setCell (p := ⟨B, 2, none⟩) (.inl rfl) (.int .i64 3))
      exact ⟨rfl, HW.out.upd hu b7 HW.out.iz, hu⟩
  · have he : openF ⟨st, ⟨xh, xp, xid, xv⟩, nx⟩ now = (false, ⟨st, ⟨xh, xp, xid, xv⟩, nx⟩) := if_neg hg
    rw [he]
    by_cases hm : mayT now
    · have h1 : ¬ st = 1 := fun e => hg ⟨hm, e⟩
      have HMT1 : Hid (∀ W, Calls Try.prog 33 #[.int .i64 now] W fun e w' => e = .returned (.bool true) ∧ w' = W) := fun W => by have := HMT.out W; rw [decide_eq_true (show 0 ≤ now ∧ now ≤ 1099511627776 from hm)] at this; exact this
      clear HMT
      clear h hb hm hg
      go_enter Try.func19, Try.ntmps19
      go_wp2_with (go_at_call 33; refine (HMT1.out _).mono ?_; rintro r w1 ⟨rfl, rfl⟩)
      go_ret
      exact ⟨rfl, HW.out, Upd.refl _ _⟩
    · have HMT1 : Hid (∀ W, Calls Try.prog 33 #[.int .i64 now] W fun e w' => e = .returned (.bool false) ∧ w' = W) := fun W => by have := HMT.out W; rw [decide_eq_false (show ¬ (0 ≤ now ∧ now ≤ 1099511627776) from hm)] at this; exact this
      clear HMT
      clear h hb hm hg
      go_enter Try.func19, Try.ntmps19
      go_wp2_with (go_at_call 33; refine (HMT1.out _).mono ?_; rintro r w1 ⟨rfl, rfl⟩)
      go_ret
      exact ⟨rfl, HW.out, Upd.refl _ _⟩
set_option maxHeartbeats 1600000 in
set_option maxRecDepth 100000 in
theorem Punched_ (h : WkAt 51 w B A c ws i s) (now hh pp : Int) : Calls Try.prog 20 #[.pointer (some ⟨B, 0, none⟩), .int .i64 now, .agg #[.int .u32 hh, .int .i64 pp]] w (Nodded 51 w B A c ws i (punchF s now hh pp)) := by
  have HW := Lib.hid h
  have hB := h.blk.lt
  have hb := h.blk
  have hl8 := h.len
  have hiz := h.iz
  obtain ⟨st, ⟨xh, xp, xid, xv⟩, nx⟩ := s
  simp only [wcells] at hb
  have q0 := hb.cell 0; have q1 := hb.cell 1; have q2 := hb.cell 2; have q3 := hb.cell 3; have q4 := hb.cell 4; have q5 := hb.cell 5; have q6 := hb.cell 6; have q7 := hb.cell 7
  have z2 := hb.frozen 2; have z3 := hb.frozen 3; have z4 := hb.frozen 4; have z5 := hb.frozen 5; have z6 := hb.frozen 6; have z7 := hb.frozen 7
  simp only [List.getElem?_toArray, List.getElem?_cons_zero, List.getElem?_cons_succ] at q0 q1 q2 q3 q4 q5 q6 q7
  have hne : B ≠ w.heap.size := by omega
  have hmt := fun W => MayTime now W
  have HMT := Lib.hid hmt
  clear hmt
  have hnone : (¬ (mayT now ∧ st = 3 ∧ mayB hh pp = true)) → punchF ⟨st, ⟨xh, xp, xid, xv⟩, nx⟩ now hh pp = (false, ⟨st, ⟨xh, xp, xid, xv⟩, nx⟩) := fun hg => if_neg hg
  have hb0 : Below w.heap.size w (w.alloc (.cells #[.int .u32 hh, .int .i64 pp] 29)) := (Below.refl _ _).alloc (Nat.le_refl _) _
  by_cases hm : mayT now
  · have hm' := hm
    have HMT1 : Hid (∀ W, Calls Try.prog 25 #[.int .i64 now] W fun e w' => e = .returned (.bool true) ∧ w' = W) := fun W => by have := HMT.out W; rw [decide_eq_true (show 0 ≤ now ∧ now ≤ 1099511627776 from hm)] at this; exact this
    clear HMT
    have HB := Lib.hid hb
    by_cases h3 : st = 3
    · subst h3
      cases hmay : mayB hh pp with
      | true =>
        have he : punchF ⟨3, ⟨xh, xp, xid, xv⟩, nx⟩ now hh pp = (true, ⟨2, ⟨hh, pp, 0, false⟩, 0⟩) := if_pos ⟨hm', rfl, hmay⟩
        rw [he]
        clear h hb hm hm' he hnone
        go_enter Try.func20, Try.ntmps20
        go_wp2_with (first | (go_at_call 25; refine (HMT1.out _).mono ?_; rintro r w1 ⟨rfl, rfl⟩) | (go_at_call 35; refine (May _ _ _).mono ?_; rintro r w2 ⟨rfl, hb2⟩; have hbz := hb2.size; simp only [World.size_alloc] at hbz; have hx2 := (Blk.new w 29 #[.int .u32 hh, .int .i64 pp]).below hb2 (by simp); have f0 := hx2.cell 0; have f1 := hx2.cell 1; simp only [List.getElem?_toArray, List.getElem?_cons_zero, List.getElem?_cons_succ] at f0 f1; have hbw := hb0.trans (hb2.mono hb0.size); have HW2 := Lib.hid (HW.out.below hbw); have hB2 := HB.out.below hbw HB.out.lt; have g2 := hB2.cell 2; have g3 := hB2.cell 3; have g4 := hB2.cell 4; have g5 := hB2.cell 5; have g6 := hB2.cell 6; have g7 := hB2.cell 7; have y2 := hB2.frozen 2; have y3 := hB2.frozen 3; have y4 := hB2.frozen 4; have y5 := hB2.frozen 5; have y6 := hB2.frozen 6; have y7 := hB2.frozen 7; simp only [List.getElem?_toArray, List.getElem?_cons_zero, List.getElem?_cons_succ] at g2 g3 g4 g5 g6 g7; have HB2 := Lib.hid hB2; have HBW := Lib.hid hbw; clear hx2 hB2 hbw hb2))
        go_ret
        have hb2 := HB2.out
        have b7 := ((((((hb2.set_ 2 (.int .i64 2)).set_ 3 (.int .u32 hh)).set_ 4 (.int .i64 pp)).set_ 5 (.int .i64 0)).set_ 6 (.bool false)).set_ 7 (.int .i64 0))
        simp only [List.setIfInBounds_toArray, List.set_cons_succ, List.set_cons_zero] at b7
        have hu := (((((((Upd.new (S := fun k => k = B) HBW.out).setCell (p := ⟨B, 2, none⟩) (.inl rfl) (.int .i64 2)).setCell (p := ⟨B, 3, none⟩) (.inl rfl) (.int .u32 hh)).setCell (p := ⟨B, 4, none⟩) (.inl rfl) (.int .i64 pp)).setCell (p := ⟨B, 5, none⟩) (.inl rfl) (.int .i64 0)).setCell (p := ⟨B, 6, none⟩) (.inl rfl) (.bool false)).setCell (p := ⟨B, 7, none⟩) (.inl rfl) (.int .i64 0))
        exact ⟨rfl, HW.out.upd hu b7 HW.out.iz, hu⟩
      | false =>
        have he := hnone (fun e => by rw [hmay] at e; exact absurd e.2.2 (by decide))
        rw [he]
        clear h hb hm hm' he hnone
        go_enter Try.func20, Try.ntmps20
        go_wp2_with (first | (go_at_call 25; refine (HMT1.out _).mono ?_; rintro r w1 ⟨rfl, rfl⟩) | (go_at_call 35; refine (May _ _ _).mono ?_; rintro r w2 ⟨rfl, hb2⟩; have hbz := hb2.size; simp only [World.size_alloc] at hbz; have hx2 := (Blk.new w 29 #[.int .u32 hh, .int .i64 pp]).below hb2 (by simp); have f0 := hx2.cell 0; have f1 := hx2.cell 1; simp only [List.getElem?_toArray, List.getElem?_cons_zero, List.getElem?_cons_succ] at f0 f1; have hbw := hb0.trans (hb2.mono hb0.size); have HW2 := Lib.hid (HW.out.below hbw); have hB2 := HB.out.below hbw HB.out.lt; have g2 := hB2.cell 2; have g3 := hB2.cell 3; have g4 := hB2.cell 4; have g5 := hB2.cell 5; have g6 := hB2.cell 6; have g7 := hB2.cell 7; have y2 := hB2.frozen 2; have y3 := hB2.frozen 3; have y4 := hB2.frozen 4; have y5 := hB2.frozen 5; have y6 := hB2.frozen 6; have y7 := hB2.frozen 7; simp only [List.getElem?_toArray, List.getElem?_cons_zero, List.getElem?_cons_succ] at g2 g3 g4 g5 g6 g7; have HB2 := Lib.hid hB2; have HBW := Lib.hid hbw; clear hx2 hB2 hbw hb2))
        go_ret
        exact ⟨rfl, HW2.out, Upd.new HBW.out⟩
    · have he := hnone (fun e => h3 e.2.1)
      rw [he]
      clear h hb hm hm' he hnone
      go_enter Try.func20, Try.ntmps20
      go_wp2_with (first | (go_at_call 25; refine (HMT1.out _).mono ?_; rintro r w1 ⟨rfl, rfl⟩))
      go_ret
      exact ⟨rfl, HW.out.below hb0, Upd.new hb0⟩
  · have he := hnone (fun e => hm e.1)
    rw [he]
    have HMT1 : Hid (∀ W, Calls Try.prog 25 #[.int .i64 now] W fun e w' => e = .returned (.bool false) ∧ w' = W) := fun W => by have := HMT.out W; rw [decide_eq_false (show ¬ (0 ≤ now ∧ now ≤ 1099511627776) from hm)] at this; exact this
    clear HMT
    clear h hb hm he hnone
    go_enter Try.func20, Try.ntmps20
    go_wp2_with (first | (go_at_call 25; refine (HMT1.out _).mono ?_; rintro r w1 ⟨rfl, rfl⟩))
    go_ret
    exact ⟨rfl, HW.out.below hb0, Upd.new hb0⟩
set_option maxHeartbeats 1600000 in
set_option maxRecDepth 100000 in
theorem rPunched_ (h : WkAt 42 w B A c ws i s) (now hh pp : Int) (hp0 : 0 ≤ hh) : Calls Try.prog 21 #[.pointer (some ⟨B, 0, none⟩), .int .i64 now, .agg #[.int .u32 hh, .int .i64 pp]] w (Nodded 42 w B A c ws i (punchF s now hh pp)) := by
  have HW := Lib.hid h
  have hB := h.blk.lt
  have hb := h.blk
  have hl8 := h.len
  have hiz := h.iz
  obtain ⟨st, ⟨xh, xp, xid, xv⟩, nx⟩ := s
  simp only [wcells] at hb
  have q0 := hb.cell 0; have q1 := hb.cell 1; have q2 := hb.cell 2; have q3 := hb.cell 3; have q4 := hb.cell 4; have q5 := hb.cell 5; have q6 := hb.cell 6; have q7 := hb.cell 7
  have z2 := hb.frozen 2; have z3 := hb.frozen 3; have z4 := hb.frozen 4; have z5 := hb.frozen 5; have z6 := hb.frozen 6; have z7 := hb.frozen 7
  simp only [List.getElem?_toArray, List.getElem?_cons_zero, List.getElem?_cons_succ] at q0 q1 q2 q3 q4 q5 q6 q7
  have hne : B ≠ w.heap.size := by omega
  have hmt := fun W => RTime now W
  have HMT := Lib.hid hmt
  clear hmt
  have hnone : (¬ (mayT now ∧ st = 3 ∧ mayB hh pp = true)) → punchF ⟨st, ⟨xh, xp, xid, xv⟩, nx⟩ now hh pp = (false, ⟨st, ⟨xh, xp, xid, xv⟩, nx⟩) := fun hg => if_neg hg
  have hb0 : Below w.heap.size w (w.alloc (.cells #[.int .u32 hh, .int .i64 pp] 29)) := (Below.refl _ _).alloc (Nat.le_refl _) _
  by_cases hm : mayT now
  · have hm' := hm
    have HMT1 : Hid (∀ W, Calls Try.prog 33 #[.int .i64 now] W fun e w' => e = .returned (.bool true) ∧ w' = W) := fun W => by have := HMT.out W; rw [decide_eq_true (show 0 ≤ now ∧ now ≤ 1099511627776 from hm)] at this; exact this
    clear HMT
    have HB := Lib.hid hb
    by_cases h3 : st = 3
    · subst h3
      cases hmay : mayB hh pp with
      | true =>
        have he : punchF ⟨3, ⟨xh, xp, xid, xv⟩, nx⟩ now hh pp = (true, ⟨2, ⟨hh, pp, 0, false⟩, 0⟩) := if_pos ⟨hm', rfl, hmay⟩
        rw [he]
        clear h hb hm hm' he hnone
        go_enter Try.func21, Try.ntmps21
        go_wp2_with (first | (go_at_call 33; refine (HMT1.out _).mono ?_; rintro r w1 ⟨rfl, rfl⟩) | (go_at_call 36; refine (RefMay _ _ _ hp0).mono ?_; rintro r w2 ⟨rfl, hb2⟩; have hbz := hb2.size; simp only [World.size_alloc] at hbz; have hx2 := (Blk.new w 29 #[.int .u32 hh, .int .i64 pp]).below hb2 (by simp); have f0 := hx2.cell 0; have f1 := hx2.cell 1; simp only [List.getElem?_toArray, List.getElem?_cons_zero, List.getElem?_cons_succ] at f0 f1; have hbw := hb0.trans (hb2.mono hb0.size); have HW2 := Lib.hid (HW.out.below hbw); have hB2 := HB.out.below hbw HB.out.lt; have g2 := hB2.cell 2; have g3 := hB2.cell 3; have g4 := hB2.cell 4; have g5 := hB2.cell 5; have g6 := hB2.cell 6; have g7 := hB2.cell 7; have y2 := hB2.frozen 2; have y3 := hB2.frozen 3; have y4 := hB2.frozen 4; have y5 := hB2.frozen 5; have y6 := hB2.frozen 6; have y7 := hB2.frozen 7; simp only [List.getElem?_toArray, List.getElem?_cons_zero, List.getElem?_cons_succ] at g2 g3 g4 g5 g6 g7; have HB2 := Lib.hid hB2; have HBW := Lib.hid hbw; clear hx2 hB2 hbw hb2))
        go_ret
        have hb2 := HB2.out
        have b7 := ((((((hb2.set_ 2 (.int .i64 2)).set_ 3 (.int .u32 hh)).set_ 4 (.int .i64 pp)).set_ 5 (.int .i64 0)).set_ 6 (.bool false)).set_ 7 (.int .i64 0))
        simp only [List.setIfInBounds_toArray, List.set_cons_succ, List.set_cons_zero] at b7
        have hu := (((((((Upd.new (S := fun k => k = B) HBW.out).setCell (p := ⟨B, 2, none⟩) (.inl rfl) (.int .i64 2)).setCell (p := ⟨B, 3, none⟩) (.inl rfl) (.int .u32 hh)).setCell (p := ⟨B, 4, none⟩) (.inl rfl) (.int .i64 pp)).setCell (p := ⟨B, 5, none⟩) (.inl rfl) (.int .i64 0)).setCell (p := ⟨B, 6, none⟩) (.inl rfl) (.bool false)).setCell (p := ⟨B, 7, none⟩) (.inl rfl) (.int .i64 0))
        exact ⟨rfl, HW.out.upd hu b7 HW.out.iz, hu⟩
      | false =>
        have he := hnone (fun e => by rw [hmay] at e; exact absurd e.2.2 (by decide))
        rw [he]
        clear h hb hm hm' he hnone
        go_enter Try.func21, Try.ntmps21
        go_wp2_with (first | (go_at_call 33; refine (HMT1.out _).mono ?_; rintro r w1 ⟨rfl, rfl⟩) | (go_at_call 36; refine (RefMay _ _ _ hp0).mono ?_; rintro r w2 ⟨rfl, hb2⟩; have hbz := hb2.size; simp only [World.size_alloc] at hbz; have hx2 := (Blk.new w 29 #[.int .u32 hh, .int .i64 pp]).below hb2 (by simp); have f0 := hx2.cell 0; have f1 := hx2.cell 1; simp only [List.getElem?_toArray, List.getElem?_cons_zero, List.getElem?_cons_succ] at f0 f1; have hbw := hb0.trans (hb2.mono hb0.size); have HW2 := Lib.hid (HW.out.below hbw); have hB2 := HB.out.below hbw HB.out.lt; have g2 := hB2.cell 2; have g3 := hB2.cell 3; have g4 := hB2.cell 4; have g5 := hB2.cell 5; have g6 := hB2.cell 6; have g7 := hB2.cell 7; have y2 := hB2.frozen 2; have y3 := hB2.frozen 3; have y4 := hB2.frozen 4; have y5 := hB2.frozen 5; have y6 := hB2.frozen 6; have y7 := hB2.frozen 7; simp only [List.getElem?_toArray, List.getElem?_cons_zero, List.getElem?_cons_succ] at g2 g3 g4 g5 g6 g7; have HB2 := Lib.hid hB2; have HBW := Lib.hid hbw; clear hx2 hB2 hbw hb2))
        go_ret
        exact ⟨rfl, HW2.out, Upd.new HBW.out⟩
    · have he := hnone (fun e => h3 e.2.1)
      rw [he]
      clear h hb hm hm' he hnone
      go_enter Try.func21, Try.ntmps21
      go_wp2_with (first | (go_at_call 33; refine (HMT1.out _).mono ?_; rintro r w1 ⟨rfl, rfl⟩))
      go_ret
      exact ⟨rfl, HW.out.below hb0, Upd.new hb0⟩
  · have he := hnone (fun e => hm e.1)
    rw [he]
    have HMT1 : Hid (∀ W, Calls Try.prog 33 #[.int .i64 now] W fun e w' => e = .returned (.bool false) ∧ w' = W) := fun W => by have := HMT.out W; rw [decide_eq_false (show ¬ (0 ≤ now ∧ now ≤ 1099511627776) from hm)] at this; exact this
    clear HMT
    clear h hb hm he hnone
    go_enter Try.func21, Try.ntmps21
    go_wp2_with (first | (go_at_call 33; refine (HMT1.out _).mono ?_; rintro r w1 ⟨rfl, rfl⟩))
    go_ret
    exact ⟨rfl, HW.out.below hb0, Upd.new hb0⟩
set_option maxRecDepth 100000 in
theorem State_ (h : WkAt 51 w B A c ws i s) : Calls Try.prog 12 #[.pointer (some ⟨B, 0, none⟩)] w fun r w' => r = .returned (.agg #[.int .i64 s.st, .int .u32 s.x.h, .int .i64 s.x.p, .int .i64 s.x.id, .bool s.x.via, .int .i64 s.nx]) ∧ Below w.heap.size w w' := by
  have hB := h.blk.lt
  have hb := h.blk
  obtain ⟨st, ⟨xh, xp, xid, xv⟩, nx⟩ := s
  simp only [wcells] at hb
  have q2 := hb.cell 2; have q3 := hb.cell 3; have q4 := hb.cell 4; have q5 := hb.cell 5; have q6 := hb.cell 6; have q7 := hb.cell 7
  simp only [List.getElem?_toArray, List.getElem?_cons_zero, List.getElem?_cons_succ] at q2 q3 q4 q5 q6 q7
  have hne : B ≠ w.heap.size := by omega
  clear h hb
  go_enter Try.func12, Try.ntmps12
  go_wp2
  exact bodyPost_ret (v := .agg #[.int .i64 st, .int .u32 xh, .int .i64 xp, .int .i64 xid, .bool xv, .int .i64 nx]) (by simp [results, Try.results12, go_sem]) rfl ⟨rfl, (Below.refl _ _).alloc (Nat.le_refl _) _⟩
/-- A new path: it is off. -/
def Newed (w : World) (ws : List Plc) (r : Ending) (w' : World) : Prop := ∃ B A c, r = .returned (.pointer (some ⟨B, 0, none⟩)) ∧ w.heap.size ≤ B ∧ WkAt 51 w' B A c ws 0 Pth.off ∧ Pls w' (fun k => w.heap.size ≤ k ∧ k ≠ B) A ws ∧ Below w.heap.size w w'
theorem New_ (own : Int) (ho0 : 0 ≤ own) (ho1 : own ≤ 4294967295) (A : Option Addr) (c : Nat) (l : List Plc) (w : World) (hp : Pls w (fun k => k < w.heap.size) A l) (hl : l.length ≤ 100000) (hok : ∀ x ∈ l, x.ok) :
    Calls Try.prog 9 #[.int .u32 own, .slice A l.length c] w (Newed w (waysW own l)) := by
  have HC := Lib.hid (Ways_ own ho0 ho1 A c l w hp hl hok)
  clear hp hok
  go_enter Try.func9, Try.ntmps9
  go_wp2_with (go_at_call 14; refine HC.out.mono ?_; rintro r w1 ⟨A1, c1, rfl, hrow, hb⟩)
  go_ret
  refine ⟨w1.heap.size, A1, c1, rfl, hb.size, ⟨Blk.new w1 51 _, ?_, waysTo_le _ _ _, by omega⟩, ?_, hb.alloc hb.size _⟩
  · have := (Rd.of_own (S := fun k => k ≠ w1.heap.size) hrow (fun g hg => by have := (hrow.lt g hg).2; omega)).alloc (.cells #[.slice A1 (waysW own l).length c1, .int .i64 0, .int .i64 0, .int .u32 0, .int .i64 0, .int .i64 0, .bool false, .int .i64 0] 51)
    exact this.a
  · have := (Rd.of_own (S := fun k => w.heap.size ≤ k ∧ k ≠ w1.heap.size) hrow (fun g hg => ⟨(hrow.lt g hg).1, by have := (hrow.lt g hg).2; omega⟩)).alloc (.cells #[.slice A1 (waysW own l).length c1, .int .i64 0, .int .i64 0, .int .u32 0, .int .i64 0, .int .i64 0, .bool false, .int .i64 0] 51)
    exact this.a
end
end Go.Proofs.Ythlhfhfhagfelaa
