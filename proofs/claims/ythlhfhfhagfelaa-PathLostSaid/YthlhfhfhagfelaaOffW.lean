/- The walk of PathOff. No condition. -/
import Derived.Test.YthlhfhfhagfelaaOrderW
import Derived.Deep.RegionHeld3
import Derived.Deep.DrawnRows
set_option linter.unusedVariables false
set_option linter.unusedSimpArgs false
namespace Go.Proofs.Ythlhfhfhagfelaa
open Go.RowKit
attribute [local go_sem ↓] Go.wp_at_zero Go.wp_at_succ

structure PW (w wr : World) (B : Nat) (A : Option Addr) (c : Nat) (ws : List Plc) (i : Nat) (s : Pth) : Prop where
  wk : WkAt 51 wr B A c ws i s
  below : Below w.heap.size w wr
  zB : w.heap.size ≤ B
section
variable {w wr W : World} {B c i j : Nat} {A : Option Addr} {ws : List Plc} {s s' : Pth}
theorem PW.upd (h : PW w wr B A c ws i s) (hw : WkAt 51 W B A c ws j s') (hu : Upd (fun k => k = B) wr W) : PW w W B A c ws j s' :=
  ⟨hw, h.below.trans (hu.below h.below.size (fun k hk => by have := h.zB; rw [show k = B from hk]; exact this)), h.zB⟩
theorem PW.top (h : PW w wr B A c ws i s) (hb : Below wr.heap.size wr W) : PW w W B A c ws i s := ⟨h.wk.below hb, h.below.trans (hb.mono h.below.size), h.zB⟩
theorem PW.args {A0 : Option Addr} {l : List Plc} (h : PW w wr B A c ws i s) (hp : Pls w (fun k => k < w.heap.size) A0 l) : Pls wr (fun k => k < wr.heap.size) A0 l := RdA.moreL (RdA.below hp h.below) (fun k _ hl => hl)
end

set_option maxHeartbeats 2000000 in
set_option maxRecDepth 100000 in
theorem PathOff_walk (own : Int) (ho0 : 0 ≤ own) (ho1 : own ≤ 4294967295) (A0 : Option Addr) (c0 : Nat) (l : List Plc) (now : Int) (w : World) (hp : Pls w (fun k => k < w.heap.size) A0 l) (hl : l.length ≤ 9223372036854775807) (hok : ∀ x ∈ l, x.ok) :
    Calls Try.prog 7 #[.int .u32 own, .slice A0 l.length c0, .int .i64 now] w fun r w' => r = .returned (.bool true) ∧ Below w.heap.size w w' := by
  have hneq : ∀ (W : World) (b : Nat), (binOp .eql 25 (.pointer (some ⟨b, 0, none⟩)) (.pointer none)).run Try.prog W = .ok (.bool false) W := fun W b => by simp [go_sem]
  have HP := Lib.hid hp
  have HOK := Lib.hid hok
  clear hp hok
  by_cases hlong : 40 < l.length
  · have hlong' : (40 : Int) < (l.length : Int) := by omega
    generalize l.length = n at *
    go_enter Try.func7, Try.ntmps7
    go_wp2_with (go_at_call 8; refine (awake _).mono ?_; rintro r w1 ⟨rfl, hb1⟩; have HB1 := Lib.hid hb1; clear hb1)
    go_ret
    exact ⟨rfl, HB1.out⟩
  have hlong' : ¬ (40 : Int) < (l.length : Int) := by omega
  have hl40 : l.length ≤ 100000 := by omega
  go_enter Try.func7, Try.ntmps7
  go_wp2_with (go_at_call 8; refine (awake _).mono ?_; rintro r w1 ⟨rfl, hb1⟩; have HB1 := Lib.hid hb1; clear hb1)
  go_wp2_with fail
  refine (New_ own ho0 ho1 A0 c0 l w1 (RdA.moreL (RdA.below HP.out HB1.out) (fun k _ hl => hl)) hl40 HOK.out).mono ?_
  rintro r w2 ⟨B, A, c, rfl, hB, hwk, hpl, hb2⟩
  have HP2 : Hid (PW w w2 B A c (waysW own l) 0 Pth.off) := ⟨hwk, HB1.out.trans (hb2.mono HB1.out.size), by have := HB1.out.size; omega⟩
  clear hwk hpl hb2
  generalize hws : waysW own l = ws at *
  have HWS := Lib.hid hws
  clear hws
  have e1 : openF Pth.off 5 = (false, Pth.off) := rfl
  have e2 : punchF Pth.off 5 9 9 = (false, Pth.off) := rfl
  have e3 : lostF ws 0 Pth.off 5 = ⟨Plc.zero, false, 0, Pth.off⟩ := rfl
  have e4 : tickF ws 0 Pth.off 5 = ⟨Plc.zero, false, 0, Pth.off⟩ := rfl
  go_wp2_with fail
  have h1 := Open_ HP2.out.wk 5
  rw [e1] at h1
  refine h1.mono ?_
  rintro r w3 ⟨rfl, hw, hu⟩
  have HP3 := Lib.hid (HP2.out.upd hw hu)
  clear h1 hw hu HP2 e1
  go_wp2_with fail
  have h1 := Punched_ HP3.out.wk 5 9 9
  rw [e2] at h1
  refine h1.mono ?_
  rintro r w4 ⟨rfl, hw, hu⟩
  have HP4 := Lib.hid (HP3.out.upd hw hu)
  clear h1 hw hu HP3 e2
  go_wp2_with fail
  have h1 := Lost_ HP4.out.wk 5
  rw [e3] at h1
  refine h1.mono ?_
  rintro r w5 ⟨hr, hw, hu⟩
  try dsimp only [Plc.zero] at hr
  subst hr
  have HP5 := Lib.hid ((HP4.out.upd hw hu).top ((Below.refl _ w5).alloc (Nat.le_refl _) (.cells #[.int .u32 0, .int .i64 0, .int .i64 0, .bool false] 31)))
  clear h1 hw hu HP4 e3
  go_wp2_with fail
  generalize w5.alloc (.cells #[.int .u32 0, .int .i64 0, .int .i64 0, .bool false] 31) = W5 at *
  have h1 := Tick_ HP5.out.wk 5 (by show 0 < 1000; omega)
  try dsimp only at h1
  rw [e4] at h1
  refine h1.mono ?_
  rintro r w6 ⟨hr, hw, hu⟩
  try dsimp only [Plc.zero] at hr
  subst hr
  have HP6 := Lib.hid ((HP5.out.upd hw hu).top ((Below.refl _ w6).alloc (Nat.le_refl _) (.cells #[.int .u32 0, .int .i64 0, .int .i64 0, .bool false] 31)))
  clear h1 hw hu HP5 e4
  go_wp2_with fail
  generalize w6.alloc (.cells #[.int .u32 0, .int .i64 0, .int .i64 0, .bool false] 31) = W6 at *
  have h1 := State_ HP6.out.wk
  try dsimp only [Pth.off, Plc.zero] at h1
  refine h1.mono ?_
  rintro r w7 ⟨rfl, hb⟩
  have HP7 := Lib.hid (HP6.out.top hb)
  clear h1 hb HP6
  go_wp2_with fail
  refine (Start_ HP7.out.wk now).mono ?_
  rintro r w8 ⟨rfl, hw, hu⟩
  have hp8 := HP7.out.upd hw hu
  clear hw hu HP7
  by_cases hnow : mayT now
  · have hs : startF ws 0 Pth.off now = tryF ws now 0 := if_pos ⟨hnow, .inl rfl⟩
    try dsimp only at hp8
    rw [hs] at hp8 ⊢
    obtain ⟨hn0, hn1⟩ := hnow
    cases hx : ws[0]? with
    | none =>
      have hq : tryF ws now 0 = ⟨Plc.zero, false, 0, ⟨4, Plc.zero, 0⟩⟩ := by simp [tryF, hx]
      have hw0 : ws.length = 0 := by rw [List.getElem?_eq_none_iff] at hx; omega
      rw [hq] at hp8 ⊢
      try dsimp only [Plc.zero] at hp8 ⊢
      have HP8 := Lib.hid (hp8.top ((Below.refl _ w8).alloc (Nat.le_refl _) (.cells #[.int .u32 0, .int .i64 0, .int .i64 0, .bool false] 31)))
      clear hp8 hs hq hx
      go_wp2_with fail
      generalize w8.alloc (.cells #[.int .u32 0, .int .i64 0, .int .i64 0, .bool false] 31) = W8 at *
      refine (Ways_ own ho0 ho1 A0 c0 l W8 (HP8.out.args HP.out) hl40 HOK.out).mono ?_
      rintro r w9 ⟨A9, c9, rfl, _, hb⟩
      rw [HWS.out, hw0]
      have HP9 := Lib.hid (HP8.out.top hb)
      clear hb HP8
      go_wp2_with fail
      refine (State_ HP9.out.wk).mono ?_
      rintro r w10 ⟨rfl, hb⟩
      have HP10 := Lib.hid (HP9.out.top hb)
      clear hb HP9
      try dsimp only [Plc.zero]
      go_wp2_with fail
      have h1 := Open_ HP10.out.wk now
      have e5 : openF ⟨4, ⟨0, 0, 0, false⟩, 0⟩ now = (false, ⟨4, ⟨0, 0, 0, false⟩, 0⟩) := if_neg (fun h => by have := h.2; dsimp only at this; omega)
      rw [e5] at h1
      refine h1.mono ?_
      rintro r w11 ⟨rfl, hw, hu⟩
      have HP11 := Lib.hid (HP10.out.upd hw hu)
      clear h1 hw hu HP10 e5
      go_wp2
      go_ret
      exact ⟨rfl, HP11.out.below⟩
    | some x =>
      have hq : tryF ws now 0 = ⟨x, true, 0, ⟨1, x, now + 10⟩⟩ := by simp [tryF, hx]
      rw [hq] at hp8 ⊢
      try dsimp only at hp8 ⊢
      have hxl : 0 < ws.length := (List.getElem?_eq_some_iff.1 hx).1
      have HP8 := Lib.hid (hp8.top ((Below.refl _ w8).alloc (Nat.le_refl _) (.cells #[.int .u32 x.h, .int .i64 x.p, .int .i64 x.id, .bool x.via] 31)))
      have HX8 := Lib.hid (Blk.new w8 31 #[.int .u32 x.h, .int .i64 x.p, .int .i64 x.id, .bool x.via])
      have hbB : w8.heap.size ≠ B := by have := hp8.wk.blk.lt; omega
      have HX := Lib.hid hx
      clear hp8 hs hq hx
      go_wp2_with fail
      generalize w8.alloc (.cells #[.int .u32 x.h, .int .i64 x.p, .int .i64 x.id, .bool x.via] 31) = W8 at *
      generalize w8.heap.size = bt at *
      refine (Ways_ own ho0 ho1 A0 c0 l W8 (HP8.out.args HP.out) hl40 HOK.out).mono ?_
      rintro r w9 ⟨A9, c9, rfl, _, hb⟩
      rw [HWS.out]
      have HP9 := Lib.hid (HP8.out.top hb)
      have HX9 := Lib.hid (HX8.out.below hb HX8.out.lt)
      clear hb HP8 HX8
      have hwl : ¬ ws.length = 0 := by omega
      have hwl' : ¬ (ws.length : Int) = 0 := by omega
      go_wp2_with fail
      have h1 := Start_ HP9.out.wk now
      have e5 : startF ws 0 ⟨1, x, now + 10⟩ now = ⟨Plc.zero, false, 0, ⟨1, x, now + 10⟩⟩ := if_neg (fun h => by have := h.2; dsimp only at this; omega)
      rw [e5] at h1
      refine h1.mono ?_
      rintro r w10 ⟨hr, hw, hu⟩
      try dsimp only [Plc.zero] at hr
      subst hr
      have HP10 := Lib.hid ((HP9.out.upd hw hu).top ((Below.refl _ w10).alloc (Nat.le_refl _) (.cells #[.int .u32 0, .int .i64 0, .int .i64 0, .bool false] 31)))
      have HX10 := Lib.hid ((HX9.out.upd hu (by show ¬ bt = B; exact hbB)).alloc (.cells #[.int .u32 0, .int .i64 0, .int .i64 0, .bool false] 31))
      clear h1 hw hu HP9 HX9 e5
      go_wp2_with fail
      generalize w10.alloc (.cells #[.int .u32 0, .int .i64 0, .int .i64 0, .bool false] 31) = W10 at *
      have HD10 := Lib.hid (HP10.out.top ((Below.refl _ W10).drew))
      have HWA := Lib.hid (Ways_ own ho0 ho1 A0 c0 l W10.drew (HD10.out.args HP.out) hl40 HOK.out)
      have d0 : W10.cell? ⟨bt, 0, none⟩ = some (.int .u32 x.h) := HX10.out.cell 0
      have d1 : W10.cell? ⟨bt, 1, none⟩ = some (.int .i64 x.p) := HX10.out.cell 1
      have d2 : W10.cell? ⟨bt, 2, none⟩ = some (.int .i64 x.id) := HX10.out.cell 2
      have d3 : W10.cell? ⟨bt, 3, none⟩ = some (.bool x.via) := HX10.out.cell 3
      have hxt : x.eqB x = true := (Plc.eqB_iff x x).2 rfl
      have heq := fun W => run_eql31 x x W
      have HKK : Hid (∀ w11 A11 c11, w11.ownsRow W10.drew.heap.size 31 4 (.slice A11 (waysW own l).length c11) (waysW own l).length (pcells (waysW own l)) → Below W10.drew.heap.size W10.drew w11 →
          (∃ g, A11 = some ⟨g, 0, none⟩ ∧ w11.cell? ⟨g, 0, none⟩ = some (.int .u32 x.h) ∧ w11.cell? ⟨g, 1, none⟩ = some (.int .i64 x.p) ∧ w11.cell? ⟨g, 2, none⟩ = some (.int .i64 x.id) ∧ w11.cell? ⟨g, 3, none⟩ = some (.bool x.via)) ∧
          (w11.cell? ⟨bt, 0, none⟩ = some (.int .u32 x.h) ∧ w11.cell? ⟨bt, 1, none⟩ = some (.int .i64 x.p) ∧ w11.cell? ⟨bt, 2, none⟩ = some (.int .i64 x.id) ∧ w11.cell? ⟨bt, 3, none⟩ = some (.bool x.via)) ∧
          Calls Try.prog 12 #[.pointer (some ⟨B, 0, none⟩)] w11 fun r w' => r = .returned (.agg #[.int .i64 1, .int .u32 x.h, .int .i64 x.p, .int .i64 x.id, .bool x.via, .int .i64 (now + 10)]) ∧ Below w11.heap.size w11 w' ∧ Below w.heap.size w w' ∧
            (w'.cell? ⟨bt, 0, none⟩ = some (.int .u32 x.h) ∧ w'.cell? ⟨bt, 1, none⟩ = some (.int .i64 x.p) ∧ w'.cell? ⟨bt, 2, none⟩ = some (.int .i64 x.id) ∧ w'.cell? ⟨bt, 3, none⟩ = some (.bool x.via))) := fun w11 A11 c11 hr hb => by
        rw [HWS.out] at hr
        obtain ⟨g, cc, hv, _, _⟩ := hr.form hxl
        injection hv with hv1 hv2 hv3
        subst hv1
        have hrd := (Rd.of_own (S := fun _ => True) hr (fun _ _ => trivial)).a
        obtain ⟨b', o', hA, _, _, hc⟩ := RdA.elem hrd hxl
        injection hA with hA
        injection hA with hA1 hA2
        subst hA1 hA2
        have key : ∀ j u, j < 4 → x.cells[j]? = some u → w11.cell? ⟨g, j, none⟩ = some u := fun j u hj hu => by
          have := hc j u (by rw [pcells_at ws 0 x HX.out j hj]; exact hu)
          simpa using this
        have hx11 := (HX10.out.drew).below hb HX10.out.lt
        have hp11 := HD10.out.top hb
        refine ⟨⟨g, rfl, key 0 _ (by omega) rfl, key 1 _ (by omega) rfl, key 2 _ (by omega) rfl, key 3 _ (by omega) rfl⟩, ⟨hx11.cell 0, hx11.cell 1, hx11.cell 2, hx11.cell 3⟩, (State_ hp11.wk).mono ?_⟩
        rintro r w' ⟨hr', hb'⟩
        have hx12 := hx11.below hb' hx11.lt
        exact ⟨hr', hb', (hp11.top hb').below, hx12.cell 0, hx12.cell 1, hx12.cell 2, hx12.cell 3⟩
      have hwadd : IntKind.i64.wrap (now + 10) = now + 10 := IntWalk.i64_in _ (by omega)
      have hwl2 : 0 < (waysW own l).length := by rw [HWS.out]; exact hxl
      have hwl3 : (0 : Int) < ((waysW own l).length : Int) := by omega
      clear HP10 HX10 HD10
      refine wp_region_noPanic (wp_region_held_drew (S := (fun w' => w'.cell? ⟨bt, 0, none⟩ = some (.int .u32 x.h) ∧ w'.cell? ⟨bt, 1, none⟩ = some (.int .i64 x.p) ∧ w'.cell? ⟨bt, 2, none⟩ = some (.int .i64 x.id) ∧ w'.cell? ⟨bt, 3, none⟩ = some (.bool x.via))) (by kernel_rfl) ⟨d0, d1, d2, d3⟩ (fun hHeld => ?_))
      refine wpAnyH_take (i := 0) (oi := _) (v := ?_) rfl (by kernel_rfl) (by kernel_rfl) (by kernel_rfl) (fun _ _ _ h => h) (Or.inl ⟨by rfl, ?_⟩) (by assumption) ?_
      rotate_left
      · intro w hSw
        try dsimp only at hSw
        go_simp
        all_goals with_reducible rfl
      simp only [Act.put, List.setIfInBounds_toArray, List.set_cons_zero, List.set_cons_succ, List.getElem_toArray, List.getElem_cons_zero, List.getElem_cons_succ]
      refine wpAnyH_take (i := 1) (oi := _) (v := ?_) rfl (by kernel_rfl) (by kernel_rfl) (by kernel_rfl) (fun _ _ _ h => h) (Or.inl ⟨by rfl, ?_⟩) (by assumption) ?_
      rotate_left
      · intro w hSw
        try dsimp only at hSw
        go_simp
        all_goals with_reducible rfl
      simp only [Act.put, List.setIfInBounds_toArray, List.set_cons_zero, List.set_cons_succ, List.getElem_toArray, List.getElem_cons_zero, List.getElem_cons_succ]
      refine wpAnyH_take (i := 2) (oi := _) (v := ?_) rfl (by kernel_rfl) (by kernel_rfl) (by kernel_rfl) (fun _ _ _ h => h) (Or.inl ⟨by rfl, ?_⟩) (by assumption) ?_
      rotate_left
      · intro w hSw
        try dsimp only at hSw
        go_simp
        all_goals with_reducible rfl
      simp only [Act.put, List.setIfInBounds_toArray, List.set_cons_zero, List.set_cons_succ, List.getElem_toArray, List.getElem_cons_zero, List.getElem_cons_succ]
      refine wpAnyH_take (i := 3) (oi := _) (v := ?_) rfl (by kernel_rfl) (by kernel_rfl) (by kernel_rfl) (fun _ _ _ h => h) (Or.inl ⟨by rfl, ?_⟩) (by assumption) ?_
      rotate_left
      · intro w hSw
        try dsimp only at hSw
        go_simp
        all_goals with_reducible rfl
      simp only [Act.put, List.setIfInBounds_toArray, List.set_cons_zero, List.set_cons_succ, List.getElem_toArray, List.getElem_cons_zero, List.getElem_cons_succ]
      refine wpAnyH_take (i := 4) (oi := _) (v := ?_) rfl (by kernel_rfl) (by kernel_rfl) (by kernel_rfl) (fun _ _ _ h => h) (Or.inl ⟨by rfl, ?_⟩) (by assumption) ?_
      rotate_left
      · intro w hSw
        try dsimp only at hSw
        go_simp
        all_goals with_reducible rfl
      simp only [Act.put, List.setIfInBounds_toArray, List.set_cons_zero, List.set_cons_succ, List.getElem_toArray, List.getElem_cons_zero, List.getElem_cons_succ]
      refine wpAnyH_ready (rs := [5]) (by kernel_rfl) (by simp) ?_
      refine AllReadyH.cons (o := _) rfl (fun K hK => ?_) AllReadyH.nil
      simp only [List.getElem_toArray, List.getElem_cons_zero, List.getElem_cons_succ]
      go_simp
      go_at_call 14; refine HWA.out.mono ?_; rintro r w11 ⟨A11, c11, rfl, hrow, hb11⟩; obtain ⟨⟨g, rfl, e0, e1, e2, e3⟩, ⟨f0, f1, f2, f3⟩, hst⟩ := HKK.out w11 A11 c11 hrow hb11; have HST := Lib.hid hst; clear hrow hb11 hst
      go_wp2_with fail
      refine hK.out _ _ ⟨f0, f1, f2, f3⟩ (fun hHeld => ?_)
      clear hK K
      try simp only [Act.put, List.setIfInBounds_toArray, List.set_cons_zero, List.set_cons_succ, List.getElem_toArray, List.getElem_cons_zero, List.getElem_cons_succ]
      refine wpAnyH_take (i := 6) (oi := _) (v := ?_) rfl (by kernel_rfl) (by kernel_rfl) (by kernel_rfl) (fun _ _ _ h => h) (Or.inl ⟨by rfl, ?_⟩) (by assumption) ?_
      rotate_left
      · intro w hSw
        try dsimp only at hSw
        go_simp
        all_goals with_reducible rfl
      simp only [Act.put, List.setIfInBounds_toArray, List.set_cons_zero, List.set_cons_succ, List.getElem_toArray, List.getElem_cons_zero, List.getElem_cons_succ]
      refine wpAnyH_ready (rs := [7]) (by kernel_rfl) (by simp) ?_
      refine AllReadyH.cons (o := _) rfl (fun K hK => ?_) AllReadyH.nil
      simp only [List.getElem_toArray, List.getElem_cons_zero, List.getElem_cons_succ]
      go_simp
      refine hK.out _ _ ⟨f0, f1, f2, f3⟩ (fun hHeld => ?_)
      clear hK K
      try simp only [Act.put, List.setIfInBounds_toArray, List.set_cons_zero, List.set_cons_succ, List.getElem_toArray, List.getElem_cons_zero, List.getElem_cons_succ]
      refine wpAnyH_take (i := 8) (oi := _) (v := ?_) rfl (by kernel_rfl) (by kernel_rfl) (by kernel_rfl) (fun _ _ _ h => h) (Or.inl ⟨by rfl, ?_⟩) (by assumption) ?_
      rotate_left
      · intro w hSw
        try dsimp only at hSw
        go_simp
        all_goals with_reducible rfl
      simp only [Act.put, List.setIfInBounds_toArray, List.set_cons_zero, List.set_cons_succ, List.getElem_toArray, List.getElem_cons_zero, List.getElem_cons_succ]
      refine wpAnyH_take (i := 9) (oi := _) (v := ?_) rfl (by kernel_rfl) (by kernel_rfl) (by kernel_rfl) (fun _ _ _ h => h) (Or.inl ⟨by rfl, ?_⟩) (by assumption) ?_
      rotate_left
      · intro w hSw
        try dsimp only at hSw
        go_simp
        all_goals with_reducible rfl
      simp only [Act.put, List.setIfInBounds_toArray, List.set_cons_zero, List.set_cons_succ, List.getElem_toArray, List.getElem_cons_zero, List.getElem_cons_succ]
      refine wpAnyH_take (i := 10) (oi := _) (v := ?_) rfl (by kernel_rfl) (by kernel_rfl) (by kernel_rfl) (fun _ _ _ h => h) (Or.inl ⟨by rfl, ?_⟩) (by assumption) ?_
      rotate_left
      · intro w hSw
        try dsimp only at hSw
        go_simp
        all_goals with_reducible rfl
      simp only [Act.put, List.setIfInBounds_toArray, List.set_cons_zero, List.set_cons_succ, List.getElem_toArray, List.getElem_cons_zero, List.getElem_cons_succ]
      refine wpAnyH_take (i := 11) (oi := _) (v := ?_) rfl (by kernel_rfl) (by kernel_rfl) (by kernel_rfl) (fun _ _ _ h => h) (Or.inl ⟨by rfl, ?_⟩) (by assumption) ?_
      rotate_left
      · intro w hSw
        try dsimp only at hSw
        go_simp
        all_goals with_reducible rfl
      simp only [Act.put, List.setIfInBounds_toArray, List.set_cons_zero, List.set_cons_succ, List.getElem_toArray, List.getElem_cons_zero, List.getElem_cons_succ]
      refine wpAnyH_take (i := 12) (oi := _) (v := ?_) rfl (by kernel_rfl) (by kernel_rfl) (by kernel_rfl) (fun _ _ _ h => h) (Or.inl ⟨by rfl, ?_⟩) (by assumption) ?_
      rotate_left
      · intro w hSw
        try dsimp only at hSw
        go_simp
        all_goals with_reducible rfl
      simp only [Act.put, List.setIfInBounds_toArray, List.set_cons_zero, List.set_cons_succ, List.getElem_toArray, List.getElem_cons_zero, List.getElem_cons_succ]
      refine wpAnyH_take (i := 13) (oi := _) (v := ?_) rfl (by kernel_rfl) (by kernel_rfl) (by kernel_rfl) (fun _ _ _ h => h) (Or.inl ⟨by rfl, ?_⟩) (by assumption) ?_
      rotate_left
      · intro w hSw
        try dsimp only at hSw
        go_simp
        all_goals with_reducible rfl
      simp only [Act.put, List.setIfInBounds_toArray, List.set_cons_zero, List.set_cons_succ, List.getElem_toArray, List.getElem_cons_zero, List.getElem_cons_succ]
      refine wpAnyH_take (i := 14) (oi := _) (v := ?_) rfl (by kernel_rfl) (by kernel_rfl) (by kernel_rfl) (fun _ _ _ h => h) (Or.inl ⟨by rfl, ?_⟩) (by assumption) ?_
      rotate_left
      · intro w hSw
        try dsimp only at hSw
        go_simp
        all_goals with_reducible rfl
      simp only [Act.put, List.setIfInBounds_toArray, List.set_cons_zero, List.set_cons_succ, List.getElem_toArray, List.getElem_cons_zero, List.getElem_cons_succ]
      refine wpAnyH_take (i := 15) (oi := _) (v := ?_) rfl (by kernel_rfl) (by kernel_rfl) (by kernel_rfl) (fun _ _ _ h => h) (Or.inl ⟨by rfl, ?_⟩) (by assumption) ?_
      rotate_left
      · intro w hSw
        try dsimp only at hSw
        go_simp
        all_goals with_reducible rfl
      simp only [Act.put, List.setIfInBounds_toArray, List.set_cons_zero, List.set_cons_succ, List.getElem_toArray, List.getElem_cons_zero, List.getElem_cons_succ]
      refine wpAnyH_take (i := 17) (oi := _) (v := ?_) rfl (by kernel_rfl) (by kernel_rfl) (by kernel_rfl) (fun _ _ _ h => h) (Or.inl ⟨by rfl, ?_⟩) (by assumption) ?_
      rotate_left
      · intro w hSw
        try dsimp only at hSw
        go_simp
        all_goals with_reducible rfl
      simp only [Act.put, List.setIfInBounds_toArray, List.set_cons_zero, List.set_cons_succ, List.getElem_toArray, List.getElem_cons_zero, List.getElem_cons_succ]
      refine wpAnyH_take (i := 18) (oi := _) (v := ?_) rfl (by kernel_rfl) (by kernel_rfl) (by kernel_rfl) (fun _ _ _ h => h) (Or.inl ⟨by rfl, ?_⟩) (by assumption) ?_
      rotate_left
      · intro w hSw
        try dsimp only at hSw
        go_simp
        all_goals with_reducible rfl
      simp only [Act.put, List.setIfInBounds_toArray, List.set_cons_zero, List.set_cons_succ, List.getElem_toArray, List.getElem_cons_zero, List.getElem_cons_succ]
      refine wpAnyH_take (i := 19) (oi := _) (v := ?_) rfl (by kernel_rfl) (by kernel_rfl) (by kernel_rfl) (fun _ _ _ h => h) (Or.inl ⟨by rfl, ?_⟩) (by assumption) ?_
      rotate_left
      · intro w hSw
        try dsimp only at hSw
        go_simp
        all_goals with_reducible rfl
      simp only [Act.put, List.setIfInBounds_toArray, List.set_cons_zero, List.set_cons_succ, List.getElem_toArray, List.getElem_cons_zero, List.getElem_cons_succ]
      refine wpAnyH_take (i := 20) (oi := _) (v := ?_) rfl (by kernel_rfl) (by kernel_rfl) (by kernel_rfl) (fun _ _ _ h => h) (Or.inl ⟨by rfl, ?_⟩) (by assumption) ?_
      rotate_left
      · intro w hSw
        try dsimp only at hSw
        go_simp
        all_goals with_reducible rfl
      simp only [Act.put, List.setIfInBounds_toArray, List.set_cons_zero, List.set_cons_succ, List.getElem_toArray, List.getElem_cons_zero, List.getElem_cons_succ]
      refine wpAnyH_ready (rs := [16]) (by kernel_rfl) (by simp) ?_
      refine AllReadyH.cons (o := _) rfl (fun K hK => ?_) AllReadyH.nil
      simp only [List.getElem_toArray, List.getElem_cons_zero, List.getElem_cons_succ]
      go_simp
      go_at_call 12; refine HST.out.mono ?_; rintro r w12 ⟨rfl, _, hbw, g0, g1, g2, g3⟩; have HBW := Lib.hid hbw; clear hbw
      go_wp2_with fail
      refine hK.out _ _ ⟨g0, g1, g2, g3⟩ (fun hHeld => ?_)
      clear hK K
      try simp only [Act.put, List.setIfInBounds_toArray, List.set_cons_zero, List.set_cons_succ, List.getElem_toArray, List.getElem_cons_zero, List.getElem_cons_succ]
      refine wpAnyH_take (i := 21) (oi := _) (v := ?_) rfl (by kernel_rfl) (by kernel_rfl) (by kernel_rfl) (fun _ _ _ h => h) (Or.inl ⟨by rfl, ?_⟩) (by assumption) ?_
      rotate_left
      · intro w hSw
        try dsimp only at hSw
        go_simp
        all_goals with_reducible rfl
      simp only [Act.put, List.setIfInBounds_toArray, List.set_cons_zero, List.set_cons_succ, List.getElem_toArray, List.getElem_cons_zero, List.getElem_cons_succ]
      refine wpAnyH_take (i := 22) (oi := _) (v := ?_) rfl (by kernel_rfl) (by kernel_rfl) (by kernel_rfl) (fun _ _ _ h => h) (Or.inl ⟨by rfl, ?_⟩) (by assumption) ?_
      rotate_left
      · intro w hSw
        try dsimp only at hSw
        go_simp
        all_goals with_reducible rfl
      simp only [Act.put, List.setIfInBounds_toArray, List.set_cons_zero, List.set_cons_succ, List.getElem_toArray, List.getElem_cons_zero, List.getElem_cons_succ]
      refine wpAnyH_take (i := 23) (oi := _) (v := ?_) rfl (by kernel_rfl) (by kernel_rfl) (by kernel_rfl) (fun _ _ _ h => h) (Or.inl ⟨by rfl, ?_⟩) (by assumption) ?_
      rotate_left
      · intro w hSw
        try dsimp only at hSw
        go_simp
        all_goals with_reducible rfl
      simp only [Act.put, List.setIfInBounds_toArray, List.set_cons_zero, List.set_cons_succ, List.getElem_toArray, List.getElem_cons_zero, List.getElem_cons_succ]
      refine wpAnyH_done (by kernel_rfl) (NoPanic.normal ?_) _
      go_wp2
      go_ret
      exact ⟨rfl, HBW.out⟩
  · have hs : startF ws 0 Pth.off now = ⟨Plc.zero, false, 0, Pth.off⟩ := if_neg (fun h => hnow h.1)
    try dsimp only at hp8
    rw [hs] at hp8 ⊢
    try dsimp only [Plc.zero, Pth.off] at hp8 ⊢
    have HP8 := Lib.hid (hp8.top ((Below.refl _ w8).alloc (Nat.le_refl _) (.cells #[.int .u32 0, .int .i64 0, .int .i64 0, .bool false] 31)))
    have hbad : now < 0 ∨ (¬ now < 0 ∧ 1099511627776 < now) := by unfold mayT at hnow; omega
    clear hp8 hs hnow
    rcases hbad with hn0 | ⟨hn0, hn1⟩
    all_goals
      go_wp2_with fail
      refine (State_ HP8.out.wk).mono ?_
      rintro r w9 ⟨rfl, hb⟩
      have HP9 := Lib.hid (HP8.out.top hb)
      clear hb
      try dsimp only
      go_wp2
      go_ret
      exact ⟨rfl, HP9.out.below⟩
end Go.Proofs.Ythlhfhfhagfelaa
