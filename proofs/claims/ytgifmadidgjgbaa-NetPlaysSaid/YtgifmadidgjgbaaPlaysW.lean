/- The walk of NetPlays. No condition. -/
import Derived.Test.YtgifmadidgjgbaaPlaysB
import Derived.LoopTactic
import Derived.Deep.CutBlock
import Derived.Deep.CutRange
import Derived.StillTailTactics
import Derived.Deep.OwnRows
set_option linter.unusedVariables false
set_option linter.unusedSimpArgs false
namespace Go.Proofs.Ytgifmadidgjgbaa
open Go.RowKit Go.Shelf
attribute [local go_sem] Oper.semAt_some
attribute [local go_sem ↓] Go.wp_at_zero Go.wp_at_succ

theorem len_succ {α : Type} {n : Nat} {l : List α} (h : l.length = n + 1) : ∃ a l', l = a :: l' ∧ l'.length = n := by
  cases l with
  | nil => simp at h
  | cons a l => exact ⟨a, l, rfl, by simpa using h⟩

set_option maxHeartbeats 3200000 in
set_option maxRecDepth 100000 in
theorem NetPlays_walk (A : Option Addr) (ds : List Step) (cap : Nat) (w : World) (hs : ScriptAt w w.heap.size A ds) (hl : ds.length ≤ 9223372036854775807) (hu : ∀ d ∈ ds, 0 ≤ d.fh ∧ 0 ≤ d.th) :
    Calls Try.prog 5 #[.slice A ds.length cap] w fun r w' => r = .returned (.bool true) ∧ Below w.heap.size w w' := by
  have HS := Lib.hid hs
  have HU := Lib.hid hu
  have hsm := fun (W : World) (h : Below w.heap.size w W) => small (hs.below h) hl cap
  have HSM := Lib.hid hsm
  clear hs hu hsm
  generalize hq : ds.length = q at *
  have HQ := Lib.hid hq
  clear hq
  refine (callsIn_wide (n := 9)).1 (callsIn_of_wp_marks Try.func5 rfl trivial (wpIn_wide.2 ?_) rfl)
  simp only [Try.ntmps5, List.size_toArray, List.length_cons, List.length_nil, Nat.reduceAdd, Nat.reduceSub, Array.replicate_succ, Array.replicate_zero, List.push_toArray, List.append_toArray, List.nil_append, List.cons_append]
  go_wp2_with (first | (go_at_call 7; refine (awake _).mono ?_; rintro r w1 ⟨rfl, hb1⟩; have HB1 := Lib.hid hb1; clear hb1) | (go_at_call 8; refine (HSM.out _ (((Below.refl _ w).alloc (Nat.le_refl _) (.cells #[.bool false] 4)).trans (HB1.out.mono (by simp)))).mono ?_; rintro r w2 ⟨ok, rfl, hb2, hok⟩; have HB2 : Hid (Below (w.heap.size + 1) (w.alloc (.cells #[.bool false] 4)) w2) := (by have := HB1.out; simp only [World.size_alloc] at this; exact this.trans (hb2.mono (by have h9 := HB1.out.size; simp at h9; omega))); clear hb2; have q0 : w2.cell? ⟨w.heap.size, 0, none⟩ = some (.bool false) := (((Blk.new w 4 #[.bool false]).below HB2.out (by omega)).cell 0); have qf : w2.frozen? ⟨w.heap.size, 0, none⟩ = false := (((Blk.new w 4 #[.bool false]).below HB2.out (by omega)).frozen 0); cases ok) | (go_at_call 9; refine (New _).mono ?_; rintro r w3 ⟨rfl, rfl⟩))
  · refine leaves_coll [] _ List.Pairwise.nil (fun D hD => by simp at hD) (fun W' hu => ?_)
    have hq := ((Blk.new w 4 #[.bool false]).below HB2.out (by omega)).set_ 0 (.bool true)
    have hb : Below w.heap.size w (w2.setCell ⟨w.heap.size, 0, none⟩ (.bool true)) := (((Below.refl _ w).alloc (Nat.le_refl _) _).trans (HB2.out.mono (by omega))).setCell (p := ⟨w.heap.size, 0, none⟩) (Nat.le_refl _) _
    have c0 : W'.cell? ⟨w.heap.size, 0, none⟩ = some (.bool true) := (hq.upd hu (by simp)).cell 0
    exact ⟨.bool true, by simp [results, Try.results5, go_sem, c0], rfl, hb.trans (hu.below hb.size (fun k hk => by simp at hk))⟩
  have HST := Lib.hid (P5.start HB2.out)
  clear q0 qf
  generalize ((w2.alloc (.cells #[.slice none 0 0, .int .i64 0] 59)).alloc (.cells #[.slice none 0 0, .int .i64 0] 50)).alloc (.cells #[.pointer (some ⟨w2.heap.size + 1, 0, none⟩)] 47) = w3 at *
  generalize hbr : w2.heap.size + 1 + 1 = br at *
  generalize hB' : w2.heap.size + 1 = B' at *
  generalize hB : w2.heap.size = B at *
  generalize hbq : w.heap.size = bq at *
  clear hbr hB' hB
  have HBQ := Lib.hid hbq
  clear hbq
  refine wp_loop (fun a' w' => ∃ (t : Nat) (Ds : List Nat) (us : List Value), t ≤ 100 ∧ t ≤ q ∧ us.length = 169 ∧ Hid (P5 w w' B B' bq br Ds t) ∧
    a' = { tmps := (.slice A q cap :: undef :: .pointer (some ⟨bq, 0, none⟩) :: .pointer (some ⟨B, 0, none⟩) :: .pointer (some ⟨br, 0, none⟩) :: .int .i64 t :: us).toArray, defers := Ds.map coll }) (fun a' _ => 100 - (intOf (a'.tmps.getD 5 undef)).toNat) ?_ ?_
  · exact ⟨0, [], _, by omega, by omega, rfl, HST.out, rfl⟩
  · rintro _ wr ⟨t, Ds, us, ht1, htq, hus, HR, rfl⟩
    iterate 169 (have h2 := len_succ hus; clear hus; obtain ⟨_, us, rfl, hus⟩ := h2)
    obtain rfl := List.eq_nil_of_length_eq_zero hus
    clear hus HST
    obtain ⟨S, S', v, v', l, l', last, P⟩ := HR.out
    by_cases hlt : t < q ∧ t < 100
    · obtain ⟨hlt, htt⟩ := hlt
      have hlt' : (t : Int) < (q : Int) := by omega
      have htt' : (t : Int) < 100 := by omega
      obtain ⟨d, hd⟩ : ∃ d, ds[t]? = some d := ⟨ds[t]'(by rw [HQ.out]; exact hlt), List.getElem?_eq_getElem _⟩
      have hsc := HS.out.below (by have := P.two.below; rwa [HBQ.out] at this)
      obtain ⟨bs, os, rfl, hM, hbl, x0, x1, x2, x3, x4, x5, x6⟩ := hsc.elem hd
      obtain ⟨hy1, hy2⟩ := hsc.byt d (List.mem_of_getElem? hd)
      obtain ⟨hu1, hu2⟩ := HU.out d (List.mem_of_getElem? hd)
      have HY := Lib.hid hy1
      have HP := Lib.hid P
      have y0 : wr.cell? ⟨br, 0, none⟩ = some (.pointer (some ⟨B', 0, none⟩)) := P.rb.cell 0
      have hbrl : br < wr.heap.size := P.rb.lt
      have hbrn : br ≠ wr.heap.size := by omega
      clear HR P hsc hd hy1
      generalize d.kind = kd at *
      go_upto_block 2 with (fail)
      have hT := HP.out.two.lay (.cells #[.int .i64 kd, .int .i64 d.no, .int .u32 d.fh, .int .i64 d.fp, .int .u32 d.th, .int .i64 d.tp, .slice d.A d.b.length d.c] 37)
      have hbx := Blk.new wr 37 #[.int .i64 kd, .int .i64 d.no, .int .u32 d.fh, .int .i64 d.fp, .int .u32 d.th, .int .i64 d.tp, .slice d.A d.b.length d.c]
      have hY1 := HY.out.alloc (.cells #[.int .i64 kd, .int .i64 d.no, .int .u32 d.fh, .int .i64 d.fp, .int .u32 d.th, .int .i64 d.tp, .slice d.A d.b.length d.c] 37)
      have hb1 : Below wr.heap.size wr (wr.alloc (.cells #[.int .i64 kd, .int .i64 d.no, .int .u32 d.fh, .int .i64 d.fp, .int .u32 d.th, .int .i64 d.tp, .slice d.A d.b.length d.c] 37)) := (Below.refl _ _).alloc (Nat.le_refl _) _
      have hr1 := HP.out.rb.alloc (.cells #[.int .i64 kd, .int .i64 d.no, .int .u32 d.fh, .int .i64 d.fp, .int .u32 d.th, .int .i64 d.tp, .slice d.A d.b.length d.c] 37)
      generalize wr.alloc (.cells #[.int .i64 kd, .int .i64 d.no, .int .u32 d.fh, .int .i64 d.fp, .int .u32 d.th, .int .i64 d.tp, .slice d.A d.b.length d.c] 37) = wr1 at *
      generalize hbd : wr.heap.size = bd at *
      have HBD := Lib.hid hbd
      clear hbd
      have HT := Lib.hid hT
      have HBX := Lib.hid hbx
      have HY1 := Lib.hid hY1
      have HW1 := Lib.hid hb1
      have HR1 := Lib.hid hr1
      have hla := HP.out.la
      have HSA := Lib.hid HP.out.same
      clear hT hbx hY1 hb1 hr1 HY x0 x1 x2 x3 x4 x5 x6 y0 hbrl hbrn
      have HNX : Hid (∀ w2, BothAfter w wr1 B B' (fun k => O5 bq br Ds k ∨ k = bd) last w2 → P5 w w2 B B' bq br Ds (t + 1)) := fun w2 ha => P5.next HP.out (by rw [HBD.out]; exact HW1.out) (fun k h => .inl h) ha
      have hkeep : ∀ W, KeepO (fun k => O5 bq br Ds k ∨ k = bd) wr1 W → (W.cell? ⟨br, 0, none⟩ = some (.pointer (some ⟨B', 0, none⟩)) ∧ br < W.heap.size) ∧ W.cell? ⟨bd, 0, none⟩ = some (.int .i64 kd) ∧ W.cell? ⟨bd, 1, none⟩ = some (.int .i64 d.no) ∧ W.cell? ⟨bd, 2, none⟩ = some (.int .u32 d.fh) ∧ W.cell? ⟨bd, 3, none⟩ = some (.int .i64 d.fp) ∧ W.cell? ⟨bd, 4, none⟩ = some (.int .u32 d.th) ∧ W.cell? ⟨bd, 5, none⟩ = some (.int .i64 d.tp) ∧ W.cell? ⟨bd, 6, none⟩ = some (.slice d.A d.b.length d.c) := fun W hk => by
        have h1 : Blk W br 47 #[.pointer (some ⟨B', 0, none⟩)] := (hk br (.inl (.inr (.inl rfl)))).trans HR1.out
        have h2 : Blk W bd 37 #[.int .i64 kd, .int .i64 d.no, .int .u32 d.fh, .int .i64 d.fp, .int .u32 d.th, .int .i64 d.tp, .slice d.A d.b.length d.c] := (hk bd (.inr rfl)).trans HBX.out
        exact ⟨⟨h1.cell 0, h1.lt⟩, h2.cell 0, h2.cell 1, h2.cell 2, h2.cell 3, h2.cell 4, h2.cell 5, h2.cell 6⟩
      have HKE := Lib.hid hkeep
      clear hkeep
      have HYD : Hid (RdA wr1 (fun k => k < w.heap.size) 1 d.A d.b.length (enc8 d.b)) := by have := HY1.out; rw [← HBQ.out] at this; exact this
      obtain ⟨⟨y0, hbrl⟩, e0, e1, e2, e3, e4, e5, e6⟩ := HKE.out wr1 (fun _ _ => rfl)
      go_cut [] from 30 to 174 (fun wx => Hid (P5 w wx B B' bq br Ds (t + 1)))
      case first =>
        by_cases hk0 : kd = 0
        · subst hk0
          go_wp2_with (first | (go_at_call 10; refine (SendBoth HT.out HSA.out (by omega) d.fh d.fp d.th d.tp hu1 hu2 d.b d.A d.c HYD.out hy2).mono ?_; rintro r w4 ⟨ra, rc, rfl, hk4, hcall⟩; obtain ⟨⟨z0, hbrl4⟩, f0, f1, f2, f3, f4, f5, f6⟩ := HKE.out w4 hk4; have HC4 := Lib.hid hcall; clear hcall hk4) | (go_at_call 15; refine HC4.out.out.mono ?_; rintro r w5 ⟨rfl, hba⟩; have HBA := Lib.hid hba; clear hba))
          go_meet
          case rel => exact HNX.out _ HBA.out
        by_cases hk2 : kd = 2
        · subst hk2
          go_wp2_with (first | (go_at_call 11; refine (CopyBoth HT.out HSA.out (by omega) d.no).mono ?_; rintro r w4 ⟨ra, rc, rfl, hk4, hcall⟩; obtain ⟨⟨z0, hbrl4⟩, f0, f1, f2, f3, f4, f5, f6⟩ := HKE.out w4 hk4; have HC4 := Lib.hid hcall; clear hcall hk4) | (go_at_call 16; refine HC4.out.out.mono ?_; rintro r w5 ⟨rfl, hba⟩; have HBA := Lib.hid hba; clear hba))
          go_meet
          case rel => exact HNX.out _ HBA.out
        have HTK := Lib.hid (take2 HT.out HSA.out HKE.out HNX.out)
        by_cases hk3 : kd = 3
        · subst hk3
          go_wp2_with fail
          refine (AtBoth HT.out HSA.out d.no).mono ?_
          rintro r w4 ⟨no, rfl, hb4, hat⟩
          obtain ⟨⟨y04, hbrl4⟩, f0, f1, f2, f3, f4, f5, f6⟩ := HKE.out w4 (fun k hk => hb4.block k (HT.out.oth k hk).2.2)
          have HA4 := Lib.hid hat
          clear hat
          go_wp2_with fail
          refine HA4.out.out.mono ?_
          rintro r w4' ⟨rfl, rfl⟩
          go_wp2_with fail
          refine (HTK.out _ (by assumption) _).mono ?_
          rintro r w5 ⟨x, A1, c1, cd, rfl, ⟨z0, hbr5⟩, htk⟩
          have HK5 := Lib.hid htk
          have hne5 : br ≠ w5.heap.size := (by omega)
          clear htk
          go_wp2_with fail
          refine (HK5.out.out _ ((Below.refl _ w5).alloc (Nat.le_refl _) _)).mono ?_
          rintro r w6 ⟨A2, c2, rfl, hkk, hz6, hsame⟩
          have hb6 : Blk w6 w5.heap.size 39 #[.int .i64 x.no, .int .u32 x.fh, .int .i64 x.fp, .int .u32 x.th, .int .i64 x.tp, .slice A1 x.b.length c1] := ((hkk _ (Nat.le_refl _) (by simp)).trans (Blk.new w5 39 _))
          have s0 := hb6.cell 0; have s1 := hb6.cell 1; have s2 := hb6.cell 2; have s3 := hb6.cell 3; have s4 := hb6.cell 4; have s5 := hb6.cell 5
          simp only [List.getElem?_toArray, List.getElem?_cons_zero, List.getElem?_cons_succ] at s0 s1 s2 s3 s4 s5
          have hl6 := hb6.lt
          have hn6 : w5.heap.size ≠ w6.heap.size := (by omega)
          have HSM := Lib.hid hsame
          clear hsame hkk hb6 HK5 hz6
          go_wp2_with fail
          refine (HSM.out.out _ ((Below.refl _ w6).alloc (Nat.le_refl _) _)).mono ?_
          rintro r w7 ⟨rfl, hp7⟩
          have HP7 := Lib.hid hp7
          clear hp7
          go_wp2
          go_meet
          case rel => exact HP7.out
        · have hb4 := Below.refl wr1.heap.size wr1
          go_wp2_with fail
          refine (HTK.out _ (by assumption) _).mono ?_
          rintro r w5 ⟨x, A1, c1, cd, rfl, ⟨z0, hbr5⟩, htk⟩
          have HK5 := Lib.hid htk
          have hne5 : br ≠ w5.heap.size := (by omega)
          clear htk
          go_wp2_with fail
          refine (HK5.out.out _ ((Below.refl _ w5).alloc (Nat.le_refl _) _)).mono ?_
          rintro r w6 ⟨A2, c2, rfl, hkk, hz6, hsame⟩
          have hb6 : Blk w6 w5.heap.size 39 #[.int .i64 x.no, .int .u32 x.fh, .int .i64 x.fp, .int .u32 x.th, .int .i64 x.tp, .slice A1 x.b.length c1] := ((hkk _ (Nat.le_refl _) (by simp)).trans (Blk.new w5 39 _))
          have s0 := hb6.cell 0; have s1 := hb6.cell 1; have s2 := hb6.cell 2; have s3 := hb6.cell 3; have s4 := hb6.cell 4; have s5 := hb6.cell 5
          simp only [List.getElem?_toArray, List.getElem?_cons_zero, List.getElem?_cons_succ] at s0 s1 s2 s3 s4 s5
          have hl6 := hb6.lt
          have hn6 : w5.heap.size ≠ w6.heap.size := (by omega)
          have HSM := Lib.hid hsame
          clear hsame hkk hb6 HK5 hz6
          go_wp2_with fail
          refine (HSM.out.out _ ((Below.refl _ w6).alloc (Nat.le_refl _) _)).mono ?_
          rintro r w7 ⟨rfl, hp7⟩
          have HP7 := Lib.hid hp7
          clear hp7
          go_wp2
          go_meet
          case rel => exact HP7.out
      case rest =>
        clear HP HT HSA HNX HKE HBX HY1 HW1 HR1 HYD y0 e0 e1 e2 e3 e4 e5 e6
        obtain ⟨S, S', v, v', l, l', last, P⟩ := hcut.out
        have hal := All_ (P.two.net.below ((Below.refl _ _).alloc (Nat.le_refl _) (.cells #[.int .i64 0] 3)))
        have HAL := Lib.hid hal
        have HP0 := Lib.hid P
        clear hal P hcut
        go_wp2_with (go_at_call 20; refine HAL.out.mono ?_; rintro r w5 ⟨Bs, A', c', rfl, hbs, hbz, hrow, hb5⟩)
        have hb05 : Below wc.heap.size wc w5 := ((Below.refl _ wc).alloc (Nat.le_refl _) _).trans (hb5.mono (by simp))
        have HP5 := Lib.hid (HP0.out.top hb05)
        have HSR := Lib.hid (Src5 HP0.out HP5.out (w3 := wc.alloc (.cells #[.int .i64 0] 3)) (by simp) hbs hbz hrow)
        have HI0 : Hid (I5 w5 wc.heap.size [] w5) := ⟨Upd.refl _ _, (Blk.new wc 3 #[.int .i64 0]).below hb5 (by simp)⟩
        have HNW : Hid (∀ k, U5 w5 wc.heap.size k → ¬ S k ∧ ¬ S' k ∧ ¬ O5 bq br Ds k ∧ w.heap.size ≤ k) := fun k hk => HP0.out.newer k (by
          rcases hk with rfl | hk
          · exact Nat.le_refl _
          · exact Nat.le_trans hb05.size hk)
        have HBK : Hid (wc.heap.size < w5.heap.size) := HI0.out.2.lt
        have HLN : Hid (l.length ≤ 300 ∧ l.length = l'.length) := ⟨HP5.out.two.net.len, HP5.out.same.len⟩
        clear hbs hbz hrow hb5 hb05 HAL HP0
        generalize wc.heap.size = bk at *
        refine with_act ?_
        intro a0 ha0
        refine wpIn_wide.1 (rangeFunc_fresh (F := Fence.wide) (n := 9) rfl (by omega) (gf := 30) (lb := #[.pointer (some ⟨Bs, 0, none⟩)]) (by rw [ha0]; rfl) trivial (enters_of Try.func30 (by kernel_rfl) rfl)
          (all1 8 (by omega) _ Bs A' c' l w5 HSR.out HLN.out.1) (fun h k => h.trans k) (fun h => KeepK.of_calm (fun k hk => hk.1) h) (fun _ => rfl)
          (I5 w5 bk) (fun _ _ _ => False) I5.stable (fun c _ _ _ h _ => h) HI0.out (M5 w5 bk l a0) M5.stable ?assign ?body ?done ?stop)
        case assign =>
          intro L pre x Ws W K hi hb hG hK
          have hm := fun o ho => M5.start hi hb hG o ho
          have HM := Lib.hid hm
          have HK := Lib.hid hK
          clear hm hK hi hb hG
          rw [ha0]
          simp only [enc39]
          gi_wp2
          obtain ⟨m1, m2, m3, m4, m5⟩ := HM.out _ rfl
          exact HK.out _ _ ((KeepsOthers.alloc _ _).from _) (KeepK.of_below ((Below.refl _ W).alloc (Nat.le_refl _) _)) ⟨W.heap.size, m1, m2, m3, m4, m5, by rw [ha0]; rfl⟩
        case body =>
          intro L pre x a' W hm hlen
          obtain ⟨Bx, hI, hBx, hbx, ⟨n0, hown⟩, ⟨e, he, hx⟩, rfl⟩ := hm
          rw [ha0]
          simp only [List.setIfInBounds_toArray, List.set_cons_succ, List.set_cons_zero]
          have hPW := HP5.out.upd hI.1 HNW.out
          obtain ⟨e', he', hx'⟩ := hPW.same.at_ he
          have hN := hPW.two.ref
          obtain ⟨g7, c7, hv7, _, hg7⟩ := hN.row.form (by rw [← HLN.out.2]; omega)
          rw [hv7] at hN
          obtain ⟨c0, c1, c2, c3, c4, c5⟩ := hN.elem he'
          obtain ⟨hby1, hby2, hby3⟩ := hN.byt e' (List.mem_of_getElem? he')
          rw [hx', ← hx] at c0 c1 c2 c3 c4 c5 hby1 hby3
          have r0 : W.cell? ⟨br, 0, none⟩ = some (.pointer (some ⟨B', 0, none⟩)) := hPW.rb.cell 0
          have r1 : W.cell? ⟨B', 0, none⟩ = some (.slice (some ⟨g7, 0, none⟩) l.length c7) := by rw [HLN.out.2]; exact hN.blk.cell 0
          have k0 : W.cell? ⟨bk, 0, none⟩ = some (.int .i64 (pre.length : Int)) := hI.2.cell 0
          have d0 : W.cell? ⟨Bx, 0, none⟩ = some (.int .i64 x.x.no) := hbx.cell 0
          have d1 : W.cell? ⟨Bx, 1, none⟩ = some (.int .u32 x.x.fh) := hbx.cell 1
          have d2 : W.cell? ⟨Bx, 2, none⟩ = some (.int .i64 x.x.fp) := hbx.cell 2
          have d3 : W.cell? ⟨Bx, 3, none⟩ = some (.int .u32 x.x.th) := hbx.cell 3
          have d4 : W.cell? ⟨Bx, 4, none⟩ = some (.int .i64 x.x.tp) := hbx.cell 4
          have d5 : W.cell? ⟨Bx, 5, none⟩ = some (.slice x.A x.x.b.length x.c) := hbx.cell 5
          have hsm := SameR x.x ((Rd.of_own (S := fun _ => True) hown (fun _ _ => trivial)).a.same (w' := W.drew) (fun _ _ _ => rfl) (Nat.le_refl _)) (hby1.a.same (w' := W.drew) (fun _ _ _ => rfl) (Nat.le_refl _)) x.c e'.c (by omega)
          have HSM := Lib.hid hsm
          have HI1 := Lib.hid hI
          have hlt : (pre.length : Int) < (l.length : Int) := by omega
          have hb7' := I5.next (x := x) hI
          have HB7 := Lib.hid hb7'
          have hl3 := HLN.out.1
          have hbl := HBK.out
          have hbl2 : bk < W.heap.size := hI.2.lt
          clear hPW hN he he' hx hx' hby1 hby2 hby3 hown hbx hsm hI hb7' hBx
          generalize pre.length = cnt at *
          generalize l.length = ln at *
          gi_wp2
          refine region_round_tail 16 (by kernel_rfl) (Plain.of (by kernel_rfl)) (fun ⟨_, _, h⟩ => h) (by kernel_rfl) ?_
          simp only [List.take_succ_cons, List.take_zero, List.drop_succ_cons, List.drop_zero]
          repeat still_step
          try refine wpStill_nil ?_
          change wpList _ _ _ _ _ W.drew
          generalize W.drew = wd at *
          clear c0 c1 c2 c3 c4 c5 d0 d1 d2 d3 d4 d5 r0 r1 k0
          go_wp2_with (go_at_call 19; refine HSM.out.mono ?_; rintro r w7 ⟨rfl, hb7⟩; obtain ⟨⟨q0, qf⟩, hend⟩ := HB7.out w7 hb7; have HE := Lib.hid hend; clear hend hb7)
          gi_wp2
          exact HE.out
        case stop =>
          intro D c pre W hD hS hI hK
          exact hI.elim
        case done =>
          intro D xs W hD hS hI hK
          have HPW := Lib.hid ((HP5.out.upd hI.1 HNW.out).mark hK (HNW.out D (.inr hD)))
          have hk0 : W.cell? ⟨bk, 0, none⟩ = some (.int .i64 (l.length : Int)) := by have := hI.2.cell 0; rw [hS] at this; exact this
          clear hI hK hS
          rw [ha0]
          dsimp only
          obtain ⟨A7, c7, hv7, _, _⟩ := own_slice HPW.out.two.ref.row
          have hr0 : W.cell? ⟨br, 0, none⟩ = some (.pointer (some ⟨B', 0, none⟩)) := HPW.out.rb.cell 0
          have hr1 : W.cell? ⟨B', 0, none⟩ = some (.slice A7 l.length c7) := by have := HPW.out.two.ref.blk.cell 0; rw [hv7] at this; rw [HLN.out.2]; exact this
          have hct : ∀ nq, Calls Try.prog 13 #[.pointer (some ⟨B, 0, none⟩)] (W.drewN nq) fun r w' => r = .returned (.int .i64 (l.length : Int)) ∧ w' = W.drewN nq := fun nq =>
            (Count (HPW.out.two.net.same (w' := W.drewN nq) (fun _ _ => rfl) (Nat.le_refl _)))
          have HCT := Lib.hid hct
          have hl3 := HLN.out.1
          clear hct HLN HSR HI0
          generalize l.length = ln at *
          go_wp2
          go_quiet (first | (go_at_call 13; exact Calls.quiet_of_same (HCT.out _)))
          clear hk0 hr0 hr1
          go_wp2
          have HPN : Hid (P5 w (W.drewN nq) B B' bq br (D :: Ds) (t + 1)) := ⟨_, _, _, _, _, _, _, HPW.out.top ⟨rfl, rfl, rfl, Nat.le_refl _, fun _ _ => rfl⟩⟩
          refine ⟨⟨t + 1, D :: Ds, _, by omega, by omega, ?_, HPN, rfl⟩, ?_⟩
          · rfl
          · simp [intOf]; omega
    · obtain ⟨hnd, hdf, ⟨q0, qf⟩, hend⟩ := HR.out.fin
      have HND := Lib.hid hnd
      have HDF := Lib.hid hdf
      have HE := Lib.hid hend
      clear hnd hdf hend HR P
      have hz : (q : Int) ≤ (t : Int) ∨ (t : Int) < (q : Int) ∧ (100 : Int) ≤ (t : Int) := by omega
      clear hlt
      rcases hz with hz | ⟨hz, hz2⟩
      · go_wp2
        refine leaves_coll Ds _ HND.out HDF.out (fun W' hu => ?_)
        obtain ⟨c0, hb⟩ := HE.out W' hu
        exact ⟨.bool true, by simp [results, Try.results5, go_sem, c0], rfl, hb⟩
      · go_wp2
        refine leaves_coll Ds _ HND.out HDF.out (fun W' hu => ?_)
        obtain ⟨c0, hb⟩ := HE.out W' hu
        exact ⟨.bool true, by simp [results, Try.results5, go_sem, c0], rfl, hb⟩
end Go.Proofs.Ytgifmadidgjgbaa
