/- The walk of NetAll. No condition. -/
import Derived.Test.YtgifmadidgjgbaaAllE
import Derived.Test.YtgifmadidgjgbaaRound
import Derived.LoopTactic
import Derived.StillTailTactics
import Derived.Deep.OwnRows
set_option linter.unusedVariables false
set_option linter.unusedSimpArgs false
namespace Go.Proofs.Ytgifmadidgjgbaa
open Go.RowKit Go.Shelf
attribute [local go_sem] Oper.semAt_some
attribute [local go_sem ↓] Go.wp_at_zero Go.wp_at_succ

set_option maxHeartbeats 3200000 in
set_option maxRecDepth 100000 in
theorem NetAll_walk (A : Option Addr) (rs : List BRow) (cap : Nat) (stop : Nat) (hst : stop < 256) (w : World) (hs : ListAt w w.heap.size A rs) (hl : rs.length ≤ 9223372036854775807) :
    Calls Try.prog 6 #[.slice A rs.length cap, .int .u8 stop] w fun r w' => r = .returned (.bool true) ∧ Below w.heap.size w w' := by
  have hneq : ∀ (W : World) (b : Nat), (binOp .eql 26 (.pointer (some ⟨b, 0, none⟩)) (.pointer none)).run Try.prog W = .ok (.bool false) W := fun W b => by simp [go_sem]
  have HS := Lib.hid hs
  clear hs
  generalize hq : rs.length = q at *
  have HQ := Lib.hid hq
  clear hq
  refine (callsIn_wide (n := 9)).1 (callsIn_of_wp_marks Try.func6 rfl trivial (wpIn_wide.2 ?_) rfl)
  simp only [Try.ntmps6, List.size_toArray, List.length_cons, List.length_nil, Nat.reduceAdd, Nat.reduceSub, Array.replicate_succ, Array.replicate_zero, List.push_toArray, List.append_toArray, List.nil_append, List.cons_append]
  by_cases hlong : 60 < q
  · have hlong' : (60 : Int) < (q : Int) := by omega
    go_wp2_with (go_at_call 7; refine (awake _).mono ?_; rintro r w1 ⟨rfl, hb1⟩; have HB1 := Lib.hid hb1; clear hb1)
    refine ⟨_, results_tmp rfl _ _ _, rfl, ((Below.refl _ w).alloc (Nat.le_refl _) _).trans (HB1.out.mono (by simp))⟩
  have hlong' : (q : Int) ≤ 60 := by omega
  go_wp2_with (first | (go_at_call 7; refine (awake _).mono ?_; rintro r w1 ⟨rfl, hb1⟩; have HB1 := Lib.hid hb1; clear hb1) | (go_at_call 9; refine (New _).mono ?_; rintro r w2 ⟨rfl, rfl⟩))
  have hz1 : w.heap.size + 1 ≤ w1.heap.size := by have := HB1.out.size; simpa using this
  have hbw1 : Below w.heap.size w w1 := ((Below.refl _ w).alloc (Nat.le_refl _) _).trans (HB1.out.mono (by simp))
  have hst0 : S1X w (((w1.alloc (.cells #[.slice none 0 0, .int .i64 0] 59)).alloc (.cells #[.pointer (some ⟨w1.heap.size, 0, none⟩)] 26)).alloc (.cells #[.int .u32 1, .int .i64 1] 30)) w1.heap.size (w1.heap.size + 1) (w1.heap.size + 1 + 1) w.heap.size stop (bytesOf rs) 0 := by
    have hp := (((Blk.new w 5 #[.int .u8 stop]).below HB1.out (by simp)).alloc (.cells #[.slice none 0 0, .int .i64 0] 59)).alloc (.cells #[.pointer (some ⟨w1.heap.size, 0, none⟩)] 26)
    have hx := Blk.new (w1.alloc (.cells #[.slice none 0 0, .int .i64 0] 59)) 26 #[.pointer (some ⟨w1.heap.size, 0, none⟩)]
    have ha := Blk.new ((w1.alloc (.cells #[.slice none 0 0, .int .i64 0] 59)).alloc (.cells #[.pointer (some ⟨w1.heap.size, 0, none⟩)] 26)) 30 #[.int .u32 1, .int .i64 1]
    simp only [World.size_alloc] at hx ha
    exact ⟨_, _, [], ((NetAt.new 59 w1).below ((Below.refl _ _).alloc (Nat.le_refl _) _)).below ((Below.refl _ _).alloc (Nat.le_refl _) _), FrontL.nil _, rfl, ((hbw1.alloc (by omega) _).alloc (by simp; omega) _).alloc (by simp; omega) _, fun k hk => by omega,
      hx.alloc _, ha, hp.alloc _, by omega, by omega, by omega⟩
  have HST := Lib.hid hst0
  clear hst0
  generalize ((w1.alloc (.cells #[.slice none 0 0, .int .i64 0] 59)).alloc (.cells #[.pointer (some ⟨w1.heap.size, 0, none⟩)] 26)).alloc (.cells #[.int .u32 1, .int .i64 1] 30) = w2 at *
  generalize hba : w1.heap.size + 1 + 1 = ba at *
  generalize hbx : w1.heap.size + 1 = bx at *
  generalize hB : w1.heap.size = B at *
  generalize hbp : w.heap.size = bp at *
  clear hba hbx hB
  have HBP := Lib.hid hbp
  clear hbp
  go_loopw [7] (fun s7 wr => ∃ i : Nat, i ≤ q ∧ s7 = .int .i64 i ∧ Hid (S1X w wr B bx ba bp stop (bytesOf rs) i)) (fun s _ => q - (intOf s).toNat)
  case atStart => exact ⟨0, Nat.zero_le _, rfl, HST.out⟩
  case round =>
    clear HST
    obtain ⟨i, hi, rfl, HR⟩ := hrel
    obtain ⟨S, v, l, R⟩ := HR.out
    by_cases hlt : i < q
    · have hlt' : (i : Int) < (q : Int) := by omega
      obtain ⟨r, hr⟩ : ∃ r, rs[i]? = some r := ⟨rs[i]'(by rw [HQ.out]; exact hlt), List.getElem?_eq_getElem _⟩
      have hwr : Below w.heap.size w wr := by rw [HBP.out]; have := R.below; rwa [HBP.out] at this
      have hsc := HS.out.below (by have := hwr; rwa [HBP.out] at this)
      obtain ⟨bb, oo, rfl, hM, hbl, hcell⟩ := hsc.elem hr
      obtain ⟨hy1, hy2⟩ := hsc.byt r (List.mem_of_getElem? hr)
      have x0 : wr.cell? ⟨bx, 0, none⟩ = some (.pointer (some ⟨B, 0, none⟩)) := R.xb.cell 0
      have y0 : wr.cell? ⟨ba, 0, none⟩ = some (.int .u32 1) := R.ab.cell 0
      have y1 : wr.cell? ⟨ba, 1, none⟩ = some (.int .i64 1) := R.ab.cell 1
      by_cases hbig : r.b.length ≤ 1200
      · have hbig' : (r.b.length : Int) ≤ 1200 := by omega
        have hnB : bp ≤ B := by have := R.own B R.net.inB; rwa [HBP.out] at this
        have hsn := Send_room (R.net.same (w' := wr.drew) (fun _ _ => rfl) (Nat.le_refl _)) (by rw [R.len]; omega) (by omega) ⟨0, 1, 1, 1, 1, r.b⟩ r.A r.c _ (hy1.same (w' := wr.drew) (fun _ _ _ => rfl) (Nat.le_refl _)) (fun k hk => by omega) hbig hy2 (by show mayB 1 1 = true; decide) (by show mayB 1 1 = true; decide) rfl
        have hsn2 : ∀ r2 w2, Put 59 wr.drew B S l i ⟨0, 1, 1, 1, 1, r.b⟩ r2 w2 → S1X w w2 B bx ba bp stop (bytesOf rs) (i + 1) := fun r2 w2 hh => S1X.step R (by simp [bytesOf, hr]) (hh.of_below ((Below.refl _ wr).drew))
        have HSN := Lib.hid hsn
        have HSN2 := Lib.hid hsn2
        clear hsn hsn2 hy1 hy2 hsc R HR hr hwr
        go_wp2
        go_still_tail 7, (by kernel_rfl)
        change wpList _ _ _ _ _ wr.drew
        generalize wr.drew = wd at *
        go_wp2_with (go_at_call 10; refine HSN.out.mono ?_; rintro r2 w3 hh; have H4 := Lib.hid (HSN2.out _ _ hh); obtain ⟨rfl, hrest⟩ := hh; clear hrest)
        go_roundw
        case rel => exact ⟨i + 1, by omega, by go_num, H4.out⟩
        case measure => simp [intOf]; omega
      · have hbig' : ¬ (r.b.length : Int) ≤ 1200 := by omega
        have HBW := Lib.hid hwr
        clear hy1 hy2 hsc R HR hr hwr
        go_wp2
        exact ⟨_, results_tmp rfl _ _ _, rfl, by have := HBW.out; rwa [HBP.out] at this⟩
    · have hge : (q : Int) ≤ (i : Int) := by omega
      have hiq : i = q := by omega
      rw [hiq] at R
      have x0 : wr.cell? ⟨bx, 0, none⟩ = some (.pointer (some ⟨B, 0, none⟩)) := R.xb.cell 0
      have xl : bx < wr.heap.size := R.xb.lt
      have xne : bx ≠ wr.heap.size := by omega
      have HR0 := Lib.hid R
      have hal := All_ (R.net.below ((Below.refl _ _).alloc (Nat.le_refl _) (.cells #[.int .i64 0] 3)))
      have HAL := Lib.hid hal
      clear R HR hlt hi hiq hal
      go_wp2_with (go_at_call 20; refine HAL.out.mono ?_; rintro r w5 ⟨Bs, A', c', rfl, hbs, hbz, hrow, hb5⟩)
      clear hge x0 xne
      have hbl : (bytesOf rs).length = q := by simp [bytesOf]; exact HQ.out
      obtain ⟨S0, hco, hlt0⟩ := CoreA.start HR0.out hbl hb5
      have hws : w.heap.size ≤ w5.heap.size := hco.below.size
      have hsrc := Src.start hco hlt0 hbs (by simpa using hbz) (by refine hrow.more (fun k hk _ => by simpa using hk))
      have hl0 : ∀ e ∈ l, e.x.b.length ≤ 1200 := fun e he => (hco.net.byt e he).2.2
      have hlq : l.length = q := HR0.out.len
      generalize wr.heap.size = bn at *
      have HI0 : Hid (IA w w5 B bx ba bp bn stop (bytesOf rs) S0 [] w5) := ⟨⟨_, _, _, _, hco⟩, fun j h1 h2 => by simp at h2; omega⟩
      have HSR := Lib.hid hsrc
      have HL0 := Lib.hid hl0
      have HWS := Lib.hid hws
      have HLQ := Lib.hid hlq
      clear hsrc hl0 hws hlq hco hlt0 hbs hbz hrow hb5 HAL
      refine with_act ?_
      intro a0 ha0
      refine wpIn_wide.1 (rangeFunc_fresh (F := Fence.wide) (n := 9) rfl (by omega) (gf := 30) (lb := #[.pointer (some ⟨Bs, 0, none⟩)]) (by rw [ha0]; rfl) trivial (enters_of Try.func30 (by kernel_rfl) rfl)
        (all1 8 (by omega) _ Bs A' c' l w5 HSR.out (by rw [HLQ.out]; omega)) (fun h k => h.trans k) (fun h => KeepK.of_calm (fun k hk => hk.1) h) (fun _ => rfl)
        (IA w w5 B bx ba bp bn stop (bytesOf rs) S0) (IxA w w5 B bx ba bp bn stop (bytesOf rs) S0) (IA.stable HWS.out) (IxA.stable HWS.out) HI0.out
        (MA w w5 B bx ba bp bn stop (bytesOf rs) S0 a0) (MA.stable HWS.out) ?assign ?body ?done ?stop)
      case assign =>
        intro L pre x Ws W K hi hb hG hK
        have hm := fun o ho => MidA.start hi hb hG HWS.out HL0.out o ho
        have HM := Lib.hid hm
        have HK := Lib.hid hK
        clear hm hK hi hb hG
        rw [ha0]
        simp only [enc39]
        gi_wp2
        obtain ⟨S2, v2, l2, last2, hmid⟩ := HM.out _ rfl
        exact HK.out _ _ ((KeepsOthers.alloc _ _).from _) (KeepK.of_below ((Below.refl _ W).alloc (Nat.le_refl _) _)) ⟨W.heap.size, S2, v2, l2, last2, hmid, by rw [ha0]; rfl⟩
      case body =>
        intro L pre x a' W hm hlen
        rw [HLQ.out] at hlen
        obtain ⟨Bx, S2, v2, l2, last2, hmid, rfl⟩ := hm
        rw [ha0]
        simp only [List.setIfInBounds_toArray, List.set_cons_succ, List.set_cons_zero]
        have HMID := Lib.hid hmid
        have hcnt : l2.length = q + pre.length := by have := hmid.core.len; rw [this]; simp [bytesOf]; exact HQ.out
        have hla : last2 = (q : Int) + pre.length := by have := hmid.core.la; rw [this]; simp [bytesOf]; have := HQ.out; omega
        clear hmid
        generalize hpl : pre.length = cnt at *
        have HPL := Lib.hid hpl
        clear hpl
        generalize hnb : x.x.b.length = nb at *
        have HNB := Lib.hid hnb
        clear hnb
        have hnb12 : nb ≤ 1200 := by have := HMID.out.len; rw [HNB.out] at this; exact this
        gi_wp2
        gi_loopw [10] (fun s10 wr => ∃ k : Nat, k ≤ nb ∧ s10 = .int .i64 k ∧ Hid (MidA w w5 B bx ba bp bn stop (bytesOf rs) S0 S2 v2 l2 last2 cnt x Bx wr ∧ KeepsFrom w5.heap.size W wr ∧ KeepK (Stay w5 bn S0) W wr)) (fun s _ => nb - (intOf s).toNat)
        case atStart => exact ⟨0, Nat.zero_le _, rfl, HMID.out, KeepsFrom.refl _ _, KeepK.of_below (Below.refl _ _)⟩
        case round =>
          obtain ⟨k, hk, rfl, HR⟩ := hrel
          obtain ⟨hmid, hkf, hkk⟩ := HR.out
          have hbx5 : wr.cell? ⟨Bx, 5, none⟩ = some (.slice x.A nb x.c) := by have := hmid.box.cell 5; rw [← HNB.out]; exact this
          by_cases hlt : k < nb
          · have hlt' : (k : Int) < (nb : Int) := by omega
            obtain ⟨g, z, hxa, hg1, hg2, hg3, hgc, hgf⟩ := hmid.byt.cell (j := k) (by rw [HNB.out]; exact hlt)
            have hmd := hmid.calm HWS.out (Calm.of_below ((Below.refl wr.heap.size wr).drew))
            obtain ⟨hw1, hw2⟩ := hmd.write HWS.out hxa (j := k) (by rw [HNB.out]; exact hlt) ((z + 1) % 256)
            rw [hxa] at hbx5
            have HW2 := Lib.hid (And.intro hw1 (And.intro (hkf.trans (((KeepsOthers.drew wr).trans (KeepsOthers.setCell wr.drew ⟨g, k, none⟩ (.int .u8 ((z + 1) % 256)))).from _)) ((hkk.trans (KeepK.of_below ((Below.refl wr.heap.size wr).drew))).trans hw2)))
            clear hw1 hw2 hmid hkf hkk hxa hg1 hg2 HR hmd
            gi_wp2
            refine region_round_tail 10 (by kernel_rfl) (Plain.of (by kernel_rfl)) (fun ⟨_, _, h⟩ => h) (by kernel_rfl) ?_
            simp only [List.take_succ_cons, List.take_zero, List.drop_succ_cons, List.drop_zero]
            repeat still_step
            try refine wpStill_nil ?_
            change wpList _ _ _ _ _ wr.drew
            have hgf' : wr.drew.frozen? ⟨g, k, none⟩ = false := hgf
            have hgc' : wr.drew.cell? ⟨g, k, none⟩ = some (.int .u8 z) := hgc
            have hg3' : g < wr.drew.heap.size := hg3
            generalize wr.drew = wd at *
            go_wp2
            gi_wp2
            go_roundw
            case rel => exact ⟨k + 1, by omega, by go_num, HW2.out⟩
            case measure => simp [intOf]; omega
          · have hge : (nb : Int) ≤ (k : Int) := by omega
            have z0 : wr.cell? ⟨bx, 0, none⟩ = some (.pointer (some ⟨B, 0, none⟩)) := hmid.core.xb.cell 0
            have y0 : wr.cell? ⟨ba, 0, none⟩ = some (.int .u32 1) := hmid.core.ab.cell 0
            have y1 : wr.cell? ⟨ba, 1, none⟩ = some (.int .i64 1) := hmid.core.ab.cell 1
            have hsn := Send_room hmid.core.net (by omega) (by omega) ⟨0, 1, 1, 1, 1, []⟩ none 0 (fun k => k ≠ B) RdA.nil (fun k hk => hk) (by show 0 ≤ 1200; omega) (Nat.le_refl _) (by show mayB 1 1 = true; decide) (by show mayB 1 1 = true; decide) rfl
            have hput : ∀ r w6, Put 59 wr B S2 l2 last2 ⟨0, 1, 1, 1, 1, []⟩ r w6 → ∃ S6 v6 l6 last6, CoreA w w5 w6 B bx ba bp bn stop (bytesOf rs) S0 S6 v6 l6 last6 (cnt + 1) cnt ∧ KeepsFrom w5.heap.size W w6 ∧ KeepK (Stay w5 bn S0) W w6 := fun r w6 ⟨_, S', v', A1, c1, hn, ha⟩ => by
              obtain ⟨S6, c6, _, k6, kk6⟩ := hmid.core.sent_ HWS.out rfl hn ha
              exact ⟨S6, _, _, _, c6, hkf.trans k6, hkk.trans kk6⟩
            have hno := hmid.no
            have HNO := Lib.hid hno
            have HSN := Lib.hid hsn
            have HPU := Lib.hid hput
            clear hsn hput hmid hkf hkk HR hno
            gi_wp2_with fail
            refine ⟨trivial, CallsIn.inRound L ((callsIn_wide.2 HSN.out).mono ?_)⟩
            intro r w6 hp
            obtain ⟨S6, v6, l6, last6, c6, k6, kk6⟩ := HPU.out r w6 hp
            obtain ⟨rfl, hrest⟩ := hp
            clear hrest
            obtain ⟨c7, kk7⟩ := c6.tick HWS.out
            have n0 : w6.cell? ⟨bn, 0, none⟩ = some (.int .i64 cnt) := c6.nb.cell 0
            have nf : w6.frozen? ⟨bn, 0, none⟩ = false := c6.nb.frozen 0
            have p0 : w6.cell? ⟨bp, 0, none⟩ = some (.int .u8 stop) := c6.pb.cell 0
            have hpn : bp ≠ bn := Blk.ne_ c6.pb c6.nb (by decide)
            have C7 := Lib.hid c7
            have K7 : Hid (KeepsFrom w5.heap.size W (w6.setCell ⟨bn, 0, none⟩ (.int .i64 ((cnt : Int) + 1)))) := k6.trans ((KeepsOthers.setCell _ _ _).from _)
            have KK7 := Lib.hid (kk6.trans kk7)
            clear c6 c7 k6 kk6 kk7 HSN HPU z0 y0 y1 hbx5
            have hpl1 : (pre ++ [x]).length = cnt + 1 := by simp [HPL.out]
            have HP1 := Lib.hid hpl1
            clear hpl1
            by_cases hstop : (cnt : Int) + 1 = (stop : Int)
            · have HSTO := Lib.hid hstop
              gi_wp2
              rw [← HSTO.out]
              exact ⟨K7.out, rfl, ⟨S6, v6, l6, last6, by rw [HP1.out]; exact C7.out⟩, by rw [HP1.out]; have := HSTO.out; omega⟩
            · have HSTO := Lib.hid hstop
              gi_wp2
              refine ⟨K7.out, KK7.out, ⟨S6, v6, l6, last6, by rw [HP1.out]; exact C7.out⟩, fun j h1 h2 => ?_⟩
              rw [HP1.out] at h2
              by_cases hj : j ≤ cnt
              · exact HNO.out j h1 hj
              · have := HSTO.out; omega
      case' done =>
        intro D xs W hD hS hI hK
        obtain ⟨⟨S2, v2, l2, last2, hco⟩, _⟩ := hI
        have hcq : xs.length = q ∨ xs.length = stop := .inl (by rw [hS]; exact HLQ.out)
        generalize xs.length = cnt at *
        have hcnt : l2.length = q + cnt := by have := hco.len; rw [this]; simp [bytesOf]; exact HQ.out
        have HL3 := Lib.hid (L3X.start hco hD HWS.out hK)
        have HCO := Lib.hid hco
        clear hK hco hD hS
        rw [ha0]
      case' stop =>
        intro D c pre W hD hS hI hK
        obtain ⟨rfl, ⟨S2, v2, l2, last2, hco⟩, hps⟩ := hI
        have hcq : pre.length = q ∨ pre.length = stop := .inr hps
        generalize pre.length = cnt at *
        have hcnt : l2.length = q + cnt := by have := hco.len; rw [this]; simp [bytesOf]; exact HQ.out
        have HL3 := Lib.hid (L3X.start hco hD HWS.out hK)
        have HCO := Lib.hid hco
        clear hK hco hD hS hps
        rw [ha0]
        refine wpIn_wide.2 ?_
        go_wp2
      all_goals
        try dsimp only
        try go_wp2
        have hlen3 : l2.length ≤ 300 := HCO.out.net.len
        have n0 : W.cell? ⟨bn, 0, none⟩ = some (.int .i64 cnt) := HCO.out.nb.cell 0
        have p0 : W.cell? ⟨bp, 0, none⟩ = some (.int .u8 stop) := HCO.out.pb.cell 0
        have x0 : W.cell? ⟨bx, 0, none⟩ = some (.pointer (some ⟨B, 0, none⟩)) := HCO.out.xb.cell 0
        have hct : ∀ nq, Calls Try.prog 13 #[.pointer (some ⟨B, 0, none⟩)] (W.drewN nq) fun r w' => r = .returned (.int .i64 ((q : Int) + (cnt : Int))) ∧ w' = W.drewN nq := fun nq =>
          (Count (HCO.out.net.same (w' := W.drewN nq) (fun _ _ => rfl) (Nat.le_refl _))).mono fun r w' ⟨h1, h2⟩ => ⟨by rw [h1]; exact ret_int (by omega), h2⟩
        have HCT := Lib.hid hct
        have hqc : (q : Int) + (cnt : Int) ≤ 300 := by omega
        clear hct hlen3
        by_cases hcq1 : q = cnt
        case' pos =>
          subst hcq1
          go_quiet (first | (go_at_call 13; exact Calls.quiet_of_same (HCT.out _)))
          clear n0 p0 x0
          go_wp2
        case' neg =>
          have hcq2 : stop = cnt := by omega
          subst hcq2
          have hcq3 : ¬ (stop = q) := fun h => hcq1 h.symm
          have hcq4 : ¬ ((stop : Int) = (q : Int)) := by omega
          have hcq5 : decide ((stop : Int) = (q : Int)) = false := decide_eq_false hcq4
          have hcq6 : ((stop : Int) == (q : Int)) = false := beq_eq_false_iff_ne.2 hcq4
          have hcq7 : ((stop : Int) != (q : Int)) = true := bne_iff_ne.2 hcq4
          have hcq8 : decide (stop = q) = false := decide_eq_false hcq3
          have hcq9 : (stop == q) = false := by simpa using hcq3
          have hcq10 : (stop != q) = true := by simpa using hcq3
          go_quiet (first | (go_at_call 13; exact Calls.quiet_of_same (HCT.out _)))
          clear n0 p0 x0 hcq1 hcq3 hcq4 hcq5 hcq6 hcq7 hcq8 hcq9 hcq10
          go_wp2
        all_goals
          have HL4 : Hid (L3X w (W.drewN nq) B bx D (bytesOf rs) 0) := HL3.out.top ⟨rfl, rfl, rfl, Nat.le_refl _, fun _ _ => rfl⟩
          clear HL3 HCO HCT
          generalize decide ((60 : Int) < (q : Int)) = dl
          go_loopw [11] (fun s11 wr => ∃ j : Nat, j ≤ q ∧ s11 = .int .i64 j ∧ Hid (L3X w wr B bx D (bytesOf rs) j)) (fun s _ => q - (intOf s).toNat)
          case atStart => exact ⟨0, by omega, rfl, HL4.out⟩
          case round =>
            clear HL4
            obtain ⟨j, hj, rfl, HR⟩ := hrel
            by_cases hlt : j < q
            · have hlt' : (j : Int) < (q : Int) := by omega
              obtain ⟨r, hr⟩ : ∃ r, rs[j]? = some r := ⟨rs[j]'(by rw [HQ.out]; exact hlt), List.getElem?_eq_getElem _⟩
              obtain ⟨x0, hbw, hb12, A9, c9, hcall⟩ := HR.out.key (b := r.b) (by simp [bytesOf, hr])
              have HCA := Lib.hid hcall
              have HRR := Lib.hid hr
              clear hcall hbw hr HR
              go_wp2_with fail
              refine HCA.out.mono ?_
              rintro r9 w9 ⟨rfl, ⟨S9, hby⟩, h9⟩
              have HBY := Lib.hid hby
              have H9 := Lib.hid h9
              clear hby h9 HCA x0
              go_wp2
              have h10 := H9.out.top ((Below.refl _ w9).alloc (Nat.le_refl _) (.cells #[.int .i64 ((j : Int) + 1), .int .u32 1, .int .i64 1, .int .u32 1, .int .i64 1, .slice A9 r.b.length c9] 39))
              have hsb := Blk.new w9 39 #[.int .i64 ((j : Int) + 1), .int .u32 1, .int .i64 1, .int .u32 1, .int .i64 1, .slice A9 r.b.length c9]
              have hby := HBY.out.alloc (.cells #[.int .i64 ((j : Int) + 1), .int .u32 1, .int .i64 1, .int .u32 1, .int .i64 1, .slice A9 r.b.length c9] 39)
              generalize w9.alloc (.cells #[.int .i64 ((j : Int) + 1), .int .u32 1, .int .i64 1, .int .u32 1, .int .i64 1, .slice A9 r.b.length c9] 39) = W10 at *
              have s5 : W10.cell? ⟨w9.heap.size, 5, none⟩ = some (.slice A9 r.b.length c9) := hsb.cell 5
              have hlow := h10.low
              rw [HBP.out] at hlow
              have hls := HS.out.below hlow
              obtain ⟨bb, oo, rfl, hM, hbl, hcell⟩ := hls.elem HRR.out
              have hy1 := (hls.byt r (List.mem_of_getElem? HRR.out)).1
              have hsm : ∀ nq, Calls Try.prog 21 #[.slice A9 r.b.length c9, .slice r.A r.b.length r.c] (W10.drewN nq) fun e w' => e = .returned (.bool true) ∧ ∃ m, w' = (W10.drewN nq).drewN m := fun nq =>
                (Same01 (hby.a.same (w' := W10.drewN nq) (fun _ _ _ => rfl) (Nat.le_refl _)) (hy1.same (w' := W10.drewN nq) (fun _ _ _ => rfl) (Nat.le_refl _)) c9 r.c (by omega)).mono fun e w' ⟨h1, h2⟩ => ⟨by rw [h1]; simp, h2⟩
              have HSM := Lib.hid hsm
              have H10 := Lib.hid h10
              clear hsm h10 hby hy1 hls hlow hsb H9 HBY HRR
              go_quiet (first | (go_at_call 21; exact Calls.quiet_of (HSM.out _)))
              clear s5 hcell HSM
              go_wp2
              go_roundw
              case rel => exact ⟨j + 1, by omega, by go_num, H10.out.top ⟨rfl, rfl, rfl, Nat.le_refl _, fun _ _ => rfl⟩⟩
              case measure => simp [intOf]; omega
            · have hge : (q : Int) ≤ (j : Int) := by omega
              obtain ⟨hdf, hbf⟩ := HR.out.fin
              have HDF := Lib.hid hdf
              have HBF := Lib.hid hbf
              clear hdf hbf HR
              go_wp2
              refine ⟨by simp, .inl ⟨_, _, rfl, run_takeDeferred HDF.out, ?_⟩⟩
              exact ⟨_, results_tmp rfl _ _ _, rfl, HBF.out⟩
end Go.Proofs.Ytgifmadidgjgbaa
