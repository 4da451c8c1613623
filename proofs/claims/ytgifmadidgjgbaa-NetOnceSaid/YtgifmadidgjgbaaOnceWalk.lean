/- The walk of NetOnce. No condition. -/
import Derived.Test.YtgifmadidgjgbaaOnce
import Derived.LoopTactic
import Derived.StillTailTactics
import Derived.Deep.OwnRows
set_option linter.unusedVariables false
set_option linter.unusedSimpArgs false
namespace Go.Proofs.Ytgifmadidgjgbaa
open Go.RowKit
attribute [local go_sem ↓] Go.wp_at_zero Go.wp_at_succ

theorem info3 : (Try.prog.info? 3).map (fun i => (i.zero, i.size, i.bytes)) = some (some (.int .i64 0), 1, 8) := by kernel_rfl

set_option maxHeartbeats 3200000 in
set_option maxRecDepth 100000 in
theorem NetOnce_walk (Ab : Option Addr) (cb : Nat) (b : List UInt8) (n : Nat) (hn : n < 256) (A : Option Addr) (ds : List Step) (cap : Nat) (w : World) (hb : RdA w (fun k => k < w.heap.size) 1 Ab b.length (enc8 b)) (hbc : b.length ≤ cb)
    (hs : ScriptAt w w.heap.size A ds) (hl : ds.length ≤ 9223372036854775807) :
    Calls Try.prog 3 #[.slice Ab b.length cb, .int .u8 n, .slice A ds.length cap] w fun r w' => r = .returned (.bool true) ∧ Below w.heap.size w w' := by
  have hneq : ∀ (W : World) (b : Nat), (binOp .eql 26 (.pointer (some ⟨b, 0, none⟩)) (.pointer none)).run Try.prog W = .ok (.bool false) W := fun W b => by simp [go_sem]
  obtain ⟨k, hk⟩ : ∃ k : Nat, (n : Int) % 20 = k := ⟨n % 20, by omega⟩
  have hk20 : k < 20 := by omega
  have HS := Lib.hid hs
  have HB := Lib.hid hb
  have hsm := fun (W : World) (h : Below w.heap.size w W) => small (hs.below h) hl cap
  have HSM := Lib.hid hsm
  clear hs hb hsm
  obtain ⟨i0, hi5, hz0, hz1, hz2⟩ := info_parts info5
  obtain ⟨i3, hi3, hy0, hy1, hy2⟩ := info_parts info3
  generalize hm : b.length = m at *
  generalize hd : ds.length = q at *
  have HM := Lib.hid hm
  have HQ := Lib.hid hd
  clear hm hd
  by_cases hlong : 1200 < m
  · have hlong' : (1200 : Int) < (m : Int) := by omega
    go_enter Try.func3, Try.ntmps3
    go_wp2_with (go_at_call 7; refine (awake _).mono ?_; rintro r w1 ⟨rfl, hb1⟩)
    go_ret
    exact ⟨rfl, hb1⟩
  have hlong' : ¬ (1200 : Int) < (m : Int) := by omega
  have hlong'' : (m : Int) ≤ 1200 := by omega
  go_enter Try.func3, Try.ntmps3
  go_wp2_with (first | (go_at_call 7; refine (awake _).mono ?_; rintro r w1 ⟨rfl, hb1⟩; have HB1 := Lib.hid hb1; clear hb1) | (go_at_call 8; refine (HSM.out _ HB1.out).mono ?_; rintro r w2 ⟨ok, rfl, hb2, hok⟩; have HB2 : Hid (Below w.heap.size w w2) := HB1.out.trans (hb2.mono HB1.out.size); clear hb2; cases ok))
  · go_ret
    exact ⟨rfl, HB2.out⟩
  · have HOK : Hid (Small ds) := hok trivial
    clear hok
    generalize decide ((1200 : Int) < (m : Int)) = dl at *
    have HN : Hid (NetAt 59 ((w2.alloc (.cells #[.slice none 0 0, .int .i64 0] 59)).alloc (.cells #[] 5)) w2.heap.size (fun k => k = w2.heap.size) (.slice none 0 0) [] 0) := (NetAt.new 59 w2).below ((Below.refl _ _).alloc (Nat.le_refl _) (.cells #[] 5))
    have HO : Hid (((w2.alloc (.cells #[.slice none 0 0, .int .i64 0] 59)).alloc (.cells #[] 5)).ownsRow w.heap.size 5 1 (.slice (some ⟨w2.heap.size + 1, 0, none⟩) 0 0) 0 []) := by
      have := World.ownsRow_made (e := 5) (size := 1) (w2.alloc (.cells #[.slice none 0 0, .int .i64 0] 59)) #[] 0 (Nat.le_refl _) (by simp [maxLen]) rfl
      rw [World.size_alloc] at this
      exact own_base this (by have := HB2.out.size; omega)
    have HBB : Hid (Below w.heap.size w ((w2.alloc (.cells #[.slice none 0 0, .int .i64 0] 59)).alloc (.cells #[] 5))) := (HB2.out.alloc HB2.out.size _).alloc (by have := HB2.out.size; simp; omega) _
    have hw2 := HB2.out.size
    have HBA : Hid (RdA ((w2.alloc (.cells #[.slice none 0 0, .int .i64 0] 59)).alloc (.cells #[] 5)) (fun k => k < w.heap.size) 1 Ab m (enc8 b)) := HB.out.belowB HBB.out (fun _ h => h)
    have h1 := enc8_one b
    go_wp2_with (first | (go_at_call 9; refine (New _).mono ?_; rintro r w3 ⟨rfl, rfl⟩) | (at_builtin; refine wpList_append_any _ rfl (.tmp 41) (.tmp 42) 22 rfl w.heap.size 5 i0 (.int .u8 0) 1 1 Try.underlying22 hi5 hz0 hz1 hz2 rfl (by decide) (.slice (some ⟨w2.heap.size + 1, 0, none⟩) 0 0) 0 [] rfl HO.out (fun k => k < w.heap.size) Ab m cb (enc8 b) rfl HBA.out h1 (by unfold maxLen; omega) (by omega) (by simp; omega) ?_; intro ov w3 hown hgrow hblk; simp only [Nat.zero_add, List.nil_append] at hown; obtain ⟨A1, c1, rfl, hc1, hc2⟩ := own_slice hown; have HOW := Lib.hid hown; have HG := Lib.hid hgrow; have HBL := Lib.hid hblk; clear hown hgrow hblk))
    have hW : Hid (NetAt 59 ((w3.alloc (.cells #[.int .u32 1, .int .i64 2] 30)).alloc (.cells #[.int .u32 3, .int .i64 4] 30)) w2.heap.size (fun k => k = w2.heap.size) (.slice none 0 0) [] 0) := by
      have h0 := (HN.out.upd ((Upd.refl (fun k => k = w2.heap.size + 1) _).grown HG.out (fun k e => .inl (by simp [Value.ownBlock] at e; exact e.symm))) (fun k hk => by show ¬ k = w2.heap.size + 1; omega))
      exact (h0.below ((Below.refl _ _).alloc (Nat.le_refl _) _)).below ((Below.refl _ _).alloc (Nat.le_refl _) _)
    have hr := ((Rd.of_own (S := fun _ => True) (HOW.out.alloc (.cells #[.int .u32 1, .int .i64 2] 30)) (fun _ _ => trivial)).alloc (.cells #[.int .u32 3, .int .i64 4] 30)).ne hW.out.blk (by decide)
    have HR := Lib.hid hr
    clear hr
    rw [← HM.out] at HR hlong ⊢
    refine (Send_room hW.out (by decide) (by decide) ⟨0, 1, 2, 3, 4, b⟩ A1 c1 _ HR.out (fun k hk => hk) (by show b.length ≤ 1200; omega) (by show b.length ≤ c1; rw [HM.out]; exact hc1) (by show mayB 1 2 = true; decide) (by show mayB 3 4 = true; decide) rfl).mono ?_
    rintro r w4 ⟨rfl, S4, v4, A4, c4, hn4, ha4⟩
    rw [HM.out]
    have HST := Lib.hid (R1X.start HB2.out (by have := HOW.out; rw [HM.out]; exact this) HG.out hn4 ha4)
    clear hn4 ha4 HR hW HN HO HG HBL HBA HBB
    rw [HM.out] at HST
    generalize w3.heap.size = a1 at *
    generalize w2.heap.size = B at *
    have HK := Lib.hid hk
    clear hk
    go_wp2
    go_loopw [13, 14] (fun s13 s14 wr => ∃ (i : Nat) (An : Option Addr) (cn : Nat), i ≤ k ∧ s13 = .slice An (i + 1) cn ∧ s14 = .int .i64 i ∧ Hid (R1X w wr B a1 (a1 + 1) (.slice A1 m c1) s13 b i)) (fun _ s _ => k - (intOf s).toNat)
    case atStart => exact ⟨0, _, _, Nat.zero_le _, rfl, rfl, HST.out⟩
    case round =>
      clear HST
      obtain ⟨i, An, cn, hik, rfl, rfl, HR⟩ := hrel
      obtain ⟨S, v, l, C0, L0, F0, O0, N0⟩ := HR.out
      clear HR
      have hk := HK.out
      by_cases hlt : i < k
      · obtain ⟨e, he, hx⟩ := F0.hd 0 (by omega)
        have hfn := findNo_at l F0.ap 0 e he
        have hcp := Copy_room C0.net 1 0 e he (by rw [hx] at hfn; exact hfn) (by omega) (by omega)
        rw [hx] at hcp
        have HC := Lib.hid hcp
        have HC0 := Lib.hid C0
        have HR0 : Hid (l.length = i + 1 ∧ Front 0 i b l ((i : Int) + 1) ∧ wr.ownsRow w.heap.size 5 1 (.slice A1 m c1) b.length (enc8 b) ∧ ∀ g, (Value.slice A1 m c1).ownBlock = some g → ¬ S g) := ⟨L0, F0, O0, N0⟩
        clear hcp C0 L0 F0 O0 N0 he hfn hx
        have hlt' : (i : Int) < (k : Int) := by omega
        go_wp2_with (first | (go_at_call 11; refine HC.out.mono ?_; rintro r w4 ⟨rfl, S4, v4, A4, c4, hn4, ha4⟩; have HC4 := Lib.hid (HC0.out.after hn4 ha4); have HN4 := Lib.hid hn4; have HA4 := Lib.hid ha4; have hs4 := (HC4.out.below.size); clear hn4 ha4) | (at_builtin; go_loud (refine wpList_append_any _ rfl (.tmp 71) (.tmp 73) 34 rfl w.heap.size 3 i3 (.int .i64 0) 1 8 Try.underlying34 hi3 hy0 hy1 hy2 rfl (by decide) (.slice An (i + 1) cn) (i + 1) (nums (i + 1)) rfl (HC4.out.nrow.alloc _) (fun _ => True) _ 1 1 _ rfl (Rd.new w4 3 [.int .i64 ((i : Int) + 1 + 1)] 1 1 rfl).a (by intro u hu; simp at hu; subst hu; rfl) (by unfold maxLen; omega) (by omega) (by simp; omega) ?_; intro nv' w5 hr5 hg5 hb5; have HR5 := Lib.hid hr5; have HG5 := Lib.hid hg5; have HB5 := Lib.hid hb5; clear hr5 hg5 hb5)))
        go_roundw
        case rel =>
          obtain ⟨L0, F0, O0, N0⟩ := HR0.out
          obtain ⟨An', cn', e', _, _⟩ := own_slice HR5.out
          exact ⟨i + 1, An', cn', by omega, e', by go_num, R1X.step HC0.out L0 F0 O0 N0 HN4.out HA4.out rfl _ HG5.out HR5.out HB5.out⟩
        case measure => simp [intOf]; omega
      · obtain rfl : i = k := by omega
        have HC0 := Lib.hid C0
        have HR0 : Hid (l.length = i + 1 ∧ Front 0 i b l ((i : Int) + 1) ∧ wr.ownsRow w.heap.size 5 1 (.slice A1 m c1) b.length (enc8 b) ∧ ∀ g, (Value.slice A1 m c1).ownBlock = some g → ¬ S g) := ⟨L0, F0, O0, N0⟩
        clear C0 L0 F0 O0 N0
        have HS2 : Hid (R2X w wr B a1 (a1 + 1) A1 (.slice An (i + 1) cn) b i m) := by
          obtain ⟨L0, F0, O0, N0⟩ := HR0.out
          rw [← HM.out] at O0 N0 ⊢
          exact R2X.start HC0.out L0 F0 O0 N0
        clear HR0 HC0
        go_wp2
        clear hk
        go_loopw [17] (fun s17 wq => ∃ j : Nat, j ≤ m ∧ s17 = .int .i64 j ∧ Hid (R2X w wq B a1 (a1 + 1) A1 (.slice An (i + 1) cn) b i m)) (fun s _ => m - (intOf s).toNat)
        case atStart => exact ⟨0, Nat.zero_le _, rfl, HS2.out⟩
        case round =>
          clear HS2
          obtain ⟨j, hjm, rfl, HR⟩ := hrel
          by_cases hlt : j < m
          · obtain ⟨g, z, rfl, hgl, hcell, hfr⟩ := HR.out.cell hlt
            have hlt' : (j : Int) < (m : Int) := by omega
            go_wp2
            go_roundw
            case rel => exact ⟨j + 1, by omega, by go_num, HR.out.step hlt rfl _⟩
            case measure => simp [intOf]; omega
          · obtain rfl : m = j := by omega
            have HS3 := Lib.hid (R3X.start HR.out hk20)
            clear HR
            go_wp2
            go_loopw [18] (fun s18 wt => ∃ t : Nat, t ≤ 100 ∧ t ≤ q ∧ s18 = .int .i64 t ∧ Hid (R3X w wt B a1 (a1 + 1) (.slice An (i + 1) cn) b i t)) (fun s _ => 100 - (intOf s).toNat)
            case atStart => exact ⟨0, by omega, by omega, rfl, HS3.out⟩
            case round =>
              clear HS3
              obtain ⟨t, ht1, htq, rfl, HR⟩ := hrel
              obtain ⟨S, v, l, last, C0, F0, G0, G1⟩ := HR.out
              rcases (by omega : (t < q ∧ t < 100) ∨ (t < q ∧ 100 = t) ∨ q = t) with ⟨hlt, htt⟩ | ⟨hlt, htt⟩ | htt
              · have hlt' : (t : Int) < (q : Int) := by omega
                have htt' : (t : Int) < 100 := by omega
                obtain ⟨d, hd⟩ : ∃ d, ds[t]? = some d := ⟨ds[t]'(by rw [HQ.out]; exact hlt), List.getElem?_eq_getElem _⟩
                have hsc := HS.out.below C0.below
                obtain ⟨bs, os, rfl, hM, hbl, x0, x1, x2, x3, x4, x5, x6⟩ := hsc.elem hd
                by_cases hkd : d.kind = 0
                · obtain ⟨hy1, hy2⟩ := hsc.byt d (List.mem_of_getElem? hd)
                  have hnB : w.heap.size ≤ B := C0.own B C0.net.inB
                  have hsn := Send_any (C0.net.same (w' := wr.drew) (fun _ _ => rfl) (Nat.le_refl _)) (by omega) (by omega) d.fh d.fp d.th d.tp d.b d.A d.c _ (hy1.same (w' := wr.drew) (fun _ _ _ => rfl) (Nat.le_refl _)) (fun k hk => by omega) hy2
                  have hsn2 : ∀ r w2, Sent wr.drew B S v l last r w2 → R3X w w2 B a1 (a1 + 1) (.slice An (i + 1) cn) b i (t + 1) := fun r w2 hh => R3X.step C0 F0 G0 G1 (hh.of_below ((Below.refl _ wr).drew))
                  have HSN := Lib.hid hsn
                  have HSN2 := Lib.hid hsn2
                  clear hsn hsn2 hy1 hy2 hsc C0 F0 G0 G1 HR hd
                  go_wp2
                  go_still_tail 16, (by kernel_rfl)
                  change wpList _ _ _ _ _ wr.drew
                  generalize wr.drew = wd at *
                  go_wp2_with (go_at_call 10; refine HSN.out.mono ?_; rintro r w2 hh; have H4 := Lib.hid (HSN2.out _ _ hh); obtain ⟨ra, rb, S', v', l', last', rfl, hrest⟩ := hh; clear hrest)
                  go_roundw
                  case rel => exact ⟨t + 1, by omega, by omega, by go_num, H4.out⟩
                  case measure => simp [intOf]; omega
                · clear hsc hd
                  go_wp2
                  go_roundw
                  case rel => exact ⟨t + 1, by omega, by omega, by go_num, S, v, l, last, C0, F0, by push_cast; omega, by omega⟩
                  case measure => simp [intOf]; omega
              all_goals
                have HS4 : Hid (R4X w wr B a1 (a1 + 1) (.slice An (i + 1) cn) b i 0) := ⟨S, v, l, last, C0, F0, by omega, by omega⟩
                clear C0 F0 G0 G1 HR
                try have hx1 : (t : Int) < q := by omega
                try have hx2 : (100 : Int) ≤ t := by omega
                try have hx3 : (q : Int) ≤ t := by omega
                clear htt ht1 htq
                try clear hlt
                go_wp2
                try clear hx1
                try clear hx2
                try clear hx3
                go_loopw [19] (fun s19 wx => ∃ j : Nat, j ≤ i + 1 ∧ s19 = .int .i64 j ∧ Hid (R4X w wx B a1 (a1 + 1) (.slice An (i + 1) cn) b i j)) (fun s _ => i + 1 - (intOf s).toNat)
                case atStart => exact ⟨0, by omega, rfl, HS4.out⟩
                case round =>
                  clear HS4
                  obtain ⟨j, hj1, rfl, HR⟩ := hrel
                  by_cases hlt : j < i + 1
                  · obtain ⟨g, A', c', rfl, hgl, hgc, hcall⟩ := HR.out.key (by omega)
                    rw [HM.out] at hcall
                    have HCA := Lib.hid hcall
                    have hlt' : (j : Int) < (i : Int) + 1 := by omega
                    clear hcall
                    go_wp2_with fail
                    refine HCA.out.mono ?_
                    rintro r w5 ⟨rfl, ⟨S5, hby⟩, h5⟩
                    have HBY := Lib.hid hby
                    have h6 := h5.below ((Below.refl _ w5).alloc (Nat.le_refl _) (.cells #[.int .i64 ((j : Int) + 1), .int .u32 1, .int .i64 2, .int .u32 3, .int .i64 4, .slice A' m c'] 39))
                    obtain ⟨hgl6, hgc6⟩ := h6.num hlt
                    have hg5 : g < w5.heap.size := (h5.num hlt).1
                    have H6 := Lib.hid h6
                    clear hby h5 h6 HCA hgl hgc
                    go_wp2_with fail
                    refine (H6.out.miss _ (by push_cast; rfl)).mono ?_
                    rintro r w7 ⟨rfl, hb7⟩
                    go_wp2
                    have h8 := (H6.out.below hb7).below ((Below.refl _ w7).alloc (Nat.le_refl _) (.cells #[.int .i64 0, .int .u32 0, .int .i64 0, .int .u32 0, .int .i64 0, .slice none 0 0] 39))
                    obtain ⟨hgl8, hgc8⟩ := h8.num hlt
                    obtain ⟨ra0, ra1, rb0, rb1, hbw⟩ := h8.reads
                    have hsb := ((Blk.new w5 39 #[.int .i64 ((j : Int) + 1), .int .u32 1, .int .i64 2, .int .u32 3, .int .i64 4, .slice A' m c']).below hb7 (by simp)).alloc (.cells #[.int .i64 0, .int .u32 0, .int .i64 0, .int .u32 0, .int .i64 0, .slice none 0 0] 39)
                    have hr8 := ((HBY.out.alloc (.cells #[.int .i64 ((j : Int) + 1), .int .u32 1, .int .i64 2, .int .u32 3, .int .i64 4, .slice A' m c'] 39)).below hb7).alloc (.cells #[.int .i64 0, .int .u32 0, .int .i64 0, .int .u32 0, .int .i64 0, .slice none 0 0] 39)
                    have hba := HB.out.belowB hbw (fun _ h => h)
                    generalize w7.alloc (.cells #[.int .i64 0, .int .u32 0, .int .i64 0, .int .u32 0, .int .i64 0, .slice none 0 0] 39) = W8 at *
                    have s0 : W8.cell? ⟨w5.heap.size, 0, none⟩ = some (.int .i64 ((j : Int) + 1)) := hsb.cell 0
                    have s1 : W8.cell? ⟨w5.heap.size, 1, none⟩ = some (.int .u32 1) := hsb.cell 1
                    have s2 : W8.cell? ⟨w5.heap.size, 2, none⟩ = some (.int .i64 2) := hsb.cell 2
                    have s3 : W8.cell? ⟨w5.heap.size, 3, none⟩ = some (.int .u32 3) := hsb.cell 3
                    have s4 : W8.cell? ⟨w5.heap.size, 4, none⟩ = some (.int .i64 4) := hsb.cell 4
                    have s5 : W8.cell? ⟨w5.heap.size, 5, none⟩ = some (.slice A' m c') := hsb.cell 5
                    rw [← HM.out] at hr8 hba
                    have cv1 : ∀ nq, (convert 22 9 (.slice A' m c')).run Try.prog (W8.drewN nq) = .ok (.string ⟨b.toArray⟩) (W8.drewN nq) := fun nq => by
                      have := conv_bytesA (hr8.a.same (w' := W8.drewN nq) (fun _ _ _ => rfl) (Nat.le_refl _)) c'
                      rwa [HM.out] at this
                    have cv2 : ∀ nq, (convert 22 9 (.slice Ab m cb)).run Try.prog (W8.drewN nq) = .ok (.string ⟨b.toArray⟩) (W8.drewN nq) := fun nq => by
                      have := conv_bytesA (hba.same (w' := W8.drewN nq) (fun _ _ _ => rfl) (Nat.le_refl _)) cb
                      rwa [HM.out] at this
                    have H8 := Lib.hid h8
                    clear h8 hbw hsb hr8 hba hb7 H6 HBY
                    go_quiet (fail)
                    clear s0 s1 s2 s3 s4 s5 ra0 ra1 rb0 rb1 cv1 cv2 hgl8 hgc8
                    go_wp2
                    go_roundw
                    case rel => exact ⟨j + 1, by omega, by go_num, H8.out.drewN _⟩
                    case measure => simp [intOf]; omega
                  · have hji : j = i + 1 := by omega
                    have hge : (i : Int) + 1 ≤ (j : Int) := by omega
                    have hro := HR.out
                    rw [hji] at hro
                    have HS5 := Lib.hid (R5X.start hro)
                    clear HR hro hji hj1 hlt
                    go_wp2
                    clear hge
                    go_loopw [] (fun wy => Hid (R5X w wy B a1 (a1 + 1) (.slice An (i + 1) cn) b i)) (fun wy => room wy B)
                    case atStart => exact HS5
                    case round =>
                      clear HS5
                      obtain ⟨hbw, ⟨ra0, ra1, rb0, rb1⟩, nn, hnn, hroom, hcnt, hfill, hfull⟩ := hrel.out.key
                      have HBW := Lib.hid hbw
                      have HCT := Lib.hid hcnt
                      have HRM := Lib.hid hroom
                      clear hbw hcnt hroom hrel
                      by_cases hlt : nn < 300
                      · have HFI := Lib.hid (hfill hlt)
                        have hlt' : (nn : Int) < 300 := by omega
                        clear hfill hfull
                        go_wp2_with (first | (go_at_call 13; refine HCT.out.mono ?_; rintro r w6 ⟨rfl, rfl⟩) | (go_at_call 10; refine HFI.out.mono ?_; rintro r w6 ⟨z, rfl, h6, hr6⟩; have H6 := Lib.hid h6; have HR6 := Lib.hid hr6; clear h6 hr6))
                        go_roundw
                        case rel => exact H6
                        case measure =>
                          have e1 := HR6.out
                          have e2 := HRM.out
                          simp only [e1, e2]
                          omega
                      · have hnn3 : nn = 300 := by omega
                        subst hnn3
                        obtain ⟨hsend, no, hat, hcp⟩ := hfull rfl
                        have HSE := Lib.hid hsend
                        have HAT := Lib.hid hat
                        have HCP := Lib.hid hcp
                        clear hfill hfull hsend hat hcp hlt hnn
                        have hx : (300 : Int) ≤ 300 := by omega
                        go_wp2_with (first | (go_at_call 13; refine HCT.out.mono ?_; rintro r w6 ⟨rfl, rfl⟩) | (go_at_call 10; refine HSE.out.mono ?_; rintro r w6 ⟨rfl, hb6⟩; have HB6 := Lib.hid hb6; clear hb6) | (go_at_call 14; refine (HAT.out _ HB6.out).mono ?_; rintro r w7 ⟨rfl, hb7⟩; have HB7 := Lib.hid (HB6.out.trans (hb7.mono HB6.out.size)); clear hb7) | (go_at_call 11; refine (HCP.out _ HB7.out).mono ?_; rintro r w8 ⟨rfl, hb8⟩; have HB8 := Lib.hid (HB7.out.trans (hb8.mono HB7.out.size)); clear hb8))
                        go_ret
                        exact ⟨rfl, HBW.out.trans (HB8.out.mono HBW.out.size)⟩
end Go.Proofs.Ytgifmadidgjgbaa
