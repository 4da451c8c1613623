/- The walk of PathOrder. No condition. -/
import Derived.Test.YthlhfhfhagfelaaOrderA
import Derived.StillTailTactics
set_option linter.unusedVariables false
set_option linter.unusedSimpArgs false
namespace Go.Proofs.Ythlhfhfhagfelaa
open Go.RowKit

theorem RdA.moreL {w : World} {S T : Nat → Prop} {size n : Nat} {A : Option Addr} {xs : List Value} (h : RdA w S size A n xs) (hS : ∀ k, S k → k < w.heap.size → T k) : RdA w T size A n xs :=
  ⟨h.1, fun hn => by
    obtain ⟨b, o, hA, hs, hl, hc⟩ := h.2 hn
    exact ⟨b, o, hA, hS b hs hl, hl, hc⟩⟩
/-- A new path, the reference's ways, the path begun, and the place's own variable. -/
theorem OW.start {w w1 w2 w3 w4 : World} {B c c2 : Nat} {A A2 : Option Addr} {ws : List Plc} {q : Res} (h1 : Below w.heap.size w w1) (hB : w1.heap.size ≤ B) (hw2 : WkAt 51 w2 B A c ws 0 Pth.off) (hp2 : Pls w2 (fun k => w1.heap.size ≤ k ∧ k ≠ B) A ws) (h2 : Below w1.heap.size w1 w2)
    (hr3 : w3.ownsRow w2.heap.size 31 4 (.slice A2 ws.length c2) ws.length (pcells ws)) (h3 : Below w2.heap.size w2 w3) (hw4 : WkAt 51 w4 B A c ws q.i q.s) (hu4 : Upd (fun k => k = B) w3 w4) :
    OW w (w4.alloc (.cells #[.int .u32 q.x.h, .int .i64 q.x.p, .int .i64 q.x.id, .bool q.x.via] 31)) B w4.heap.size A A2 c ws q.i q.s q.x := by
  have hBl := hw2.blk.lt
  have z3 := h3.size
  have z4 := hu4.size
  have z1 := h1.size
  have hp3 := RdA.below hp2 h3
  have hp4 : Pls w4 (fun k => w1.heap.size ≤ k ∧ k ≠ B) A ws := RdA.same hp3 (fun k hk hl => hu4.block k hl hk.2) z4
  have hq3 : Pls w3 (fun k => w2.heap.size ≤ k) A2 ws := (Rd.of_own hr3 (fun g hg => (hr3.lt g hg).1)).a
  have hq4 : Pls w4 (fun k => w2.heap.size ≤ k) A2 ws := RdA.same hq3 (fun k hk hl => hu4.block k hl (fun e => by have : k = B := e; omega)) z4
  have hb4 : Below w.heap.size w w4 := (h1.trans (h2.mono z1)).trans ((h3.mono (by have := h2.size; omega)).trans (hu4.below (by have := h2.size; omega) (fun k hk => by have : k = B := hk; omega)))
  refine ⟨hw4.blk.alloc _, RdA.alloc (RdA.moreL hp4 (fun k hk hl => ⟨hk.2, by omega⟩)) _, RdA.alloc (RdA.moreL hq4 (fun k hk hl => ⟨by omega, by omega⟩)) _, Blk.new w4 31 _, hb4.alloc hb4.size _, by omega, hb4.size, by omega, hw2.len, hw4.iz⟩

set_option maxHeartbeats 3200000 in
set_option maxRecDepth 100000 in
theorem PathOrder_walk (own : Int) (ho0 : 0 ≤ own) (ho1 : own ≤ 4294967295) (A0 : Option Addr) (c0 : Nat) (l : List Plc) (w : World) (hp : Pls w (fun k => k < w.heap.size) A0 l) (hl : l.length ≤ 9223372036854775807) (hok : ∀ x ∈ l, x.ok) :
    Calls Try.prog 3 #[.int .u32 own, .slice A0 l.length c0] w fun r w' => r = .returned (.bool true) ∧ Below w.heap.size w w' := by
  have hfld := run_field35
  have HP := Lib.hid hp
  have HOK := Lib.hid hok
  clear hp hok
  by_cases hlong : 40 < l.length
  · have hlong' : (40 : Int) < (l.length : Int) := by omega
    generalize l.length = n at *
    go_enter Try.func3, Try.ntmps3
    go_wp2_with (go_at_call 8; refine (awake _).mono ?_; rintro r w1 ⟨rfl, hb1⟩; have HB1 := Lib.hid hb1; clear hb1)
    go_ret
    exact ⟨rfl, HB1.out⟩
  have hlong' : ¬ (40 : Int) < (l.length : Int) := by omega
  have hways : (waysW own l).length ≤ 8 := waysTo_le _ _ _
  have HVI := Lib.hid (fun i a b => @ways_via own l i a b)
  have HON := Lib.hid (fun i k a b => @ways_once own l i k a b)
  have hl40 : l.length ≤ 100000 := by omega
  go_enter Try.func3, Try.ntmps3
  go_wp2_with (go_at_call 8; refine (awake _).mono ?_; rintro r w1 ⟨rfl, hb1⟩; have HB1 := Lib.hid hb1; clear hb1)
  go_wp2_with fail
  refine (New_ own ho0 ho1 A0 c0 l w1 (RdA.moreL (RdA.below HP.out HB1.out) (fun k _ hl => hl)) hl40 HOK.out).mono ?_
  rintro r w2 ⟨B, A, c, rfl, hB, hwk, hpl, hb2⟩
  have HWK := Lib.hid hwk
  have HPL := Lib.hid hpl
  have HB2 := Lib.hid hb2
  clear hwk hpl hb2
  go_wp2_with fail
  refine (RWays_ own ho0 ho1 A0 c0 l w2 (RdA.moreL (RdA.below (RdA.below HP.out HB1.out) HB2.out) (fun k _ hl => hl)) hl40 HOK.out).mono ?_
  rintro r w3 ⟨A2, c2, rfl, hr3, hb3⟩
  have HR3 := Lib.hid hr3
  have HB3 := Lib.hid hb3
  clear hr3 hb3
  go_wp2_with fail
  refine (Start_ (HWK.out.below HB3.out) 0).mono ?_
  rintro r w4 ⟨rfl, hw4, hu4⟩
  have HO := Lib.hid (OW.start HB1.out hB HWK.out HPL.out HB2.out HR3.out HB3.out hw4 hu4)
  clear hw4 hu4 HWK HPL HB2 HR3 HB3
  have he : startF (waysW own l) 0 Pth.off 0 = tryF (waysW own l) 0 0 := rfl
  rw [he] at HO ⊢
  generalize hws : waysW own l = ws at *
  generalize hn : ws.length = n at *
  go_wp2_with fail
  generalize w4.alloc (.cells #[.int .u32 (tryF ws 0 0).x.h, .int .i64 (tryF ws 0 0).x.p, .int .i64 (tryF ws 0 0).x.id, .bool (tryF ws 0 0).x.via] 31) = w5 at *
  generalize hbp : w4.heap.size = bp at *
  clear hbp
  rw [tryF_i] at HO
  have HN := Lib.hid hn
  have HWS := Lib.hid hws
  clear hn hws he
  generalize decide ((40 : Int) < (l.length : Int)) = dl
  go_loopw [8, 9, 10] (fun s8 s9 s10 wr => ∃ (i : Nat) (vv : Bool), i ≤ n ∧ s10 = .int .i64 i ∧ s8 = .bool (tryF ws (10 * (i : Int)) i).ok ∧ s9 = .bool vv ∧ Hid (∀ x, ws[i]? = some x → vv = true → x.via = true) ∧ Hid (OW w wr B bp A A2 c ws i (tryF ws (10 * (i : Int)) i).s (tryF ws (10 * (i : Int)) i).x)) (fun _ _ s _ => n - (intOf s).toNat)
  case atStart => exact ⟨0, false, Nat.zero_le _, rfl, rfl, rfl, (fun x _ h => by cases h), HO.out⟩
  case round =>
    clear HO
    obtain ⟨i, vv, hi, rfl, rfl, rfl, HV, HR⟩ := hrel
    by_cases hlt : i < n
    · have hlt' : (i : Int) < (n : Int) := by omega
      obtain ⟨x, hx⟩ : ∃ x, ws[i]? = some x := ⟨ws[i]'(by rw [HN.out]; exact hlt), List.getElem?_eq_getElem _⟩
      have e : tryF ws (10 * (i : Int)) i = ⟨x, true, i, ⟨1, x, 10 * (i : Int) + 10⟩⟩ := by simp [tryF, hx]
      rw [e] at HR ⊢
      have hvv := fun h => HV.out x hx h
      have hxn : ∀ wz, OW w wz B bp A A2 c ws i ⟨1, x, 10 * (i : Int) + 10⟩ x → (wz.cell? ⟨bp, 0, none⟩ = some (.int .u32 x.h) ∧ wz.cell? ⟨bp, 1, none⟩ = some (.int .i64 x.p) ∧ wz.cell? ⟨bp, 2, none⟩ = some (.int .i64 x.id) ∧ wz.cell? ⟨bp, 3, none⟩ = some (.bool x.via)) := fun wz h => ⟨h.bx.cell 0, h.bx.cell 1, h.bx.cell 2, h.bx.cell 3⟩
      obtain ⟨d0, d1, d2, d3⟩ := hxn wr HR.out
      obtain ⟨b, o, hA2, hbl, c0', c1', c2', c3'⟩ := HR.out.row2.elem hx
      have HX := Lib.hid hx
      have HXN := Lib.hid hxn
      have hneq := fun W => run_neq31 x x W
      have hqt : x.eqB x = true := (Plc.eqB_iff x x).2 rfl
      have hst := State_ (HR.out.top ((Below.refl _ wr).drew)).wk
      have HST := Lib.hid hst
      have HA2 := Lib.hid hA2
      subst hA2
      clear HV hx hxn e hst
      dsimp only
      cases vv
      case' true => have hv1 : x.via = true := hvv rfl
      all_goals
        clear hvv
        go_wp2
        go_still_tail 20, (by kernel_rfl)
        change wpList _ _ _ _ _ wr.drew
        have HR1 := Lib.hid (HR.out.top ((Below.refl _ wr).drew))
        clear HR d0 d1 d2 d3 c0' c1' c2' c3' hneq
        go_wp2_with fail
        refine HST.out.mono ?_
        rintro r w6 ⟨rfl, hb6⟩
        try clear hv1
        have HR6 := Lib.hid (HR1.out.top hb6)
        obtain ⟨d0, d1, d2, d3⟩ := HXN.out w6 HR6.out
        clear HR1 hb6 HST
        go_wp2_with fail
        clear d0 d1 d2 d3
        generalize wr.drew = wd at *
        go_loopw [11] (fun s11 wj => ∃ k : Nat, k ≤ i ∧ s11 = .int .i64 k ∧ Hid (OW w wj B bp (A := A) (A2 := some ⟨b, o, none⟩) c ws i ⟨1, x, 10 * (i : Int) + 10⟩ x)) (fun s _ => i - (intOf s).toNat)
        · exact ⟨0, Nat.zero_le _, rfl, HR6.out⟩
        · clear HR6
          obtain ⟨k, hk, rfl, HR⟩ := hrel
          obtain ⟨d0, d1, d2, d3⟩ := HXN.out wr HR.out
          by_cases hki : k < i
          · have hki' : (k : Int) < (i : Int) := by omega
            obtain ⟨y, hy⟩ : ∃ y, ws[k]? = some y := ⟨ws[k]'(by rw [HN.out]; omega), List.getElem?_eq_getElem _⟩
            obtain ⟨b', o', hbo, hbl3, e0, e1, e2, e3⟩ := HR.out.row2.elem hy
            injection hbo with hbo
            injection hbo with hbo1 hbo2
            subst hbo1 hbo2
            have hyx : y ≠ x := by
              exact HON.out i k x y hki HX.out hy
            have hqf : y.eqB x = false := by
              cases hb : y.eqB x with
              | false => rfl
              | true => exact absurd ((Plc.eqB_iff y x).1 hb) hyx
            have heq := fun W => run_eql31 y x W
            have HYX := Lib.hid hyx
            have hk8 : k < n := by omega
            have hk8' : (k : Int) < (n : Int) := by omega
            clear hy hyx
            go_wp2
            go_quiet (fail)
            clear d0 d1 d2 d3 e0 e1 e2 e3 heq hqf
            go_wp2
            go_roundw
            case' rel => exact ⟨k + 1, by omega, by go_num, HR.out.top ⟨rfl, rfl, rfl, Nat.le_refl _, fun _ _ => rfl⟩⟩
            case' measure => simp [intOf]; omega
          · have hki' : (i : Int) ≤ (k : Int) := by omega
            have hi8 : i ≤ 8 := by have := HR.out.len; rw [HN.out] at this; omega
            have t1 : tickF ws i ⟨1, x, 10 * (i : Int) + 10⟩ (10 * (i : Int) + 9) = ⟨Plc.zero, false, i, ⟨1, x, 10 * (i : Int) + 10⟩⟩ := if_neg (fun h => by have := h.2.2; dsimp only at this; omega)
            have t2 : tickF ws i ⟨1, x, 10 * (i : Int) + 10⟩ (10 * (i : Int) + 10) = tryF ws (10 * ((i + 1 : Nat) : Int)) (i + 1) := by
              have h1 : tickF ws i ⟨1, x, 10 * (i : Int) + 10⟩ (10 * (i : Int) + 10) = tryF ws (10 * (i : Int) + 10) (i + 1) := if_pos ⟨⟨by omega, by omega⟩, rfl, Int.le_refl _⟩
              rw [h1]
              rw [show (10 * (i : Int) + 10) = 10 * ((i + 1 : Nat) : Int) by push_cast; omega]
            have h1 := Tick_ HR.out.wk (10 * (i : Int) + 9) (by omega)
            rw [t1] at h1
            have H1 := Lib.hid h1
            clear h1 t1 d0 d1 d2 d3
            go_wp2_with fail
            refine H1.out.mono ?_
            rintro r w7 ⟨hr, hw7, hu7⟩
            dsimp only [Plc.zero] at hr
            subst hr
            have HR7 := Lib.hid ((HR.out.upd hu7 hw7).top ((Below.refl _ w7).alloc (Nat.le_refl _) (.cells #[.int .u32 0, .int .i64 0, .int .i64 0, .bool false] 31)))
            clear H1 hw7 hu7 HR
            have h2 := Tick_ HR7.out.wk (10 * (i : Int) + 10) (by show i < 1000; omega)
            rw [t2] at h2
            have H2 := Lib.hid h2
            clear h2 t2
            go_wp2_with fail
            generalize w7.alloc (.cells #[.int .u32 0, .int .i64 0, .int .i64 0, .bool false] 31) = W7 at *
            refine H2.out.mono ?_
            rintro r w8 ⟨rfl, hw8, hu8⟩
            have hr8 := HR7.out.upd hu8 hw8
            have hx8 := hr8.bx
            have d0 := hx8.cell 0; have d1 := hx8.cell 1; have d2 := hx8.cell 2; have d3 := hx8.cell 3
            have z0 := hx8.frozen 0; have z1 := hx8.frozen 1; have z2 := hx8.frozen 2; have z3 := hx8.frozen 3
            simp only [List.getElem?_toArray, List.getElem?_cons_zero, List.getElem?_cons_succ] at d0 d1 d2 d3
            have HR9 := Lib.hid (hr8.store (tryF ws (10 * ((i + 1 : Nat) : Int)) (i + 1)).x)
            rw [tryF_i] at HR9
            have HVV : Hid (∀ y, ws[i + 1]? = some y → x.via = true → y.via = true) := fun y hy hv => by
              exact HVI.out i x y HX.out hy hv
            clear hw8 hu8 hr8 hx8 H2 HR7
            generalize hq : tryF ws (10 * ((i + 1 : Nat) : Int)) (i + 1) = q at *
            have HQ := Lib.hid hq
            clear hq
            go_wp2
            go_roundw
            case' rel => exact ⟨i + 1, _, by omega, by go_num, by rw [HQ.out], rfl, HVV.out, by rw [HQ.out]; exact HR9.out⟩
            case' measure => simp [intOf]; omega
    · have hin : i = n := by omega
      have e : tryF ws (10 * (i : Int)) i = ⟨Plc.zero, false, i, ⟨4, Plc.zero, 0⟩⟩ := by
        have : ws[i]? = none := List.getElem?_eq_none (by rw [HN.out]; omega)
        simp [tryF, this]
      rw [e] at HR ⊢
      have hge : (n : Int) ≤ (i : Int) := by omega
      have hst := State_ HR.out.wk
      dsimp only [Plc.zero] at hst
      have HST := Lib.hid hst
      have h8 : (n : Int) ≤ 8 := by have := HR.out.len; rw [HN.out] at this; omega
      clear e HV hst
      dsimp only [Plc.zero]
      go_wp2_with (go_at_call 12; refine HST.out.mono ?_; rintro r w6 ⟨rfl, hb6⟩; have HB6 := Lib.hid hb6; clear hb6)
      go_ret
      exact ⟨rfl, HR.out.below.trans (HB6.out.mono HR.out.below.size)⟩
end Go.Proofs.Ythlhfhfhagfelaa
