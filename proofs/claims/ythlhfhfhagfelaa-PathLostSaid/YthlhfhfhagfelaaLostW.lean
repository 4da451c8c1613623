/- The walk of PathLost. No condition. -/
import Derived.Test.YthlhfhfhagfelaaLostA
import Derived.Deep.RegionHeld3
import Derived.Deep.DrawnRows
set_option linter.unusedVariables false
set_option linter.unusedSimpArgs false
namespace Go.Proofs.Ythlhfhfhagfelaa
open Go.RowKit
attribute [local go_sem ↓] Go.wp_at_zero Go.wp_at_succ

set_option maxHeartbeats 3200000 in
set_option maxRecDepth 100000 in
theorem PathLost_walk (own : Int) (ho0 : 0 ≤ own) (ho1 : own ≤ 4294967295) (A0 : Option Addr) (c0 : Nat) (l : List Plc) (bh bp : Int) (w : World) (hp : Pls w (fun k => k < w.heap.size) A0 l) (hl : l.length ≤ 9223372036854775807) (hok : ∀ x ∈ l, x.ok) :
    Calls Try.prog 6 #[.int .u32 own, .slice A0 l.length c0, .agg #[.int .u32 bh, .int .i64 bp]] w fun r w' => r = .returned (.bool true) ∧ Below w.heap.size w w' := by
  have hneq : ∀ (W : World) (b : Nat), (binOp .eql 25 (.pointer (some ⟨b, 0, none⟩)) (.pointer none)).run Try.prog W = .ok (.bool false) W := fun W b => by simp [go_sem]
  have hneq' : ∀ (W : World) (b : Nat), (binOp .neq 25 (.pointer (some ⟨b, 0, none⟩)) (.pointer none)).run Try.prog W = .ok (.bool true) W := fun W b => by simp [go_sem]
  have HP := Lib.hid hp
  have HOK := Lib.hid hok
  clear hp hok
  by_cases hlong : 40 < l.length
  · have hlong' : (40 : Int) < (l.length : Int) := by omega
    generalize l.length = n at *
    go_enter Try.func6, Try.ntmps6
    go_wp2_with (go_at_call 8; refine (awake _).mono ?_; rintro r w1 ⟨rfl, hb1⟩; have HB1 : Hid (Below w.heap.size w w1) := (((Below.refl _ w).alloc (Nat.le_refl _) _).trans (hb1.mono (by simp))); clear hb1)
    go_ret
    exact ⟨rfl, HB1.out⟩
  have hlong' : ¬ (40 : Int) < (l.length : Int) := by omega
  have hl40 : l.length ≤ 100000 := by omega
  have HB0 : Hid (Below w.heap.size w (w.alloc (.cells #[.int .u32 bh, .int .i64 bp] 29))) := (Below.refl _ w).alloc (Nat.le_refl _) _
  have HK0 : Hid (Blk (w.alloc (.cells #[.int .u32 bh, .int .i64 bp] 29)) w.heap.size 29 #[.int .u32 bh, .int .i64 bp]) := Blk.new w 29 _
  go_enter Try.func6, Try.ntmps6
  go_wp2_with (go_at_call 8; generalize w.alloc (.cells #[.int .u32 bh, .int .i64 bp] 29) = w0 at *; generalize hb5 : w.heap.size = b5 at *; refine (awake _).mono ?_; rintro r w1 ⟨rfl, hb1⟩; have HB1 : Hid (Below b5 w w1) := (HB0.out.trans (hb1.mono (by have := HB0.out.size; omega))); have HK1 : Hid (Blk w1 b5 29 #[.int .u32 bh, .int .i64 bp]) := HK0.out.below hb1 HK0.out.lt; clear hb1 HB0 HK0)
  go_wp2_with fail
  refine (Ways_ own ho0 ho1 A0 c0 l w1 (RdA.moreL (RdA.belowB HP.out HB1.out (fun k hk => by omega)) (fun k _ hl => hl)) hl40 HOK.out).mono ?_
  rintro r w2 ⟨A1, c1, rfl, hrow, hb⟩
  have HB2 := Lib.hid (HB1.out.trans (hb.mono (by have := HB1.out.size; omega)))
  have HK2 := Lib.hid (HK1.out.below hb HK1.out.lt)
  have HR2 : Hid (Pls w2 (fun _ => True) A1 (waysW own l)) := (Rd.of_own (S := fun _ => True) hrow (fun _ _ => trivial)).a
  clear hrow hb HB1 HK1
  go_wp2_with fail
  refine (New_ own ho0 ho1 A0 c0 l w2 (RdA.moreL (RdA.belowB HP.out HB2.out (fun k hk => by omega)) (fun k _ hl => hl)) hl40 HOK.out).mono ?_
  rintro r w3 ⟨B, A, c, rfl, hB, hwk, hpl, hb⟩
  have HL3 : Hid (LW w w3 B A A1 c (waysW own l) 0 Pth.off [(b5, 29, #[.int .u32 bh, .int .i64 bp])]) := by
    have hk := HK2.out.lt
    have hz := HB2.out.size
    refine ⟨⟨hwk, ?_, by omega⟩, RdA.moreL (S := fun k => k < w2.heap.size) (RdA.belowB (RdA.moreL HR2.out (fun k _ hl => hl)) hb (fun _ h => h)) (fun k hk hl => by omega), fun d hd => ?_⟩
    · have h2 := HB2.out.trans (hb.mono (by omega))
      rw [hb5]; exact h2
    · rw [List.mem_singleton] at hd
      subst hd
      exact ⟨HK2.out.below hb hk, by show b5 ≠ B; omega⟩
  clear hwk hpl hb HR2 HK2 HB2
  generalize hws : waysW own l = ws at *
  clear hws
  cases hx0 : ws[0]? with
  | none =>
    have hw0 : ws.length = 0 := by rw [List.getElem?_eq_none_iff] at hx0; omega
    rw [hw0]
    go_wp2
    go_ret
    exact ⟨rfl, HL3.out.pw.below⟩
  | some x0 =>
    have hw0 : 0 < ws.length := (List.getElem?_eq_some_iff.1 hx0).1
    have hw1 : ¬ ws.length = 0 := by omega
    have hw1' : ¬ (ws.length : Int) = 0 := by omega
    go_wp2_with fail
    have h1 := Start_ HL3.out.pw.wk 0
    have e0 : startF ws 0 Pth.off 0 = ⟨x0, true, 0, ⟨1, x0, 0 + 10⟩⟩ := by
      have : startF ws 0 Pth.off 0 = tryF ws 0 0 := if_pos ⟨⟨by omega, by omega⟩, .inl rfl⟩
      rw [this]; simp [tryF, hx0]
    rw [e0] at h1
    refine h1.mono ?_
    rintro r w4 ⟨rfl, hw, hu⟩
    have HL4 := Lib.hid (HL3.out.upd hw hu)
    clear h1 hw hu HL3 e0
    go_wp2_with fail
    have hn8 := HL4.out.pw.wk.len
    go_loopw [9] (fun s9 wr => ∃ j : Nat, j < ws.length ∧ s9 = .int .i64 ((j : Int) + 1) ∧ Hid (LW w wr B A A1 c ws j (tryF ws (10 * (j : Int)) j).s [(b5, 29, #[.int .u32 bh, .int .i64 bp])])) (fun s _ => ws.length - (intOf s).toNat)
    · refine ⟨0, hw0, rfl, ?_⟩
      have e : tryF ws (10 * ((0 : Nat) : Int)) 0 = ⟨x0, true, 0, ⟨1, x0, 0 + 10⟩⟩ := by simp [tryF, hx0]
      rw [e]; exact HL4.out
    · obtain ⟨j, hj, rfl, HR⟩ := hrel
      clear HL4
      obtain ⟨x, hx⟩ : ∃ x, ws[j]? = some x := ⟨ws[j]'hj, List.getElem?_eq_getElem _⟩
      have e : tryF ws (10 * (j : Int)) j = ⟨x, true, j, ⟨1, x, 10 * (j : Int) + 10⟩⟩ := by simp [tryF, hx]
      rw [e] at HR
      by_cases hjn : j + 1 < ws.length
      · have hjn' : (j : Int) + 1 < (ws.length : Int) := by omega
        have t2 : tickF ws j ⟨1, x, 10 * (j : Int) + 10⟩ (10 * ((j : Int) + 1)) = tryF ws (10 * ((j + 1 : Nat) : Int)) (j + 1) := by
          have h1 : tickF ws j ⟨1, x, 10 * (j : Int) + 10⟩ (10 * ((j : Int) + 1)) = tryF ws (10 * ((j : Int) + 1)) (j + 1) := if_pos ⟨⟨by omega, by omega⟩, rfl, by show 10 * (j : Int) + 10 ≤ _; omega⟩
          rw [h1]
          rw [show (10 * ((j : Int) + 1)) = 10 * ((j + 1 : Nat) : Int) by push_cast; omega]
        have h2 := Tick_ HR.out.pw.wk (10 * ((j : Int) + 1)) (by omega)
        rw [t2] at h2
        have H2 := Lib.hid h2
        clear h2 t2 e
        go_wp2_with fail
        refine H2.out.mono ?_
        rintro r w8 ⟨rfl, hw8, hu8⟩
        rw [tryF_i] at hw8
        have HR8 := Lib.hid (HR.out.upd hw8 hu8)
        clear hw8 hu8 HR H2
        go_wp2
        go_roundw
        case' rel => exact ⟨j + 1, hjn, by go_num, HR8.out⟩
        case' measure => simp [intOf]; omega
      · have hjn' : (ws.length : Int) ≤ (j : Int) + 1 := by omega
        have hn : ws.length = j + 1 := by omega
        clear e
        obtain ⟨xh, xp, xid, xv⟩ := x
        have hcase : ∃ (st : Int) (pv : Bool) (s2 : Pth), openF ⟨1, ⟨xh, xp, xid, xv⟩, 10 * (j : Int) + 10⟩ 1000 = (true, ⟨st, ⟨xh, xp, xid, xv⟩, 0⟩) ∧ punchF ⟨st, ⟨xh, xp, xid, xv⟩, 0⟩ 1001 bh bp = (pv, s2) ∧
            ((xv = false ∧ st = 2 ∧ pv = false ∧ s2 = ⟨2, ⟨xh, xp, xid, false⟩, 0⟩) ∨ (xv = true ∧ st = 3 ∧ pv = false ∧ s2 = ⟨3, ⟨xh, xp, xid, true⟩, 0⟩ ∧ bh = 0) ∨
             (xv = true ∧ st = 3 ∧ pv = false ∧ s2 = ⟨3, ⟨xh, xp, xid, true⟩, 0⟩ ∧ ¬ bh = 0 ∧ bp < 1) ∨ (xv = true ∧ st = 3 ∧ pv = false ∧ s2 = ⟨3, ⟨xh, xp, xid, true⟩, 0⟩ ∧ ¬ bh = 0 ∧ ¬ bp < 1 ∧ 65535 < bp) ∨
             (xv = true ∧ st = 3 ∧ pv = true ∧ s2 = ⟨2, ⟨bh, bp, 0, false⟩, 0⟩ ∧ ¬ bh = 0 ∧ ¬ bp < 1 ∧ ¬ 65535 < bp)) := by
          have ho : ∀ v, openF ⟨1, ⟨xh, xp, xid, v⟩, 10 * (j : Int) + 10⟩ 1000 = (true, ⟨if v = true then 3 else 2, ⟨xh, xp, xid, v⟩, 0⟩) := fun v => if_pos ⟨⟨by omega, by omega⟩, rfl⟩
          have hno : mayB bh bp = false → punchF ⟨3, ⟨xh, xp, xid, true⟩, 0⟩ 1001 bh bp = (false, ⟨3, ⟨xh, xp, xid, true⟩, 0⟩) := fun h => if_neg (fun q => by rw [h] at q; simp at q)
          cases xv with
          | false => exact ⟨2, false, _, ho false, if_neg (fun q => by have := q.2.1; dsimp only at this; omega), .inl ⟨rfl, rfl, rfl, rfl⟩⟩
          | true =>
            by_cases h1 : bh = 0
            · exact ⟨3, false, _, ho true, hno (by simp [mayB, h1]), .inr (.inl ⟨rfl, rfl, rfl, rfl, h1⟩)⟩
            by_cases h2 : bp < 1
            · exact ⟨3, false, _, ho true, hno (by have : ¬ 1 ≤ bp := by omega
                                                   simp [mayB, this]), .inr (.inr (.inl ⟨rfl, rfl, rfl, rfl, h1, h2⟩))⟩
            by_cases h3 : 65535 < bp
            · exact ⟨3, false, _, ho true, hno (by have : ¬ bp ≤ 65535 := by omega
                                                   simp [mayB, this]), .inr (.inr (.inr (.inl ⟨rfl, rfl, rfl, rfl, h1, h2, h3⟩)))⟩
            · exact ⟨3, true, _, ho true, if_pos ⟨⟨by omega, by omega⟩, rfl, by have a1 : 1 ≤ bp := by omega
                                                                                have a2 : bp ≤ 65535 := by omega
                                                                                simp [mayB, h1, a1, a2]⟩, .inr (.inr (.inr (.inr ⟨rfl, rfl, rfl, rfl, h1, h2, h3⟩)))⟩
        obtain ⟨st, pv, s2, eo, ep, hcase⟩ := hcase
        have EO := Lib.hid eo
        have EP := Lib.hid ep
        have HX := Lib.hid hx
        have HX0 := Lib.hid hx0
        have HC := Lib.hid hcase
        clear eo ep hx hx0 hcase
        go_wp2_with fail
        have h1 := Open_ HR.out.pw.wk 1000
        rw [EO.out] at h1
        refine h1.mono ?_
        rintro r w5 ⟨rfl, hw, hu⟩
        have HL5 := Lib.hid (HR.out.upd hw hu)
        clear h1 hw hu EO HR
        go_wp2_with fail
        refine (State_ HL5.out.pw.wk).mono ?_
        rintro r w6 ⟨rfl, hb⟩
        have HL6 := Lib.hid (HL5.out.top hb)
        clear hb HL5
        try dsimp only
        obtain ⟨b, o, hA1, hbl, c0', c1', c2', c3'⟩ := HL6.out.row.elem HX.out
        have a0 : ∀ ob, (w6.alloc ob).cell? ⟨b, o + j * 4, none⟩ = some (.int .u32 xh) := fun ob => by rw [World.cell?_alloc_lt _ _ _ hbl]; exact c0'
        have a1 : ∀ ob, (w6.alloc ob).cell? ⟨b, o + j * 4 + 1, none⟩ = some (.int .i64 xp) := fun ob => by rw [World.cell?_alloc_lt _ _ _ hbl]; exact c1'
        have a2 : ∀ ob, (w6.alloc ob).cell? ⟨b, o + j * 4 + 2, none⟩ = some (.int .i64 xid) := fun ob => by rw [World.cell?_alloc_lt _ _ _ hbl]; exact c2'
        have a3 : ∀ ob, (w6.alloc ob).cell? ⟨b, o + j * 4 + 3, none⟩ = some (.bool xv) := fun ob => by rw [World.cell?_alloc_lt _ _ _ hbl]; exact c3'
        subst hA1
        clear c0' c1' c2' c3' hbl
        have HL8 := Lib.hid (HL6.out.two st ⟨xh, xp, xid, xv⟩)
        dsimp only at HL8
        go_upto_region 18 with fail
        clear a0 a1 a2 a3 HL6
        generalize (w6.alloc (.cells #[.int .i64 st, .int .u32 xh, .int .i64 xp, .int .i64 xid, .bool xv, .int .i64 0] 35)).alloc (.cells #[.int .u32 xh, .int .i64 xp, .int .i64 xid, .bool xv] 31) = W8 at *
        generalize w6.heap.size + 1 = b11 at *
        generalize w6.heap.size = b10 at *
        have hneqx : ∀ W, (binOp .neq 31 (.agg #[.int .u32 xh, .int .i64 xp, .int .i64 xid, .bool xv]) (.agg #[.int .u32 xh, .int .i64 xp, .int .i64 xid, .bool xv])).run Try.prog W = .ok (.bool false) W := fun W => by
          have h := run_neq31 ⟨xh, xp, xid, xv⟩ ⟨xh, xp, xid, xv⟩ W
          rw [(Plc.eqB_iff _ _).2 rfl] at h
          exact h
        have r0 := HL8.out.cell (b := b10) (List.mem_cons_of_mem _ List.mem_cons_self) 0
        have r1 := HL8.out.cell (b := b10) (List.mem_cons_of_mem _ List.mem_cons_self) 1
        have r2 := HL8.out.cell (b := b10) (List.mem_cons_of_mem _ List.mem_cons_self) 2
        have r3 := HL8.out.cell (b := b10) (List.mem_cons_of_mem _ List.mem_cons_self) 3
        have r4 := HL8.out.cell (b := b10) (List.mem_cons_of_mem _ List.mem_cons_self) 4
        have r5 := HL8.out.cell (b := b10) (List.mem_cons_of_mem _ List.mem_cons_self) 5
        have t0 := HL8.out.cell (b := b11) List.mem_cons_self 0
        have t1 := HL8.out.cell (b := b11) List.mem_cons_self 1
        have t2 := HL8.out.cell (b := b11) List.mem_cons_self 2
        have t3 := HL8.out.cell (b := b11) List.mem_cons_self 3
        have p0 := HL8.out.cell (b := b5) (List.mem_cons_of_mem _ (List.mem_cons_of_mem _ List.mem_cons_self)) 0
        have p1 := HL8.out.cell (b := b5) (List.mem_cons_of_mem _ (List.mem_cons_of_mem _ List.mem_cons_self)) 1
        simp only [List.getElem?_toArray, List.getElem?_cons_zero, List.getElem?_cons_succ] at r0 r1 r2 r3 r4 r5 t0 t1 t2 t3 p0 p1
        rcases HC.out with ⟨rfl, rfl, rfl, rfl⟩ | ⟨rfl, rfl, rfl, rfl, k1⟩ | ⟨rfl, rfl, rfl, rfl, k1, k2⟩ | ⟨rfl, rfl, rfl, rfl, k1, k2, k3⟩ | ⟨rfl, rfl, rfl, rfl, k1, k2, k3⟩
        all_goals
          clear HC
          try have K1 := Lib.hid k1
          try clear k1
          try have K2 := Lib.hid k2
          try clear k2
          try have K3 := Lib.hid k3
          try clear k3
          go_wp2_with fail
          have h1 := Punched_ HL8.out.pw.wk 1001 bh bp
          rw [EP.out] at h1
          refine h1.mono ?_
          rintro r w9 ⟨rfl, hw, hu⟩
          have HL9 := Lib.hid (HL8.out.upd hw hu)
          clear h1 hw hu HL8 EP r0 r1 r2 r3 r4 r5 t0 t1 t2 t3 p0 p1 hneqx
          have t3 := HL9.out.cell (b := b11) List.mem_cons_self 3
          have p0 := HL9.out.cell (b := b5) (List.mem_cons_of_mem _ (List.mem_cons_of_mem _ List.mem_cons_self)) 0
          have p1 := HL9.out.cell (b := b5) (List.mem_cons_of_mem _ (List.mem_cons_of_mem _ List.mem_cons_self)) 1
          simp only [List.getElem?_toArray, List.getElem?_cons_zero, List.getElem?_cons_succ] at t3 p0 p1
          try have k1 := K1.out
          try have k2 := K2.out
          try have k3 := K3.out
          try have m1 : decide (bh = 0) = false := decide_eq_false k1
          try have m1' : (bh == 0) = false := by simpa using k1
          try have m1'' : (bh != 0) = true := by simpa using k1
          try have m2 : decide ((1 : Int) ≤ bp) = true := decide_eq_true (by omega)
          try have m2' : decide ((1 : Int) ≤ bp) = false := decide_eq_false (by omega)
          try have m3 : decide (bp ≤ (65535 : Int)) = true := decide_eq_true (by omega)
          try have m3' : decide (bp ≤ (65535 : Int)) = false := decide_eq_false (by omega)
          go_wp2_with fail
        rotate_left 4
        focus
          have HST : Hid (∀ W, Below w9.heap.size w9 W → Calls Try.prog 12 #[.pointer (some ⟨B, 0, none⟩)] W fun r w' => r = .returned (.agg #[.int .i64 2, .int .u32 bh, .int .i64 bp, .int .i64 0, .bool false, .int .i64 0]) ∧ Below w9.heap.size w9 w' ∧
              (w'.cell? ⟨b11, 3, none⟩ = some (.bool true) ∧ w'.cell? ⟨b5, 0, none⟩ = some (.int .u32 bh) ∧ w'.cell? ⟨b5, 1, none⟩ = some (.int .i64 bp))) := fun W hb => by
            refine (State_ (HL9.out.top hb).pw.wk).mono ?_
            rintro r w' ⟨hr, hb'⟩
            have hb2 := hb.trans (hb'.mono hb.size)
            have h2 := HL9.out.top hb2
            exact ⟨hr, hb2, h2.cell (b := b11) List.mem_cons_self 3, h2.cell (b := b5) (List.mem_cons_of_mem _ (List.mem_cons_of_mem _ List.mem_cons_self)) 0, h2.cell (b := b5) (List.mem_cons_of_mem _ (List.mem_cons_of_mem _ List.mem_cons_self)) 1⟩
          have HBD : Hid (Below w9.heap.size w9 w9.drew) := (Below.refl _ w9).drew
          have hfld := run_field35
          have hfld1 := run_field35_1
          have hfld3 := run_field31_0
          have hne29 := run_neq29 bh bp
          go_region_held3 (fun w' => w'.cell? ⟨b11, 3, none⟩ = some (.bool true) ∧ w'.cell? ⟨b5, 0, none⟩ = some (.int .u32 bh) ∧ w'.cell? ⟨b5, 1, none⟩ = some (.int .i64 bp)) (first | exact ⟨f3, f4, f5⟩ | exact ⟨g3, g4, g5⟩ | exact ⟨t3, p0, p1⟩ | go_keep) (first | (go_at_call 12; refine (HST.out _ HB10.out).mono ?_; rintro r w11 ⟨rfl, hb11, f3, f4, f5⟩; have HB11 := Lib.hid hb11; clear hb11) | (go_at_call 12; refine (HST.out _ HBD.out).mono ?_; rintro r w10 ⟨rfl, hb10, g3, g4, g5⟩; have HB10 := Lib.hid hb10; clear hb10))
          have HLA := Lib.hid (HL9.out.top HB11.out)
          clear HST HBD
        rotate_left
        focus (go_quiet (fail); have HLA := Lib.hid (HL9.out.top (belowR nq)); generalize w9.drewN nq = w11 at *)
        rotate_left
        focus (go_quiet (fail); have HLA := Lib.hid (HL9.out.top (belowR nq)); generalize w9.drewN nq = w11 at *)
        rotate_left
        focus (go_quiet (fail); have HLA := Lib.hid (HL9.out.top (belowR nq)); generalize w9.drewN nq = w11 at *)
        rotate_left
        focus (go_quiet (fail); have HLA := Lib.hid (HL9.out.top (belowR nq)); generalize w9.drewN nq = w11 at *)
        all_goals
          have hy0 := HX0.out
          clear HX0
          have HX0 := Lib.hid hy0
          clear hy0 t3 p0 p1 HL9
          try clear K1 k1
          try clear K2 k2
          try clear K3 k3
          try clear m1 m1' m1''
          try clear m2
          try clear m2'
          try clear m3
          try clear m3'
          go_wp2_with fail
          refine (lost_step HLA.out HX0.out (by first | exact .inl rfl | exact .inr rfl)).mono ?_
          rintro r w12 ⟨rfl, hw, hu⟩
          have HL13 := Lib.hid ((HLA.out.upd hw hu).add 31 #[.int .u32 x0.h, .int .i64 x0.p, .int .i64 x0.id, .bool x0.via])
          clear hw hu HLA
          dsimp only at HL13
          try dsimp only
          go_upto_region 24 with fail
          generalize w12.alloc (.cells #[.int .u32 x0.h, .int .i64 x0.p, .int .i64 x0.id, .bool x0.via] 31) = W13 at *
          generalize w12.heap.size = b13 at *
        all_goals
          have HST : Hid (∀ W, Below W13.heap.size W13 W → Calls Try.prog 12 #[.pointer (some ⟨B, 0, none⟩)] W fun r w' => r = .returned (.agg #[.int .i64 1, .int .u32 x0.h, .int .i64 x0.p, .int .i64 x0.id, .bool x0.via, .int .i64 1012]) ∧ Below W13.heap.size W13 w' ∧
              (w'.cell? ⟨b13, 0, none⟩ = some (.int .u32 x0.h) ∧ w'.cell? ⟨b13, 1, none⟩ = some (.int .i64 x0.p) ∧ w'.cell? ⟨b13, 2, none⟩ = some (.int .i64 x0.id) ∧ w'.cell? ⟨b13, 3, none⟩ = some (.bool x0.via)) ∧
              (w'.cell? ⟨b, o, none⟩ = some (.int .u32 x0.h) ∧ w'.cell? ⟨b, o + 1, none⟩ = some (.int .i64 x0.p) ∧ w'.cell? ⟨b, o + 2, none⟩ = some (.int .i64 x0.id) ∧ w'.cell? ⟨b, o + 3, none⟩ = some (.bool x0.via))) := fun W hb => by
            refine (State_ (HL13.out.top hb).pw.wk).mono ?_
            rintro r w' ⟨hr, hb'⟩
            have hb2 := hb.trans (hb'.mono hb.size)
            have h2 := HL13.out.top hb2
            obtain ⟨b', o', hbo, _, y0, y1, y2, y3⟩ := h2.row.elem HX0.out
            injection hbo with hbo
            injection hbo with hbo1 hbo2
            subst hbo1 hbo2
            rw [Nat.zero_mul, Nat.add_zero] at y0 y1 y2 y3
            exact ⟨hr, hb2, ⟨h2.cell (b := b13) List.mem_cons_self 0, h2.cell (b := b13) List.mem_cons_self 1, h2.cell (b := b13) List.mem_cons_self 2, h2.cell (b := b13) List.mem_cons_self 3⟩, y0, y1, y2, y3⟩
          have HBD : Hid (Below W13.heap.size W13 W13.drew) := (Below.refl _ W13).drew
          obtain ⟨b', o', hbo, _, y0, y1, y2, y3⟩ := HL13.out.row.elem HX0.out
          injection hbo with hbo
          injection hbo with hbo1 hbo2
          subst hbo1 hbo2
          rw [Nat.zero_mul, Nat.add_zero] at y0 y1 y2 y3
          have z0 : W13.cell? ⟨b13, 0, none⟩ = some (.int .u32 x0.h) := HL13.out.cell (b := b13) List.mem_cons_self 0
          have z1 : W13.cell? ⟨b13, 1, none⟩ = some (.int .i64 x0.p) := HL13.out.cell (b := b13) List.mem_cons_self 1
          have z2 : W13.cell? ⟨b13, 2, none⟩ = some (.int .i64 x0.id) := HL13.out.cell (b := b13) List.mem_cons_self 2
          have z3 : W13.cell? ⟨b13, 3, none⟩ = some (.bool x0.via) := HL13.out.cell (b := b13) List.mem_cons_self 3
          have q1 : x0.eqB x0 = true := (Plc.eqB_iff x0 x0).2 rfl
          have heqx := fun W => run_eql31 x0 x0 W
          have hfld := run_field35
          have hfld2 := run_field35_2
          have hj0 : (0 : Int) < (j : Int) + 1 := by omega
          have hj1 : (0 : Nat) < j + 1 := by omega
        all_goals
          focus
            go_region_held3 (fun w' => (w'.cell? ⟨b13, 0, none⟩ = some (.int .u32 x0.h) ∧ w'.cell? ⟨b13, 1, none⟩ = some (.int .i64 x0.p) ∧ w'.cell? ⟨b13, 2, none⟩ = some (.int .i64 x0.id) ∧ w'.cell? ⟨b13, 3, none⟩ = some (.bool x0.via)) ∧
              (w'.cell? ⟨b, o, none⟩ = some (.int .u32 x0.h) ∧ w'.cell? ⟨b, o + 1, none⟩ = some (.int .i64 x0.p) ∧ w'.cell? ⟨b, o + 2, none⟩ = some (.int .i64 x0.id) ∧ w'.cell? ⟨b, o + 3, none⟩ = some (.bool x0.via))) (first | exact ⟨f1, f2⟩ | exact ⟨g1, g2⟩ | exact ⟨⟨z0, z1, z2, z3⟩, y0, y1, y2, y3⟩ | go_keep) (first | (go_at_call 12; refine (HST.out _ HB10.out).mono ?_; rintro r w11 ⟨rfl, hb11, f1, f2⟩; have HB11 := Lib.hid hb11; clear hb11) | (go_at_call 12; refine (HST.out _ HBD.out).mono ?_; rintro r w10 ⟨rfl, hb10, g1, g2⟩; have HB10 := Lib.hid hb10; clear hb10))
            go_wp2
            go_ret
            exact ⟨rfl, (HL13.out.top HB11.out).pw.below⟩
end Go.Proofs.Ythlhfhfhagfelaa
