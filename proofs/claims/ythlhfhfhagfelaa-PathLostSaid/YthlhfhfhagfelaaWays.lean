/- The walk of Ways. No condition. -/
import Derived.Test.YthlhfhfhagfelaaWaysB
import Derived.Deep.AppendLies
import Derived.LoopTactic
import Derived.StillTailTactics
import Derived.Deep.OwnRows
import Derived.Deep.DrawnRows
import Derived.Deep.CutBlock
import Derived.Deep.CutRange
import Derived.Laws.EntriesVeiled
set_option linter.unusedVariables false
set_option linter.unusedSimpArgs false
namespace Go.Proofs.Ythlhfhfhagfelaa
open Go.RowKit Go.Shelf
attribute [local go_sem] Oper.semAt_some
attribute [local go_sem ↓] Go.wp_at_zero Go.wp_at_succ

theorem info31 : (Try.prog.info? 31).map (fun i => (i.zero, i.size, i.bytes)) = some (some (.agg #[.int .u32 0, .int .i64 0, .int .i64 0, .bool false]), 4, 32) := by kernel_rfl
theorem Some_ (k Bo : Nat) (h1 : 1 ≤ k) (h3 : k ≤ 3) (A : Option Addr) (n c : Nat) (w : World) : Calls Try.prog 31 #[.slice A n c, fvOf k Bo] w fun r w' => r = .returned (.func (.func 39) #[] #[.pointer (some ⟨w.heap.size, 0, none⟩), .pointer (some ⟨w.heap.size + 1, 0, none⟩)]) ∧ w' = (w.alloc (.cells #[.slice A n c] 23)).alloc (.cells #[fvOf k Bo] 55) := by
  obtain rfl | rfl | rfl : k = 1 ∨ k = 2 ∨ k = 3 := by omega
  all_goals
    simp only [fvOf, if_pos, if_neg, reduceIte, Nat.reduceEqDiff]
    go_enter Try.func31, Try.ntmps31
    go_wp2
    go_ret
    exact ⟨rfl, rfl⟩
def WaysRes (w : World) (out : List Plc) (r : Ending) (w' : World) : Prop := ∃ A' c', r = .returned (.slice A' out.length c') ∧ w'.ownsRow w.heap.size 31 4 (.slice A' out.length c') out.length (pcells out) ∧ Below w.heap.size w w'

set_option maxHeartbeats 3200000 in
set_option maxRecDepth 100000 in
theorem Ways_ (own : Int) (ho0 : 0 ≤ own) (ho1 : own ≤ 4294967295) (A : Option Addr) (c : Nat) (l : List Plc) (w : World) (hp : Pls w (fun k => k < w.heap.size) A l) (hl : l.length ≤ 100000) (hok : ∀ x ∈ l, x.ok) :
    Calls Try.prog 14 #[.int .u32 own, .slice A l.length c] w (WaysRes w (waysW own l)) := by
  have HP := Lib.hid hp
  have HOK := Lib.hid hok
  clear hp hok
  refine (callsIn_wide (n := 9)).1 (callsIn_of_wp_marks Try.func14 rfl trivial (wpIn_wide.2 ?_) rfl)
  simp only [Try.ntmps14, List.size_toArray, List.length_cons, List.length_nil, Nat.reduceAdd, Nat.reduceSub, Array.replicate_succ, Array.replicate_zero, List.push_toArray, List.append_toArray, List.nil_append, List.cons_append]
  go_wp2_with fail
  go_step3
  go_wp2_with fail
  go_step3
  go_wp2_with fail
  have HST : Hid (WayC w (((w.alloc (.cells #[.int .u32 own] 22)).alloc (.cells #[.func (.func 27) #[] #[], .func (.func 29) #[] #[.pointer (some ⟨w.heap.size, 0, none⟩)], .func (.func 30) #[] #[]] 57)).alloc (.cells #[.slice none 0 0] 23)) own w.heap.size (w.heap.size + 1) (w.heap.size + 1 + 1) (.slice none 0 0) [] []) := by
    have b1 := ((Blk.new w 22 #[.int .u32 own]).alloc (.cells #[.func (.func 27) #[] #[], .func (.func 29) #[] #[.pointer (some ⟨w.heap.size, 0, none⟩)], .func (.func 30) #[] #[]] 57)).alloc (.cells #[.slice none 0 0] 23)
    have b2 := (Blk.new (w.alloc (.cells #[.int .u32 own] 22)) 57 #[.func (.func 27) #[] #[], .func (.func 29) #[] #[.pointer (some ⟨w.heap.size, 0, none⟩)], .func (.func 30) #[] #[]]).alloc (.cells #[.slice none 0 0] 23)
    have b3 := Blk.new ((w.alloc (.cells #[.int .u32 own] 22)).alloc (.cells #[.func (.func 27) #[] #[], .func (.func 29) #[] #[.pointer (some ⟨w.heap.size, 0, none⟩)], .func (.func 30) #[] #[]] 57)) 23 #[.slice none 0 0]
    simp only [World.size_alloc] at b2 b3
    exact ⟨b1, b2, b3, World.ownsRow_nil _ _ _ _, (((Below.refl _ w).alloc (Nat.le_refl _) _).alloc (by simp) _).alloc (by simp; omega) _, ⟨by omega, by omega, by omega⟩, fun D hD => by simp at hD, List.Pairwise.nil⟩
  generalize ((w.alloc (.cells #[.int .u32 own] 22)).alloc (.cells #[.func (.func 27) #[] #[], .func (.func 29) #[] #[.pointer (some ⟨w.heap.size, 0, none⟩)], .func (.func 30) #[] #[]] 57)).alloc (.cells #[.slice none 0 0] 23) = w1 at *
  generalize hbc : w.heap.size + 1 + 1 = bc at *
  generalize hbk : w.heap.size + 1 = bk at *
  generalize hbo : w.heap.size = bo at *
  clear hbc hbk
  have HP : Hid (Pls w (fun k => k < w.heap.size) A l) := by have := HP.out; rw [← hbo] at this; exact this
  have HBO := Lib.hid hbo
  clear hbo
  refine wp_loop (fun a' w' => ∃ (k : Nat) (Ds : List Nat) (v u7 u8 u9 u10 u11 u12 u13 u14 : Value) (us : List Value), us.length = 21 ∧ k ≤ 3 ∧ Hid (WayC w w' own bo bk bc v (waysTo own l k) Ds) ∧
    a' = { tmps := (.int .u32 own :: .slice A l.length c :: .pointer (some ⟨bo, 0, none⟩) :: undef :: .slice none 0 0 :: .slice (some ⟨bk, 0, none⟩) 3 3 :: .pointer (some ⟨bc, 0, none⟩) :: u7 :: u8 :: u9 :: u10 :: u11 :: u12 :: u13 :: u14 :: .slice (some ⟨bk, 0, none⟩) 3 3 :: .int .i64 3 :: .int .i64 k :: us).toArray, defers := Ds.map coll }) (fun a' _ => 3 - (intOf (a'.tmps.getD 17 undef)).toNat) ?_ ?_
  · exact ⟨0, [], _, _, _, _, _, _, _, _, _, _, rfl, by omega, HST.out, rfl⟩
  · rintro _ wr ⟨k, Ds, v, u7, u8, u9, u10, u11, u12, u13, u14, us, hus, hk, HR, rfl⟩
    iterate 21 (have h2 := len_succ hus; clear hus; obtain ⟨_, us, rfl, hus⟩ := h2)
    obtain rfl := List.eq_nil_of_length_eq_zero hus
    clear hus HST
    by_cases hlt : k < 3
    · have hlt' : (k : Int) < 3 := by omega
      have hq : wr.cell? ⟨bk, k, none⟩ = some (fvOf (k + 1) bo) := by
        rw [HR.out.kb.cell k]
        obtain rfl | rfl | rfl : k = 0 ∨ k = 1 ∨ k = 2 := by omega
        all_goals rfl
      have hsm := fun W => Some_ (k + 1) bo (by omega) (by omega) A l.length c W
      have hlt3 : k < 3 := hlt
      have hfv : fvOf (k + 1) bo = .func (.func 27) #[] #[] ∨ fvOf (k + 1) bo = .func (.func 29) #[] #[.pointer (some ⟨bo, 0, none⟩)] ∨ fvOf (k + 1) bo = .func (.func 30) #[] #[] := by
        obtain rfl | rfl | rfl : k = 0 ∨ k = 1 ∨ k = 2 := by omega
        · exact .inl rfl
        · exact .inr (.inl rfl)
        · exact .inr (.inr rfl)
      rcases hfv with hfv | hfv | hfv
      all_goals
        rw [hfv] at hq hsm
        have HFV := Lib.hid hfv
        have HSM := Lib.hid hsm
        clear hfv hsm
        go_wp2_with (go_at_call 31; refine (HSM.out _).mono ?_; rintro r w2 ⟨rfl, rfl⟩)
        rw [← HFV.out]
        obtain ⟨hwc, hsrc⟩ := HR.out.src (k := k + 1) (.cells #[fvOf (k + 1) bo] 57) (c := c) HP.out HOK.out
        have HWC := Lib.hid hwc
        have HSR := Lib.hid hsrc
        clear hwc hsrc hq
        generalize ((wr.alloc (.cells #[fvOf (k + 1) bo] 57)).alloc (.cells #[.slice A l.length c] 23)).alloc (.cells #[fvOf (k + 1) bo] 55) = W0 at *
        generalize wr.heap.size = bp at *
        generalize fvOf (k + 1) bo = fv at *
        clear HFV HSM HR
        have HZ : Hid (w.heap.size ≤ W0.heap.size) := HWC.out.below.size
        refine with_act ?_
        intro a0 ha0
        refine wpIn_wide.1 (rangeFunc_fresh (F := Fence.wide) (n := 9) rfl (by omega) (gf := 39) (lb := #[.pointer (some ⟨bp + 1, 0, none⟩), .pointer (some ⟨bp + 1 + 1, 0, none⟩)]) (by rw [ha0]; rfl) trivial (enters_of Try.func39 (by kernel_rfl) rfl)
          (some1 8 (by omega) _ own ho0 ho1 (k + 1) bo (bp + 1) (bp + 1 + 1) (by omega) (by omega) A c l W0 HSR.out hl) (fun h k => h.trans k) (fun h => KeepK.of_calm (fun k hk => hk.1) h) (fun _ => rfl)
          (IW w W0 bc (waysTo own l k)) (IxW w W0 bc (ofKind own (k + 1) l) (waysTo own l k)) (IW.stable HZ.out) (IxW.stable HZ.out) HWC.out.iw (MW w W0 bc (ofKind own (k + 1) l) (waysTo own l k) a0) (MW.stable HZ.out) ?_ ?_ ?_ ?_)
        · intro L pre x Ws W K hi hb hG hK
          have hm := IW.lay (x := x) hi hb HZ.out
          have HM := Lib.hid hm
          have HK := Lib.hid hK
          have HG := Lib.hid hG
          clear hm hK hi hb hG
          rw [ha0]
          simp only [encP]
          gi_wp2
          obtain ⟨m1, m2⟩ := HM.out
          exact HK.out _ _ ((KeepsOthers.alloc _ _).from _) (KeepK.of_below ((Below.refl _ W).alloc (Nat.le_refl _) _)) ⟨W.heap.size, m1, m2, HG.out, by rw [ha0]; rfl⟩
        · intro L pre x a' W hm hlen
          obtain ⟨Bx, hI, hbx, hpre, rfl⟩ := hm
          obtain ⟨hb1, hb2, v9, hb3, hb4⟩ := hI
          rw [ha0]
          simp only [List.setIfInBounds_toArray, List.set_cons_succ, List.set_cons_zero]
          obtain ⟨A9, c9, rfl, _, _⟩ := own_slice hb4
          have hWz : W0.heap.size ≤ W.heap.size := hb2.1
          have z0 : W.cell? ⟨bc, 0, none⟩ = some (.slice A9 (pre.foldl stepW (waysTo own l k)).length c9) := hb3.cell 0
          have hle : (pre.foldl stepW (waysTo own l k)).length ≤ 8 := foldW_le _ _ (waysTo_le _ _ _)
          have HCO := Lib.hid (Contains (w := W) (Rd.of_own (S := fun _ => True) hb4 (fun _ _ => trivial)).a (by omega) c9 x)
          have HBX := Lib.hid hbx
          have d0 : W.cell? ⟨Bx, 0, none⟩ = some (.int .u32 x.h) := hbx.cell 0
          have d1 : W.cell? ⟨Bx, 1, none⟩ = some (.int .i64 x.p) := hbx.cell 1
          have d2 : W.cell? ⟨Bx, 2, none⟩ = some (.int .i64 x.id) := hbx.cell 2
          have d3 : W.cell? ⟨Bx, 3, none⟩ = some (.bool x.via) := hbx.cell 3
          have HEX : Hid ((pre.foldl stepW (waysTo own l k)).length = 8 → IxW w W0 bc (ofKind own (k + 1) l) (waysTo own l k) (.exit 0) (pre ++ [x]) W) := fun h8 => ⟨rfl, pre, (List.prefix_append pre [x]).trans hpre, h8, hb1, hb2, _, hb3, hb4⟩
          have HSK : Hid (x ∈ pre.foldl stepW (waysTo own l k) → ∀ W', Below W.heap.size W W' → KeepsFrom W0.heap.size W W' ∧ KeepK (KW w W0 bc) W W' ∧ IW w W0 bc (waysTo own l k) (pre ++ [x]) W') := fun hx W' hb => ⟨⟨hb.size, fun j o _ hj _ => (hb.block j (Array.getElem?_eq_some_iff.1 hj).1).trans hj⟩, KeepK.of_below hb, IW.skip ⟨hb1, hb2, _, hb3, hb4⟩ hx hb hWz HZ.out⟩
          have HPU : Hid (x ∉ pre.foldl stepW (waysTo own l k) → (pre.foldl stepW (waysTo own l k)).length < 8 → ∀ w3 w4 v', Below W.heap.size W w3 → w3.grownBy w4 (Value.slice A9 (pre.foldl stepW (waysTo own l k)).length c9).ownBlock → w4.ownsRow w.heap.size 31 4 v' ((pre.foldl stepW (waysTo own l k)).length + 1) (pcells (pre.foldl stepW (waysTo own l k)) ++ x.cells) → _) :=
            fun hx h8 w3 w4 v' hb hg hr => IW.push hb1 hb2 hb3 hb4 hx h8 hWz HZ.out HWC.out.zs.2.2 hb hg hr
          have HOW := Lib.hid hb4
          have hbl : bc < W.heap.size := hb3.lt
          have HB1 := Lib.hid hb1
          have HB3 := Lib.hid hb3
          have hbz := HZ.out
          have hWz2 := hWz
          clear hb1 hb2 hb3 hb4 hbx hpre hWz
          generalize pre.foldl stepW (waysTo own l k) = cur at *
          by_cases h8 : cur.length = 8
          · have h8' : (cur.length : Int) = 8 := by omega
            gi_wp2
            exact ⟨KeepsFrom.refl _ _, HEX.out h8⟩
          · have h8' : ¬ (cur.length : Int) = 8 := by omega
            gi_wp2_with fail
            refine ⟨trivial, CallsIn.inRound L ((callsIn_wide.2 HCO.out).mono ?_)⟩
            rintro r w3 ⟨rfl, hb3⟩
            have z3 : w3.cell? ⟨bc, 0, none⟩ = some (.slice A9 cur.length c9) := (hb3.cell (p := ⟨bc, 0, none⟩) hbl).trans z0
            have hx3 := HBX.out.below hb3 HBX.out.lt
            have e0 : w3.cell? ⟨Bx, 0, none⟩ = some (.int .u32 x.h) := hx3.cell 0
            have e1 : w3.cell? ⟨Bx, 1, none⟩ = some (.int .i64 x.p) := hx3.cell 1
            have e2 : w3.cell? ⟨Bx, 2, none⟩ = some (.int .i64 x.id) := hx3.cell 2
            have e3 : w3.cell? ⟨Bx, 3, none⟩ = some (.bool x.via) := hx3.cell 3
            have HB := Lib.hid hb3
            by_cases hm : x ∈ cur
            · have hmt : decide (x ∈ cur) = true := decide_eq_true hm
              have HM := Lib.hid hm
              clear hm hb3 hx3
              rw [hmt]
              clear z0 d0 d1 d2 d3 z3 e0 e1 e2 e3
              gi_wp2
              exact HSK.out HM.out _ HB.out
            · have hmf : decide (x ∈ cur) = false := decide_eq_false hm
              have HM := Lib.hid hm
              rw [hmf]
              have HO3 := Lib.hid ((own_same HOW.out (fun g hg => hb3.block g (HOW.out.lt g hg).2)).alloc (.cells #[.int .u32 x.h, .int .i64 x.p, .int .i64 x.id, .bool x.via] 31))
              have hnews : ∀ j u, x.cells[j]? = some u → (w3.alloc (.cells #[.int .u32 x.h, .int .i64 x.p, .int .i64 x.id, .bool x.via] 31)).cell? ((⟨w3.heap.size, 0, none⟩ : Addr).add j) = some u := World.news_of_block (heap_alloc_new w3 (.cells #[.int .u32 x.h, .int .i64 x.p, .int .i64 x.id, .bool x.via] 31))
              have HNW := Lib.hid hnews
              have hbw3 := hb3.size
              have hone : ∀ u ∈ x.cells, u.oneCell' = true := fun u hu => pcells_one [x] u (by simpa [pcells] using hu)
              obtain ⟨i0, hi, hz0, hz1, hz2⟩ := info_parts info31
              have hBz := HB1.out.size
              clear hm hb3 hx3 hnews z0 d0 d1 d2 d3 hmf
              gi_wp2_with (gi_at_builtin; refine wpListIn_append_own _ rfl _ _ 23 rfl w.heap.size 31 i0 _ 4 32 Try.underlying23 hi hz0 hz1 hz2 rfl (by decide) (.slice A9 cur.length c9) cur.length (pcells cur) rfl HO3.out ⟨w3.heap.size, 0, none⟩ 1 1 x.cells rfl rfl HNW.out hone (by unfold maxLen; omega) (by omega) (by simp; omega) ?_; intro v' w4 hown' hgrow _; obtain ⟨p1, p2, p3, p4, p5⟩ := HPU.out HM.out (by omega) _ w4 v' (((HB.out).alloc hbw3 (.cells #[.int .u32 x.h, .int .i64 x.p, .int .i64 x.id, .bool x.via] 31))) hgrow hown'; obtain ⟨A5, c5, rfl, _, _⟩ := own_slice hown'; have HEND := Lib.hid (And.intro p2 (And.intro p3 p1)); clear p1 p2 p3 hown' hgrow)
              gi_wp2
              exact HEND.out
        · intro D xs W hD hS hI hK
          obtain ⟨v', hw'⟩ := HWC.out.next hI hK hD
          rw [hS] at hw'
          have HN : Hid (WayC w W own bo bk bc v' (waysTo own l (k + 1)) (D :: Ds)) := hw'
          clear hI hS hK hw'
          rw [ha0]
          dsimp only
          go_wp2
          refine ⟨⟨k + 1, D :: Ds, v', _, _, _, _, _, _, _, _, _, ?_, by omega, HN, rfl⟩, ?_⟩
          · rfl
          · simp [intOf]; omega
        · intro D cd pre W hD hS hI hK
          obtain ⟨rfl, pr, hpr, h8, hI⟩ := hI
          obtain ⟨v', hw'⟩ := HWC.out.next hI hK hD
          have hwf : waysW own l = pr.foldl stepW (waysTo own l k) := by
            have h1 : waysTo own l (k + 1) = pr.foldl stepW (waysTo own l k) := foldW_part hpr h8
            have h2 := waysTo_full own l (k + 1) (by rw [h1]; exact h8) (2 - k)
            rw [show k + 1 + (2 - k) = 3 by omega] at h2
            exact h2.trans h1
          rw [← hwf] at hw'
          obtain ⟨⟨A9, c9, rfl, q0⟩, hnd, hdf, hend⟩ := hw'.fin
          have HND := Lib.hid hnd
          have HDF := Lib.hid hdf
          have HE := Lib.hid hend
          clear hI hK hS hw' hwf hnd hdf hend
          rw [ha0]
          refine wpIn_wide.2 ?_
          go_wp2
          rw [Exit.noGoto_ret]
          refine leaves_coll (D :: Ds) _ HND.out HDF.out (fun W' hu => ?_)
          obtain ⟨h1, h2⟩ := HE.out W' hu
          exact ⟨_, results_tmp rfl _ _ _, A9, c9, rfl, h1, h2⟩
    · have hk3 : k = 3 := by omega
      obtain ⟨⟨A9, c9, rfl, q0⟩, hnd, hdf, hend⟩ := HR.out.fin
      have hw3 : waysTo own l k = waysW own l := by rw [hk3]; rfl
      rw [hw3] at q0 hend
      have HND := Lib.hid hnd
      have HDF := Lib.hid hdf
      have HE := Lib.hid hend
      have hge : (3 : Int) ≤ (k : Int) := by omega
      clear HR hw3 hnd hdf hend hk3
      go_wp2
      rw [Exit.noGoto_ret]
      refine leaves_coll Ds _ HND.out HDF.out (fun W' hu => ?_)
      obtain ⟨h1, h2⟩ := HE.out W' hu
      exact ⟨_, results_tmp rfl _ _ _, A9, c9, rfl, h1, h2⟩
end Go.Proofs.Ythlhfhfhagfelaa
