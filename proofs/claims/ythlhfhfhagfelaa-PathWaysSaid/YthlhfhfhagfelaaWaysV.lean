/- The walk of PathWays. No condition. -/
import Derived.Test.YthlhfhfhagfelaaAgain
import Derived.Test.YthlhfhfhagfelaaOrderW
set_option linter.unusedVariables false
set_option linter.unusedSimpArgs false
namespace Go.Proofs.Ythlhfhfhagfelaa
open Go.RowKit
attribute [local go_sem ↓] Go.wp_at_zero Go.wp_at_succ

/-- Rows that lie in a world, each readable. -/
structure Lies (w wr : World) (L : List (Option Addr × List Plc)) : Prop where
  rows : ∀ p ∈ L, Pls wr (fun k => k < wr.heap.size) p.1 p.2
  below : Below w.heap.size w wr
section
variable {w wr W : World} {L : List (Option Addr × List Plc)} {A : Option Addr} {l : List Plc}
theorem Lies.top (h : Lies w wr L) (hb : Below wr.heap.size wr W) : Lies w W L := ⟨fun p hp => RdA.moreL (RdA.below (h.rows p hp) hb) (fun k _ hl => hl), h.below.trans (hb.mono h.below.size)⟩
theorem Lies.at (h : Lies w wr L) {p : Option Addr × List Plc} (hp : p ∈ L) : Pls wr (fun k => k < wr.heap.size) p.1 p.2 := h.rows p hp
theorem Lies.push (h : Lies w wr L) (hp : Pls wr (fun _ => True) A l) : Lies w wr ((A, l) :: L) := ⟨fun p hq => by
  rcases List.mem_cons.1 hq with rfl | hq
  · exact RdA.moreL hp (fun k _ hl => hl)
  · exact h.rows p hq, h.below⟩
theorem own_pls {base c : Nat} (h : wr.ownsRow base 31 4 (.slice A l.length c) l.length (pcells l)) : Pls wr (fun _ => True) A l := (Rd.of_own (S := fun _ => True) h (fun _ _ => trivial)).a
theorem Pls.part {S : Nat → Prop} {m r : List Plc} (h : Pls wr S A l) (e : l = m ++ r) : Pls wr S A m := by
  refine ⟨pcells_length m, fun hm => ?_⟩
  obtain ⟨b, o, hA, hs, hl, hc⟩ := h.2 (by rw [e]; simp; omega)
  refine ⟨b, o, hA, hs, hl, fun j u hj => hc j u ?_⟩
  rw [e, pcells_append, List.getElem?_append_left (by have := (List.getElem?_eq_some_iff.1 hj).1; exact this)]
  exact hj
theorem own_empty (w : World) : (w.alloc (.cells #[] 31)).ownsRow w.heap.size 31 4 (.slice (some ⟨w.heap.size, 0, none⟩) 0 0) 0 [] :=
  ⟨rfl, .inr ⟨w.heap.size, 0, #[], rfl, Nat.le_refl _, heap_alloc_new w _, Nat.le_refl _, Nat.zero_le _, rfl, rfl⟩⟩
end

set_option maxHeartbeats 2000000 in
set_option maxRecDepth 100000 in
theorem PathWays_walk (own : Int) (ho0 : 0 ≤ own) (ho1 : own ≤ 4294967295) (A0 : Option Addr) (c0 : Nat) (l : List Plc) (w : World) (hp : Pls w (fun k => k < w.heap.size) A0 l) (hl : l.length ≤ 9223372036854775807) (hok : ∀ x ∈ l, x.ok) :
    Calls Try.prog 4 #[.int .u32 own, .slice A0 l.length c0] w fun r w' => r = .returned (.bool true) ∧ Below w.heap.size w w' := by
  have HP := Lib.hid hp
  have HOK := Lib.hid hok
  clear hp hok
  obtain ⟨i0, hi0, hz0, hz1, hz2⟩ := info_parts info31
  by_cases hlong : 20 < l.length
  · have hlong' : (20 : Int) < (l.length : Int) := by omega
    generalize l.length = n at *
    go_enter Try.func4, Try.ntmps4
    go_wp2_with (go_at_call 8; refine (awake _).mono ?_; rintro r w1 ⟨rfl, hb1⟩; have HB1 := Lib.hid hb1; clear hb1)
    go_ret
    exact ⟨rfl, HB1.out⟩
  have hlong' : ¬ (20 : Int) < (l.length : Int) := by omega
  have hl20 : l.length ≤ 20 := by omega
  have hl100 : l.length ≤ 100000 := by omega
  have HWOK : Hid (∀ x ∈ waysW own l, x.ok) := fun x hx => HOK.out x (by
    have key : ∀ k, ∀ y ∈ waysTo own l k, y ∈ l := fun k => by
      induction k with
      | zero => intro y hy; simp [waysTo] at hy
      | succ k ih =>
        intro y hy
        obtain ⟨r, h1, h2⟩ := foldW_more (ofKind own (k + 1) l) (waysTo own l k)
        have hy' : y ∈ (ofKind own (k + 1) l).foldl stepW (waysTo own l k) := hy
        rw [h1] at hy'
        rcases List.mem_append.1 hy' with h | h
        · exact ih y h
        · have := h2 y h
          simp [ofKind] at this
          exact this.1
    exact key 3 x hx)
  have HW8 : (waysW own l).length ≤ 100000 := by have := waysTo_le own l 3; show (waysTo own l 3).length ≤ _; omega
  have HA := Lib.hid (ways_again own l)
  have HT := Lib.hid (ways_twice own l)
  have HBR := Lib.hid (ways_bare own l)
  go_enter Try.func4, Try.ntmps4
  go_wp2_with (go_at_call 8; refine (awake _).mono ?_; rintro r w1 ⟨rfl, hb1⟩; have HL1 : Hid (Lies w w1 [(A0, l)]) := (Lies.push ⟨fun _ h => by simp at h, Below.refl _ _⟩ (RdA.moreL HP.out (fun _ _ _ => trivial))).top hb1; clear hb1)
  go_wp2_with fail
  refine (Ways_ own ho0 ho1 A0 c0 l w1 (HL1.out.at (p := (A0, l)) (by simp)) hl100 HOK.out).mono ?_
  rintro r w2 ⟨A1, c1, rfl, hrow, hb⟩
  obtain ⟨_, _, hsl, hc1, _⟩ := own_slice hrow
  injection hsl with q1 q2 q3
  subst q3
  have HC1 : (waysW own l).length ≤ c1 := hc1
  have HL2 := Lib.hid ((HL1.out.top hb).push (own_pls hrow))
  clear hb HL1 hrow hc1 q1 q2
  go_wp2_with fail
  refine (Ways_ own ho0 ho1 A1 c1 (waysW own l) w2 (HL2.out.at (p := (A1, waysW own l)) List.mem_cons_self) HW8 HWOK.out).mono ?_
  rintro r w3 ⟨A2, c2, rfl, hrow, hb⟩
  rw [HA.out] at hrow ⊢
  have HL3 := Lib.hid ((HL2.out.top hb).push (own_pls hrow))
  clear hb HL2 hrow
  have HN1 := Lib.hid (pcells_one l)
  obtain ⟨l2, hl2⟩ : ∃ l2, l2 = l ++ l := ⟨_, rfl⟩
  have HT2 : Hid (waysW own l2 = waysW own l) := by rw [hl2]; exact HT.out
  have HC2 : Hid (pcells l ++ pcells l = pcells l2) := by rw [hl2]; exact (pcells_append l l).symm
  have HQ2 : Hid (l.length + l.length = l2.length) := by rw [hl2]; exact List.length_append.symm
  have HK2 : Hid (∀ x ∈ l2, x.ok) := by rw [hl2]; exact fun x hx => by simp at hx; exact HOK.out x hx
  have HL2b : Hid (l2.length ≤ 100000) := by rw [← HQ2.out]; show l.length + l.length ≤ 100000; omega
  clear hl2 HT
  have HE3 := Lib.hid (own_empty w3)
  have HR3 : Hid (RdA (w3.alloc (.cells #[] 31)) (fun _ => True) 4 A0 l.length (pcells l)) := (RdA.moreL (HL3.out.at (p := (A0, l)) (by simp)) (fun _ _ _ => trivial)).alloc _
  have hb3 : Below w3.heap.size w3 (w3.alloc (.cells #[] 31)) := (Below.refl _ w3).alloc (Nat.le_refl _) _
  have HB3 := Lib.hid hb3
  clear hb3
  go_wp2_with (first
    | (at_builtin; refine wpList_append_any _ rfl _ _ 23 rfl w3.heap.size 31 i0 _ 4 32 Try.underlying23 hi0 hz0 hz1 hz2 rfl (by decide) (.slice (some ⟨w3.heap.size, 0, none⟩) 0 0) 0 [] rfl HE3.out (fun _ => True) A0 l.length c0 (pcells l) rfl HR3.out HN1.out (by unfold maxLen; omega) (by omega) (by simp) ?_; intro v5 w5 hown5 hg5 _; rw [Nat.zero_add, List.nil_append] at hown5; obtain ⟨A5, c5, rfl, _, _⟩ := own_slice hown5; have HB5 := Lib.hid (HB3.out.grown hg5 (by simp) (fun k e => (HE3.out.lt k e).1)); have HR5 := Lib.hid (RdA.moreL ((HL3.out.top HB5.out).at (p := (A0, l)) (by simp)) (fun _ _ _ => trivial) : RdA w5 (fun _ => True) 4 A0 l.length (pcells l)); have HO5 := Lib.hid hown5; clear hown5 hg5)
    | (at_builtin; refine wpList_append_any _ rfl _ _ 23 rfl w3.heap.size 31 i0 _ 4 32 Try.underlying23 hi0 hz0 hz1 hz2 rfl (by decide) (.slice A5 l.length c5) l.length (pcells l) rfl HO5.out (fun _ => True) A0 l.length c0 (pcells l) rfl HR5.out HN1.out (by unfold maxLen; omega) (by omega) HB5.out.size ?_; intro v6 w6 hown6 hg6 _; rw [HC2.out, HQ2.out] at hown6; obtain ⟨A6, c6, rfl, _, _⟩ := own_slice hown6; have HL6 := Lib.hid ((HL3.out.top (HB5.out.grown hg6 HB5.out.size (fun k e => (HO5.out.lt k e).1))).push (own_pls hown6)); clear hown6 hg6 HB5 HR5 HO5))
  refine (Ways_ own ho0 ho1 A6 c6 l2 w6 (HL6.out.at (p := (A6, l2)) List.mem_cons_self) HL2b.out HK2.out).mono ?_
  rintro r w7 ⟨A7, c7, rfl, hrow, hb⟩
  rw [HT2.out] at hrow ⊢
  have HL7 := Lib.hid ((HL6.out.top hb).push (own_pls hrow))
  clear hb HL6 hrow HL3 HE3 HR3 HB3
  go_wp2_with fail
  clear HT2 HC2 HQ2 HK2 HL2b HA
  go_loopw [8, 9] (fun s8 s9 wr => ∃ (i : Nat) (A' : Option Addr) (c' : Nat), i ≤ l.length ∧ s9 = .int .i64 i ∧ s8 = .slice A' (bareW (l.take i)).length c' ∧ Hid (RW w7 wr s8 (bareW (l.take i)))) (fun _ s _ => l.length - (intOf s).toNat)
  case atStart => exact ⟨0, none, 0, by omega, rfl, rfl, World.ownsRow_nil _ _ _ _, Below.refl _ _⟩
  case round =>
    obtain ⟨i, A', c', hi, rfl, rfl, HR⟩ := hrel
    by_cases hin : i < l.length
    · have hin' : (i : Int) < (l.length : Int) := by omega
      obtain ⟨x, hx⟩ : ∃ x, l[i]? = some x := ⟨l[i]'hin, List.getElem?_eq_getElem _⟩
      have hpw : Pls wr (fun k => k < w7.heap.size) A0 l := RdA.belowB (HL7.out.at (p := (A0, l)) (by simp)) HR.out.below (fun _ h => h)
      obtain ⟨b, o, hA0, hbl, d0, d1, d2, d3⟩ := hpw.elem hx
      have htk : l.take (i + 1) = l.take i ++ [x] := by rw [List.take_add_one, hx]; rfl
      have hsz : (bareW (l.take i)).length ≤ i := by
        have := List.length_filter_le (fun x : Plc => !x.via) (l.take i)
        rw [List.length_take] at this
        exact Nat.le_trans this (Nat.min_le_left _ _)
      have HTK := Lib.hid htk
      have HL7' := Lib.hid HL7.out
      clear hpw htk hx HL7
      obtain ⟨xh, xp, xid, xv⟩ := x
      cases xv with
      | true =>
        subst hA0
        go_wp2
        go_roundw
        case' rel =>
          have e : bareW (l.take (i + 1)) = bareW (l.take i) := by rw [HTK.out]; simp [bareW]
          exact ⟨i + 1, A', c', by omega, by go_num, by rw [e], by rw [e]; exact HR.out⟩
        case' measure => simp [intOf]; omega
      | false =>
        subst hA0
        have hbz := HR.out.below.size
        have HOW := Lib.hid HR.out.row
        have HBW := Lib.hid HR.out.below
        have HONE : Hid (∀ u ∈ Plc.cells ⟨xh, xp, xid, false⟩, u.oneCell' = true) := fun u hu => pcells_one [⟨xh, xp, xid, false⟩] u (by simpa [pcells] using hu)
        have HNEW : Hid (Rd (wr.alloc (.cells (Plc.cells ⟨xh, xp, xid, false⟩).toArray 31)) 31 (fun _ => True) 4 (some ⟨wr.heap.size, 0, none⟩) 1 (Plc.cells ⟨xh, xp, xid, false⟩)) := Rd.new wr 31 _ 4 1 rfl
        generalize hcur : bareW (l.take i) = cur at *
        generalize hcl : cur.length = cl at *
        have HCUR := Lib.hid hcur
        have HCL := Lib.hid hcl
        clear hcur hcl
        go_wp2_with (at_builtin; refine wpList_append_any _ rfl _ _ 23 rfl w7.heap.size 31 i0 _ 4 32 Try.underlying23 hi0 hz0 hz1 hz2 rfl (by decide) (.slice A' cl c') cl (pcells cur) rfl (HOW.out.alloc _) (fun _ => True) (some ⟨wr.heap.size, 0, none⟩) 1 1 (Plc.cells ⟨xh, xp, xid, false⟩) rfl HNEW.out.a HONE.out (by unfold maxLen; omega) (by omega) (by simp; omega) ?_; intro v5 w5 hown5 hg5 _; obtain ⟨A5, c5, rfl, _, _⟩ := own_slice hown5; have HO5 := Lib.hid hown5; have HG5 := Lib.hid hg5; clear hown5 hg5)
        go_roundw
        case' rel =>
          have e : bareW (l.take (i + 1)) = cur ++ [⟨xh, xp, xid, false⟩] := by rw [HTK.out, ← HCUR.out]; simp [bareW]
          have hlen : (cur ++ [(⟨xh, xp, xid, false⟩ : Plc)]).length = cl + 1 := by simp [HCL.out]
          refine ⟨i + 1, A5, c5, by omega, by go_num, by rw [e, hlen], ?_⟩
          rw [e]
          refine ⟨?_, ?_⟩
          · rw [hlen, pcells_append]
            have := HO5.out
            simpa [pcells] using this
          · exact (HBW.out.alloc hbz _).grown HG5.out (by simp; omega) (fun k e => (HOW.out.lt k e).1)
        case' measure => simp [intOf]; omega
    · have hge : (l.length : Int) ≤ (i : Int) := by omega
      have htk : l.take i = l := List.take_of_length_le (by omega)
      rw [htk] at HR ⊢
      have HBOK : Hid (∀ x ∈ bareW l, x.ok) := fun x hx => HOK.out x (List.mem_filter.1 hx).1
      have HBL : Hid ((bareW l).length ≤ 100000) := Nat.le_trans (List.length_filter_le _ _) hl100
      have HL8 := Lib.hid ((HL7.out.top HR.out.below).push (own_pls HR.out.row))
      clear HR htk HL7
      go_wp2_with fail
      refine (Ways_ own ho0 ho1 A' c' (bareW l) wr (HL8.out.at (p := (A', bareW l)) List.mem_cons_self) HBL.out HBOK.out).mono ?_
      rintro r w9 ⟨A9, c9, rfl, hrow, hb⟩
      have HL9 := Lib.hid ((HL8.out.top hb).push (own_pls hrow))
      obtain ⟨rest, hrest⟩ := HBR.out
      have hml : (waysW own (bareW l)).length ≤ (waysW own l).length := by rw [hrest]; simp
      have HRS := Lib.hid hrest
      clear hb HL8 hrow hrest HBR HBOK HBL
      generalize waysW own (bareW l) = ms at *
      generalize hws : waysW own l = ws at *
      have HWS := Lib.hid hws
      clear hws
      have hml' : ¬ (ws.length : Int) < (ms.length : Int) := by omega
      have hs1 : (ms.length : Int) ≤ (c1 : Int) := by omega
      go_wp2_with fail
      refine (Places_ A1 A2 c1 c2 ws w9 _ _ (HL9.out.at (p := (A1, ws)) (by simp)) (HL9.out.at (p := (A2, ws)) (by simp)) HW8).mono ?_
      rintro r w10 ⟨rfl, hb⟩
      have HL10 := Lib.hid (HL9.out.top hb)
      clear hb HL9
      go_wp2_with fail
      refine (Places_ A1 A7 c1 c7 ws w10 _ _ (HL10.out.at (p := (A1, ws)) (by simp)) (HL10.out.at (p := (A7, ws)) (by simp)) HW8).mono ?_
      rintro r w11 ⟨rfl, hb⟩
      have HL11 := Lib.hid (HL10.out.top hb)
      clear hb HL10
      go_wp2_with fail
      refine (RWays_ own ho0 ho1 A0 c0 l w11 (HL11.out.at (p := (A0, l)) (by simp)) hl100 HOK.out).mono ?_
      rintro r w12 ⟨A12, c12, rfl, hrow, hb⟩
      rw [HWS.out] at hrow ⊢
      have HL12 := Lib.hid ((HL11.out.top hb).push (own_pls hrow))
      clear hb HL11 hrow
      go_wp2_with fail
      refine (Places_ A1 A12 c1 c12 ws w12 _ _ (HL12.out.at (p := (A1, ws)) (by simp)) (HL12.out.at (p := (A12, ws)) (by simp)) HW8).mono ?_
      rintro r w13 ⟨rfl, hb⟩
      have HL13 := Lib.hid (HL12.out.top hb)
      clear hb HL12
      go_wp2_with fail
      refine (Places_ A9 A1 c9 c1 ms w13 _ _ (HL13.out.at (p := (A9, ms)) (by simp)) (Pls.part (HL13.out.at (p := (A1, ws)) (by simp)) HRS.out) (Nat.le_trans hml HW8)).mono ?_
      rintro r w14 ⟨rfl, hb⟩
      have HL14 := Lib.hid (HL13.out.top hb)
      clear hb HL13
      go_wp2
      go_ret
      exact ⟨rfl, HL14.out.below⟩
end Go.Proofs.Ythlhfhfhagfelaa
