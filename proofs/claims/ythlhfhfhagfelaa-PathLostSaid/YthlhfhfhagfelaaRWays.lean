/- The reference's Ways. No condition. -/
import Derived.Test.YthlhfhfhagfelaaWays
set_option linter.unusedVariables false
set_option linter.unusedSimpArgs false
namespace Go.Proofs.Ythlhfhfhagfelaa
open Go.RowKit

/-- Behind i places of kind k. -/
def outAt (own : Int) (l : List Plc) (k i : Nat) : List Plc := (ofKind own (k + 1) (l.take i)).foldl stepW (waysTo own l k)
theorem outAt_zero (own : Int) (l : List Plc) (k : Nat) : outAt own l k 0 = waysTo own l k := by simp [outAt, ofKind]
theorem outAt_end (own : Int) (l : List Plc) (k : Nat) : outAt own l k l.length = waysTo own l (k + 1) := by simp [outAt, waysTo, passW]
theorem outAt_le (own : Int) (l : List Plc) (k i : Nat) : (outAt own l k i).length ≤ 8 := foldW_le _ _ (waysTo_le _ _ _)
theorem outAt_succ (own : Int) (l : List Plc) (k i : Nat) (x : Plc) (hx : l[i]? = some x) : outAt own l k (i + 1) = if kindN own x = k + 1 ∧ (outAt own l k i).length < 8 ∧ x ∉ outAt own l k i then outAt own l k i ++ [x] else outAt own l k i := by
  unfold outAt
  rw [ofKind_snoc own (k + 1) l i x hx, List.foldl_append]
  by_cases h : kindN own x = k + 1
  · simp [h, stepW]
  · simp [h]
structure RW (w wr : World) (v : Value) (out : List Plc) : Prop where
  row : wr.ownsRow w.heap.size 31 4 v out.length (pcells out)
  below : Below w.heap.size w wr
theorem RW.top {w wr W : World} {v : Value} {out : List Plc} (h : RW w wr v out) (hb : Below wr.heap.size wr W) : RW w W v out := ⟨own_same h.row (fun g hg => hb.block g (h.row.lt g hg).2), h.below.trans (hb.mono h.below.size)⟩
theorem belowR {w : World} (n : Nat) : Below w.heap.size w (w.drewN n) := ⟨rfl, rfl, rfl, Nat.le_refl _, fun _ _ => rfl⟩

set_option maxHeartbeats 3200000 in
set_option maxRecDepth 100000 in
theorem RWays_ (own : Int) (ho0 : 0 ≤ own) (ho1 : own ≤ 4294967295) (A : Option Addr) (c : Nat) (l : List Plc) (w : World) (hp : Pls w (fun k => k < w.heap.size) A l) (hl : l.length ≤ 100000) (hok : ∀ x ∈ l, x.ok) :
    Calls Try.prog 10 #[.int .u32 own, .slice A l.length c] w (WaysRes w (waysW own l)) := by
  have HP := Lib.hid hp
  have HOK := Lib.hid hok
  clear hp hok
  obtain ⟨i0, hi0, hz0, hz1, hz2⟩ := info_parts info31
  generalize hn : l.length = n at *
  have HN := Lib.hid hn
  clear hn
  go_enter Try.func10, Try.ntmps10
  go_wp2
  go_loopw [5, 6] (fun s5 s6 wr => ∃ (k : Nat) (A' : Option Addr) (c' : Nat), k ≤ 3 ∧ s6 = .int .i64 ((k : Int) + 1) ∧ s5 = .slice A' (waysTo own l k).length c' ∧ Hid (RW w wr s5 (waysTo own l k))) (fun _ s _ => 4 - (intOf s).toNat)
  case atStart => exact ⟨0, none, 0, by omega, rfl, rfl, World.ownsRow_nil _ _ _ _, Below.refl _ _⟩
  case round =>
    obtain ⟨k, A', c', hk, rfl, rfl, HR⟩ := hrel
    by_cases hlt : k < 3
    · have hlt' : (k : Int) + 1 ≤ 3 := by omega
      have h0 := outAt_zero own l k
      rw [← h0] at HR
      rw [← h0]
      have HLE := Lib.hid (outAt_le own l k 0)
      clear h0
      go_wp2
      obtain ⟨wo, rfl⟩ : ∃ wo : World, wo = wr := ⟨_, rfl⟩
      go_loopw [5, 7] (fun s5 s7 wi => ∃ (i : Nat) (A' : Option Addr) (c' : Nat), i ≤ n ∧ s7 = .int .i64 i ∧ s5 = .slice A' (outAt own l k i).length c' ∧ Hid (RW w wi s5 (outAt own l k i))) (fun _ s _ => n - (intOf s).toNat)
      case atStart => exact ⟨0, _, _, by omega, rfl, rfl, HR.out⟩
      case round =>
        clear HR HLE
        obtain ⟨i, A', c', hi, rfl, rfl, HR⟩ := hrel
        by_cases hin : i < n
        · have hin' : (i : Int) < (n : Int) := by omega
          obtain ⟨x, hx⟩ : ∃ x, l[i]? = some x := ⟨l[i]'(by rw [HN.out]; exact hin), List.getElem?_eq_getElem _⟩
          have hxo := HOK.out x (List.mem_of_getElem? hx)
          have hpw : Pls wr (fun k => k < w.heap.size) A l := RdA.belowB HP.out HR.out.below (fun _ h => h)
          obtain ⟨b, o, rfl, hbl, c0, c1, c2, c3⟩ := hpw.elem hx
          have HX := Lib.hid hx
          have HKI := Lib.hid (RKind own ho0 ho1 x hxo wr)
          have hle := outAt_le own l k i
          have HS := Lib.hid (outAt_succ own l k i x hx)
          have HO := Lib.hid hxo
          clear hpw hx hxo
          generalize outAt own l k i = cur at *
          generalize hcl : cur.length = cl at *
          have HCL := Lib.hid hcl
          clear hcl
          have hcase : (∃ bb : Bool, bb = false ∧ kindN own x ≠ k + 1) ∨ (∃ bb : Bool, bb = false ∧ kindN own x = k + 1 ∧ ¬ cl < 8) ∨ (∃ bb : Bool, bb = true ∧ kindN own x = k + 1 ∧ cl < 8) := by
            by_cases h1 : kindN own x = k + 1
            · by_cases h2 : cl < 8
              · exact .inr (.inr ⟨true, rfl, h1, h2⟩)
              · exact .inr (.inl ⟨false, rfl, h1, h2⟩)
            · exact .inl ⟨false, rfl, h1⟩
          rcases hcase with ⟨bb, hbb, h1⟩ | ⟨bb, hbb, h1, h2⟩ | ⟨bb, hbb, h1, h2⟩
          case' inl =>
            have g1 : ¬ (kindN own x : Int) = (k : Int) + 1 := by omega
            have HF : Hid (∀ f : Bool, f = (bb && decide (x ∉ cur)) → (f = true ↔ kindN own x = k + 1 ∧ cl < 8 ∧ x ∉ cur)) := fun f hf => by rw [hf, hbb]; simp [h1]
          case' inr.inl =>
            have g1 : (kindN own x : Int) = (k : Int) + 1 := by omega
            have g2 : ¬ (cl : Int) < 8 := by omega
            have HF : Hid (∀ f : Bool, f = (bb && decide (x ∉ cur)) → (f = true ↔ kindN own x = k + 1 ∧ cl < 8 ∧ x ∉ cur)) := fun f hf => by rw [hf, hbb]; simp; omega
          case' inr.inr =>
            have g1 : (kindN own x : Int) = (k : Int) + 1 := by omega
            have g2 : (cl : Int) < 8 := by omega
            have HF : Hid (∀ f : Bool, f = (bb && decide (x ∉ cur)) → (f = true ↔ kindN own x = k + 1 ∧ cl < 8 ∧ x ∉ cur)) := fun f hf => by rw [hf, hbb]; simp [h1, h2]
          all_goals
            have HBB := Lib.hid hbb
            have HH1 := Lib.hid h1
            clear hbb h1
            go_wp2_with (go_at_call 24; refine HKI.out.mono ?_; rintro r w3 ⟨rfl, hb3⟩; have HB3 := Lib.hid hb3; clear hb3)
            have HR3 := Lib.hid (HR.out.top HB3.out)
            have hpw3 : Pls w3 (fun k => k < w.heap.size) (some ⟨b, o, none⟩) l := RdA.belowB HP.out HR3.out.below (fun _ h => h)
            obtain ⟨b', o', hbo, hbl3, e0, e1, e2, e3⟩ := hpw3.elem HX.out
            injection hbo with hbo
            injection hbo with hbo1 hbo2
            subst hbo1 hbo2
            clear hpw3 c0 c1 c2 c3
            obtain ⟨wk, hwk⟩ : ∃ wk : World, wk = wr := ⟨_, rfl⟩
            clear hwk
            go_loopw [8, 9] (fun s8 s9 wj => ∃ (j : Nat) (f : Bool), j ≤ cl ∧ s9 = .int .i64 j ∧ s8 = .bool f ∧ Hid (f = (bb && decide (x ∉ cur.take j))) ∧ Hid (∃ m, wj = w3.drewN m)) (fun _ s _ => cl - (intOf s).toNat)
            · exact ⟨0, _, by omega, rfl, rfl, (by rw [HBB.out]; first | (simp; done) | (simp; omega) : _ = (bb && decide (x ∉ cur.take 0))), 0, rfl⟩
            · clear g1
              try clear g2
              try clear h2
              obtain ⟨j, f, hj, rfl, rfl, HFF, HW⟩ := hrel
              obtain ⟨m, hm⟩ := HW.out
              by_cases hjl : j < cl
              · have hjl' : (j : Int) < (cl : Int) := by omega
                obtain ⟨y, hy⟩ : ∃ y, cur[j]? = some y := ⟨cur[j]'(by rw [HCL.out]; exact hjl), List.getElem?_eq_getElem _⟩
                have htk : cur.take (j + 1) = cur.take j ++ [y] := by rw [List.take_add_one, hy]; rfl
                have HTK := Lib.hid htk
                have HM := Lib.hid hm
                cases f with
                | false =>
                  clear htk hm hy
                  go_wp2
                  go_quiet (fail)
                  go_wp2
                  go_roundw
                  case' rel =>
                    refine ⟨j + 1, false, by omega, by go_num, rfl, ?_, m + nq, by rw [HM.out, World.drewN_drewN]⟩
                    have := HFF.out
                    show false = _
                    rw [HTK.out]
                    cases bb
                    · rfl
                    · simp at this; simp [this]
                  case' measure => simp [intOf]; omega
                | true =>
                  have hrow : Pls wr (fun _ => True) A' cur := by
                    have h0 := HR3.out.row
                    rw [HCL.out] at h0
                    have h1 := (Rd.of_own (S := fun _ => True) h0 (fun _ _ => trivial)).a
                    unfold Pls
                    rw [HCL.out, hm]
                    exact h1.same (fun _ _ _ => rfl) (Nat.le_refl _)
                  obtain ⟨b2, o2, rfl, hbl2, q0, q1, q2, q3⟩ := hrow.elem hy
                  have p0 : wr.cell? ⟨b, o + i * 4, none⟩ = some (.int .u32 x.h) := by rw [hm]; exact e0
                  have p1 : wr.cell? ⟨b, o + i * 4 + 1, none⟩ = some (.int .i64 x.p) := by rw [hm]; exact e1
                  have p2 : wr.cell? ⟨b, o + i * 4 + 2, none⟩ = some (.int .i64 x.id) := by rw [hm]; exact e2
                  have p3 : wr.cell? ⟨b, o + i * 4 + 3, none⟩ = some (.bool x.via) := by rw [hm]; exact e3
                  have hneq := fun W => run_neq31 y x W
                  clear htk hm hy hrow
                  by_cases hyx : y = x
                  · have hqt : y.eqB x = true := (Plc.eqB_iff y x).2 hyx
                    have HYX := Lib.hid hyx
                    clear hyx
                    go_wp2
                    go_quiet (fail)
                    clear p0 p1 p2 p3 q0 q1 q2 q3
                    go_wp2
                    go_roundw
                    case' rel =>
                      refine ⟨j + 1, false, by omega, by go_num, rfl, ?_, m + nq, by rw [HM.out, World.drewN_drewN]⟩
                      show false = _
                      rw [HTK.out, HYX.out]
                      simp
                    case' measure => simp [intOf]; omega
                  · have hqf : y.eqB x = false := by
                      cases hb : y.eqB x with
                      | false => rfl
                      | true => exact absurd ((Plc.eqB_iff y x).1 hb) hyx
                    have HYX := Lib.hid hyx
                    clear hyx
                    go_wp2
                    go_quiet (fail)
                    clear p0 p1 p2 p3 q0 q1 q2 q3
                    go_wp2
                    go_roundw
                    case' rel =>
                      refine ⟨j + 1, true, by omega, by go_num, rfl, ?_, m + nq, by rw [HM.out, World.drewN_drewN]⟩
                      have := HFF.out
                      show true = _
                      rw [HTK.out]
                      rw [this]
                      have hy2 := HYX.out
                      cases bb <;> simp
                      intro _ h; exact absurd h.symm hy2
                    case' measure => simp [intOf]; omega
              · have hjc : (cl : Int) ≤ (j : Int) := by omega
                have hff := HFF.out
                rw [List.take_of_length_le (by rw [HCL.out]; omega)] at hff
                have HFE := Lib.hid (HF.out f hff)
                have HRW : Hid (RW w wr (.slice A' cl c') cur) := by rw [hm]; exact HR3.out.top (belowR m)
                have p0 : wr.cell? ⟨b, o + i * 4, none⟩ = some (.int .u32 x.h) := by rw [hm]; exact e0
                have p1 : wr.cell? ⟨b, o + i * 4 + 1, none⟩ = some (.int .i64 x.p) := by rw [hm]; exact e1
                have p2 : wr.cell? ⟨b, o + i * 4 + 2, none⟩ = some (.int .i64 x.id) := by rw [hm]; exact e2
                have p3 : wr.cell? ⟨b, o + i * 4 + 3, none⟩ = some (.bool x.via) := by rw [hm]; exact e3
                clear hff HFF HW hm e0 e1 e2 e3
                cases f with
                | false =>
                  have hno : ¬ (kindN own x = k + 1 ∧ cl < 8 ∧ x ∉ cur) := by have h8 := HFE.out; simp only [Bool.false_eq_true, false_iff] at h8; exact h8
                  have hs := HS.out
                  rw [if_neg hno] at hs
                  have HSS := Lib.hid hs
                  clear hno hs
                  go_wp2
                  go_roundw
                  case' rel =>
                    exact ⟨i + 1, A', c', by omega, by go_num, by rw [HSS.out, HCL.out], by rw [HSS.out]; exact HRW.out⟩
                  case' measure => simp [intOf]; omega
                | true =>
                  have hyes : kindN own x = k + 1 ∧ cl < 8 ∧ x ∉ cur := HFE.out.1 rfl
                  have hs := HS.out
                  rw [if_pos hyes] at hs
                  have HSS := Lib.hid hs
                  have hcl8 : cl < 8 := hyes.2.1
                  have hrow := HRW.out.row
                  rw [HCL.out] at hrow
                  have HOW := Lib.hid hrow
                  have HBW := Lib.hid HRW.out.below
                  have hbz := HRW.out.below.size
                  have hone : ∀ u ∈ x.cells, u.oneCell' = true := fun u hu => pcells_one [x] u (by simpa [pcells] using hu)
                  have HONE := Lib.hid hone
                  have HNEW : Hid (Rd (wr.alloc (.cells x.cells.toArray 31)) 31 (fun _ => True) 4 (some ⟨wr.heap.size, 0, none⟩) 1 x.cells) := Rd.new wr 31 x.cells 4 1 rfl
                  clear hyes hs hrow hone
                  go_wp2_with (at_builtin; refine wpList_append_any _ rfl _ _ 23 rfl w.heap.size 31 i0 _ 4 32 Try.underlying23 hi0 hz0 hz1 hz2 rfl (by decide) (.slice A' cl c') cl (pcells cur) rfl (HOW.out.alloc _) (fun _ => True) (some ⟨wr.heap.size, 0, none⟩) 1 1 x.cells rfl HNEW.out.a HONE.out (by unfold maxLen; omega) (by omega) (by simp; omega) ?_; intro v5 w5 hown5 hg5 _; obtain ⟨A5, c5, rfl, _, _⟩ := own_slice hown5; have HO5 := Lib.hid hown5; have HG5 := Lib.hid hg5; clear hown5 hg5)
                  go_roundw
                  case' rel =>
                    have hlen : (cur ++ [x]).length = cl + 1 := by simp [HCL.out]
                    refine ⟨i + 1, A5, c5, by omega, by go_num, by rw [HSS.out, hlen], ?_⟩
                    rw [HSS.out]
                    refine ⟨?_, ?_⟩
                    · rw [hlen, pcells_append]
                      have := HO5.out
                      simpa [pcells] using this
                    · exact (HBW.out.alloc hbz _).grown HG5.out (by simp; omega) (fun k e => (HOW.out.lt k e).1)
                  case' measure => simp [intOf]; omega
        · have hge : (n : Int) ≤ (i : Int) := by omega
          have hin2 : i = l.length := by rw [HN.out]; omega
          have he := outAt_end own l k
          rw [← hin2] at he
          rw [he] at HR ⊢
          have HR2 := Lib.hid HR.out
          clear HR he hin2
          go_wp2
          go_roundw
          case' rel => exact ⟨k + 1, A', c', by omega, by go_num, rfl, HR2.out⟩
          case' measure => simp [intOf]; omega
    · have hk3 : k = 3 := by omega
      subst hk3
      have hge : (3 : Int) < ((3 : Nat) : Int) + 1 := by omega
      have HF := Lib.hid HR.out
      clear HR
      go_wp2
      go_ret
      exact ⟨A', c', rfl, HF.out.row, HF.out.below⟩
end Go.Proofs.Ythlhfhfhagfelaa
