/- The iterator over the places of one kind, by its contract. No condition. -/
import Derived.Test.YthlhfhfhagfelaaWalkC
import Derived.Test.YthlhfhfhagfelaaRange
import Derived.Shelf.Abstract
import Derived.Shelf.RegionOpen
import Derived.WalkKit
import Derived.OwnWalkIn
import Derived.TacticsInMore
import Derived.LoopNIn
import Derived.LoopIn
set_option linter.unusedVariables false
set_option linter.unusedSimpArgs false
namespace Go.Proofs.Ythlhfhfhagfelaa
open Go.RowKit Go.Shelf
attribute [local go_sem] Oper.semAt_some

def encP (x : Plc) : Array Value := #[.agg #[.int .u32 x.h, .int .i64 x.p, .int .i64 x.id, .bool x.via]]
/-- The value of a kind's question. -/
def fvOf (k Bo : Nat) : Value := if k = 1 then .func (.func 27) #[] #[] else if k = 2 then .func (.func 29) #[] #[.pointer (some ⟨Bo, 0, none⟩)] else .func (.func 30) #[] #[]
/-- What the iterator reads. -/
structure SrcP (w : World) (K : Nat → Prop) (own : Int) (k Bo Bp Bi : Nat) (A : Option Addr) (c : Nat) (l : List Plc) : Prop where
  pb : Blk w Bp 23 #[.slice A l.length c]
  ib : Blk w Bi 55 #[fvOf k Bo]
  ob : Blk w Bo 22 #[.int .u32 own]
  kp : K Bp ∧ K Bi ∧ K Bo
  row : Pls w K A l
  ok : ∀ x ∈ l, x.ok
theorem SrcP.keep {w w' : World} {K : Nat → Prop} {own : Int} {k Bo Bp Bi c : Nat} {A : Option Addr} {l : List Plc} (h : SrcP w K own k Bo Bp Bi A c l) (hk : KeepK K w w') : SrcP w' K own k Bo Bp Bi A c l :=
  ⟨(hk.2 Bp h.kp.1 h.pb.lt).trans h.pb, (hk.2 Bi h.kp.2.1 h.ib.lt).trans h.ib, (hk.2 Bo h.kp.2.2 h.ob.lt).trans h.ob, h.kp, RdA.same h.row (fun k hk' hl => hk.2 k hk' hl) hk.1, h.ok⟩
def HandP (filt : List Plc) (pre : List Plc) (x : Plc) (Ws W : World) : Prop := pre ++ [x] <+: filt

theorem ofKind_snoc (own : Int) (k : Nat) (l : List Plc) (i : Nat) (x : Plc) (hx : l[i]? = some x) : ofKind own k (l.take (i + 1)) = ofKind own k (l.take i) ++ (if kindN own x == k then [x] else []) := by
  unfold ofKind
  rw [List.take_add_one, hx, List.filter_append]
  by_cases h : kindN own x = k
  · simp [h]
  · simp [h]
theorem ofKind_pre (own : Int) {k : Nat} (h1 : 1 ≤ k) (l : List Plc) (i : Nat) : ofKind own k (l.take i) <+: ofKind own k l := by
  unfold ofKind
  exact (List.take_prefix i l).filter _
theorem ofKind_no {own : Int} {k : Nat} (h1 : 1 ≤ k) (h3 : k ≤ 3) {l : List Plc} {i : Nat} {x : Plc} (hx : l[i]? = some x) (h : (placeB x && isB own k x) = false) : ofKind own k (l.take (i + 1)) = ofKind own k (l.take i) := by
  rw [ofKind_snoc own k l i x hx]
  rw [isB_kind own k x h1 h3] at h
  rw [h]
  simp
theorem ofKind_yes {own : Int} {k : Nat} (h1 : 1 ≤ k) (h3 : k ≤ 3) {l : List Plc} {i : Nat} {x : Plc} (hx : l[i]? = some x) (h : (placeB x && isB own k x) = true) : ofKind own k (l.take (i + 1)) = ofKind own k (l.take i) ++ [x] := by
  rw [ofKind_snoc own k l i x hx]
  rw [isB_kind own k x h1 h3] at h
  rw [h]
  simp

set_option maxHeartbeats 3200000 in
set_option maxRecDepth 100000 in
theorem some1 (n : Nat) (hn : 2 ≤ n) (K : Nat → Prop) (own : Int) (ho0 : 0 ≤ own) (ho1 : own ≤ 4294967295) (k Bo Bp Bi : Nat) (hk1 : 1 ≤ k) (hk3 : k ≤ 3) (A : Option Addr) (c : Nat) (l : List Plc) (w : World) (hs : SrcP w K own k Bo Bp Bi A c l) (hl : l.length ≤ 100000) :
    SeqFresh Fence.wide n Try.prog 39 #[.pointer (some ⟨Bp, 0, none⟩), .pointer (some ⟨Bi, 0, none⟩)] encP (HandP (ofKind own k l)) (KeepK K) (fun xs => xs = ofKind own k l) (fun pre => pre <+: ofKind own k l) (ofKind own k l).length w := by
  intro L J Jx W hW hJst hY h0
  have hs0 := hs.keep (KeepK.of_below (K := K) hW)
  have HS := Lib.hid hs0
  have HY := Lib.hid hY
  have HJS := Lib.hid hJst
  have hc0 : W.cell? ⟨Bp, 0, none⟩ = some (.slice A l.length c) := hs0.pb.cell 0
  clear hs hs0 hY hJst
  generalize hm : l.length = m at *
  have HM := Lib.hid hm
  clear hm
  refine callsIn_of_wp Try.func39 rfl trivial ?_ rfl
  simp only [Try.ntmps39, List.size_toArray, List.length_cons, List.length_nil, Nat.reduceAdd, Nat.reduceSub, Array.replicate_succ, Array.replicate_zero, List.push_toArray, List.append_toArray, List.nil_append, List.cons_append]
  gi_wp2
  gi_loopw [8] (fun s8 wr => ∃ i : Nat, i ≤ m ∧ s8 = .int .i64 i ∧ Hid (J (ofKind own k (l.take i)) wr ∧ KeepK K W wr)) (fun s _ => m - (intOf s).toNat)
  case atStart => exact ⟨0, Nat.zero_le _, rfl, h0, KeepK.of_below (Below.refl _ _)⟩
  case round =>
    obtain ⟨i, hi, rfl, HR⟩ := hrel
    obtain ⟨hJ, hK⟩ := HR.out
    by_cases hlt : i < m
    · have hsr := HS.out.keep hK
      obtain ⟨x, hx⟩ : ∃ x, l[i]? = some x := ⟨l[i]'(by rw [HM.out]; exact hlt), List.getElem?_eq_getElem _⟩
      obtain ⟨b, o, rfl, hbl, c0, c1, c2, c3⟩ := hsr.row.elem hx
      have hxo := hsr.ok x (List.mem_of_getElem? hx)
      have hlt' : (i : Int) < (m : Int) := by omega
      have HP := Lib.hid hx
      have HJ := Lib.hid hJ
      have HK := Lib.hid hK
      clear hsr hx hJ hK HR
      gi_wp2_with fail
      refine ⟨trivial, fun _ => by omega, (callsIn_wide.2 (MayPlace x _)).mono ?_⟩
      rintro r w2 ⟨rfl, hb2⟩
      have hbx := (Blk.new wr 31 #[.int .u32 x.h, .int .i64 x.p, .int .i64 x.id, .bool x.via]).below hb2 (by simp)
      have hb2' : Below wr.heap.size wr w2 := ((Below.refl _ wr).alloc (Nat.le_refl _) _).trans (hb2.mono (by simp))
      have hs2 := (HS.out.keep (HK.out.trans (KeepK.of_below hb2')))
      have hbo : Bo < w2.heap.size := hs2.ob.lt
      have e0 : w2.cell? ⟨wr.heap.size, 0, none⟩ = some (.int .u32 x.h) := hbx.cell 0
      have e1 : w2.cell? ⟨wr.heap.size, 1, none⟩ = some (.int .i64 x.p) := hbx.cell 1
      have e2 : w2.cell? ⟨wr.heap.size, 2, none⟩ = some (.int .i64 x.id) := hbx.cell 2
      have e3 : w2.cell? ⟨wr.heap.size, 3, none⟩ = some (.bool x.via) := hbx.cell 3
      have q0 : w2.cell? ⟨Bi, 0, none⟩ = some (fvOf k Bo) := hs2.ib.cell 0
      have o0 : w2.cell? ⟨Bo, 0, none⟩ = some (.int .u32 own) := hs2.ob.cell 0
      have HB2 := Lib.hid hb2'
      have HBX := Lib.hid hbx
      have hxo' := Lib.hid hxo
      clear hb2 hb2' hbx hs2 c0 c1 c2 c3 hxo
      cases hp : placeB x with
      | false =>
        have HJ2 : Hid (J (ofKind own k (l.take (i + 1))) w2 ∧ KeepK K W w2) := ⟨by rw [ofKind_no hk1 hk3 HP.out (by rw [hp]; rfl)]; exact HJS.out _ _ _ HJ.out HB2.out, HK.out.trans (KeepK.of_below HB2.out)⟩
        clear q0 o0 e0 e1 e2 e3
        gi_wp2
        repeat (refine ⟨fun _ h => (by cases h), ?_⟩; gi_wp2)
        go_roundw
        case rel => exact ⟨i + 1, by omega, by go_num, HJ2.out⟩
        case measure => simp [intOf]; omega
      | true =>
        obtain rfl | rfl | rfl : k = 1 ∨ k = 2 ∨ k = 3 := by omega
        all_goals simp [fvOf] at q0
        case' inl =>
          have his := Is1 own x hxo'.out w2
        case' inr.inl =>
          have his := Is2 own ho0 ho1 Bo x hxo'.out w2 hbo o0
        case' inr.inr =>
          have his := Is3 own x w2
        all_goals
          have HIS := Lib.hid his
          clear his
          gi_wp2_with fail
          refine ⟨trivial, fun _ => by omega, (callsIn_wide.2 HIS.out).mono ?_⟩
          rintro r w3 ⟨rfl, hb3⟩
          have hb3' := HB2.out.trans (hb3.mono HB2.out.size)
          have hbx3 := HBX.out.below hb3 HBX.out.lt
          have g0 : w3.cell? ⟨wr.heap.size, 0, none⟩ = some (.int .u32 x.h) := hbx3.cell 0
          have g1 : w3.cell? ⟨wr.heap.size, 1, none⟩ = some (.int .i64 x.p) := hbx3.cell 1
          have g2 : w3.cell? ⟨wr.heap.size, 2, none⟩ = some (.int .i64 x.id) := hbx3.cell 2
          have g3 : w3.cell? ⟨wr.heap.size, 3, none⟩ = some (.bool x.via) := hbx3.cell 3
          have HB3 := Lib.hid hb3'
          clear hb3 hb3' hbx3 e0 e1 e2 e3 q0 o0 HIS
          generalize hib : isB own _ x = ib
          cases ib
          · have HJ2 := And.intro (HJS.out _ _ _ HJ.out HB3.out) (HK.out.trans (KeepK.of_below HB3.out))
            rw [← ofKind_no hk1 hk3 HP.out (by rw [hp, hib]; rfl)] at HJ2
            have HJ3 := Lib.hid HJ2
            clear HJ2 g0 g1 g2 g3
            gi_wp2
            repeat (refine ⟨fun _ h => (by cases h), ?_⟩; gi_wp2)
            go_roundw
            case rel => exact ⟨i + 1, by omega, by go_num, HJ3.out⟩
            case measure => simp [intOf]; omega
          · have hpre := ofKind_pre own hk1 l (i + 1)
            rw [ofKind_yes hk1 hk3 HP.out (by rw [hp, hib]; rfl)] at hpre
            have hlen := hpre.length_le
            rw [List.length_append] at hlen
            obtain ⟨fn, tmps, assign, body, hy, hR⟩ := HY.out _ x wr w3 HJ.out HB3.out hpre (by simp at hlen; omega)
            simp only [encP] at hy
            have HRR := Lib.hid hR
            have HPR := Lib.hid hpre
            clear hR hpre hlen
            gi_wp2
            refine ⟨fun _ => by omega, HRR.out.mono ?_⟩
            rintro e' W3 (⟨rfl, hJ3, hk3'⟩ | ⟨rfl, hJx3⟩)
            · rw [← ofKind_yes hk1 hk3 HP.out (by rw [hp, hib]; rfl)] at hJ3
              have HJ3 := Lib.hid (And.intro hJ3 ((HK.out.trans (KeepK.of_below HB3.out)).trans hk3'))
              clear hJ3 hk3' hy HRR g0 g1 g2 g3
              gi_wp2
              go_roundw
              case rel => exact ⟨i + 1, by omega, by go_num, HJ3.out⟩
              case measure => simp [intOf]; omega
            · have HX := Lib.hid hJx3
              clear hJx3 hy HRR g0 g1 g2 g3
              gi_wp2
              refine bodyPost_ret (results_none rfl _ _ _) rfl ?_
              exact ⟨⟨_, rfl⟩, .inr ⟨_, HPR.out, HX.out⟩⟩
    · obtain rfl : i = m := by omega
      clear hJ hK
      gi_wp2
      go_end0
      obtain ⟨hJ, hK⟩ := HR.out
      refine ⟨⟨_, rfl⟩, .inl ⟨_, ?_, hJ⟩⟩
      rw [List.take_of_length_le (by rw [HM.out]; exact Nat.le_refl _)]
end Go.Proofs.Ythlhfhfhagfelaa
