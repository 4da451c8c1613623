/- The walk of NetPlaces: for every input it returns true, and what was there is as it was. No condition. -/
import Derived.Test.YtgifmadidgjgbaaWalkI
import Derived.LoopTactic
import Derived.Deep.OwnRows
set_option linter.unusedVariables false
set_option linter.unusedSimpArgs false
namespace Go.Proofs.Ytgifmadidgjgbaa
open Go.RowKit

/-- The i-th datagram that NetPlaces sends. -/
def sentAt (j : Nat) : Snt := ⟨j + 1, 1, 1, 1, 1, [UInt8.ofNat j]⟩
/-- In the first loop: i have been sent. -/
structure Rel1 (w wr : World) (B ba i : Nat) (S : Nat → Prop) (v : Value) (l : List Ent) : Prop where
  net : NetAt 59 wr B S v l i
  len : l.length = i
  is : ∀ j e, l[j]? = some e → e.x = sentAt j
  below : Below w.heap.size w wr
  own : ∀ k, S k → w.heap.size ≤ k
  adr : Blk wr ba 30 #[.int .u32 1, .int .i64 1]
  adr1 : ¬ S ba
def Rel1X (w wr : World) (B ba i : Nat) : Prop := ∃ S v l, Rel1 w wr B ba i S v l

theorem byte_nat (i : Nat) (h : i < 256) : ((UInt8.ofNat i).toNat : Int) = i := by simp [UInt8.toNat_ofNat]; omega

theorem Rel1X.start {w w1 : World} (hb : Below w.heap.size w w1) : Rel1X w ((w1.alloc (.cells #[.slice none 0 0, .int .i64 0] 59)).alloc (.cells #[.int .u32 1, .int .i64 1] 30)) w1.heap.size (w1.heap.size + 1) 0 := by
  have hn := (NetAt.new 59 w1).below ((Below.refl _ _).alloc (Nat.le_refl _) (.cells #[.int .u32 1, .int .i64 1] 30))
  have ha := Blk.new (w1.alloc (.cells #[.slice none 0 0, .int .i64 0] 59)) 30 #[.int .u32 1, .int .i64 1]
  rw [World.size_alloc] at ha
  exact ⟨_, _, [], hn, rfl, fun j e h => by simp at h, (hb.alloc hb.size _).alloc (by have := hb.size; simp; omega) _, fun k hk => by rw [hk]; exact hb.size, ha, by omega⟩

theorem Rel1X.step {w wr w2 : World} {B ba i : Nat} {S : Nat → Prop} {v : Value} {l : List Ent} {r : Ending} (h : Rel1 w wr B ba i S v l) (o : Obj) (hp : Put 59 (wr.alloc o) B S l i ⟨0, 1, 1, 1, 1, [UInt8.ofNat i]⟩ r w2) : Rel1X w w2 B ba (i + 1) := by
  obtain ⟨_, S', v', A1, c1, hn, ha⟩ := hp
  have hb := h.below.alloc h.below.size o
  obtain ⟨s1, t1⟩ := ha.base h.own hb.size
  have hba := (h.adr.alloc o).lt
  refine ⟨S', v', _, hn, by simp [h.len], fun j e he => ?_, hb.trans t1, s1, (h.adr.alloc o).upd ha.upd h.adr1, fun hk => ?_⟩
  · by_cases hj : j < l.length
    · rw [List.getElem?_append_left hj] at he
      exact h.is j e he
    · have hjl : j = l.length := by
        have := (List.getElem?_eq_some_iff.1 he).1
        simp at this; omega
      subst hjl
      rw [List.getElem?_append_right (Nat.le_refl _)] at he
      simp at he
      rw [← he, h.len]
      rfl
  · rcases ha.own _ hk with h1 | h1
    · exact h.adr1 h1
    · omega

/-- A row of bools. -/
def bools (T : List Bool) : Array Value := (T.map Value.bool).toArray
theorem made_bools (n : Nat) : madeCells #[.bool false] n = bools (List.replicate n false) := by
  apply Array.ext
  · simp [bools, size_madeCells]
  · intro i h1 h2
    simp [bools, madeCells, Nat.mod_one]
theorem info4 : (Try.prog.info? 4).map (fun i => (i.zero, i.size, i.bytes)) = some (some (.bool false), 1, 1) := by kernel_rfl
theorem make_bools (k : Nat) (hk : k < 60) (w : World) : (Instr.makeSlice 45 (.int .i64 ((k : Int) + 1)) (.int .i64 ((k : Int) + 1))).run Try.prog w =
    .ok (.slice (some ⟨w.heap.size, 0, none⟩) (k + 1) (k + 1)) (w.alloc (.cells (bools (List.replicate (k + 1) false)) 4)) := by
  obtain ⟨i0, hi, hz0, hz1, hz2⟩ := info_parts info4
  have h := run_make (P := Try.prog) w 45 4 i0 _ Try.underlying45 hi hz0 .i64 .i64 ((k : Int) + 1) ((k : Int) + 1) (by omega) (by omega) (by rw [hz2]; omega) (by omega)
  rw [h, show ((k : Int) + 1).toNat = k + 1 by omega, hz1, Nat.mul_one, ← made_bools]
  rfl
theorem bools_set (T : List Bool) (j : Nat) : (bools T).setIfInBounds j (.bool true) = bools (T.set j true) := by
  simp [bools, List.map_set]
theorem bools_at (T : List Bool) (j : Nat) (h : j < T.length) : (bools T)[j]? = some (.bool (T[j]'h)) := by
  simp [bools, h]

/-- No number stands twice. -/
def Apart (l : List Ent) : Prop := ∀ (i j : Nat) (a b : Ent), i < j → l[i]? = some a → l[j]? = some b → a.x.no ≠ b.x.no
theorem Apart.erase {l : List Ent} (h : Apart l) (idx : Nat) : Apart (l.eraseIdx idx) := fun i j a b hij ha hb => by
  rw [List.getElem?_eraseIdx] at ha hb
  split at ha <;> split at hb
  · exact h _ _ _ _ hij ha hb
  · exact h _ _ _ _ (by omega) ha hb
  · omega
  · exact h _ _ _ _ (by omega) ha hb
theorem Apart.gone {l : List Ent} (h : Apart l) {idx : Nat} {e a : Ent} (he : l[idx]? = some e) (ha : a ∈ l.eraseIdx idx) : a.x.no ≠ e.x.no := by
  obtain ⟨i, hi⟩ := List.mem_iff_getElem?.1 ha
  rw [List.getElem?_eraseIdx] at hi
  split at hi
  · exact h _ _ _ _ (by assumption) hi he
  · exact (h _ _ _ _ (by omega) he hi).symm
/-- In the second loop: j have been taken. -/
structure Rel2 (w wr : World) (B bt k j : Nat) (S : Nat → Prop) (v : Value) (l : List Ent) (T : List Bool) : Prop where
  net : NetAt 59 wr B S v l k
  len : l.length + j = k
  el : ∀ e ∈ l, ∃ m : Nat, m < k ∧ e.x = sentAt m ∧ T[m + 1]? = some false
  nd : Apart l
  tl : T.length = k + 1
  below : Below w.heap.size w wr
  own : ∀ i, S i → w.heap.size ≤ i
  tk : Blk wr bt 4 (bools T)
  tk1 : ¬ S bt
  tk2 : w.heap.size ≤ bt
def Rel2X (w wr : World) (B bt k j : Nat) : Prop := ∃ S v l T, Rel2 w wr B bt k j S v l T

theorem Rel2X.start {w wr : World} {B ba k : Nat} {S : Nat → Prop} {v : Value} {l : List Ent} (h : Rel1 w wr B ba k S v l) :
    Rel2X w (wr.alloc (.cells (bools (List.replicate (k + 1) false)) 4)) B wr.heap.size k 0 := by
  refine ⟨S, v, l, List.replicate (k + 1) false, h.net.below ((Below.refl _ _).alloc (Nat.le_refl _) _), by rw [h.len]; rfl, fun e he => ?_, ?_, by simp, h.below.alloc h.below.size _, h.own, Blk.new wr 4 _, fun hk => ?_, h.below.size⟩
  · obtain ⟨m, hm⟩ := List.mem_iff_getElem?.1 he
    have hml := (List.getElem?_eq_some_iff.1 hm).1
    rw [h.len] at hml
    exact ⟨m, hml, h.is m e hm, by rw [List.getElem?_replicate, if_pos (by omega)]⟩
  · intro i j a b hij ha hb
    rw [h.is i a ha, h.is j b hb]
    simp only [sentAt]
    omega
  · have := h.net.old _ hk; omega

theorem findNo_at (l : List Ent) (hnd : Apart l) (i : Nat) (e : Ent) (he : l[i]? = some e) : findNo l e.x.no 0 = i := by
  have hil := (List.getElem?_eq_some_iff.1 he).1
  rw [findNo_skip l e.x.no 0 i (fun j e' hj he' hq => hnd j i e' e hj he' he hq)]
  rw [List.drop_eq_getElem_cons hil]
  rw [List.getElem?_eq_getElem hil] at he
  injection he with he
  rw [he, findNo, if_pos rfl]
  simp

theorem Rel2X.step {w wr wa w2 : World} {B bt k j m idx : Nat} {S S' : Nat → Prop} {v v' : Value} {l : List Ent} {T : List Bool} {A : Option Addr} {c : Nat} (h : Rel2 w wr B bt k j S v l T) (hj : j < k) (ha : Below wr.heap.size wr wa)
    (he : l[idx]? = some ⟨sentAt m, A, c⟩) (hm : m < k) (hn : NetAt 59 w2 B S' v' (l.eraseIdx idx) k) (hf : After S S' wa w2) (o : Obj) :
    Rel2X w ((w2.setCell ⟨bt, m + 1, none⟩ (.bool true)).alloc o) B bt k (j + 1) := by
  have hb1 : Below w.heap.size w wa := h.below.trans (ha.mono h.below.size)
  obtain ⟨s1, t1⟩ := hf.base h.own hb1.size
  have hb2 := hb1.trans t1
  have hil := (List.getElem?_eq_some_iff.1 he).1
  have tk2 : Blk w2 bt 4 (bools T) := (h.tk.below ha h.tk.lt).upd hf.upd h.tk1
  have hnt : ¬ S' bt := fun hk => by
    rcases hf.own _ hk with h1 | h1
    · exact h.tk1 h1
    · have := (h.tk.below ha h.tk.lt).lt; omega
  refine ⟨S', v', l.eraseIdx idx, T.set (m + 1) true, ?_, ?_, ?_, ?_, ?_, ?_, s1, ?_, hnt, h.tk2⟩
  · exact (hn.same (fun i hi => Below.heap_setCell _ _ _ _ (fun e => hnt (by have e2 : i = bt := e; rw [← e2]; exact hi))) (by simp)).below ((Below.refl _ _).alloc (Nat.le_refl _) o)
  · have := h.len
    rw [List.length_eraseIdx, if_pos hil]
    omega
  · intro e' he'
    obtain ⟨m', h1, h2, h3⟩ := h.el e' (List.mem_of_mem_eraseIdx he')
    refine ⟨m', h1, h2, ?_⟩
    rw [List.getElem?_set_ne ?_]
    · exact h3
    · intro hmm
      have hmm' : m = m' := by omega
      subst hmm'
      exact h.nd.gone he he' (by rw [h2])
  · exact h.nd.erase idx
  · simp [h.tl]
  · exact (hb2.setCell (p := ⟨bt, m + 1, none⟩) h.tk2 _).alloc (by have := hb2.size; simpa using this) o
  · have := (tk2.set_ (m + 1) (.bool true)).alloc o
    rwa [bools_set] at this

/-- What Take leaves in the second loop. -/
def Took (wa : World) (B bt k j m idx b o c : Nat) (S : Nat → Prop) (l : List Ent) (r : Ending) (w2 : World) : Prop :=
  r = .returned (.tuple #[.agg #[.int .i64 ((m : Int) + 1), .int .u32 1, .int .i64 1, .int .u32 1, .int .i64 1, .slice (some ⟨b, o, none⟩) 1 c], .int .i64 0]) ∧
    (∃ S' v', NetAt 59 w2 B S' v' (l.eraseIdx idx) k ∧ After S S' wa w2) ∧ bt < w2.heap.size ∧ w2.cell? ⟨bt, m + 1, none⟩ = some (.bool false) ∧ w2.frozen? ⟨bt, m + 1, none⟩ = false ∧
    b < w2.heap.size ∧ w2.cell? ⟨b, o, none⟩ = some (.int .u8 (m : Int)) ∧
    ∀ ob : Obj, Calls Try.prog 13 #[.pointer (some ⟨B, 0, none⟩)] (w2.alloc ob) fun r w' => r = .returned (.int .i64 ((k : Int) - 1 - j)) ∧ w' = w2.alloc ob
theorem Rel2.key {w wr : World} {B bt k j : Nat} {S : Nat → Prop} {v : Value} {l : List Ent} {T : List Bool} (h : Rel2 w wr B bt k j S v l T) (hj : j < k) (hk : k < 60) (p : Int) :
    ∃ m idx b o c : Nat, m < k ∧ l[idx]? = some ⟨sentAt m, some ⟨b, o, none⟩, c⟩ ∧
      Calls Try.prog 14 #[.pointer (some ⟨B, 0, none⟩), .int .i64 p] wr (fun r w' => r = .returned (.int .i64 ((m : Int) + 1)) ∧ Below wr.heap.size wr w') ∧
      ∀ wa, Below wr.heap.size wr wa → Calls Try.prog 12 #[.pointer (some ⟨B, 0, none⟩), .int .i64 ((m : Int) + 1)] wa (Took wa B bt k j m idx b o c S l) := by
  have hlp : 0 < l.length := by have := h.len; omega
  have hi := atIdx_lt l.length p hlp
  obtain ⟨e, he⟩ : ∃ e, l[atIdx l.length p]? = some e := ⟨_, List.getElem?_eq_getElem hi⟩
  have hmem := List.mem_of_getElem? he
  obtain ⟨m, hm, hx, ht⟩ := h.el e hmem
  have hA := At_ h.net p hlp e he
  have hf := findNo_at l h.nd _ e he
  obtain ⟨hb1, hb2, hb3⟩ := h.net.byt e hmem
  obtain ⟨x, A, c⟩ := e
  simp only at hx
  subst hx
  obtain ⟨b, o, rfl, _, _, _⟩ := hb1.elem (k := 0) (by simp [sentAt])
  refine ⟨m, _, b, o, c, hm, he, hA, fun wa hwa => ?_⟩
  have hT := TakeHit (h.net.below hwa) (m + 1) _ _ he hf
  refine hT.mono fun r w2 ⟨hr, S', v', hn, hf'⟩ => ⟨hr, ⟨S', v', hn, hf'⟩, ?_⟩
  have htk : Blk w2 bt 4 (bools T) := (h.tk.below hwa h.tk.lt).upd hf'.upd h.tk1
  have hb4 := (hb1.below hwa).keep hf'.keep
  obtain ⟨b', o', hA', _, hbl, hc⟩ := hb4.elem (k := 0) (by simp [sentAt])
  injection hA' with hA'
  injection hA' with e1 e2
  subst e1 e2
  have hmT : m + 1 < T.length := by rw [h.tl]; omega
  refine ⟨htk.lt, ?_, htk.frozen _, hbl, ?_, fun ob => ?_⟩
  · rw [htk.cell, bools_at T _ hmT]
    rw [List.getElem?_eq_getElem hmT] at ht
    injection ht with ht
    rw [ht]
  · have := hc 0 (.int .u8 (m : Int)) (by simp only [sentAt, enc8, List.map_cons, List.map_nil]; rw [byte_nat m (by omega)]; rfl)
    simpa using this
  · refine (Count (hn.below ((Below.refl _ _).alloc (Nat.le_refl _) ob))).mono fun r w' ⟨hr, hw⟩ => ⟨?_, hw⟩
    rw [hr]
    refine ret_int ?_
    have := h.len
    rw [List.length_eraseIdx, if_pos hi]
    omega

set_option maxHeartbeats 1600000 in
set_option maxRecDepth 100000 in
theorem NetPlaces_walk (n : Nat) (hn : n < 256) (A : Option Addr) (len cap : Nat) (zs : List Int) (w : World) (hp : RdA w (fun _ => True) 1 A len (zs.map (Value.int .i64))) (hlen : len ≤ 9223372036854775807) :
    Calls Try.prog 4 #[.int .u8 n, .slice A len cap] w fun r w' => r = .returned (.bool true) ∧ Below w.heap.size w w' := by
  have hneq : ∀ (W : World) (b : Nat), (binOp .eql 26 (.pointer (some ⟨b, 0, none⟩)) (.pointer none)).run Try.prog W = .ok (.bool false) W := fun W b => by simp [go_sem]
  obtain ⟨k, hk⟩ : ∃ k : Nat, (n : Int) % 60 = k := ⟨n % 60, by omega⟩
  have hk60 : k < 60 := by omega
  go_enter Try.func4, Try.ntmps4
  go_wp2_with (first | (go_at_call 7; refine (awake _).mono ?_; rintro r w1 ⟨rfl, hb1⟩) | (go_at_call 9; refine (New _).mono ?_; rintro r w2 ⟨rfl, rfl⟩))
  have HK := Lib.hid hk
  clear hk
  go_loopw [8] (fun s8 wr => ∃ i : Nat, i ≤ k ∧ s8 = .int .i64 i ∧ Hid (Rel1X w wr w1.heap.size (w1.heap.size + 1) i)) (fun s8 _ => k - (intOf s8).toNat)
  case atStart => exact ⟨0, Nat.zero_le _, rfl, Rel1X.start hb1⟩
  case round =>
    obtain ⟨i, hik, rfl, HR⟩ := hrel
    obtain ⟨S, v, l, R⟩ := HR.out
    by_cases hlt : i < k
    · have a0 : wr.cell? ⟨w1.heap.size + 1, 0, none⟩ = some (.int .u32 1) := R.adr.cell 0
      have a1 : wr.cell? ⟨w1.heap.size + 1, 1, none⟩ = some (.int .i64 1) := R.adr.cell 1
      have hlw : w1.heap.size < wr.heap.size := R.net.blk.lt
      have e8 : enc8 [UInt8.ofNat i] = [.int .u8 (i : Int)] := by simp only [enc8, List.map_cons, List.map_nil]; rw [byte_nat i (by omega)]
      have hr : RdA (wr.alloc (.cells #[.int .u8 i] 5)) (fun k => k ≠ w1.heap.size) 1 (some ⟨wr.heap.size, 0, none⟩) 1 (enc8 [UInt8.ofNat i]) := by
        rw [e8]
        have h1 := (Rd.new wr 5 [.int .u8 i] 1 1 rfl).ne (B := w1.heap.size) (R.net.blk.alloc _) (by decide)
        exact h1
      have hs := Send_room (R.net.below ((Below.refl _ wr).alloc (Nat.le_refl _) (.cells #[.int .u8 i] 5))) (by rw [R.len]; omega) (by omega) ⟨0, 1, 1, 1, 1, [UInt8.ofNat i]⟩ _ 1 _ hr (fun k hk => hk) (by simp) (by simp) (by show mayB 1 1 = true; decide) (by show mayB 1 1 = true; decide) rfl
      have HS := Lib.hid hs
      have HL := Lib.hid R
      clear R HR hr e8 hs
      go_wp2_with (go_at_call 10; refine HS.out.mono ?_; rintro r w2 hput; have HP := Lib.hid hput; obtain ⟨rfl, hrest⟩ := hput; clear hrest)
      go_roundw
      case rel => exact ⟨i + 1, by omega, by go_num, Rel1X.step HL.out _ HP.out⟩
      case measure => simp [intOf]; omega
    · obtain rfl : i = k := by omega
      have HL := Lib.hid R
      clear R HR
      have hmk := make_bools i hk60
      go_wp2
      clear hmk hik hlt
      have hst := Rel2X.start HL.out
      have HS2 := Lib.hid hst
      clear hst HL
      obtain ⟨bt, hbt⟩ : ∃ bt, wr.heap.size = bt := ⟨_, rfl⟩
      rw [hbt] at HS2 ⊢
      have HBT := Lib.hid hbt
      clear hbt
      generalize wr.alloc (.cells (bools (List.replicate (i + 1) false)) 4) = wo at *
      go_loopw [12] (fun s12 wq => ∃ j : Nat, j ≤ i ∧ s12 = .int .i64 j ∧ Hid (Rel2X w wq w1.heap.size bt i j)) (fun s12 _ => i - (intOf s12).toNat)
      case atStart => exact ⟨0, Nat.zero_le _, rfl, HS2.out⟩
      case round =>
        obtain ⟨j, hji, rfl, HR⟩ := hrel
        obtain ⟨S2, v2, l2, T, R⟩ := HR.out
        by_cases hlt : j < i
        · by_cases hpl : j < len
          · obtain ⟨b0, o0, rfl, _, hb0, hcell⟩ := hp.elem hpl
            obtain ⟨p, hpz⟩ : ∃ p, zs[j]? = some p := ⟨zs[j]'(by have := hp.1; simp at this; omega), List.getElem?_eq_getElem _⟩
            have hc0 := hcell 0 (.int .i64 p) (by simp [hpz])
            simp only [Nat.mul_one, Nat.add_zero] at hc0
            have hcz : wr.cell? ⟨b0, o0 + j, none⟩ = some (.int .i64 p) := (R.below.cell (p := ⟨b0, o0 + j, none⟩) hb0).trans hc0
            obtain ⟨m, idx, b, o, c, hmk, hel, hA, hT⟩ := R.key hlt hk60 p
            have KA := Lib.hid hA
            have KT := Lib.hid hT
            have HE := Lib.hid hel
            have HL := Lib.hid R
            have hjl : (j : Int) < (len : Int) := by omega
            have hmi : (m : Int) + 1 ≤ (i : Int) := by omega
            clear hcell hc0 hpz hA hT hel R HR hp
            go_wp2_with (first | (go_at_call 14; refine KA.out.mono ?_; rintro r wa ⟨rfl, hba⟩; have HBA := Lib.hid hba; clear hba) | (go_at_call 12; refine (KT.out _ HBA.out).mono ?_; rintro r w2 ⟨rfl, hnet, hbtl, hbtc, hbtf, hbl, hbc, hcount⟩; have HNET := Lib.hid hnet; have HCNT := Lib.hid hcount; have hbn : bt ≠ w2.heap.size := (by omega); have hbn2 : b ≠ w2.heap.size := (by omega); clear hnet hcount) | (go_at_call 13; refine (HCNT.out _).mono ?_; rintro r w3 ⟨rfl, rfl⟩))
            go_roundw
            case rel =>
              obtain ⟨S', v', hn', hf'⟩ := HNET.out
              exact ⟨j + 1, by omega, by go_num, Rel2X.step HL.out hlt HBA.out HE.out hmk hn' hf' _⟩
            case measure => simp [intOf]; omega
          · obtain ⟨m, idx, b, o, c, hmk, hel, hA, hT⟩ := R.key hlt hk60 (j : Int)
            have KA := Lib.hid hA
            have KT := Lib.hid hT
            have HE := Lib.hid hel
            have HL := Lib.hid R
            have hjl : ¬ (j : Int) < (len : Int) := by omega
            have hmi : (m : Int) + 1 ≤ (i : Int) := by omega
            clear hA hT hel R HR hp
            go_wp2_with (first | (go_at_call 14; refine KA.out.mono ?_; rintro r wa ⟨rfl, hba⟩; have HBA := Lib.hid hba; clear hba) | (go_at_call 12; refine (KT.out _ HBA.out).mono ?_; rintro r w2 ⟨rfl, hnet, hbtl, hbtc, hbtf, hbl, hbc, hcount⟩; have HNET := Lib.hid hnet; have HCNT := Lib.hid hcount; have hbn : bt ≠ w2.heap.size := (by omega); have hbn2 : b ≠ w2.heap.size := (by omega); clear hnet hcount) | (go_at_call 13; refine (HCNT.out _).mono ?_; rintro r w3 ⟨rfl, rfl⟩))
            go_roundw
            case rel =>
              obtain ⟨S', v', hn', hf'⟩ := HNET.out
              exact ⟨j + 1, by omega, by go_num, Rel2X.step HL.out hlt HBA.out HE.out hmk hn' hf' _⟩
            case measure => simp [intOf]; omega
        · obtain rfl : j = i := by omega
          have hl0 : l2 = [] := List.eq_nil_of_length_eq_zero (by have := R.len; omega)
          subst hl0
          have hA := At_empty R.net 0
          have KA := Lib.hid hA
          have HBL := Lib.hid R.below
          clear hA R HR hp
          go_wp2_with (go_at_call 14; refine KA.out.mono ?_; rintro r wa ⟨rfl, rfl⟩)
          go_ret
          exact ⟨rfl, HBL.out⟩
end Go.Proofs.Ytgifmadidgjgbaa
