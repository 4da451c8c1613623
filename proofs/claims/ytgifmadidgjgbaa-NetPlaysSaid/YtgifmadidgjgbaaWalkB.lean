/- Contracts of this seat: the datagrams as a row of cells; where a number stands. No condition. -/
import Derived.Test.YtgifmadidgjgbaaWalkA
set_option linter.unusedVariables false
set_option linter.unusedSimpArgs false
namespace Go.Proofs.Ytgifmadidgjgbaa
open Go.RowKit

/-- A datagram. -/
structure Snt where
  no : Int
  fh : Int
  fp : Int
  th : Int
  tp : Int
  b : List UInt8
/-- A datagram, and where its bytes lie. -/
structure Ent where
  x : Snt
  A : Option Addr
  c : Nat
def Ent.cells (e : Ent) : List Value := [.int .i64 e.x.no, .int .u32 e.x.fh, .int .i64 e.x.fp, .int .u32 e.x.th, .int .i64 e.x.tp, .slice e.A e.x.b.length e.c]
def cellsOf (l : List Ent) : List Value := l.flatMap Ent.cells
theorem Ent.cells_length (e : Ent) : e.cells.length = 6 := rfl
theorem cellsOf_length (l : List Ent) : (cellsOf l).length = l.length * 6 := flat_length _ 6 Ent.cells_length l
theorem cellsOf_one (l : List Ent) : ∀ u ∈ cellsOf l, u.oneCell' = true := by
  intro u hu
  obtain ⟨e, _, h⟩ := List.mem_flatMap.1 hu
  simp only [Ent.cells, List.mem_cons, List.not_mem_nil, or_false] at h
  rcases h with rfl | rfl | rfl | rfl | rfl | rfl <;> rfl
theorem cellsOf_at (l : List Ent) (i : Nat) (e : Ent) (h : l[i]? = some e) (j : Nat) (hj : j < 6) : (cellsOf l)[i * 6 + j]? = e.cells[j]? := flat_at _ 6 Ent.cells_length l i e h j hj
theorem cellsOf_append (l m : List Ent) : cellsOf (l ++ m) = cellsOf l ++ cellsOf m := List.flatMap_append
theorem cellsOf_take (l : List Ent) (i : Nat) : cellsOf (l.take i) = (cellsOf l).take (i * 6) := flat_take _ 6 Ent.cells_length l i
theorem cellsOf_drop (l : List Ent) (i : Nat) : cellsOf (l.drop i) = (cellsOf l).drop (i * 6) := flat_drop _ 6 Ent.cells_length l i

/-- Where a number stands; -1: nowhere. -/
def findNo : List Ent → Int → Nat → Int
  | [], _, _ => -1
  | e :: l, no, i => if e.x.no = no then (i : Int) else findNo l no (i + 1)

/-- The closure of place. -/
theorem place1 (e : Ent) (no : Int) (B : Nat) (w : World) (hB : B < w.heap.size) (hc : w.cell? ⟨B, 0, none⟩ = some (.int .i64 no)) :
    Calls Try.prog 33 #[.agg #[.int .i64 e.x.no, .int .u32 e.x.fh, .int .i64 e.x.fp, .int .u32 e.x.th, .int .i64 e.x.tp, .slice e.A e.x.b.length e.c], .pointer (some ⟨B, 0, none⟩)] w
      fun r w' => r = .returned (.bool (decide (e.x.no = no))) ∧ Below w.heap.size w w' := by
  have hne : B ≠ w.heap.size := by omega
  go_enter Try.func33, Try.ntmps33
  go_wp2
  go_ret
  exact ⟨ret_bool (by rw [Bool.eq_iff_iff]; simp), (Below.refl _ _).alloc (Nat.le_refl _) _⟩

/-- A row of datagrams is read. -/
theorem findNo_skip (l : List Ent) (no : Int) (i k : Nat) (h : ∀ j e, j < k → l[j]? = some e → e.x.no ≠ no) : findNo l no i = findNo (l.drop k) no (i + k) := by
  induction k generalizing l i with
  | zero => rfl
  | succ k ih =>
    cases l with
    | nil => simp [findNo]
    | cons a l =>
      have ha := h 0 a (by omega) rfl
      simp only [findNo, if_neg ha, List.drop_succ_cons]
      rw [ih l (i + 1) (fun j e hj he => h (j + 1) e (by omega) (by simpa using he)), show i + (k + 1) = i + 1 + k by omega]

theorem IndexFunc (A : Option Addr) (c : Nat) (S : Nat → Prop) (l : List Ent) (no : Int) (B : Nat) (w : World) (hr : Rd w 39 S 6 A l.length (cellsOf l)) (hl : l.length ≤ 100000)
    (hB : B < w.heap.size) (hc : w.cell? ⟨B, 0, none⟩ = some (.int .i64 no)) :
    Calls Try.prog 32 #[.slice A l.length c, .func (.func 33) #[] #[.pointer (some ⟨B, 0, none⟩)]] w fun r w' => r = .returned (.int .i64 (findNo l no 0)) ∧ Below w.heap.size w w' := by
  generalize hn : l.length = n at *
  have HN := Lib.hid hn
  clear hn
  go_enter Try.func32, Try.ntmps32
  go_wp2
  go_loopw [5, 8] (fun _ s8 wr => ∃ k : Nat, k ≤ n ∧ s8 = .int .i64 k ∧ Hid (Below w.heap.size w wr) ∧ Hid (∀ j e, j < k → l[j]? = some e → e.x.no ≠ no)) (fun _ i _ => n - (intOf i).toNat)
  case atStart => exact ⟨0, Nat.zero_le _, rfl, Below.refl _ _, fun j e hj => by omega⟩
  case round =>
    obtain ⟨k, hk, rfl, BW, NO⟩ := hrel
    by_cases hlt : k < n
    · obtain ⟨b, o, rfl, hS, hbl, hcell⟩ := (hr.below BW.out).elem hlt
      obtain ⟨e, he⟩ : ∃ e, l[k]? = some e := ⟨l[k]'(by rw [HN.out]; exact hlt), List.getElem?_eq_getElem _⟩
      have c0 : wr.cell? ⟨b, o + k * 6, none⟩ = _ := hcell 0 _ (cellsOf_at l k e he 0 (by omega))
      have c1 := hcell 1 _ (cellsOf_at l k e he 1 (by omega))
      have c2 := hcell 2 _ (cellsOf_at l k e he 2 (by omega))
      have c3 := hcell 3 _ (cellsOf_at l k e he 3 (by omega))
      have c4 := hcell 4 _ (cellsOf_at l k e he 4 (by omega))
      have c5 := hcell 5 _ (cellsOf_at l k e he 5 (by omega))
      clear hcell
      have HE := Lib.hid he
      clear he
      have hB' : B < wr.heap.size := Nat.lt_of_lt_of_le hB BW.out.size
      have hc' := (BW.out.cell (p := ⟨B, 0, none⟩) hB).trans hc
      have hk1 := place1 e no B wr hB' hc'
      by_cases hq : e.x.no = no
      · rw [decide_eq_true hq] at hk1
        have HQ := Lib.hid hq
        clear hq
        have hcall := Lib.hid hk1
        clear hk1
        go_wp2_with (go_at_call 33; refine hcall.out.mono ?_; rintro r w' ⟨rfl, hb'⟩)
        go_ret
        refine ⟨ret_int ?_, BW.out.trans (hb'.mono BW.out.size)⟩
        rw [findNo_skip l no 0 k NO.out, List.drop_eq_getElem_cons (by rw [HN.out]; exact hlt)]
        have := HE.out
        rw [List.getElem?_eq_getElem (by rw [HN.out]; exact hlt)] at this
        injection this with this
        rw [this, findNo, if_pos HQ.out]
        simp
      · rw [decide_eq_false hq] at hk1
        have HQ := Lib.hid hq
        clear hq
        have hcall := Lib.hid hk1
        clear hk1
        go_wp2_with (go_at_call 33; refine hcall.out.mono ?_; rintro r w' ⟨rfl, hb'⟩)
        go_roundw
        case rel =>
          refine ⟨k + 1, by omega, by go_num, BW.out.trans (hb'.mono BW.out.size), fun j e' hj he' => ?_⟩
          by_cases e0 : j = k
          · subst e0
            have := HE.out
            rw [he'] at this
            injection this with this
            rw [this]; exact HQ.out
          · exact NO.out j e' (by omega) he'
        case measure => simp [intOf]; omega
    · have : k = n := by omega
      subst this
      go_wp2
      go_ret
      refine ⟨ret_int ?_, BW.out⟩
      rw [findNo_skip l no 0 k NO.out, List.drop_of_length_le (by rw [HN.out]; exact Nat.le_refl _)]
      rfl
end Go.Proofs.Ytgifmadidgjgbaa
