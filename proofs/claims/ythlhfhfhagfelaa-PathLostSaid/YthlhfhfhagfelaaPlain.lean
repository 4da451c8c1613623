/- Plain words on places and ways: no program in sight. No condition. -/
import Derived.Test.YthlhfhfhagfelaaBase
set_option linter.unusedVariables false
set_option linter.unusedSimpArgs false
namespace Go.Proofs.Ythlhfhfhagfelaa

/-- A place. -/
structure Plc where
  h : Int
  p : Int
  id : Int
  via : Bool
def Plc.eqB (a b : Plc) : Bool := (a.h == b.h) && ((a.p == b.p) && ((a.id == b.id) && (a.via == b.via)))
theorem Plc.eqB_iff (a b : Plc) : a.eqB b = true ↔ a = b := by
  obtain ⟨a1, a2, a3, a4⟩ := a
  obtain ⟨b1, b2, b3, b4⟩ := b
  simp [Plc.eqB]
instance : DecidableEq Plc := fun a b => decidable_of_iff _ (Plc.eqB_iff a b)
def Plc.zero : Plc := ⟨0, 0, 0, false⟩
/-- The host is one of 32 bits. -/
def Plc.ok (x : Plc) : Prop := 0 ≤ x.h ∧ x.h ≤ 4294967295

def mayB (h p : Int) : Bool := (h != 0) && (decide (1 ≤ p) && decide (p ≤ 65535))
def placeB (x : Plc) : Bool := mayB x.h x.p && (decide (0 ≤ x.id) && (decide (x.id ≤ 2147483647) && (decide (0 < x.id) || !x.via)))
def insideB (h : Int) : Bool := decide (167772160 ≤ h ∧ h ≤ 184549375) || (decide (2886729728 ≤ h ∧ h ≤ 2887778303) || decide (3232235520 ≤ h ∧ h ≤ 3232301055))
def nearB (own h : Int) : Bool := decide (h / 256 = own / 256)
/-- Of which kind a place is; 0: of none. -/
def kindN (own : Int) (x : Plc) : Nat := if placeB x = true then (if x.via = true then 3 else if insideB x.h = false then 1 else if nearB own x.h = true then 2 else 0) else 0
/-- What the program asks for kind k (1 to 3), the place may be. -/
def isB (own : Int) (k : Nat) (x : Plc) : Bool := if k = 1 then !x.via && !insideB x.h else if k = 2 then (!x.via && insideB x.h) && nearB own x.h else x.via
theorem isB_kind (own : Int) (k : Nat) (x : Plc) (h1 : 1 ≤ k) (h3 : k ≤ 3) : (placeB x && isB own k x) = (kindN own x == k) := by
  obtain rfl | rfl | rfl : k = 1 ∨ k = 2 ∨ k = 3 := by omega
  all_goals
    cases hp : placeB x <;> cases hv : x.via <;> cases hi : insideB x.h <;> cases hn : nearB own x.h <;> simp [isB, kindN, hp, hv, hi, hn]

def stepW (out : List Plc) (x : Plc) : List Plc := if out.length < 8 ∧ x ∉ out then out ++ [x] else out
def ofKind (own : Int) (k : Nat) (l : List Plc) : List Plc := l.filter fun x => kindN own x == k
def passW (own : Int) (k : Nat) (l : List Plc) (out : List Plc) : List Plc := (ofKind own k l).foldl stepW out
/-- The ways behind the first k kinds. -/
def waysTo (own : Int) (l : List Plc) : Nat → List Plc
  | 0 => []
  | k + 1 => passW own (k + 1) l (waysTo own l k)
def waysW (own : Int) (l : List Plc) : List Plc := waysTo own l 3

theorem stepW_le {out : List Plc} (x : Plc) (h : out.length ≤ 8) : (stepW out x).length ≤ 8 := by
  unfold stepW
  split
  · rename_i h1; simp; omega
  · exact h
theorem foldW_le (l : List Plc) : ∀ out : List Plc, out.length ≤ 8 → (l.foldl stepW out).length ≤ 8 := by
  induction l with
  | nil => intro out h; exact h
  | cons a l ih => intro out h; exact ih _ (stepW_le a h)
theorem foldW_full (l : List Plc) : ∀ out : List Plc, out.length = 8 → l.foldl stepW out = out := by
  induction l with
  | nil => intro out h; rfl
  | cons a l ih =>
    intro out h
    have : stepW out a = out := by unfold stepW; rw [if_neg (by omega)]
    rw [List.foldl_cons, this]
    exact ih out h
theorem waysTo_le (own : Int) (l : List Plc) (k : Nat) : (waysTo own l k).length ≤ 8 := by
  induction k with
  | zero => simp [waysTo]
  | succ k ih => exact foldW_le _ _ ih
/-- A pass that was left because there were eight. -/
theorem foldW_part {l pre : List Plc} (h : pre <+: l) {out : List Plc} (h8 : (pre.foldl stepW out).length = 8) : l.foldl stepW out = pre.foldl stepW out := by
  obtain ⟨r, rfl⟩ := h
  rw [List.foldl_append, foldW_full _ _ h8]
theorem waysTo_full (own : Int) (l : List Plc) (k : Nat) (h : (waysTo own l k).length = 8) : ∀ j, waysTo own l (k + j) = waysTo own l k := by
  intro j
  induction j with
  | zero => rfl
  | succ j ih =>
    show passW own (k + j + 1) l (waysTo own l (k + j)) = _
    rw [ih]
    exact foldW_full _ _ h

/-! ### As cells -/
def Plc.cells (x : Plc) : List Value := [.int .u32 x.h, .int .i64 x.p, .int .i64 x.id, .bool x.via]
theorem Plc.cells_length (x : Plc) : x.cells.length = 4 := rfl
def pcells (l : List Plc) : List Value := l.flatMap Plc.cells
theorem pcells_length (l : List Plc) : (pcells l).length = l.length * 4 := flat_length _ 4 Plc.cells_length l
theorem pcells_at (l : List Plc) (i : Nat) (e : Plc) (h : l[i]? = some e) (j : Nat) (hj : j < 4) : (pcells l)[i * 4 + j]? = e.cells[j]? := flat_at _ 4 Plc.cells_length l i e h j hj
theorem pcells_one (l : List Plc) : ∀ u ∈ pcells l, u.oneCell' = true := by
  intro u hu
  obtain ⟨e, _, h⟩ := List.mem_flatMap.1 hu
  simp only [Plc.cells, List.mem_cons, List.not_mem_nil, or_false] at h
  rcases h with rfl | rfl | rfl | rfl <;> rfl
theorem pcells_append (l m : List Plc) : pcells (l ++ m) = pcells l ++ pcells m := List.flatMap_append
theorem pcells_take (l : List Plc) (i : Nat) : pcells (l.take i) = (pcells l).take (i * 4) := flat_take _ 4 Plc.cells_length l i
end Go.Proofs.Ythlhfhfhagfelaa
