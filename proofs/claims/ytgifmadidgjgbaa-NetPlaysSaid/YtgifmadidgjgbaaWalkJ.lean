/- Contracts of this seat: a script of steps in memory; small; any Send. No condition. -/
import Derived.Test.YtgifmadidgjgbaaPlaces
set_option linter.unusedVariables false
set_option linter.unusedSimpArgs false
namespace Go.Proofs.Ytgifmadidgjgbaa
open Go.RowKit

/-- A step of a script. -/
structure Step where
  kind : Int
  no : Int
  fh : Int
  fp : Int
  th : Int
  tp : Int
  b : List UInt8
  A : Option Addr
  c : Nat
def Step.cells (d : Step) : List Value := [.int .i64 d.kind, .int .i64 d.no, .int .u32 d.fh, .int .i64 d.fp, .int .u32 d.th, .int .i64 d.tp, .slice d.A d.b.length d.c]
theorem Step.cells_length (d : Step) : d.cells.length = 7 := rfl
def stepCells (ds : List Step) : List Value := ds.flatMap Step.cells
theorem stepCells_at (l : List Step) (i : Nat) (e : Step) (h : l[i]? = some e) (j : Nat) (hj : j < 7) : (stepCells l)[i * 7 + j]? = e.cells[j]? := flat_at _ 7 Step.cells_length l i e h j hj

/-- The slice at A reads as the script ds; all in blocks below M. -/
structure ScriptAt (w : World) (M : Nat) (A : Option Addr) (ds : List Step) : Prop where
  rd : RdA w (fun k => k < M) 7 A ds.length (stepCells ds)
  byt : ∀ d ∈ ds, RdA w (fun k => k < M) 1 d.A d.b.length (enc8 d.b) ∧ d.b.length ≤ d.c
theorem ScriptAt.below {w w' : World} {M : Nat} {A : Option Addr} {ds : List Step} (h : ScriptAt w M A ds) (hb : Below M w w') : ScriptAt w' M A ds :=
  ⟨h.rd.belowB hb (fun _ h => h), fun d hd => ⟨(h.byt d hd).1.belowB hb (fun _ h => h), (h.byt d hd).2⟩⟩
theorem ScriptAt.elem {w : World} {M : Nat} {A : Option Addr} {ds : List Step} (h : ScriptAt w M A ds) {i : Nat} {d : Step} (hd : ds[i]? = some d) :
    ∃ b o, A = some ⟨b, o, none⟩ ∧ b < M ∧ b < w.heap.size ∧ w.cell? ⟨b, o + i * 7, none⟩ = some (.int .i64 d.kind) ∧ w.cell? ⟨b, o + i * 7 + 1, none⟩ = some (.int .i64 d.no) ∧ w.cell? ⟨b, o + i * 7 + 2, none⟩ = some (.int .u32 d.fh) ∧
      w.cell? ⟨b, o + i * 7 + 3, none⟩ = some (.int .i64 d.fp) ∧ w.cell? ⟨b, o + i * 7 + 4, none⟩ = some (.int .u32 d.th) ∧ w.cell? ⟨b, o + i * 7 + 5, none⟩ = some (.int .i64 d.tp) ∧ w.cell? ⟨b, o + i * 7 + 6, none⟩ = some (.slice d.A d.b.length d.c) := by
  obtain ⟨b, o, hA, hM, hl, hc⟩ := h.rd.elem (List.getElem?_eq_some_iff.1 hd).1
  have key : ∀ j u, j < 7 → d.cells[j]? = some u → w.cell? ⟨b, o + i * 7 + j, none⟩ = some u := fun j u hj hu => hc j u (by rw [stepCells_at ds i d hd j hj]; exact hu)
  exact ⟨b, o, hA, hM, hl, key 0 _ (by omega) rfl, key 1 _ (by omega) rfl, key 2 _ (by omega) rfl, key 3 _ (by omega) rfl, key 4 _ (by omega) rfl, key 5 _ (by omega) rfl, key 6 _ (by omega) rfl⟩

/-- Whether the steps are small enough. -/
def Small (ds : List Step) : Prop := ∀ (i : Nat) (d : Step), i < 100 → ds[i]? = some d → d.b.length ≤ 1300

def SmallR (w : World) (ds : List Step) (r : Ending) (w' : World) : Prop := ∃ ok : Bool, r = .returned (.bool ok) ∧ Below w.heap.size w w' ∧ (ok = true → Small ds)

set_option maxHeartbeats 800000 in
set_option maxRecDepth 100000 in
theorem small {w : World} {M : Nat} {A : Option Addr} {ds : List Step} (h : ScriptAt w M A ds) (hl : ds.length ≤ 9223372036854775807) (cap : Nat) :
    Calls Try.prog 8 #[.slice A ds.length cap] w (SmallR w ds) := by
  have HS := Lib.hid h
  generalize hn : ds.length = n at *
  have HN := Lib.hid hn
  clear hn h
  go_enter Try.func8, Try.ntmps8
  go_wp2
  go_loopw [3] (fun s3 wr => ∃ k : Nat, k ≤ 100 ∧ k ≤ n ∧ s3 = .int .i64 k ∧ Hid (Below w.heap.size w wr) ∧ Hid (∀ (i : Nat) (d : Step), i < k → ds[i]? = some d → d.b.length ≤ 1300)) (fun s3 _ => 100 - (intOf s3).toNat)
  case atStart => exact ⟨0, by omega, by omega, rfl, Below.refl _ _, fun i d hi => by omega⟩
  case round =>
    obtain ⟨k, hk1, hkn, rfl, BW, HK⟩ := hrel
    by_cases hlt : k < n
    · by_cases hk : k < 100
      · obtain ⟨d, hd⟩ : ∃ d, ds[k]? = some d := ⟨ds[k]'(by rw [HN.out]; exact hlt), List.getElem?_eq_getElem _⟩
        obtain ⟨b, o, rfl, hM, hbl, hcs⟩ := HS.out.elem hd
        have hbw : ∀ j, wr.cell? ⟨b, j, none⟩ = w.cell? ⟨b, j, none⟩ := fun j => BW.out.cell (p := ⟨b, j, none⟩) hbl
        rw [← hbw, ← hbw, ← hbw, ← hbw, ← hbw, ← hbw, ← hbw] at hcs
        obtain ⟨c0, c1, c2, c3, c4, c5, c6⟩ := hcs
        have HD := Lib.hid hd
        clear hd hbw
        generalize hm : d.b.length = m at *
        have HM := Lib.hid hm
        clear hm
        have hlt' : (k : Int) < (n : Int) := by omega
        have hk' : (k : Int) < 100 := by omega
        by_cases hs : m ≤ 1300
        · have hs' : (m : Int) ≤ 1300 := by omega
          go_wp2
          go_roundw
          case rel =>
            refine ⟨k + 1, by omega, by omega, by go_num, BW.out, fun i d' hi hd' => ?_⟩
            by_cases hik : i = k
            · subst hik
              have := HD.out
              rw [hd'] at this
              injection this with this
              rw [this, HM.out]; exact hs
            · exact HK.out i d' (by omega) hd'
          case measure => simp [intOf]; omega
        · have hs' : ¬ (m : Int) ≤ 1300 := by omega
          go_wp2
          go_ret
          exact ⟨false, rfl, BW.out, fun h => by cases h⟩
      · obtain rfl : k = 100 := by omega
        have hlt' : (100 : Int) < (n : Int) := by omega
        go_wp2
        go_ret
        exact ⟨true, rfl, BW.out, fun _ i d hi hd => HK.out i d hi hd⟩
    · obtain rfl : k = n := by omega
      go_wp2
      go_ret
      exact ⟨true, rfl, BW.out, fun _ i d hi hd => HK.out i d (by have := (List.getElem?_eq_some_iff.1 hd).1; rw [HN.out] at this; exact this) hd⟩

/-- What any Send leaves: the list as it was, or one more at its end, with the next number. -/
def Sent (w : World) (B : Nat) (S : Nat → Prop) (v : Value) (l : List Ent) (last : Int) (r : Ending) (w' : World) : Prop :=
  ∃ (a b : Int) (S' : Nat → Prop) (v' : Value) (l' : List Ent) (last' : Int), r = .returned (.tuple #[.int .i64 a, .int .i64 b]) ∧ NetAt 59 w' B S' v' l' last' ∧ After S S' w w' ∧
    ((l' = l ∧ last' = last) ∨ (last' = last + 1 ∧ ∃ e, l' = l ++ [e] ∧ e.x.no = last'))
theorem Sent.of_below {w w1 w2 : World} {B : Nat} {S : Nat → Prop} {v : Value} {l : List Ent} {last : Int} {r : Ending} (hb : Below w.heap.size w w1) (h : Sent w1 B S v l last r w2) : Sent w B S v l last r w2 := by
  obtain ⟨a, b, S', v', l', last', h1, h2, h3, h4⟩ := h
  exact ⟨a, b, S', v', l', last', h1, h2, (After.of_below hb).trans h3, h4⟩
theorem Send_any {w : World} {B : Nat} {S : Nat → Prop} {v : Value} {l : List Ent} {last : Int} (h : NetAt 59 w B S v l last) (hf : l.length < 300) (hlast : last < 1000000) (fh fp th tp : Int) (b : List UInt8) (A : Option Addr) (c : Nat) (S0 : Nat → Prop)
    (hr : RdA w S0 1 A b.length (enc8 b)) (hS0 : ∀ k, S0 k → k ≠ B) (hcc : b.length ≤ c) :
    Calls Try.prog 10 #[.pointer (some ⟨B, 0, none⟩), .agg #[.int .u32 fh, .int .i64 fp], .agg #[.int .u32 th, .int .i64 tp], .slice A b.length c] w (Sent w B S v l last) := by
  by_cases hbad : mayB fh fp = false ∨ mayB th tp = false ∨ 1200 < b.length
  · refine (Send_bad w _ fh fp th tp A b.length c hbad).mono fun r w' ⟨hr, hb⟩ => ?_
    exact ⟨0, 1, S, v, l, last, hr, h.below hb, After.of_below hb, .inl ⟨rfl, rfl⟩⟩
  · rw [not_or, not_or] at hbad
    obtain ⟨h1, h2, h3⟩ := hbad
    have h1' : mayB fh fp = true := by simpa using h1
    have h2' : mayB th tp = true := by simpa using h2
    refine (Send_room h hf hlast ⟨0, fh, fp, th, tp, b⟩ A c S0 hr hS0 (by simpa using h3) hcc h1' h2' rfl).mono fun r w' hp => ?_
    obtain ⟨hr, S', v', A1, c1, hn, ha⟩ := hp
    exact ⟨_, _, S', v', _, _, hr, hn, ha, .inr ⟨rfl, _, rfl, rfl⟩⟩
end Go.Proofs.Ytgifmadidgjgbaa
