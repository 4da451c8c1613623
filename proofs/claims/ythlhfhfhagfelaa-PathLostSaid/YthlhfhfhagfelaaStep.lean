/- A path on its way, as plain words and in memory. No condition. -/
import Derived.Test.YthlhfhfhagfelaaRWays
set_option linter.unusedVariables false
set_option linter.unusedSimpArgs false
namespace Go.Proofs.Ythlhfhfhagfelaa
open Go.RowKit

theorem Pls.elemS {w : World} {S : Nat → Prop} {A : Option Addr} {l : List Plc} (h : Pls w S A l) {i : Nat} {x : Plc} (hx : l[i]? = some x) :
    ∃ b o, A = some ⟨b, o, none⟩ ∧ S b ∧ b < w.heap.size ∧ w.cell? ⟨b, o + i * 4, none⟩ = some (.int .u32 x.h) ∧ w.cell? ⟨b, o + i * 4 + 1, none⟩ = some (.int .i64 x.p) ∧ w.cell? ⟨b, o + i * 4 + 2, none⟩ = some (.int .i64 x.id) ∧ w.cell? ⟨b, o + i * 4 + 3, none⟩ = some (.bool x.via) := by
  obtain ⟨b, o, hA, hM, hl, hc⟩ := RdA.elem h (List.getElem?_eq_some_iff.1 hx).1
  have key : ∀ j u, j < 4 → x.cells[j]? = some u → w.cell? ⟨b, o + i * 4 + j, none⟩ = some u := fun j u hj hu => hc j u (by rw [pcells_at l i x hx j hj]; exact hu)
  exact ⟨b, o, hA, hM, hl, key 0 _ (by omega) rfl, key 1 _ (by omega) rfl, key 2 _ (by omega) rfl, key 3 _ (by omega) rfl⟩

/-- A path's state. -/
structure Pth where
  st : Int
  x : Plc
  nx : Int
def Pth.off : Pth := ⟨0, Plc.zero, 0⟩
/-- Whether a time may be. -/
def mayT (now : Int) : Prop := 0 ≤ now ∧ now ≤ 1099511627776
instance (now : Int) : Decidable (mayT now) := inferInstanceAs (Decidable (_ ∧ _))
/-- What a step answers, and the place and the state behind it. -/
structure Res where
  x : Plc
  ok : Bool
  i : Nat
  s : Pth
def tryF (ws : List Plc) (now : Int) (i : Nat) : Res := match ws[i]? with
  | some x => ⟨x, true, i, ⟨1, x, now + 10⟩⟩
  | none => ⟨Plc.zero, false, i, ⟨4, Plc.zero, 0⟩⟩
def startF (ws : List Plc) (i : Nat) (s : Pth) (now : Int) : Res := if mayT now ∧ (s.st = 0 ∨ s.st = 4) then tryF ws now 0 else ⟨Plc.zero, false, i, s⟩
def tickF (ws : List Plc) (i : Nat) (s : Pth) (now : Int) : Res := if mayT now ∧ s.st = 1 ∧ s.nx ≤ now then tryF ws now (i + 1) else ⟨Plc.zero, false, i, s⟩
def lostF (ws : List Plc) (i : Nat) (s : Pth) (now : Int) : Res := if mayT now ∧ (s.st = 2 ∨ s.st = 3) then tryF ws now 0 else ⟨Plc.zero, false, i, s⟩
def openF (s : Pth) (now : Int) : Bool × Pth := if mayT now ∧ s.st = 1 then (true, ⟨if s.x.via then 3 else 2, s.x, 0⟩) else (false, s)
def punchF (s : Pth) (now h p : Int) : Bool × Pth := if mayT now ∧ s.st = 3 ∧ mayB h p = true then (true, ⟨2, ⟨h, p, 0, false⟩, 0⟩) else (false, s)

def wcells (v : Value) (i : Int) (s : Pth) : Array Value := #[v, .int .i64 i, .int .i64 s.st, .int .u32 s.x.h, .int .i64 s.x.p, .int .i64 s.x.id, .bool s.x.via, .int .i64 s.nx]
/-- A path in block B (struct type T): its ways ws, which is tried, its state. -/
structure WkAt (T : TypeId) (w : World) (B : Nat) (A : Option Addr) (c : Nat) (ws : List Plc) (i : Nat) (s : Pth) : Prop where
  blk : Blk w B T (wcells (.slice A ws.length c) i s)
  row : Pls w (fun k => k ≠ B) A ws
  len : ws.length ≤ 8
  iz : i ≤ 1000
def Stepped (T : TypeId) (w : World) (B : Nat) (A : Option Addr) (c : Nat) (ws : List Plc) (q : Res) (r : Ending) (w' : World) : Prop :=
  r = .returned (.tuple #[.agg #[.int .u32 q.x.h, .int .i64 q.x.p, .int .i64 q.x.id, .bool q.x.via], .bool q.ok]) ∧ WkAt T w' B A c ws q.i q.s ∧ Upd (fun k => k = B) w w'
theorem WkAt.upd {T : TypeId} {w w' : World} {B : Nat} {A : Option Addr} {c : Nat} {ws : List Plc} {i i' : Nat} {s s' : Pth} (h : WkAt T w B A c ws i s) (hu : Upd (fun k => k = B) w w') (hb : Blk w' B T (wcells (.slice A ws.length c) i' s')) (hi : i' ≤ 1000) : WkAt T w' B A c ws i' s' :=
  ⟨hb, RdA.same h.row (fun k hk hl => hu.block k hl hk) hu.size, h.len, hi⟩
theorem WkAt.below {T : TypeId} {w w' : World} {B : Nat} {A : Option Addr} {c : Nat} {ws : List Plc} {i : Nat} {s : Pth} (h : WkAt T w B A c ws i s) (hb : Below w.heap.size w w') : WkAt T w' B A c ws i s :=
  ⟨h.blk.below hb h.blk.lt, RdA.below h.row hb, h.len, h.iz⟩

theorem wk_end {T : TypeId} {w : World} {B : Nat} {A : Option Addr} {c : Nat} {ws : List Plc} {i0 : Nat} {s0 : Pth} (h : WkAt T w B A c ws i0 s0) (i : Nat) (s : Pth) (hi : i ≤ 1000) (o : Obj) :
    WkAt T (((((((((w.setCell ⟨B, 1, none⟩ (.int .i64 i)).setCell ⟨B, 2, none⟩ (.int .i64 s.st)).setCell ⟨B, 3, none⟩ (.int .u32 s.x.h)).setCell ⟨B, 4, none⟩ (.int .i64 s.x.p)).setCell ⟨B, 5, none⟩ (.int .i64 s.x.id)).setCell ⟨B, 6, none⟩ (.bool s.x.via)).setCell ⟨B, 7, none⟩ (.int .i64 s.nx))).alloc o) B A c ws i s ∧
    Upd (fun k => k = B) w (((((((((w.setCell ⟨B, 1, none⟩ (.int .i64 i)).setCell ⟨B, 2, none⟩ (.int .i64 s.st)).setCell ⟨B, 3, none⟩ (.int .u32 s.x.h)).setCell ⟨B, 4, none⟩ (.int .i64 s.x.p)).setCell ⟨B, 5, none⟩ (.int .i64 s.x.id)).setCell ⟨B, 6, none⟩ (.bool s.x.via)).setCell ⟨B, 7, none⟩ (.int .i64 s.nx))).alloc o) := by
  have hu : Upd (fun k => k = B) w (((((((((w.setCell ⟨B, 1, none⟩ (.int .i64 i)).setCell ⟨B, 2, none⟩ (.int .i64 s.st)).setCell ⟨B, 3, none⟩ (.int .u32 s.x.h)).setCell ⟨B, 4, none⟩ (.int .i64 s.x.p)).setCell ⟨B, 5, none⟩ (.int .i64 s.x.id)).setCell ⟨B, 6, none⟩ (.bool s.x.via)).setCell ⟨B, 7, none⟩ (.int .i64 s.nx))).alloc o) := by
    exact ((((((((Upd.refl (fun k => k = B) w).setCell (p := ⟨B, 1, none⟩) (.inl rfl) _).setCell (p := ⟨B, 2, none⟩) (.inl rfl) _).setCell (p := ⟨B, 3, none⟩) (.inl rfl) _).setCell (p := ⟨B, 4, none⟩) (.inl rfl) _).setCell (p := ⟨B, 5, none⟩) (.inl rfl) _).setCell (p := ⟨B, 6, none⟩) (.inl rfl) _).setCell (p := ⟨B, 7, none⟩) (.inl rfl) _).alloc o
  have hb := h.blk
  unfold wcells at hb
  have b7 := (((((((hb.set_ 1 (.int .i64 i)).set_ 2 (.int .i64 s.st)).set_ 3 (.int .u32 s.x.h)).set_ 4 (.int .i64 s.x.p)).set_ 5 (.int .i64 s.x.id)).set_ 6 (.bool s.x.via)).set_ 7 (.int .i64 s.nx)).alloc o
  simp only [List.setIfInBounds_toArray, List.set_cons_succ, List.set_cons_zero] at b7
  exact ⟨h.upd hu b7 hi, hu⟩
theorem wk_end2 {T : TypeId} {w : World} {B : Nat} {A : Option Addr} {c : Nat} {ws : List Plc} {i0 : Nat} {s0 : Pth} (h : WkAt T w B A c ws i0 s0) (i : Nat) (s : Pth) (hi : i ≤ 1000) (o : Obj) (a b c' d e f : Value) :
    WkAt T (((((((((((((((w.setCell ⟨B, 1, none⟩ (.int .i64 i)).setCell ⟨B, 2, none⟩ a).setCell ⟨B, 3, none⟩ b).setCell ⟨B, 4, none⟩ c').setCell ⟨B, 5, none⟩ d).setCell ⟨B, 6, none⟩ e).setCell ⟨B, 7, none⟩ f).setCell ⟨B, 2, none⟩ (.int .i64 s.st)).setCell ⟨B, 3, none⟩ (.int .u32 s.x.h)).setCell ⟨B, 4, none⟩ (.int .i64 s.x.p)).setCell ⟨B, 5, none⟩ (.int .i64 s.x.id)).setCell ⟨B, 6, none⟩ (.bool s.x.via)).setCell ⟨B, 7, none⟩ (.int .i64 s.nx))).alloc o) B A c ws i s ∧
    Upd (fun k => k = B) w (((((((((((((((w.setCell ⟨B, 1, none⟩ (.int .i64 i)).setCell ⟨B, 2, none⟩ a).setCell ⟨B, 3, none⟩ b).setCell ⟨B, 4, none⟩ c').setCell ⟨B, 5, none⟩ d).setCell ⟨B, 6, none⟩ e).setCell ⟨B, 7, none⟩ f).setCell ⟨B, 2, none⟩ (.int .i64 s.st)).setCell ⟨B, 3, none⟩ (.int .u32 s.x.h)).setCell ⟨B, 4, none⟩ (.int .i64 s.x.p)).setCell ⟨B, 5, none⟩ (.int .i64 s.x.id)).setCell ⟨B, 6, none⟩ (.bool s.x.via)).setCell ⟨B, 7, none⟩ (.int .i64 s.nx))).alloc o) := by
  have hu : Upd (fun k => k = B) w (((((((((((((((w.setCell ⟨B, 1, none⟩ (.int .i64 i)).setCell ⟨B, 2, none⟩ a).setCell ⟨B, 3, none⟩ b).setCell ⟨B, 4, none⟩ c').setCell ⟨B, 5, none⟩ d).setCell ⟨B, 6, none⟩ e).setCell ⟨B, 7, none⟩ f).setCell ⟨B, 2, none⟩ (.int .i64 s.st)).setCell ⟨B, 3, none⟩ (.int .u32 s.x.h)).setCell ⟨B, 4, none⟩ (.int .i64 s.x.p)).setCell ⟨B, 5, none⟩ (.int .i64 s.x.id)).setCell ⟨B, 6, none⟩ (.bool s.x.via)).setCell ⟨B, 7, none⟩ (.int .i64 s.nx))).alloc o) := by
    exact ((((((((((((((Upd.refl (fun k => k = B) w).setCell (p := ⟨B, 1, none⟩) (.inl rfl) _).setCell (p := ⟨B, 2, none⟩) (.inl rfl) _).setCell (p := ⟨B, 3, none⟩) (.inl rfl) _).setCell (p := ⟨B, 4, none⟩) (.inl rfl) _).setCell (p := ⟨B, 5, none⟩) (.inl rfl) _).setCell (p := ⟨B, 6, none⟩) (.inl rfl) _).setCell (p := ⟨B, 7, none⟩) (.inl rfl) _).setCell (p := ⟨B, 2, none⟩) (.inl rfl) _).setCell (p := ⟨B, 3, none⟩) (.inl rfl) _).setCell (p := ⟨B, 4, none⟩) (.inl rfl) _).setCell (p := ⟨B, 5, none⟩) (.inl rfl) _).setCell (p := ⟨B, 6, none⟩) (.inl rfl) _).setCell (p := ⟨B, 7, none⟩) (.inl rfl) _).alloc o
  have hb := h.blk
  unfold wcells at hb
  have b7 := (((((((((((((hb.set_ 1 (.int .i64 i)).set_ 2 a).set_ 3 b).set_ 4 c').set_ 5 d).set_ 6 e).set_ 7 f).set_ 2 (.int .i64 s.st)).set_ 3 (.int .u32 s.x.h)).set_ 4 (.int .i64 s.x.p)).set_ 5 (.int .i64 s.x.id)).set_ 6 (.bool s.x.via)).set_ 7 (.int .i64 s.nx)).alloc o
  simp only [List.setIfInBounds_toArray, List.set_cons_succ, List.set_cons_zero] at b7
  exact ⟨h.upd hu b7 hi, hu⟩

set_option maxHeartbeats 800000 in
set_option maxRecDepth 100000 in
theorem try_hit {w : World} {B : Nat} {A : Option Addr} {c : Nat} {ws : List Plc} {i0 : Nat} {s : Pth} (h : WkAt 51 w B A c ws i0 s) (now : Int) (hn : mayT now) (i : Nat) (x : Plc) (hx : ws[i]? = some x) (hi : i ≤ 1000) :
    Calls Try.prog 26 #[.pointer (some ⟨B, 0, none⟩), .int .i64 now, .int .i64 i] w (Stepped 51 w B A c ws ⟨x, true, i, ⟨1, x, now + 10⟩⟩) := by
  have HW := Lib.hid h
  have hlt : i < ws.length := (List.getElem?_eq_some_iff.1 hx).1
  obtain ⟨b, o, rfl, hbB, hbl, c0, c1, c2, c3⟩ := h.row.elemS hx
  have hB := h.blk.lt
  have hb := h.blk
  obtain ⟨st, ⟨xh, xp, xid, xv⟩, nx⟩ := s
  simp only [wcells] at hb
  have q0 := hb.cell 0; have q1 := hb.cell 1; have q2 := hb.cell 2; have q3 := hb.cell 3; have q4 := hb.cell 4; have q5 := hb.cell 5; have q6 := hb.cell 6; have q7 := hb.cell 7
  have z1 := hb.frozen 1; have z2 := hb.frozen 2; have z3 := hb.frozen 3; have z4 := hb.frozen 4; have z5 := hb.frozen 5; have z6 := hb.frozen 6; have z7 := hb.frozen 7
  simp only [List.getElem?_toArray, List.getElem?_cons_zero, List.getElem?_cons_succ] at q0 q1 q2 q3 q4 q5 q6 q7
  have hne : B ≠ w.heap.size := by omega
  have hl8 := h.len
  have hbw : b ≠ w.heap.size := by omega
  have hBb : B ≠ b := fun e => hbB e.symm
  obtain ⟨hn0, hn1⟩ := hn
  have hlt' : (i : Int) < (ws.length : Int) := by omega
  clear h hb hx
  generalize hn : ws.length = n at *
  have HN := Lib.hid hn
  clear hn
  go_enter Try.func26, Try.ntmps26
  go_wp2
  exact bodyPost_ret (v := .tuple #[.agg #[.int .u32 x.h, .int .i64 x.p, .int .i64 x.id, .bool x.via], .bool true]) (by simp [results, Try.results26, go_sem]) rfl ⟨rfl, wk_end HW.out i ⟨1, x, now + 10⟩ hi _⟩
set_option maxHeartbeats 800000 in
set_option maxRecDepth 100000 in
theorem try_miss {w : World} {B : Nat} {A : Option Addr} {c : Nat} {ws : List Plc} {i0 : Nat} {s : Pth} (h : WkAt 51 w B A c ws i0 s) (now : Int) (i : Nat) (hx : ws.length ≤ i) (hi : i ≤ 1000) :
    Calls Try.prog 26 #[.pointer (some ⟨B, 0, none⟩), .int .i64 now, .int .i64 i] w (Stepped 51 w B A c ws ⟨Plc.zero, false, i, ⟨4, Plc.zero, 0⟩⟩) := by
  have HW := Lib.hid h
  have hB := h.blk.lt
  have hb := h.blk
  obtain ⟨st, ⟨xh, xp, xid, xv⟩, nx⟩ := s
  simp only [wcells] at hb
  have q0 := hb.cell 0; have q1 := hb.cell 1; have q2 := hb.cell 2; have q3 := hb.cell 3; have q4 := hb.cell 4; have q5 := hb.cell 5; have q6 := hb.cell 6; have q7 := hb.cell 7
  have z1 := hb.frozen 1; have z2 := hb.frozen 2; have z3 := hb.frozen 3; have z4 := hb.frozen 4; have z5 := hb.frozen 5; have z6 := hb.frozen 6; have z7 := hb.frozen 7
  simp only [List.getElem?_toArray, List.getElem?_cons_zero, List.getElem?_cons_succ] at q0 q1 q2 q3 q4 q5 q6 q7
  have hne : B ≠ w.heap.size := by omega
  have hl8 := h.len
  have hlt' : (ws.length : Int) ≤ (i : Int) := by omega
  clear h hb
  generalize hn : ws.length = n at *
  have HN := Lib.hid hn
  clear hn
  go_enter Try.func26, Try.ntmps26
  go_wp2
  exact bodyPost_ret (v := .tuple #[.agg #[.int .u32 0, .int .i64 0, .int .i64 0, .bool false], .bool false]) (by simp [results, Try.results26, go_sem]) rfl ⟨rfl, wk_end HW.out i ⟨4, Plc.zero, 0⟩ hi _⟩
theorem try_any {w : World} {B : Nat} {A : Option Addr} {c : Nat} {ws : List Plc} {i0 : Nat} {s : Pth} (h : WkAt 51 w B A c ws i0 s) (now : Int) (hn : mayT now) (i : Nat) (hi : i ≤ 1000) :
    Calls Try.prog 26 #[.pointer (some ⟨B, 0, none⟩), .int .i64 now, .int .i64 i] w (Stepped 51 w B A c ws (tryF ws now i)) := by
  unfold tryF
  cases hx : ws[i]? with
  | some x => exact try_hit h now hn i x hx hi
  | none => exact try_miss h now i (by rw [List.getElem?_eq_none_iff] at hx; exact hx) hi
set_option maxHeartbeats 800000 in
set_option maxRecDepth 100000 in
theorem rtry_hit {w : World} {B : Nat} {A : Option Addr} {c : Nat} {ws : List Plc} {i0 : Nat} {s : Pth} (h : WkAt 42 w B A c ws i0 s) (now : Int) (hn : mayT now) (i : Nat) (x : Plc) (hx : ws[i]? = some x) (hi : i ≤ 1000) :
    Calls Try.prog 34 #[.pointer (some ⟨B, 0, none⟩), .int .i64 now, .int .i64 i] w (Stepped 42 w B A c ws ⟨x, true, i, ⟨1, x, now + 10⟩⟩) := by
  have HW := Lib.hid h
  have hlt : i < ws.length := (List.getElem?_eq_some_iff.1 hx).1
  obtain ⟨b, o, rfl, hbB, hbl, c0, c1, c2, c3⟩ := h.row.elemS hx
  have hB := h.blk.lt
  have hb := h.blk
  obtain ⟨st, ⟨xh, xp, xid, xv⟩, nx⟩ := s
  simp only [wcells] at hb
  have q0 := hb.cell 0; have q1 := hb.cell 1; have q2 := hb.cell 2; have q3 := hb.cell 3; have q4 := hb.cell 4; have q5 := hb.cell 5; have q6 := hb.cell 6; have q7 := hb.cell 7
  have z1 := hb.frozen 1; have z2 := hb.frozen 2; have z3 := hb.frozen 3; have z4 := hb.frozen 4; have z5 := hb.frozen 5; have z6 := hb.frozen 6; have z7 := hb.frozen 7
  simp only [List.getElem?_toArray, List.getElem?_cons_zero, List.getElem?_cons_succ] at q0 q1 q2 q3 q4 q5 q6 q7
  have hne : B ≠ w.heap.size := by omega
  have hl8 := h.len
  have hbw : b ≠ w.heap.size := by omega
  have hBb : B ≠ b := fun e => hbB e.symm
  obtain ⟨hn0, hn1⟩ := hn
  have hlt' : (i : Int) < (ws.length : Int) := by omega
  clear h hb hx
  generalize hn : ws.length = n at *
  have HN := Lib.hid hn
  clear hn
  go_enter Try.func34, Try.ntmps34
  go_wp2
  exact bodyPost_ret (v := .tuple #[.agg #[.int .u32 x.h, .int .i64 x.p, .int .i64 x.id, .bool x.via], .bool true]) (by simp [results, Try.results34, go_sem]) rfl ⟨rfl, wk_end2 HW.out i ⟨1, x, now + 10⟩ hi _ _ _ _ _ _ _⟩
set_option maxHeartbeats 800000 in
set_option maxRecDepth 100000 in
theorem rtry_miss {w : World} {B : Nat} {A : Option Addr} {c : Nat} {ws : List Plc} {i0 : Nat} {s : Pth} (h : WkAt 42 w B A c ws i0 s) (now : Int) (i : Nat) (hx : ws.length ≤ i) (hi : i ≤ 1000) :
    Calls Try.prog 34 #[.pointer (some ⟨B, 0, none⟩), .int .i64 now, .int .i64 i] w (Stepped 42 w B A c ws ⟨Plc.zero, false, i, ⟨4, Plc.zero, 0⟩⟩) := by
  have HW := Lib.hid h
  have hB := h.blk.lt
  have hb := h.blk
  obtain ⟨st, ⟨xh, xp, xid, xv⟩, nx⟩ := s
  simp only [wcells] at hb
  have q0 := hb.cell 0; have q1 := hb.cell 1; have q2 := hb.cell 2; have q3 := hb.cell 3; have q4 := hb.cell 4; have q5 := hb.cell 5; have q6 := hb.cell 6; have q7 := hb.cell 7
  have z1 := hb.frozen 1; have z2 := hb.frozen 2; have z3 := hb.frozen 3; have z4 := hb.frozen 4; have z5 := hb.frozen 5; have z6 := hb.frozen 6; have z7 := hb.frozen 7
  simp only [List.getElem?_toArray, List.getElem?_cons_zero, List.getElem?_cons_succ] at q0 q1 q2 q3 q4 q5 q6 q7
  have hne : B ≠ w.heap.size := by omega
  have hl8 := h.len
  have hlt' : (ws.length : Int) ≤ (i : Int) := by omega
  clear h hb
  generalize hn : ws.length = n at *
  have HN := Lib.hid hn
  clear hn
  go_enter Try.func34, Try.ntmps34
  go_wp2
  exact bodyPost_ret (v := .tuple #[.agg #[.int .u32 0, .int .i64 0, .int .i64 0, .bool false], .bool false]) (by simp [results, Try.results34, go_sem]) rfl ⟨rfl, wk_end HW.out i ⟨4, Plc.zero, 0⟩ hi _⟩
theorem rtry_any {w : World} {B : Nat} {A : Option Addr} {c : Nat} {ws : List Plc} {i0 : Nat} {s : Pth} (h : WkAt 42 w B A c ws i0 s) (now : Int) (hn : mayT now) (i : Nat) (hi : i ≤ 1000) :
    Calls Try.prog 34 #[.pointer (some ⟨B, 0, none⟩), .int .i64 now, .int .i64 i] w (Stepped 42 w B A c ws (tryF ws now i)) := by
  unfold tryF
  cases hx : ws[i]? with
  | some x => exact rtry_hit h now hn i x hx hi
  | none => exact rtry_miss h now i (by rw [List.getElem?_eq_none_iff] at hx; exact hx) hi
end Go.Proofs.Ythlhfhfhagfelaa
