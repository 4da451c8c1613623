/- PathLost: what holds between its steps; fields and addresses read. No condition. -/
import Derived.Test.YthlhfhfhagfelaaOffW
set_option linter.unusedVariables false
set_option linter.unusedSimpArgs false
namespace Go.Proofs.Ythlhfhfhagfelaa
open Go.RowKit

theorem run_field35_1 (st h p id nx : Int) (v : Bool) (W : World) : (Instr.field 35 (.agg #[.int .i64 st, .int .u32 h, .int .i64 p, .int .i64 id, .bool v, .int .i64 nx]) 1).run Try.prog W = .ok (.agg #[.int .u32 h, .int .i64 p, .int .i64 id, .bool v]) W := by
  simp [Instr.field, go_sem, asAgg]
theorem run_field35_2 (st h p id nx : Int) (v : Bool) (W : World) : (Instr.field 35 (.agg #[.int .i64 st, .int .u32 h, .int .i64 p, .int .i64 id, .bool v, .int .i64 nx]) 2).run Try.prog W = .ok (.int .i64 nx) W := by
  simp [Instr.field, go_sem, asAgg]
theorem run_field31_0 (h p id : Int) (v : Bool) (W : World) : (Instr.field 31 (.agg #[.int .u32 h, .int .i64 p, .int .i64 id, .bool v]) 0).run Try.prog W = .ok (.agg #[.int .u32 h, .int .i64 p]) W := by
  simp [Instr.field, go_sem, asAgg]
theorem run_neq29 (h p : Int) (W : World) : (binOp .neq 29 (.agg #[.int .u32 h, .int .i64 p]) (.agg #[.int .u32 h, .int .i64 p])).run Try.prog W = .ok (.bool false) W := by
  simp [go_sem]

structure LW (w wr : World) (B : Nat) (A A1 : Option Addr) (c : Nat) (ws : List Plc) (i : Nat) (s : Pth) (D : List (Nat × TypeId × Array Value)) : Prop where
  pw : PW w wr B A c ws i s
  row : Pls wr (fun k => k ≠ B) A1 ws
  bl : ∀ d ∈ D, Blk wr d.1 d.2.1 d.2.2 ∧ d.1 ≠ B
section
variable {w wr W : World} {B c i j : Nat} {A A1 : Option Addr} {ws : List Plc} {s s' : Pth} {D : List (Nat × TypeId × Array Value)}
theorem LW.upd (h : LW w wr B A A1 c ws i s D) (hw : WkAt 51 W B A c ws j s') (hu : Upd (fun k => k = B) wr W) : LW w W B A A1 c ws j s' D :=
  ⟨h.pw.upd hw hu, RdA.same h.row (fun k hk hl => hu.block k hl hk) hu.size, fun d hd => ⟨(h.bl d hd).1.upd hu (h.bl d hd).2, (h.bl d hd).2⟩⟩
theorem LW.top (h : LW w wr B A A1 c ws i s D) (hb : Below wr.heap.size wr W) : LW w W B A A1 c ws i s D :=
  ⟨h.pw.top hb, RdA.below h.row hb, fun d hd => ⟨(h.bl d hd).1.below hb (h.bl d hd).1.lt, (h.bl d hd).2⟩⟩
theorem LW.add (h : LW w wr B A A1 c ws i s D) (t : TypeId) (cs : Array Value) : LW w (wr.alloc (.cells cs t)) B A A1 c ws i s ((wr.heap.size, t, cs) :: D) := by
  have h' := h.top ((Below.refl _ wr).alloc (Nat.le_refl _) (.cells cs t))
  refine ⟨h'.pw, h'.row, fun d hd => ?_⟩
  rcases List.mem_cons.1 hd with rfl | hd
  · exact ⟨Blk.new wr t cs, fun e => by have := h.pw.wk.blk.lt; have e' : wr.heap.size = B := e; omega⟩
  · exact h'.bl d hd
theorem LW.two (h : LW w wr B A A1 c ws i s D) (st : Int) (x : Plc) : LW w ((wr.alloc (.cells #[.int .i64 st, .int .u32 x.h, .int .i64 x.p, .int .i64 x.id, .bool x.via, .int .i64 0] 35)).alloc (.cells #[.int .u32 x.h, .int .i64 x.p, .int .i64 x.id, .bool x.via] 31)) B A A1 c ws i s ((wr.heap.size + 1, 31, #[.int .u32 x.h, .int .i64 x.p, .int .i64 x.id, .bool x.via]) :: (wr.heap.size, 35, #[.int .i64 st, .int .u32 x.h, .int .i64 x.p, .int .i64 x.id, .bool x.via, .int .i64 0]) :: D) := by
  have h2 := (h.add 35 #[.int .i64 st, .int .u32 x.h, .int .i64 x.p, .int .i64 x.id, .bool x.via, .int .i64 0]).add 31 #[.int .u32 x.h, .int .i64 x.p, .int .i64 x.id, .bool x.via]
  rw [World.size_alloc] at h2
  exact h2
theorem LW.less {D' : List (Nat × TypeId × Array Value)} (h : LW w wr B A A1 c ws i s D) (hd : ∀ d ∈ D', d ∈ D) : LW w wr B A A1 c ws i s D' := ⟨h.pw, h.row, fun d h' => h.bl d (hd d h')⟩
theorem LW.cell (h : LW w wr B A A1 c ws i s D) {b : Nat} {t : TypeId} {cs : Array Value} (hd : (b, t, cs) ∈ D) (k : Nat) : wr.cell? ⟨b, k, none⟩ = cs[k]? := (h.bl _ hd).1.cell k
theorem lost_step {x0 : Plc} (h : LW w wr B A A1 c ws i s D) (hx0 : ws[0]? = some x0) (hs : s.st = 2 ∨ s.st = 3) : Calls Try.prog 22 #[.pointer (some ⟨B, 0, none⟩), .int .i64 1002] wr (Stepped 51 wr B A c ws ⟨x0, true, 0, ⟨1, x0, 1012⟩⟩) := by
  have h1 := Lost_ h.pw.wk 1002
  have e : lostF ws i s 1002 = ⟨x0, true, 0, ⟨1, x0, 1012⟩⟩ := by
    have : lostF ws i s 1002 = tryF ws 1002 0 := if_pos ⟨⟨by omega, by omega⟩, hs⟩
    rw [this]; simp [tryF, hx0]
  rw [e] at h1
  exact h1
end
end Go.Proofs.Ythlhfhfhagfelaa
