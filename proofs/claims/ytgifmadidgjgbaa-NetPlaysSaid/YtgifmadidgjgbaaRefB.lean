/- Contracts of this seat: the reference's net: put. No condition. -/
import Derived.Test.YtgifmadidgjgbaaRefA
set_option linter.unusedVariables false
set_option linter.unusedSimpArgs false
namespace Go.Proofs.Ytgifmadidgjgbaa
open Go.RowKit
attribute [local go_sem ↓] Go.wp_at_zero Go.wp_at_succ

variable {w w' : World} {B : Nat} {S U : Nat → Prop} {v : Value} {l : List Ent} {last : Int}

set_option maxRecDepth 100000 in
theorem rput_full (h : NetAt 50 w B S v l last) (hf : 300 ≤ l.length) (a b c d e f : Value) : Calls Try.prog 27 #[.pointer (some ⟨B, 0, none⟩), .agg #[a, b, c, d, e, f]] w fun r w' => r = .returned (.tuple #[.int .i64 0, .int .i64 10]) ∧ Below w.heap.size w w' := by
  obtain ⟨A, cc, rfl, hnc, hcm⟩ := own_slice h.row
  have hB := h.blk.lt
  have hc0 : w.cell? ⟨B, 0, none⟩ = some (.slice A l.length cc) := h.blk.cell 0
  have hne : B ≠ w.heap.size := by omega
  have hf' : (300 : Int) ≤ (l.length : Int) := by omega
  clear h
  generalize l.length = n at *
  go_enter Try.func27, Try.ntmps27
  go_wp2
  go_ret2
  exact ⟨rfl, (Below.refl _ _).alloc (Nat.le_refl _) _⟩

theorem KeepT.grownNew {e : TypeId} {a w w' : World} (h : KeepT e a w) {row : Option Nat} (hg : w.grownBy w' row) (hr : ∀ k, row = some k → a.heap.size ≤ k) : KeepT e a w' := fun i cs fr hi => by
  have h1 := h i cs fr hi
  have hl := (Array.getElem?_eq_some_iff.1 hi).1
  rw [hg.block i (Array.getElem?_eq_some_iff.1 h1).1 (fun he => by have := hr i he.symm; omega)]
  exact h1

/-- In the midst of the reference's put. -/
theorem Mid.ofR {x : Snt} {A0 A1 : Option Addr} {c0 c1 : Nat} {w4 : World} (h : NetAt 50 w B S v l last)
    (hg : (((w.setCell ⟨B, 1, none⟩ (.int .i64 (last + 1))).alloc (.cells #[.int .i64 (last + 1), .int .u32 x.fh, .int .i64 x.fp, .int .u32 x.th, .int .i64 x.tp, .slice A0 x.b.length c0] 39)).alloc (.cells #[] 5)).grownBy w4 (some (w.heap.size + 1)))
    (hown : w4.ownsRow (w.heap.size + 1) 5 1 (.slice A1 x.b.length c1) x.b.length (enc8 x.b)) :
    Mid 50 w (w4.setCell ⟨w.heap.size, 5, none⟩ (.slice A1 x.b.length c1)) B w.heap.size S v l ⟨{ x with no := last + 1 }, A1, c1⟩ (last + 1) := by
  have hB := h.blk.lt
  have hne : ∀ g, v.ownBlock = some g → g ≠ w.heap.size := fun g hg e => by have := h.old g (h.inV g hg); omega
  have hvB : ∀ g, v.ownBlock = some g → g ≠ B := fun g hg e => own_blk_ne h.row h.blk (by decide) (by rw [hg, e])
  have hu := (((Upd.refl S w).setCell (p := ⟨B, 1, none⟩) (.inl h.inB) (.int .i64 (last + 1))).alloc (.cells #[.int .i64 (last + 1), .int .u32 x.fh, .int .i64 x.fp, .int .u32 x.th, .int .i64 x.tp, .slice A0 x.b.length c0] 39)).alloc (.cells #[] 5)
  have hu4 := hu.grown hg (fun k e => by injection e; right; omega)
  have hk := (((KeepT.refl 5 w).setCell (p := ⟨B, 1, none⟩) h.blk (by decide) (.int .i64 (last + 1))).alloc (.cells #[.int .i64 (last + 1), .int .u32 x.fh, .int .i64 x.fp, .int .u32 x.th, .int .i64 x.tp, .slice A0 x.b.length c0] 39)).alloc (.cells #[] 5)
  have hk4 := hk.grownNew hg (fun k e => by injection e; omega)
  have n4 := (((h.blk.set_ 1 (.int .i64 (last + 1))).alloc (.cells #[.int .i64 (last + 1), .int .u32 x.fh, .int .i64 x.fp, .int .u32 x.th, .int .i64 x.tp, .slice A0 x.b.length c0] 39)).alloc (.cells #[] 5)).grown hg (by simp; omega)
  have x0 := Blk.new (w.setCell ⟨B, 1, none⟩ (.int .i64 (last + 1))) 39 #[.int .i64 (last + 1), .int .u32 x.fh, .int .i64 x.fp, .int .u32 x.th, .int .i64 x.tp, .slice A0 x.b.length c0]
  rw [World.size_setCell] at x0
  have x4 := (x0.alloc (.cells #[] 5)).grown hg (by simp)
  have hlt4 := x4.lt
  have v4 : w4.ownsRow 0 39 6 v l.length (cellsOf l) := by
    have e2 := own_same h.row (fun g hg' => Below.heap_setCell _ ⟨B, 1, none⟩ (.int .i64 (last + 1)) g (hvB g hg'))
    have e4 := (e2.alloc (.cells #[.int .i64 (last + 1), .int .u32 x.fh, .int .i64 x.fp, .int .u32 x.th, .int .i64 x.tp, .slice A0 x.b.length c0] 39)).alloc (.cells #[] 5)
    exact own_same e4 (fun g hg' => hg.block g (e4.lt g hg').2 (fun e => by injection e with e; have := h.old g (h.inV g hg'); omega))
  refine ⟨?_, ?_, x4.set_ 5 _, ?_, hu4.setCell (.inr (Nat.le_refl _)) _, hk4.setNew (Nat.le_refl _) _, Nat.le_refl _⟩
  · have := n4.far (p := ⟨w.heap.size, 5, none⟩) (by show B ≠ w.heap.size; omega) (.slice A1 x.b.length c1)
    exact this
  · exact own_same v4 (fun g hg' => Below.heap_setCell _ _ _ _ (hne g hg'))
  · have hr := Rd.of_own (S := fun k => w.heap.size + 1 ≤ k) hown (fun g hg' => (hown.lt g hg').1)
    exact (hr.same (fun k hk _ => Below.heap_setCell _ _ _ _ (by show k ≠ w.heap.size; omega))).more (fun k hk _ => by omega)

set_option maxHeartbeats 1600000 in
set_option maxRecDepth 100000 in
theorem rput_room (h : NetAt 50 w B S v l last) (hf : l.length < 300) (hlast : last < 1000000) (x : Snt) (A0 : Option Addr) (c0 : Nat) (S0 : Nat → Prop) (hr : RdA w S0 1 A0 x.b.length (enc8 x.b)) (hS0 : ∀ k, S0 k → k ≠ B) (hb : x.b.length ≤ 1200) (hcc : x.b.length ≤ c0) :
    Calls Try.prog 27 #[.pointer (some ⟨B, 0, none⟩), .agg #[.int .i64 x.no, .int .u32 x.fh, .int .i64 x.fp, .int .u32 x.th, .int .i64 x.tp, .slice A0 x.b.length c0]] w (Put 50 w B S l last x) := by
  obtain ⟨i0, hi, hz0, hz1, hz2⟩ := info_parts info39
  obtain ⟨i5, hi5, hy0, hy1, hy2⟩ := info_parts info5
  obtain ⟨A, c, rfl, hnc, hcm⟩ := own_slice h.row
  have k0 : w.cell? ⟨B, 0, none⟩ = some (.slice A l.length c) := h.blk.cell 0
  have k1 : w.cell? ⟨B, 1, none⟩ = some (.int .i64 last) := h.blk.cell 1
  have f0 : w.frozen? ⟨B, 0, none⟩ = false := h.blk.frozen 0
  have f1 : w.frozen? ⟨B, 1, none⟩ = false := h.blk.frozen 1
  have hB := h.blk.lt
  have hne : B ≠ w.heap.size := by omega
  have hlo := h.lo
  have hln : ¬ (300 : Int) ≤ (l.length : Int) := by omega
  have hr3 : RdA (((w.setCell ⟨B, 1, none⟩ (.int .i64 (last + 1))).alloc (.cells #[.int .i64 (last + 1), .int .u32 x.fh, .int .i64 x.fp, .int .u32 x.th, .int .i64 x.tp, .slice A0 x.b.length c0] 39)).alloc (.cells #[] 5)) (fun _ => True) 1 A0 x.b.length (enc8 x.b) := by
    have e2 := hr.same (w' := w.setCell ⟨B, 1, none⟩ (.int .i64 (last + 1))) (fun k hk _ => Below.heap_setCell _ _ _ _ (hS0 k hk)) (by simp)
    have e3 := (e2.alloc (.cells #[.int .i64 (last + 1), .int .u32 x.fh, .int .i64 x.fp, .int .u32 x.th, .int .i64 x.tp, .slice A0 x.b.length c0] 39)).alloc (.cells #[] 5)
    exact ⟨e3.1, fun hn => by
      obtain ⟨g, o, hA, _, hl, hc⟩ := e3.2 hn
      exact ⟨g, o, hA, trivial, hl, hc⟩⟩
  have hown0 : (((w.setCell ⟨B, 1, none⟩ (.int .i64 (last + 1))).alloc (.cells #[.int .i64 (last + 1), .int .u32 x.fh, .int .i64 x.fp, .int .u32 x.th, .int .i64 x.tp, .slice A0 x.b.length c0] 39)).alloc (.cells #[] 5)).ownsRow (w.heap.size + 1) 5 1 (.slice (some ⟨w.heap.size + 1, 0, none⟩) 0 0) 0 [] := by
    have := World.ownsRow_made (e := 5) (size := 1) ((w.setCell ⟨B, 1, none⟩ (.int .i64 (last + 1))).alloc (.cells #[.int .i64 (last + 1), .int .u32 x.fh, .int .i64 x.fp, .int .u32 x.th, .int .i64 x.tp, .slice A0 x.b.length c0] 39)) #[] 0 (Nat.le_refl _) (by simp [maxLen]) rfl
    simp only [World.size_alloc, World.size_setCell] at this
    exact this
  have HO0 := Lib.hid hown0
  have hx0 : Blk (((w.setCell ⟨B, 1, none⟩ (.int .i64 (last + 1))).alloc (.cells #[.int .i64 (last + 1), .int .u32 x.fh, .int .i64 x.fp, .int .u32 x.th, .int .i64 x.tp, .slice A0 x.b.length c0] 39)).alloc (.cells #[] 5)) w.heap.size 39 #[.int .i64 (last + 1), .int .u32 x.fh, .int .i64 x.fp, .int .u32 x.th, .int .i64 x.tp, .slice A0 x.b.length c0] := by
    have := (Blk.new (w.setCell ⟨B, 1, none⟩ (.int .i64 (last + 1))) 39 #[.int .i64 (last + 1), .int .u32 x.fh, .int .i64 x.fp, .int .u32 x.th, .int .i64 x.tp, .slice A0 x.b.length c0]).alloc (.cells #[] 5)
    rwa [World.size_setCell] at this
  have HX0 := Lib.hid hx0
  have h1b := enc8_one x.b
  have HN := Lib.hid h
  have HR3 := Lib.hid hr3
  clear h hr hr3 hown0 hx0
  generalize hn : l.length = n at *
  have Hn := Lib.hid hn
  clear hn
  generalize hm : x.b.length = m at *
  have Hm := Lib.hid hm
  clear hm
  go_enter Try.func27, Try.ntmps27
  go_wp2_with (at_builtin; refine wpList_append_any _ rfl (.tmp 24) (.tmp 26) 22 rfl (w.heap.size + 1) 5 i5 (.int .u8 0) 1 1 Try.underlying22 hi5 hy0 hy1 hy2 rfl (by decide) (.slice (some ⟨w.heap.size + 1, 0, none⟩) 0 0) 0 [] rfl HO0.out (fun _ => True) A0 m c0 (enc8 x.b) rfl HR3.out h1b (by unfold maxLen; omega) (by omega) (by simp) ?_; intro v1 w4 hown1 hgrow1 hblk1; simp only [Nat.zero_add, List.nil_append] at hown1; obtain ⟨A1, c1, rfl, hc1, _⟩ := own_slice hown1; have HO1 := Lib.hid hown1; have hx4 := HX0.out.grown hgrow1 (by simp [Value.ownBlock]); have q5 := hx4.cell 5; have z5 := hx4.frozen 5; simp at q5; have hl4 := hx4.lt; have HG1 := Lib.hid hgrow1; clear hown1 hgrow1 hblk1 hx4)
  have MM := Mid.ofR (x := x) (A0 := A0) (A1 := A1) (c0 := c0) (c1 := c1) HN.out (by rw [Hm.out]; exact HG1.out) (by rw [Hm.out]; exact HO1.out)
  rw [Hm.out] at MM
  clear q5 z5 k0 k1 f0 f1 HR3 HO0 HX0 HO1 HG1
  generalize hbn : w.heap.size = bx at *
  have HBN := Lib.hid hbn
  clear hbn
  generalize w4.setCell ⟨bx, 5, none⟩ (.slice A1 m c1) = W3 at *
  have n0 : W3.cell? ⟨B, 0, none⟩ = some (.slice A n c) := MM.net.cell 0
  have n1 : W3.cell? ⟨B, 1, none⟩ = some (.int .i64 (last + 1)) := MM.net.cell 1
  have nf : W3.frozen? ⟨B, 0, none⟩ = false := MM.net.frozen 0
  have x0 : W3.cell? ⟨bx, 0, none⟩ = some (.int .i64 (last + 1)) := MM.box.cell 0
  have x1 : W3.cell? ⟨bx, 1, none⟩ = some (.int .u32 x.fh) := MM.box.cell 1
  have x2 : W3.cell? ⟨bx, 2, none⟩ = some (.int .i64 x.fp) := MM.box.cell 2
  have x3 : W3.cell? ⟨bx, 3, none⟩ = some (.int .u32 x.th) := MM.box.cell 3
  have x4 : W3.cell? ⟨bx, 4, none⟩ = some (.int .i64 x.tp) := MM.box.cell 4
  have x5 : W3.cell? ⟨bx, 5, none⟩ = some (.slice A1 m c1) := by rw [← Hm.out]; exact MM.box.cell 5
  have hBl : B < W3.heap.size := MM.net.lt
  have hBx : bx < W3.heap.size := MM.box.lt
  have hb3 : B ≠ W3.heap.size := by omega
  have hx3 : bx ≠ W3.heap.size := by omega
  have HvB := Lib.hid (own_blk_ne MM.row MM.net (by decide))
  have R3 : Hid (W3.ownsRow 0 39 6 (.slice A n c) n (cellsOf l)) := by have := MM.row; rw [Hn.out] at this; exact this
  have E3 : Hid (Rd (W3.alloc (.cells (Ent.cells ⟨{ x with no := last + 1 }, A1, c1⟩).toArray 39)) 39 (fun _ => True) 6 (some ⟨W3.heap.size, 0, none⟩) 1 (Ent.cells ⟨{ x with no := last + 1 }, A1, c1⟩)) := Rd.new W3 39 _ 6 1 rfl
  have M := Lib.hid MM
  have HvX : Hid ((Value.slice A n c).ownBlock ≠ some bx) := fun e => by have h1 := HN.out.old bx (HN.out.inV bx e); have h2 := HBN.out; omega
  clear MM
  have hm := Hm.out
  subst hm
  clear Hm
  go_region_law (refine step_append_any _ (by rfl) (.tmp 33) (.tmp 35) 48 (by rfl) 0 39 i0 _ 6 64 Try.underlying48 hi hz0 hz1 hz2 (by rfl) (by decide) (.slice A n c) n (cellsOf l) (by simp [Act.eval, Act.put]) (by exact R3.out.alloc _) (fun _ => True) (some ⟨W3.heap.size, 0, none⟩) 1 1 (Ent.cells ⟨{ x with no := last + 1 }, A1, c1⟩) (by simp [Act.eval, Act.put]) (by exact E3.out.a) (fun u hu => cellsOf_one [⟨{ x with no := last + 1 }, A1, c1⟩] u (by simpa [cellsOf] using hu)) (by unfold maxLen; omega) (by omega) (by omega) ?_; intro v' w5 hown' hgrow hblk; obtain ⟨A', c', rfl, hc1', hc2'⟩ := own_slice hown'; have hk4 := ((M.out.net.alloc (.cells (Ent.cells ⟨{ x with no := last + 1 }, A1, c1⟩).toArray 39)).drew).grown hgrow (fun e => HvB.out e.symm); have q0 : w5.cell? ⟨B, 0, none⟩ = some (.slice A n c) := hk4.cell 0; have q1 : w5.cell? ⟨B, 1, none⟩ = some (.int .i64 (last + 1)) := hk4.cell 1; have qf : w5.frozen? ⟨B, 0, none⟩ = false := hk4.frozen 0; have HO := Lib.hid hown'; have HG := Lib.hid hgrow; have HB4 := Lib.hid hblk; clear hown' hgrow hblk hk4)
  all_goals
    go_wp2
    go_ret2
    refine ⟨rfl, ?_⟩
    obtain rfl := Hn.out
    obtain rfl := HBN.out
    obtain ⟨S', hn', ha'⟩ := Mid.fin HN.out (by decide) (by decide) M.out hf hlast hb hc1 ((Below.refl _ W3).alloc (Nat.le_refl _) _).drew HO.out HG.out HB4.out
    exact ⟨S', _, A1, c1, hn', ha'⟩
end Go.Proofs.Ytgifmadidgjgbaa
