/- Contracts of this seat: put. No condition. -/
import Derived.Test.YtgifmadidgjgbaaWalkC
import Derived.Deep.RegionLaw
import Derived.Deep.DrawnRows
set_option linter.unusedVariables false
set_option linter.unusedSimpArgs false
namespace Go.Proofs.Ytgifmadidgjgbaa
open Go.RowKit
attribute [local go_sem ↓] Go.wp_at_zero Go.wp_at_succ

variable {T : TypeId} {w w' : World} {B : Nat} {S U : Nat → Prop} {v : Value} {l : List Ent} {last : Int}

/-- What a call on a net leaves: blocks that were not the net's own, and all rows of bytes, are as they were. -/
structure After (S S' : Nat → Prop) (w w' : World) : Prop where
  upd : Upd S w w'
  keep : KeepT 5 w w'
  own : ∀ k, S' k → S k ∨ w.heap.size ≤ k
theorem After.refl (S : Nat → Prop) (w : World) : After S S w w := ⟨Upd.refl _ _, KeepT.refl _ _, fun k h => .inl h⟩
theorem After.of_below (hb : Below w.heap.size w w') : After S S w w' := ⟨Upd.new hb, KeepT.new hb, fun k h => .inl h⟩
theorem After.trans {S' S'' : Nat → Prop} {w'' : World} (h : After S S' w w') (k : After S' S'' w' w'') : After S S'' w w'' :=
  ⟨h.upd.trans k.upd (fun i hi hs => (h.own i hs).resolve_right (by omega)), h.keep.trans k.keep, fun i hi => by
    rcases k.own i hi with h1 | h1
    · exact h.own i h1
    · exact .inr (Nat.le_trans h.upd.size h1)⟩

/-- In the midst of put: what is there when the datagram's own variable is laid out. -/
structure Mid (T : TypeId) (w W : World) (B bx : Nat) (S : Nat → Prop) (v : Value) (l : List Ent) (e : Ent) (last : Int) : Prop where
  net : Blk W B T #[v, .int .i64 last]
  row : W.ownsRow 0 39 6 v l.length (cellsOf l)
  box : Blk W bx 39 e.cells.toArray
  byt : Rd W 5 (fun k => w.heap.size ≤ k) 1 e.A e.x.b.length (enc8 e.x.b)
  upd : Upd S w W
  keep : KeepT 5 w W
  new : w.heap.size ≤ bx
theorem Mid.of {x : Snt} {A0 A1 : Option Addr} {c0 c1 : Nat} {W1 w2 : World} {bx : Nat} (h : NetAt T w B S v l last) (hT : T ≠ 39) (hT5 : T ≠ 5) (hx : w.heap.size = bx)
    (h1 : (w.setCell ⟨B, 1, none⟩ (.int .i64 (last + 1))).alloc (.cells #[.int .i64 x.no, .int .u32 x.fh, .int .i64 x.fp, .int .u32 x.th, .int .i64 x.tp, .slice A0 x.b.length c0] 39) = W1)
    (hb : Below W1.drew.heap.size W1.drew w2) (hr : Rd w2 5 (fun k => W1.drew.heap.size ≤ k) 1 A1 x.b.length (enc8 x.b)) :
    Mid T w ((w2.setCell ⟨bx, 0, none⟩ (.int .i64 (last + 1))).setCell ⟨bx, 5, none⟩ (.slice A1 x.b.length c1)) B bx S v l ⟨{ x with no := last + 1 }, A1, c1⟩ (last + 1) := by
  subst hx
  have hB := h.blk.lt
  have hz : W1.heap.size = w.heap.size + 1 := by rw [← h1]; simp
  have hu1 : Upd S w W1 := by rw [← h1]; exact ((Upd.refl S w).setCell (.inl h.inB) _).alloc _
  have hk1 : KeepT 5 w W1 := by rw [← h1]; exact ((KeepT.refl 5 w).setCell (p := ⟨B, 1, none⟩) h.blk hT5 _).alloc _
  have hn1 : Blk W1 B T #[v, .int .i64 (last + 1)] := by rw [← h1]; exact (h.blk.set_ 1 _).alloc _
  have hv1 : W1.ownsRow 0 39 6 v l.length (cellsOf l) := by
    rw [← h1]
    exact (own_same h.row (fun g hg => Below.heap_setCell _ _ _ _ (fun e => own_blk_ne h.row h.blk hT.symm (by rw [hg, e])))).alloc _
  have hx1 : Blk W1 w.heap.size 39 #[.int .i64 x.no, .int .u32 x.fh, .int .i64 x.fp, .int .u32 x.th, .int .i64 x.tp, .slice A0 x.b.length c0] := by
    rw [← h1]
    have := Blk.new (w.setCell ⟨B, 1, none⟩ (.int .i64 (last + 1))) 39 #[.int .i64 x.no, .int .u32 x.fh, .int .i64 x.fp, .int .u32 x.th, .int .i64 x.tp, .slice A0 x.b.length c0]
    rwa [World.size_setCell] at this
  simp only [World.size_drew] at hb hr
  have hu2 : Upd S w w2 := (hu1.drew).trans (Upd.new (S := fun _ => False) hb) (fun _ _ h => h.elim)
  have hk2 : KeepT 5 w w2 := (hk1.drew).trans (KeepT.new hb)
  have hn2 := (hn1.drew).below hb (by omega)
  have hx2 := (hx1.drew).below hb (by omega)
  have hlt := hx2.lt
  have hv2 : w2.ownsRow 0 39 6 v l.length (cellsOf l) := own_same (w := W1.drew) (hv1.drew) (fun g hg => hb.block g (hv1.lt g hg).2)
  have hne : ∀ g, v.ownBlock = some g → g ≠ w.heap.size := fun g hg e => by have := h.old g (h.inV g hg); omega
  refine ⟨?_, ?_, ?_, ?_, ?_, ?_, Nat.le_refl _⟩
  · exact (hn2.far (p := ⟨w.heap.size, 0, none⟩) (Nat.ne_of_lt hB) _).far (p := ⟨w.heap.size, 5, none⟩) (Nat.ne_of_lt hB) _
  · exact own_same (own_same hv2 (fun g hg => Below.heap_setCell _ _ _ _ (hne g hg))) (fun g hg => Below.heap_setCell _ _ _ _ (hne g hg))
  · exact (hx2.set_ 0 _).set_ 5 _
  · exact ((hr.keep ((KeepT.refl 5 w2).setCell (p := ⟨w.heap.size, 0, none⟩) hx2 (by decide) _)).keep ((KeepT.refl 5 _).setCell (p := ⟨w.heap.size, 5, none⟩) (hx2.set_ 0 _) (by decide) _)).more (fun k hk _ => by omega)
  · exact (hu2.setCell (.inr (Nat.le_refl _)) _).setCell (.inr (Nat.le_refl _)) _
  · exact (hk2.setNew (Nat.le_refl _) _).setNew (Nat.le_refl _) _

theorem Mid.fin {W W4 w4 : World} {bx : Nat} {e : Ent} {v' : Value} (h : NetAt T w B S v l last) (hT : T ≠ 39) (hT5 : T ≠ 5) (m : Mid T w W B bx S v l e (last + 1)) (hlen : l.length < 300) (hlast : last < 1000000)
    (he : e.x.b.length ≤ 1200) (hec : e.x.b.length ≤ e.c) (hW : Below W.heap.size W W4) (hown : w4.ownsRow 0 39 6 v' (l.length + 1) (cellsOf l ++ e.cells)) (hgrow : W4.grownBy w4 v.ownBlock)
    (hblk : v'.ownBlock = v.ownBlock ∨ v'.ownBlock = some W4.heap.size) :
    ∃ S', NetAt T (w4.setCell ⟨B, 0, none⟩ v') B S' v' (l ++ [e]) (last + 1) ∧ After S S' w (w4.setCell ⟨B, 0, none⟩ v') := by
  have hB := h.blk.lt
  have hu4 : Upd S w W4 := m.upd.trans (Upd.new (S := fun _ => False) hW) (fun _ _ h => h.elim)
  have hk4 : KeepT 5 w W4 := m.keep.trans (KeepT.new hW)
  have hn4 : Blk W4 B T #[v, .int .i64 (last + 1)] := m.net.below hW m.net.lt
  have hr4 : W4.ownsRow 0 39 6 v l.length (cellsOf l) := own_same m.row (fun g hg => hW.block g (m.row.lt g hg).2)
  have hvB : v.ownBlock ≠ some B := own_blk_ne hr4 hn4 hT.symm
  have hn5 : Blk w4 B T #[v, .int .i64 (last + 1)] := hn4.grown hgrow (fun e => hvB e.symm)
  have hu5 : Upd S w w4 := hu4.grown hgrow (fun k hk => .inl (h.inV k hk))
  have hk5 : KeepT 5 w w4 := hk4.grown hgrow (fun k hk => by
    rcases hr4.2 with ⟨rfl, _⟩ | ⟨g, cap, cur, rfl, _, hh, _⟩
    · simp [Value.ownBlock] at hk
    · have : g = k := by simpa [Value.ownBlock] using hk
      subst this
      exact ⟨cur, 39, _, hh, by decide⟩)
  have hv'B : v'.ownBlock ≠ some B := own_blk_ne hown hn5 hT.symm
  have hu6 := hu5.setCell (p := ⟨B, 0, none⟩) (.inl h.inB) v'
  have hk6 := hk5.setCell (p := ⟨B, 0, none⟩) hn5 hT5 v'
  have hb4 : Rd w4 5 (fun k => w.heap.size ≤ k) 1 e.A e.x.b.length (enc8 e.x.b) := by
    have h1 := m.byt.below hW
    refine h1.keep ((KeepT.refl 5 W4).grown hgrow (fun k hk => ?_))
    rcases hr4.2 with ⟨rfl, _⟩ | ⟨g, cap, cur, rfl, _, hh, _⟩
    · simp [Value.ownBlock] at hk
    · have : g = k := by simpa [Value.ownBlock] using hk
      subst this
      exact ⟨cur, 39, _, hh, by decide⟩
  have hb6 : Rd (w4.setCell ⟨B, 0, none⟩ v') 5 (fun k => w.heap.size ≤ k) 1 e.A e.x.b.length (enc8 e.x.b) := hb4.keep ((KeepT.refl 5 w4).setCell (p := ⟨B, 0, none⟩) hn5 hT5 v')
  have hsz : w.heap.size ≤ (w4.setCell ⟨B, 0, none⟩ v').heap.size := hu6.size
  refine ⟨fun k => S k ∨ (w.heap.size ≤ k ∧ k < (w4.setCell ⟨B, 0, none⟩ v').heap.size), ⟨?_, ?_, .inl h.inB, ?_, ?_, ?_, ?_, ?_, ?_⟩, hu6, hk6, ?_⟩
  · exact hn5.set_ 0 v'
  · have : w4.ownsRow 0 39 6 v' (l ++ [e]).length (cellsOf (l ++ [e])) := by
      rw [List.length_append, cellsOf_append]
      simpa [cellsOf] using hown
    exact own_same this (fun g hg => Below.heap_setCell _ _ _ _ (fun e' => hv'B (by rw [hg, e'])))
  · intro g hg
    rcases hblk with h1 | h1
    · rw [h1] at hg; exact .inl (h.inV g hg)
    · rw [h1] at hg
      injection hg with hg
      have h2 := (hown.lt g (by rw [h1, hg])).2
      exact .inr ⟨by have := hu4.size; omega, by simpa using h2⟩
  · intro a ha
    rcases List.mem_append.1 ha with ha | ha
    · exact ⟨((h.byt a ha).1.keep hk6).more (fun k hk _ => .inl hk), (h.byt a ha).2⟩
    · rw [List.mem_singleton] at ha
      subst ha
      exact ⟨hb6.more (fun k hk hl => .inr ⟨hk, hl⟩), hec, he⟩
  · intro k hk
    rcases hk with hk | hk
    · exact Nat.lt_of_lt_of_le (h.old k hk) hsz
    · exact hk.2
  · simp; omega
  · have := h.lo; omega
  · omega
  · intro k hk
    rcases hk with hk | hk
    · exact .inl hk
    · exact .inr hk.1

set_option maxRecDepth 100000 in
theorem put_full (h : NetAt 59 w B S v l last) (hf : 300 ≤ l.length) (a b c d e f : Value) : Calls Try.prog 23 #[.pointer (some ⟨B, 0, none⟩), .agg #[a, b, c, d, e, f]] w fun r w' => r = .returned (.tuple #[.int .i64 0, .int .i64 10]) ∧ Below w.heap.size w w' := by
  obtain ⟨A, c, rfl, hnc, hcm⟩ := own_slice h.row
  have hc0 : w.cell? ⟨B, 0, none⟩ = some (.slice A l.length c) := h.blk.cell 0
  have hB := h.blk.lt
  have hne : B ≠ w.heap.size := by omega
  have HN := Lib.hid h
  clear h
  generalize hn : l.length = n at *
  have Hn := Lib.hid hn
  clear hn
  go_enter Try.func23, Try.ntmps23
  go_wp2
  go_ret2
  exact ⟨rfl, (Below.refl _ _).alloc (Nat.le_refl _) _⟩

set_option maxHeartbeats 800000 in
theorem info39 : (Try.prog.info? 39).map (fun i => (i.zero, i.size, i.bytes)) = some (some (.agg #[.int .i64 0, .int .u32 0, .int .i64 0, .int .u32 0, .int .i64 0, .slice none 0 0]), 6, 64) := by kernel_rfl
/-- What put leaves where there is room. -/
def Put (T : TypeId) (w : World) (B : Nat) (S : Nat → Prop) (l : List Ent) (last : Int) (x : Snt) (r : Ending) (w' : World) : Prop :=
  r = .returned (.tuple #[.int .i64 (last + 1), .int .i64 0]) ∧ ∃ S' v' A1 c1, NetAt T w' B S' v' (l ++ [⟨{ x with no := last + 1 }, A1, c1⟩]) (last + 1) ∧ After S S' w w'

set_option maxHeartbeats 800000 in
set_option maxRecDepth 100000 in
theorem put_room (h : NetAt 59 w B S v l last) (hf : l.length < 300) (hlast : last < 1000000) (x : Snt) (A0 : Option Addr) (c0 : Nat) (S0 : Nat → Prop) (hr : RdA w S0 1 A0 x.b.length (enc8 x.b)) (hS0 : ∀ k, S0 k → k ≠ B) (hb : x.b.length ≤ 1200) (hcc : x.b.length ≤ c0) :
    Calls Try.prog 23 #[.pointer (some ⟨B, 0, none⟩), .agg #[.int .i64 x.no, .int .u32 x.fh, .int .i64 x.fp, .int .u32 x.th, .int .i64 x.tp, .slice A0 x.b.length c0]] w (Put 59 w B S l last x) := by
  obtain ⟨i0, hi, hz0, hz1, hz2⟩ := info_parts info39
  obtain ⟨A, c, rfl, hnc, hcm⟩ := own_slice h.row
  have k0 : w.cell? ⟨B, 0, none⟩ = some (.slice A l.length c) := h.blk.cell 0
  have k1 : w.cell? ⟨B, 1, none⟩ = some (.int .i64 last) := h.blk.cell 1
  have f0 : w.frozen? ⟨B, 0, none⟩ = false := h.blk.frozen 0
  have f1 : w.frozen? ⟨B, 1, none⟩ = false := h.blk.frozen 1
  have hB := h.blk.lt
  have hne : B ≠ w.heap.size := by omega
  have hlo := h.lo
  have HN := Lib.hid h
  have HR := Lib.hid hr
  clear h hr
  generalize hn : l.length = n at *
  have Hn := Lib.hid hn
  clear hn
  go_enter Try.func23, Try.ntmps23
  go_wp2
  have hR1 : RdA ((w.setCell ⟨B, 1, none⟩ (.int .i64 (last + 1))).alloc (.cells #[.int .i64 x.no, .int .u32 x.fh, .int .i64 x.fp, .int .u32 x.th, .int .i64 x.tp, .slice A0 x.b.length c0] 39)) S0 1 A0 x.b.length (enc8 x.b) :=
    (HR.out.same (fun k hk _ => Below.heap_setCell w ⟨B, 1, none⟩ _ k (hS0 k hk)) (by simp)).alloc _
  have hBk := ((HN.out.blk).set_ 1 (.int .i64 (last + 1))).alloc (.cells #[.int .i64 x.no, .int .u32 x.fh, .int .i64 x.fp, .int .u32 x.th, .int .i64 x.tp, .slice A0 x.b.length c0] 39)
  have hbx := Blk.new (w.setCell ⟨B, 1, none⟩ (.int .i64 (last + 1))) 39 #[.int .i64 x.no, .int .u32 x.fh, .int .i64 x.fp, .int .u32 x.th, .int .i64 x.tp, .slice A0 x.b.length c0]
  have hz : ((w.setCell ⟨B, 1, none⟩ (.int .i64 (last + 1))).alloc (.cells #[.int .i64 x.no, .int .u32 x.fh, .int .i64 x.fp, .int .u32 x.th, .int .i64 x.tp, .slice A0 x.b.length c0] 39)).heap.size = w.heap.size + 1 := by simp
  rw [World.size_setCell] at hbx
  have HZ := Lib.hid hz
  clear hz k0 k1 f0 f1
  generalize hW1 : (w.setCell ⟨B, 1, none⟩ (.int .i64 (last + 1))).alloc (.cells #[.int .i64 x.no, .int .u32 x.fh, .int .i64 x.fp, .int .u32 x.th, .int .i64 x.tp, .slice A0 x.b.length c0] 39) = W1 at *
  have HW1 := Lib.hid hW1
  clear hW1
  generalize hbn : w.heap.size = bx at *
  have HBN := Lib.hid hbn
  clear hbn
  have m1 : W1.cell? ⟨B, 1, none⟩ = some (.int .i64 (last + 1)) := hBk.cell 1
  have b0 : W1.cell? ⟨bx, 0, none⟩ = some (.int .i64 x.no) := hbx.cell 0
  have b5 : W1.cell? ⟨bx, 5, none⟩ = some (.slice A0 x.b.length c0) := hbx.cell 5
  have HBk := Lib.hid hBk
  have Hbx := Lib.hid hbx
  clear hBk hbx
  go_region_law (first | (go_simp; go_at_call 31; refine (Clone A0 c0 S0 x.b _ ?_ (by omega) hcc).mono ?_; (exact hR1); rintro r w2 ⟨A1, c1, rfl, hr1, hc1, hb1⟩; have hs1 : bx + 1 = W1.heap.size := HZ.out.symm; have Hs2 : Hid (bx + 1 ≤ w2.heap.size) := (by have := hb1.size; simp at this; exact Nat.le_trans (Nat.le_of_eq hs1) this); have q1 := (hb1.cell (p := ⟨B, 1, none⟩) (by simp; omega)).trans m1; have q0 := (hb1.cell (p := ⟨bx, 0, none⟩) (by simp; omega)).trans b0; have q5 := (hb1.cell (p := ⟨bx, 5, none⟩) (by simp; omega)).trans b5; have z0 := (hb1.frozen (p := ⟨bx, 0, none⟩) (by simp; omega)).trans (Hbx.out.frozen 0); have z5 := (hb1.frozen (p := ⟨bx, 5, none⟩) (by simp; omega)).trans (Hbx.out.frozen 5); have HR1 := Lib.hid hr1; have HB1 := Lib.hid hb1; clear hr1 hb1 hs1))
  all_goals
    have MM := Mid.of HN.out (by decide) (by decide) HBN.out HW1.out HB1.out HR1.out (c1 := c1)
    clear q0 q1 q5 z0 z5 m1 b0 b5
    generalize ((w2.setCell ⟨bx, 0, none⟩ (.int .i64 (last + 1))).setCell ⟨bx, 5, none⟩ (.slice A1 x.b.length c1)) = W3 at *
    have n0 : W3.cell? ⟨B, 0, none⟩ = some (.slice A n c) := MM.net.cell 0
    have nf : W3.frozen? ⟨B, 0, none⟩ = false := MM.net.frozen 0
    have x0 : W3.cell? ⟨bx, 0, none⟩ = some (.int .i64 (last + 1)) := MM.box.cell 0
    have x1 : W3.cell? ⟨bx, 1, none⟩ = some (.int .u32 x.fh) := MM.box.cell 1
    have x2 : W3.cell? ⟨bx, 2, none⟩ = some (.int .i64 x.fp) := MM.box.cell 2
    have x3 : W3.cell? ⟨bx, 3, none⟩ = some (.int .u32 x.th) := MM.box.cell 3
    have x4 : W3.cell? ⟨bx, 4, none⟩ = some (.int .i64 x.tp) := MM.box.cell 4
    have x5 : W3.cell? ⟨bx, 5, none⟩ = some (.slice A1 x.b.length c1) := MM.box.cell 5
    have hBl : B < W3.heap.size := MM.net.lt
    have hBx : bx < W3.heap.size := MM.box.lt
    have hb3 : B ≠ W3.heap.size := by omega
    have hx3 : bx ≠ W3.heap.size := by omega
    have hvB := own_blk_ne MM.row MM.net (by decide)
    have row3 : W3.ownsRow 0 39 6 (.slice A n c) n (cellsOf l) := by have := MM.row; rwa [Hn.out] at this
    have new3 : Rd (W3.alloc (.cells (Ent.cells ⟨{ x with no := last + 1 }, A1, c1⟩).toArray 39)) 39 (fun _ => True) 6 (some ⟨W3.heap.size, 0, none⟩) 1 (Ent.cells ⟨{ x with no := last + 1 }, A1, c1⟩) := Rd.new W3 39 _ 6 1 rfl
    have HvB := Lib.hid hvB
    have hvx : (Value.slice A n c).ownBlock ≠ some bx := fun e => by have h1 := HN.out.old bx (HN.out.inV bx e); have h2 := HBN.out; omega
    have HvX := Lib.hid hvx
    have R3 := Lib.hid row3
    have E3 := Lib.hid new3
    have M := Lib.hid MM
    clear MM hvB hvx row3 new3
    go_wp2
    go_region_law (refine step_append_any _ (by rfl) (.tmp 32) (.tmp 34) 48 (by rfl) 0 39 i0 _ 6 64 Try.underlying48 hi hz0 hz1 hz2 (by rfl) (by decide) (.slice A n c) n (cellsOf l) (by simp [Act.eval, Act.put]) (by exact R3.out.alloc _) (fun _ => True) (some ⟨W3.heap.size, 0, none⟩) 1 1 (Ent.cells ⟨{ x with no := last + 1 }, A1, c1⟩) (by simp [Act.eval, Act.put]) (by exact E3.out.a) (fun u hu => cellsOf_one [⟨{ x with no := last + 1 }, A1, c1⟩] u (by simpa [cellsOf] using hu)) (by unfold maxLen; omega) (by omega) (by omega) ?_; intro v' w4 hown' hgrow hblk; obtain ⟨A', c', rfl, hc1', hc2'⟩ := own_slice hown'; have hk4 := ((M.out.net.alloc (.cells (Ent.cells ⟨{ x with no := last + 1 }, A1, c1⟩).toArray 39)).drew).grown hgrow (fun e => HvB.out e.symm); have hx4 := ((M.out.box.alloc (.cells (Ent.cells ⟨{ x with no := last + 1 }, A1, c1⟩).toArray 39)).drew).grown hgrow (fun e => HvX.out e.symm); have q0 : w4.cell? ⟨B, 0, none⟩ = some (.slice A n c) := hk4.cell 0; have qf : w4.frozen? ⟨B, 0, none⟩ = false := hk4.frozen 0; have qx : w4.cell? ⟨bx, 0, none⟩ = some (.int .i64 (last + 1)) := hx4.cell 0; have HO := Lib.hid hown'; have HG := Lib.hid hgrow; have HB4 := Lib.hid hblk; clear hown' hgrow hblk hk4 hx4)
    all_goals
      go_wp2
      go_ret2
      refine ⟨rfl, ?_⟩
      obtain rfl := Hn.out
      obtain ⟨S', hn', ha'⟩ := Mid.fin HN.out (by decide) (by decide) M.out hf hlast hb hc1 ((Below.refl _ W3).alloc (Nat.le_refl _) _).drew HO.out HG.out HB4.out
      exact ⟨S', _, A1, c1, hn', ha'⟩
end Go.Proofs.Ytgifmadidgjgbaa
