/- Contracts of this seat: the reference's net: a Take that hits. No condition. -/
import Derived.Test.YtgifmadidgjgbaaRefE
import Derived.Test.YtgifmadidgjgbaaSameB
set_option linter.unusedVariables false
set_option linter.unusedSimpArgs false
namespace Go.Proofs.Ytgifmadidgjgbaa
open Go.RowKit
attribute [local go_sem ↓] Go.wp_at_zero Go.wp_at_succ

variable {T : TypeId} {w w' : World} {B : Nat} {S U : Nat → Prop} {v : Value} {l : List Ent} {last : Int}

/-- The list without one, as the two parts that are appended. -/
theorem cellsOf_cut (l : List Ent) (i : Nat) (hi : i < l.length) : (cellsOf l).take (i * 6) ++ (cellsOf l).drop ((i + 1) * 6) = cellsOf (l.eraseIdx i) := by
  rw [← cellsOf_take, ← cellsOf_drop, ← cellsOf_append, List.eraseIdx_eq_take_drop_succ]

theorem rtake_fin {v2 : Value} {i : Nat} {w5 : World} (h : NetAt 50 w B S v l last) (hi : i < l.length) (hb : Below w.heap.size w w5) (ho : w5.ownsRow (w.heap.size + 1) 39 6 v2 (l.length - 1) (cellsOf (l.eraseIdx i))) (L : List Value) :
    ∃ S', NetAt 50 (putL (w5.setCell ⟨B, 0, none⟩ v2) w.heap.size 0 L) B S' v2 (l.eraseIdx i) last ∧ After S S' w (putL (w5.setCell ⟨B, 0, none⟩ v2) w.heap.size 0 L) := by
  have hB := h.blk.lt
  have hB5 : Blk w5 B 50 #[v, .int .i64 last] := h.blk.below hb hB
  have hu : Upd S w (putL (w5.setCell ⟨B, 0, none⟩ v2) w.heap.size 0 L) := ((Upd.new hb).setCell (p := ⟨B, 0, none⟩) (.inl h.inB) _).putAt (.inr (Nat.le_refl _)) L
  have hk : KeepT 5 w (putL (w5.setCell ⟨B, 0, none⟩ v2) w.heap.size 0 L) := ((KeepT.new hb).setCell (p := ⟨B, 0, none⟩) hB5 (by decide) _).putNew (Nat.le_refl _) L
  have hsz := hu.size
  have hlen : (l.eraseIdx i).length = l.length - 1 := by rw [List.length_eraseIdx, if_pos hi]
  refine ⟨fun k => S k ∨ (w.heap.size ≤ k ∧ k < (putL (w5.setCell ⟨B, 0, none⟩ v2) w.heap.size 0 L).heap.size), ⟨?_, ?_, .inl h.inB, ?_, ?_, ?_, ?_, h.lo, h.hi⟩, hu, hk, ?_⟩
  · show (putL _ _ _ _).heap[B]? = _
    rw [putL_heap L 0 _ B (by omega)]
    exact hB5.set_ 0 _
  · rw [hlen]
    refine own_base (own_same ho (fun g hg => ?_)) (Nat.zero_le _)
    have h1 := ho.lt g hg
    rw [putL_heap L 0 _ g (by omega)]
    exact Below.heap_setCell _ _ _ _ (by show g ≠ B; omega)
  · intro g hg
    have h1 := ho.lt g hg
    refine .inr ⟨by omega, ?_⟩
    rw [putL_size]
    simpa using h1.2
  · intro e he
    have he' := List.mem_of_mem_eraseIdx he
    exact ⟨((h.byt e he').1.keep hk).more (fun k hk _ => .inl hk), (h.byt e he').2⟩
  · intro k hk
    rcases hk with hk | hk
    · exact Nat.lt_of_lt_of_le (h.old k hk) hsz
    · exact hk.2
  · have := h.len
    omega
  · intro k hk
    rcases hk with hk | hk
    · exact .inl hk
    · exact .inr hk.1

theorem rtake_below {w4 w5 W1 : World} {v1 v2 : Value} {n1 : Nat} {xs1 : List Value} {k0 : Nat} (hb : Below w.heap.size w W1) (hg1 : W1.grownBy w4 (some k0)) (hk0 : w.heap.size ≤ k0) (ho1 : w4.ownsRow (w.heap.size + 1) 39 6 v1 n1 xs1) (hg2 : w4.grownBy w5 v1.ownBlock) : Below w.heap.size w w5 :=
  (hb.grown hg1 hb.size (fun k e => by injection e with e; omega)).grown hg2 (by have := hb.size; have := hg1.size; omega) (fun k e => by have := (ho1.lt k e).1; omega)

set_option maxHeartbeats 1600000 in
set_option maxRecDepth 100000 in
theorem rTakeHit (h : NetAt 50 w B S v l last) (no : Int) (i : Nat) (e : Ent) (he : l[i]? = some e) (hf : findNo l no 0 = i) : Calls Try.prog 18 #[.pointer (some ⟨B, 0, none⟩), .int .i64 no] w fun r w' => r = .returned (.tuple #[.agg #[.int .i64 e.x.no, .int .u32 e.x.fh, .int .i64 e.x.fp, .int .u32 e.x.th, .int .i64 e.x.tp, .slice e.A e.x.b.length e.c], .int .i64 0]) ∧ ∃ S' v', NetAt 50 w' B S' v' (l.eraseIdx i) last ∧ After S S' w w' := by
  have hil : i < l.length := (List.getElem?_eq_some_iff.1 he).1
  obtain ⟨g, c, rfl, _, hgl⟩ := h.row.form (by omega)
  obtain ⟨A9, c9, he9, hnc, hcm⟩ := own_slice h.row
  injection he9 with h91 _ h93
  subst h91 h93
  have hp := rfind (h.below ((Below.refl _ w).alloc (Nat.le_refl _) (.cells #[.int .i64 0, .int .u32 0, .int .i64 0, .int .u32 0, .int .i64 0, .slice none 0 0] 39))) no
  rw [hf] at hp
  have HP := Lib.hid hp
  have hB := h.blk.lt
  have hlen := h.len
  have HN := Lib.hid h
  have HE := Lib.hid he
  have hne : B ≠ w.heap.size := by omega
  obtain ⟨c0, c1, c2, c3, c4, c5⟩ := (h.below ((Below.refl _ w).alloc (Nat.le_refl _) (.cells #[.int .i64 0, .int .u32 0, .int .i64 0, .int .u32 0, .int .i64 0, .slice none 0 0] 39))).elem he
  have q0 : w.cell? ⟨B, 0, none⟩ = some (.slice (some ⟨g, 0, none⟩) l.length c) := h.blk.cell 0
  have qf : w.frozen? ⟨B, 0, none⟩ = false := h.blk.frozen 0
  clear hp h hf he
  generalize hn : l.length = n at *
  have Hn := Lib.hid hn
  clear hn
  have hi1 : (i : Int) < (n : Int) := by omega
  have hi0 : ¬ (i : Int) < 0 := by omega
  go_enter Try.func18, Try.ntmps18
  go_wp2_with (go_at_call 28; refine HP.out.mono ?_; rintro r w1 ⟨rfl, rfl⟩)
  have hb1 : Below w.heap.size w ((w.alloc (.cells #[.int .i64 0, .int .u32 0, .int .i64 0, .int .u32 0, .int .i64 0, .slice none 0 0] 39)).alloc (.cells #[.int .i64 e.x.no, .int .u32 e.x.fh, .int .i64 e.x.fp, .int .u32 e.x.th, .int .i64 e.x.tp, .slice e.A e.x.b.length e.c] 39)) := ((Below.refl _ w).alloc (Nat.le_refl _) _).alloc (by simp) _
  have hx0 := (Blk.new w 39 #[.int .i64 0, .int .u32 0, .int .i64 0, .int .u32 0, .int .i64 0, .slice none 0 0]).alloc (.cells #[.int .i64 e.x.no, .int .u32 e.x.fh, .int .i64 e.x.fp, .int .u32 e.x.th, .int .i64 e.x.tp, .slice e.A e.x.b.length e.c] 39)
  have hx1 := Blk.new (w.alloc (.cells #[.int .i64 0, .int .u32 0, .int .i64 0, .int .u32 0, .int .i64 0, .slice none 0 0] 39)) 39 #[.int .i64 e.x.no, .int .u32 e.x.fh, .int .i64 e.x.fp, .int .u32 e.x.th, .int .i64 e.x.tp, .slice e.A e.x.b.length e.c]
  rw [World.size_alloc] at hx1
  have hr1 := HN.out.row.alloc (.cells #[.int .i64 0, .int .u32 0, .int .i64 0, .int .u32 0, .int .i64 0, .slice none 0 0] 39)
  have hrd := ((HN.out.rd.alloc (.cells #[.int .i64 0, .int .u32 0, .int .i64 0, .int .u32 0, .int .i64 0, .slice none 0 0] 39)).alloc (.cells #[.int .i64 e.x.no, .int .u32 e.x.fh, .int .i64 e.x.fp, .int .u32 e.x.th, .int .i64 e.x.tp, .slice e.A e.x.b.length e.c] 39)).a
  have q0' : ((w.alloc (.cells #[.int .i64 0, .int .u32 0, .int .i64 0, .int .u32 0, .int .i64 0, .slice none 0 0] 39)).alloc (.cells #[.int .i64 e.x.no, .int .u32 e.x.fh, .int .i64 e.x.fp, .int .u32 e.x.th, .int .i64 e.x.tp, .slice e.A e.x.b.length e.c] 39)).cell? ⟨B, 0, none⟩ = some (.slice (some ⟨g, 0, none⟩) n c) := (hb1.cell (p := ⟨B, 0, none⟩) hB).trans q0
  have hz1 : w.heap.size + 1 < ((w.alloc (.cells #[.int .i64 0, .int .u32 0, .int .i64 0, .int .u32 0, .int .i64 0, .slice none 0 0] 39)).alloc (.cells #[.int .i64 e.x.no, .int .u32 e.x.fh, .int .i64 e.x.fp, .int .u32 e.x.th, .int .i64 e.x.tp, .slice e.A e.x.b.length e.c] 39)).heap.size := by simp
  clear c0 c1 c2 c3 c4 c5 q0 HP
  have hw0 : w.heap.size + 1 ≠ ((w.alloc (.cells #[.int .i64 0, .int .u32 0, .int .i64 0, .int .u32 0, .int .i64 0, .slice none 0 0] 39)).alloc (.cells #[.int .i64 e.x.no, .int .u32 e.x.fh, .int .i64 e.x.fp, .int .u32 e.x.th, .int .i64 e.x.tp, .slice e.A e.x.b.length e.c] 39)).heap.size := by simp
  generalize hW1 : (w.alloc (.cells #[.int .i64 0, .int .u32 0, .int .i64 0, .int .u32 0, .int .i64 0, .slice none 0 0] 39)).alloc (.cells #[.int .i64 e.x.no, .int .u32 e.x.fh, .int .i64 e.x.fp, .int .u32 e.x.th, .int .i64 e.x.tp, .slice e.A e.x.b.length e.c] 39) = W1 at *
  have HO1 : Hid ((W1.alloc (.cells #[] 39)).ownsRow W1.heap.size 39 6 (.slice (some ⟨W1.heap.size, 0, none⟩) 0 0) 0 []) := World.ownsRow_made W1 #[] 0 (Nat.le_refl _) (by simp [maxLen]) rfl
  have hr2 := (HN.out.rd.alloc (.cells #[.int .i64 0, .int .u32 0, .int .i64 0, .int .u32 0, .int .i64 0, .slice none 0 0] 39)).alloc (.cells #[.int .i64 e.x.no, .int .u32 e.x.fh, .int .i64 e.x.fp, .int .u32 e.x.th, .int .i64 e.x.tp, .slice e.A e.x.b.length e.c] 39)
  rw [hW1] at hr2
  have HRA : Hid (RdA (W1.alloc (.cells #[] 39)) S 6 (some ⟨g, 0, none⟩) i ((cellsOf l).take (i * 6))) := ((hr2.alloc (.cells #[] 39)).take (by rw [Hn.out]; omega)).a
  have HB1 := Lib.hid hb1
  have HX0 := Lib.hid hx0
  have HX1 := Lib.hid hx1
  have hBne : B ≠ W1.heap.size := by have := hb1.size; omega
  have hBl : B < W1.heap.size := by have := hb1.size; omega
  have qf' : W1.frozen? ⟨B, 0, none⟩ = false := (hb1.frozen (p := ⟨B, 0, none⟩) hB).trans qf
  clear hb1 hx0 hx1 hr1 hrd hr2 hW1 qf
  have hone1 : ∀ u ∈ (cellsOf l).take (i * 6), u.oneCell' = true := fun u hu => cellsOf_one l u (List.mem_of_mem_take hu)
  have hone2 : ∀ u ∈ (cellsOf l).drop ((i + 1) * 6), u.oneCell' = true := fun u hu => cellsOf_one l u (List.mem_of_mem_drop hu)
  have HONE1 := Lib.hid hone1
  have HONE2 := Lib.hid hone2
  clear hone1 hone2
  have hwr : IntKind.i64.wrap ((i : Int) + 1) = (i : Int) + 1 := IntWalk.i64_in _ (by omega)
  have hi2 : (0 : Int) ≤ (i : Int) + 1 := by omega
  have hi3 : (i : Int) + 1 ≤ (n : Int) := by omega
  have hi4 : (i : Int) ≤ (n : Int) := by omega
  have hi5 : ((i : Int) + 1).toNat = i + 1 := by omega
  have hic : i ≤ c := by omega
  have hic' : (i : Int) ≤ (c : Int) := by omega
  have hin : i ≤ n := by omega
  have hin1 : i + 1 ≤ n := by omega
  obtain ⟨i0, hi, hz0, hzz1, hz2⟩ := info_parts info39
  have HCUT := Lib.hid (cellsOf_cut l i (by rw [Hn.out]; exact hil))
  have hW4 : ∀ w4 v1, (W1.alloc (.cells #[] 39)).drew.grownBy w4 (some W1.heap.size) → w4.ownsRow W1.heap.size 39 6 v1 i ((cellsOf l).take (i * 6)) → Below W1.heap.size W1 w4 ∧ RdA w4 S 6 (if c = i + 1 then some ⟨g, 0, none⟩ else some ⟨g, (i + 1) * 6, none⟩) (n - (i + 1)) ((cellsOf l).drop ((i + 1) * 6)) ∧ w4.cell? ⟨B, 0, none⟩ = some (.slice (some ⟨g, 0, none⟩) n c) ∧ w4.frozen? ⟨B, 0, none⟩ = false ∧ W1.heap.size ≤ w4.heap.size := fun w4 v1 hg1 _ => by
    have hb4 : Below W1.heap.size W1 w4 := (((Below.refl _ W1).alloc (Nat.le_refl _) _).drew).grown hg1 (by simp) (fun k e => by injection e with e; omega)
    have hbw : Below w.heap.size w w4 := HB1.out.trans (hb4.mono HB1.out.size)
    have := Rd.dropA (HN.out.rd.below hbw).a (k := i + 1) (by rw [Hn.out]; exact hin1)
    rw [Hn.out] at this
    rw [Nat.zero_add] at this
    have hB4 := (HN.out.blk.below hbw hB)
    refine ⟨hb4, ?_, hB4.cell 0, hB4.frozen 0, hb4.size⟩
    by_cases hc : c = i + 1
    · exact ⟨this.1, fun h => by omega⟩
    · rw [if_neg hc]; exact this
  have HW4 := Lib.hid hW4
  clear hW4
  have hW5 : ∀ (w4 w5 : World) A1 c1, Below W1.heap.size W1 w4 → w4.ownsRow W1.heap.size 39 6 (.slice A1 i c1) i ((cellsOf l).take (i * 6)) → w4.grownBy w5 (Value.slice A1 i c1).ownBlock →
      w5.cell? ⟨B, 0, none⟩ = some (.slice (some ⟨g, 0, none⟩) n c) ∧ w5.frozen? ⟨B, 0, none⟩ = false ∧ Below W1.heap.size W1 w5 := fun w4 w5 A1 c1 h4 ho hg => by
    have hb5 : Below W1.heap.size W1 w5 := h4.grown hg h4.size (fun k e => (ho.lt k e).1)
    have hB5 := (HN.out.blk.below (HB1.out.trans (hb5.mono HB1.out.size)) hB)
    exact ⟨hB5.cell 0, hB5.frozen 0, hb5⟩
  have HNM : Hid (i + (n - (i + 1)) = n - 1) := (by omega : i + (n - (i + 1)) = n - 1)
  have HW5 := Lib.hid hW5
  clear hW5
  go_region_law (first | (refine step_append_any _ (by rfl) (.tmp 22) (.tmp 28) 48 (by rfl) W1.heap.size 39 i0 _ 6 64 Try.underlying48 hi hz0 hzz1 hz2 (by rfl) (by decide) (.slice (some ⟨W1.heap.size, 0, none⟩) 0 0) 0 [] (by simp [Act.eval, Act.put]) (by exact HO1.out) S (some ⟨g, 0, none⟩) i c ((cellsOf l).take (i * 6)) (by simp [Act.eval, Act.put]) (by exact HRA.out) HONE1.out (by unfold maxLen; omega) (by omega) (by simp) ?_; intro v1 w4 hown1 hgrow1 hblk1; simp only [Nat.zero_add, List.nil_append] at hown1; obtain ⟨A1, c1, rfl, _, _⟩ := own_slice hown1; obtain ⟨hb4, hr4, q4, f4, hz4⟩ := HW4.out w4 _ hgrow1 hown1; have HB4 := Lib.hid hb4; have HR4 := Lib.hid hr4; have HW1 := Lib.hid hown1; clear hown1 hgrow1 hblk1 hb4 hr4) | (refine step_append_any _ (by rfl) (.tmp 29) (.tmp 36) 48 (by rfl) W1.heap.size 39 i0 _ 6 64 Try.underlying48 hi hz0 hzz1 hz2 (by rfl) (by decide) (.slice A1 i c1) i ((cellsOf l).take (i * 6)) (by simp [Act.eval, Act.put]) (by exact HW1.out) S (if c = i + 1 then some ⟨g, 0, none⟩ else some ⟨g, (i + 1) * 6, none⟩) (n - (i + 1)) (c - (i + 1)) ((cellsOf l).drop ((i + 1) * 6)) (by simp [Act.eval, Act.put]) (by exact HR4.out) HONE2.out (by unfold maxLen; omega) (by omega) (by omega) ?_; intro v2 w5 hown2 hgrow2 hblk2; obtain ⟨q5, f5, hb5⟩ := HW5.out w4 w5 A1 c1 HB4.out HW1.out hgrow2; rw [HNM.out, HCUT.out] at hown2; obtain ⟨A2, c2, rfl, _, _⟩ := own_slice hown2; have HB5 := Lib.hid hb5; have HO5 := Lib.hid hown2; clear hown2 hgrow2 hblk2 hb5))
  all_goals
    have hz1' := HB1.out.size
    have hX0 := HX0.out.below HB5.out (by omega)
    have hX1 := HX1.out.below HB5.out (by omega)
    obtain ⟨S', hfin⟩ := rtake_fin HN.out (i := i) (by rw [Hn.out]; exact hil) (HB1.out.trans (HB5.out.mono HB1.out.size)) (by rw [Hn.out]; exact own_base HO5.out (by omega)) e.cells
    have hne1 : w.heap.size ≠ B := by omega
    have hne2 : w.heap.size + 1 ≠ B := by omega
    have hY0 := hX0.far (p := ⟨B, 0, none⟩) hne1 (.slice A2 (n - 1) c2)
    have hY1 := hX1.far (p := ⟨B, 0, none⟩) hne2 (.slice A2 (n - 1) c2)
    have hk := hY0.putAt e.cells rfl
    have r0 := hY0.cell 0; have r1 := hY0.cell 1; have r2 := hY0.cell 2; have r3 := hY0.cell 3; have r4 := hY0.cell 4; have r5 := hY0.cell 5
    have z0 := hY0.frozen 0; have z1 := hY0.frozen 1; have z2 := hY0.frozen 2; have z3 := hY0.frozen 3; have z4 := hY0.frozen 4; have z5 := hY0.frozen 5
    have d0 := hY1.cell 0; have d1 := hY1.cell 1; have d2 := hY1.cell 2; have d3 := hY1.cell 3; have d4 := hY1.cell 4; have d5 := hY1.cell 5
    simp only [List.getElem?_toArray, List.getElem?_cons_zero, List.getElem?_cons_succ] at r0 r1 r2 r3 r4 r5 d0 d1 d2 d3 d4 d5
    have HF := Lib.hid hfin
    have HK := Lib.hid hk
    clear hfin hk hX0 hX1 hY0 hY1 q4 f4 q5 f5 q0' qf' hwr hi2 hi3 hi4 hi5 hi0 hi1 hic hic' hin hin1 hz4 hBne hBl hw0 hz1 hz1' hne2 hi hz0 hzz1 hz2 hlen hnc
    generalize w5.setCell ⟨B, 0, none⟩ (.slice A2 (n - 1) c2) = W6 at *
    clear HB4 HR4 HW1 HB5 HO5 HW4 HW5 HRA HO1 HCUT HNM HONE1 HONE2
    generalize (if c = i + 1 then (some ⟨g, 0, none⟩ : Option Addr) else some ⟨g, (i + 1) * 6, none⟩) = A9 at *
    go_wp2
    change bodyPost _ _ _ _ _ (putL W6 w.heap.size 0 e.cells)
    generalize putL W6 w.heap.size 0 e.cells = W at *
    clear r0 r1 r2 r3 r4 r5 z0 z1 z2 z3 z4 z5 d0 d1 d2 d3 d4 d5
    have p0 : W.cell? ⟨w.heap.size, 0, none⟩ = some (.int .i64 e.x.no) := HK.out.cell 0
    have p1 : W.cell? ⟨w.heap.size, 1, none⟩ = some (.int .u32 e.x.fh) := HK.out.cell 1
    have p2 : W.cell? ⟨w.heap.size, 2, none⟩ = some (.int .i64 e.x.fp) := HK.out.cell 2
    have p3 : W.cell? ⟨w.heap.size, 3, none⟩ = some (.int .u32 e.x.th) := HK.out.cell 3
    have p4 : W.cell? ⟨w.heap.size, 4, none⟩ = some (.int .i64 e.x.tp) := HK.out.cell 4
    have p5 : W.cell? ⟨w.heap.size, 5, none⟩ = some (.slice e.A e.x.b.length e.c) := HK.out.cell 5
    exact bodyPost_ret (v := .tuple #[.agg e.cells.toArray, .int .i64 0]) (by simp [results, Try.results18, go_sem, p0, p1, p2, p3, p4, p5, Ent.cells]) rfl ⟨rfl, S', _, HF.out.1, HF.out.2⟩
end Go.Proofs.Ytgifmadidgjgbaa
