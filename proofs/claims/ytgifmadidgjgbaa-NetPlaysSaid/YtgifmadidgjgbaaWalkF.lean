/- Contracts of this seat: Take. No condition. -/
import Derived.Test.YtgifmadidgjgbaaWalkD
import Derived.Test.YtgifmadidgjgbaaWalkE
set_option linter.unusedVariables false
set_option linter.unusedSimpArgs false
namespace Go.Proofs.Ytgifmadidgjgbaa
open Go.RowKit

variable {T : TypeId} {w w' : World} {B : Nat} {S U : Nat → Prop} {v : Value} {l : List Ent} {last : Int}

set_option maxRecDepth 100000 in
theorem TakeMiss (h : NetAt 59 w B S v l last) (no : Int) (hf : findNo l no 0 = -1) : Calls Try.prog 12 #[.pointer (some ⟨B, 0, none⟩), .int .i64 no] w fun r w' => r = .returned (.tuple #[.agg #[.int .i64 0, .int .u32 0, .int .i64 0, .int .u32 0, .int .i64 0, .slice none 0 0], .int .i64 5]) ∧ Below w.heap.size w w' := by
  have hp := place (h.below (((Below.refl _ w).alloc (Nat.le_refl _) (.cells #[.int .i64 0, .int .u32 0, .int .i64 0, .int .u32 0, .int .i64 0, .slice none 0 0] 39)))) no
  rw [hf] at hp
  have HP := Lib.hid hp
  have hB := h.blk.lt
  have HN := Lib.hid h
  clear hp h hf
  go_enter Try.func12, Try.ntmps12
  go_wp2_with (go_at_call 24; refine HP.out.mono ?_; rintro r w1 ⟨rfl, hb1⟩; have hx1 := (Blk.new w 39 #[.int .i64 0, .int .u32 0, .int .i64 0, .int .u32 0, .int .i64 0, .slice none 0 0]).below hb1 (by simp); have q0 := hx1.cell 0; have q1 := hx1.cell 1; have q2 := hx1.cell 2; have q3 := hx1.cell 3; have q4 := hx1.cell 4; have q5 := hx1.cell 5; have z0 := hx1.frozen 0; have z1 := hx1.frozen 1; have z2 := hx1.frozen 2; have z3 := hx1.frozen 3; have z4 := hx1.frozen 4; have z5 := hx1.frozen 5; simp at q0 q1 q2 q3 q4 q5; have HB1 := Lib.hid hb1; have HX1 := Lib.hid hx1; clear hb1 hx1)
  change bodyPost _ _ _ _ _ (putL w1 w.heap.size 0 zero6)
  have hk := HX1.out.putAt zero6 rfl
  have hb2 : Below w.heap.size w (putL w1 w.heap.size 0 zero6) := below_putAt (((Below.refl _ w).alloc (Nat.le_refl _) _).trans (HB1.out.mono (by simp))) (Nat.le_refl _) _
  generalize putL w1 w.heap.size 0 zero6 = W at *
  clear q0 q1 q2 q3 q4 q5 z0 z1 z2 z3 z4 z5
  have p0 : W.cell? ⟨w.heap.size, 0, none⟩ = some (.int .i64 0) := hk.cell 0
  have p1 : W.cell? ⟨w.heap.size, 1, none⟩ = some (.int .u32 0) := hk.cell 1
  have p2 : W.cell? ⟨w.heap.size, 2, none⟩ = some (.int .i64 0) := hk.cell 2
  have p3 : W.cell? ⟨w.heap.size, 3, none⟩ = some (.int .u32 0) := hk.cell 3
  have p4 : W.cell? ⟨w.heap.size, 4, none⟩ = some (.int .i64 0) := hk.cell 4
  have p5 : W.cell? ⟨w.heap.size, 5, none⟩ = some (.slice none 0 0) := hk.cell 5
  refine bodyPost_ret (v := .tuple #[.agg #[.int .i64 0, .int .u32 0, .int .i64 0, .int .u32 0, .int .i64 0, .slice none 0 0], .int .i64 5]) (by simp [results, Try.results12, go_sem, p0, p1, p2, p3, p4, p5]) rfl ⟨rfl, hb2⟩

theorem NetAt.elem {g n c i : Nat} {e : Ent} (h : NetAt T w B S (.slice (some ⟨g, 0, none⟩) n c) l last) (he : l[i]? = some e) :
    w.cell? ⟨g, i * 6, none⟩ = some (.int .i64 e.x.no) ∧ w.cell? ⟨g, i * 6 + 1, none⟩ = some (.int .u32 e.x.fh) ∧ w.cell? ⟨g, i * 6 + 2, none⟩ = some (.int .i64 e.x.fp) ∧ w.cell? ⟨g, i * 6 + 3, none⟩ = some (.int .u32 e.x.th) ∧
      w.cell? ⟨g, i * 6 + 4, none⟩ = some (.int .i64 e.x.tp) ∧ w.cell? ⟨g, i * 6 + 5, none⟩ = some (.slice e.A e.x.b.length e.c) := by
  obtain ⟨b, o, hA, _, _, hcell⟩ := h.rd.elem (k := i) (List.getElem?_eq_some_iff.1 he).1
  injection hA with hA
  injection hA with h1 h2
  subst h1 h2
  have key : ∀ j u, j < 6 → e.cells[j]? = some u → w.cell? ⟨g, i * 6 + j, none⟩ = some u := fun j u hj hu => by
    have := hcell j u (by rw [cellsOf_at l i e he j hj]; exact hu)
    rwa [Nat.zero_add] at this
  exact ⟨key 0 _ (by omega) rfl, key 1 _ (by omega) rfl, key 2 _ (by omega) rfl, key 3 _ (by omega) rfl, key 4 _ (by omega) rfl, key 5 _ (by omega) rfl⟩

theorem findNo_hit {l : List Ent} {no : Int} {i : Nat} {e : Ent} (h : l[i]? = some e) (hf : findNo l no 0 = i) : i < l.length := (List.getElem?_eq_some_iff.1 h).1

theorem take_fin {g c n i : Nat} {w1 w2 : World} {cs : Array Value} {u : Value} (h : NetAt T w B S (.slice (some ⟨g, 0, none⟩) n c) l last) (hT : T ≠ 39) (hT5 : T ≠ 5) (hb1 : Below w.heap.size w w1) (hg2 : w1.grownBy w2 (some g))
    (hr2 : w2.ownsRow 0 39 6 (.slice (some ⟨g, 0, none⟩) (n - 1) c) (n - 1) (cellsOf (l.eraseIdx i))) (hl : l.length = n) (hi : i < n) (hB2 : Blk w2 B T #[u, .int .i64 last]) (hX2 : Blk w2 w.heap.size 39 cs) (L : List Value) :
    NetAt T (putL (w2.setCell ⟨B, 0, none⟩ (.slice (some ⟨g, 0, none⟩) (n - 1) c)) w.heap.size 0 L) B S (.slice (some ⟨g, 0, none⟩) (n - 1) c) (l.eraseIdx i) last ∧
      After S S w (putL (w2.setCell ⟨B, 0, none⟩ (.slice (some ⟨g, 0, none⟩) (n - 1) c)) w.heap.size 0 L) := by
  have hB := h.blk.lt
  have hg : S g := h.inV g rfl
  have hgl := h.old g hg
  have hgB : g ≠ B := fun e => own_blk_ne h.row h.blk hT.symm (by rw [← e]; rfl)
  obtain ⟨cur, hgc⟩ : ∃ cur, w1.heap[g]? = some (.cells cur 39 (0, 0)) := by
    rcases h.row.2 with ⟨h', _⟩ | ⟨g', cap, cur, h', _, hh, _⟩
    · cases h'
    · injection h' with h1
      injection h1 with h1
      injection h1 with h1
      subst h1
      exact ⟨cur, (hb1.block g hgl).trans hh⟩
  have hu : Upd S w (putL (w2.setCell ⟨B, 0, none⟩ (.slice (some ⟨g, 0, none⟩) (n - 1) c)) w.heap.size 0 L) :=
    (((Upd.new hb1).grown hg2 (fun k e => .inl (by injection e with e; rw [← e]; exact hg))).setCell (p := ⟨B, 0, none⟩) (.inl h.inB) _).putAt (.inr (Nat.le_refl _)) L
  have hk : KeepT 5 w (putL (w2.setCell ⟨B, 0, none⟩ (.slice (some ⟨g, 0, none⟩) (n - 1) c)) w.heap.size 0 L) :=
    (((KeepT.new hb1).grown hg2 (fun k e => by injection e with e; rw [← e]; exact ⟨cur, 39, _, hgc, by decide⟩)).setCell (p := ⟨B, 0, none⟩) hB2 hT5 _).putNew (Nat.le_refl _) L
  refine ⟨⟨?_, ?_, h.inB, ?_, ?_, ?_, ?_, h.lo, h.hi⟩, hu, hk, fun k hk => .inl hk⟩
  · show (putL _ _ _ _).heap[B]? = _
    rw [putL_heap L 0 _ B (by omega)]
    exact hB2.set_ 0 _
  · have : (l.eraseIdx i).length = n - 1 := by rw [List.length_eraseIdx, if_pos (by omega), hl]
    rw [this]
    refine own_same hr2 (fun g' hg' => ?_)
    have : g' = g := by simpa [Value.ownBlock] using hg'.symm
    subst this
    rw [putL_heap L 0 _ g' (by omega)]
    exact Below.heap_setCell _ _ _ _ hgB
  · intro g' hg'
    have : g' = g := by simpa [Value.ownBlock] using hg'.symm
    subst this
    exact hg
  · intro e he
    have he' := List.mem_of_mem_eraseIdx he
    exact ⟨(h.byt e he').1.keep hk, (h.byt e he').2⟩
  · intro k hk
    exact Nat.lt_of_lt_of_le (h.old k hk) hu.size
  · have := h.len
    rw [List.length_eraseIdx]
    split <;> omega

set_option maxHeartbeats 800000 in
set_option maxRecDepth 100000 in
theorem TakeHit (h : NetAt 59 w B S v l last) (no : Int) (i : Nat) (e : Ent) (he : l[i]? = some e) (hf : findNo l no 0 = i) : Calls Try.prog 12 #[.pointer (some ⟨B, 0, none⟩), .int .i64 no] w fun r w' => r = .returned (.tuple #[.agg #[.int .i64 e.x.no, .int .u32 e.x.fh, .int .i64 e.x.fp, .int .u32 e.x.th, .int .i64 e.x.tp, .slice e.A e.x.b.length e.c], .int .i64 0]) ∧ ∃ S' v', NetAt 59 w' B S' v' (l.eraseIdx i) last ∧ After S S' w w' := by
  have hil : i < l.length := (List.getElem?_eq_some_iff.1 he).1
  obtain ⟨g, c, rfl, _, hgl⟩ := h.row.form (by omega)
  have hp := place (h.below (((Below.refl _ w).alloc (Nat.le_refl _) (.cells #[.int .i64 0, .int .u32 0, .int .i64 0, .int .u32 0, .int .i64 0, .slice none 0 0] 39)))) no
  rw [hf] at hp
  have HP := Lib.hid hp
  have hB := h.blk.lt
  have hlen := h.len
  have HN := Lib.hid h
  have HE := Lib.hid he
  have hne : B ≠ w.heap.size := by omega
  clear hp h hf he
  generalize hn : l.length = n at *
  have Hn := Lib.hid hn
  clear hn
  have hi1 : (i : Int) < (n : Int) := by omega
  have hi0 : ¬ (i : Int) < 0 := by omega
  go_enter Try.func12, Try.ntmps12
  go_wp2_with (first | (go_at_call 24; refine HP.out.mono ?_; rintro r w1 ⟨rfl, hb1⟩; have HX1 := Lib.hid ((Blk.new w 39 #[.int .i64 0, .int .u32 0, .int .i64 0, .int .u32 0, .int .i64 0, .slice none 0 0]).below hb1 (by simp)); have hN1 := (HN.out.below ((Below.refl _ w).alloc (Nat.le_refl _) (.cells #[.int .i64 0, .int .u32 0, .int .i64 0, .int .u32 0, .int .i64 0, .slice none 0 0] 39))).below hb1; have q0 : w1.cell? ⟨B, 0, none⟩ = some (.slice (some ⟨g, 0, none⟩) n c) := hN1.blk.cell 0; obtain ⟨c0, c1, c2, c3, c4, c5⟩ := hN1.elem HE.out; have hw1 : w.heap.size + 1 ≤ w1.heap.size := (by have := hb1.size; simpa using this); have hBl1 : B < w1.heap.size := (by omega); have hne1 : B ≠ w1.heap.size := (by omega); have hxl1 : w.heap.size < w1.heap.size := (by omega); have hnx1 : w.heap.size ≠ w1.heap.size := (by omega); have hdel := Delete g c i l (w1.alloc (.cells #[.int .i64 e.x.no, .int .u32 e.x.fh, .int .i64 e.x.fp, .int .u32 e.x.th, .int .i64 e.x.tp, .slice e.A e.x.b.length e.c] 39)) (by have := hN1.row.alloc (.cells #[.int .i64 e.x.no, .int .u32 e.x.fh, .int .i64 e.x.fp, .int .u32 e.x.th, .int .i64 e.x.tp, .slice e.A e.x.b.length e.c] 39); rwa [← Hn.out] at this) (by rw [Hn.out]; exact hil) (by rw [Hn.out]; exact hlen); rw [Hn.out] at hdel; have HD := Lib.hid hdel; have HB1 := Lib.hid hb1; have HN1 := Lib.hid hN1; clear hb1 hN1 hdel) | (go_at_call 25; refine HD.out.mono ?_; rintro r w2 ⟨rfl, hrow2, hg2⟩; have hB2 := (HN1.out.blk.alloc (.cells #[.int .i64 e.x.no, .int .u32 e.x.fh, .int .i64 e.x.fp, .int .u32 e.x.th, .int .i64 e.x.tp, .slice e.A e.x.b.length e.c] 39)).grown hg2 (fun e' => own_blk_ne HN1.out.row HN1.out.blk (by decide) e'.symm); have b0 : w2.cell? ⟨B, 0, none⟩ = some (.slice (some ⟨g, 0, none⟩) n c) := hB2.cell 0; have bf : w2.frozen? ⟨B, 0, none⟩ = false := hB2.frozen 0; have hgx : g < w.heap.size := hgl; have hD2 := (Blk.new w1 39 #[.int .i64 e.x.no, .int .u32 e.x.fh, .int .i64 e.x.fp, .int .u32 e.x.th, .int .i64 e.x.tp, .slice e.A e.x.b.length e.c]).grown hg2 (fun e' => (by injection e'; omega)); have hX2 := (HX1.out.alloc (.cells #[.int .i64 e.x.no, .int .u32 e.x.fh, .int .i64 e.x.fp, .int .u32 e.x.th, .int .i64 e.x.tp, .slice e.A e.x.b.length e.c] 39)).grown hg2 (fun e' => (by injection e'; omega)); have d0 : w2.cell? ⟨w1.heap.size, 0, none⟩ = _ := hD2.cell 0; have d1 : w2.cell? ⟨w1.heap.size, 1, none⟩ = _ := hD2.cell 1; have d2 : w2.cell? ⟨w1.heap.size, 2, none⟩ = _ := hD2.cell 2; have d3 : w2.cell? ⟨w1.heap.size, 3, none⟩ = _ := hD2.cell 3; have d4 : w2.cell? ⟨w1.heap.size, 4, none⟩ = _ := hD2.cell 4; have d5 : w2.cell? ⟨w1.heap.size, 5, none⟩ = _ := hD2.cell 5; have r0 := hX2.cell 0; have r1 := hX2.cell 1; have r2 := hX2.cell 2; have r3 := hX2.cell 3; have r4 := hX2.cell 4; have r5 := hX2.cell 5; have z0 := hX2.frozen 0; have z1 := hX2.frozen 1; have z2 := hX2.frozen 2; have z3 := hX2.frozen 3; have z4 := hX2.frozen 4; have z5 := hX2.frozen 5; simp at r0 r1 r2 r3 r4 r5 d0 d1 d2 d3 d4 d5; have HX2 := Lib.hid hX2; have HB2 := Lib.hid hB2; clear hX2 hD2 hB2; have HR2 := Lib.hid hrow2; have HG2 := Lib.hid hg2; clear hrow2 hg2))
  change bodyPost _ _ _ _ _ (putL (w2.setCell ⟨B, 0, none⟩ (.slice (some ⟨g, 0, none⟩) (n - 1) c)) w.heap.size 0 e.cells)
  have hk := (HX2.out.far (p := ⟨B, 0, none⟩) (Ne.symm hne) (.slice (some ⟨g, 0, none⟩) (n - 1) c)).putAt e.cells rfl
  have hfin := take_fin HN.out (by decide) (by decide) ((((Below.refl _ w).alloc (Nat.le_refl _) _).trans (HB1.out.mono (by simp))).alloc (by omega) _) HG2.out HR2.out Hn.out hil HB2.out HX2.out e.cells
  generalize putL (w2.setCell ⟨B, 0, none⟩ (.slice (some ⟨g, 0, none⟩) (n - 1) c)) w.heap.size 0 e.cells = W at *
  clear q0 d0 d1 d2 d3 d4 d5 r0 r1 r2 r3 r4 r5 z0 z1 z2 z3 z4 z5
  have p0 : W.cell? ⟨w.heap.size, 0, none⟩ = some (.int .i64 e.x.no) := hk.cell 0
  have p1 : W.cell? ⟨w.heap.size, 1, none⟩ = some (.int .u32 e.x.fh) := hk.cell 1
  have p2 : W.cell? ⟨w.heap.size, 2, none⟩ = some (.int .i64 e.x.fp) := hk.cell 2
  have p3 : W.cell? ⟨w.heap.size, 3, none⟩ = some (.int .u32 e.x.th) := hk.cell 3
  have p4 : W.cell? ⟨w.heap.size, 4, none⟩ = some (.int .i64 e.x.tp) := hk.cell 4
  have p5 : W.cell? ⟨w.heap.size, 5, none⟩ = some (.slice e.A e.x.b.length e.c) := hk.cell 5
  refine bodyPost_ret (v := .tuple #[.agg e.cells.toArray, .int .i64 0]) (by simp [results, Try.results12, go_sem, p0, p1, p2, p3, p4, p5, Ent.cells]) rfl ⟨rfl, S, _, hfin.1, hfin.2⟩
end Go.Proofs.Ytgifmadidgjgbaa
