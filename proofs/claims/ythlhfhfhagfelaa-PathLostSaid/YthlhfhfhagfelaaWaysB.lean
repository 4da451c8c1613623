/- Ways: what holds between two kinds, and in the loop over the places of one. No condition. -/
import Derived.Test.YthlhfhfhagfelaaIter
set_option linter.unusedVariables false
set_option linter.unusedSimpArgs false
namespace Go.Proofs.Ythlhfhfhagfelaa
open Go.RowKit

theorem below_calm {w W W' : World} {b : Nat} (hb : w.heap.size ≤ b) (h : Below w.heap.size w W) (hc : Calm b W W') : Below w.heap.size w W' :=
  ⟨hc.os.trans h.os, hc.tape.trans h.tape, hc.output.trans h.output, Nat.le_trans h.size hc.size, fun k hk => by
    have hl : k < W.heap.size := Nat.lt_of_lt_of_le hk h.size
    rw [← h.block k hk, Array.getElem?_eq_getElem hl]
    exact hc.keep k _ (Array.getElem?_eq_getElem hl) (.inl (by omega))⟩

/-- Between two kinds: the own host's box, the kinds, the result's cell, the marks. -/
structure WayC (w wr : World) (own : Int) (bo bk bc : Nat) (v : Value) (out : List Plc) (Ds : List Nat) : Prop where
  ob : Blk wr bo 22 #[.int .u32 own]
  kb : Blk wr bk 57 #[fvOf 1 bo, fvOf 2 bo, fvOf 3 bo]
  cb : Blk wr bc 23 #[v]
  row : wr.ownsRow w.heap.size 31 4 v out.length (pcells out)
  below : Below w.heap.size w wr
  zs : w.heap.size ≤ bo ∧ w.heap.size ≤ bk ∧ w.heap.size ≤ bc
  df : ∀ D ∈ Ds, wr.heap[D]? = some (.deferred (some [])) ∧ w.heap.size ≤ D
  nd : Ds.Pairwise (· ≠ ·)
/-- The blocks that the loop leaves alone. -/
def KW (w W0 : World) (bc : Nat) : Nat → Prop := fun j => j < W0.heap.size ∧ (j < w.heap.size ∨ (j ≠ bc ∧ ∀ cs fr, W0.heap[j]? ≠ some (.cells cs 31 fr)))
def IW (w W0 : World) (bc : Nat) (start pre : List Plc) (W : World) : Prop :=
  Below w.heap.size w W ∧ KeepK (KW w W0 bc) W0 W ∧ ∃ v, Blk W bc 23 #[v] ∧ W.ownsRow w.heap.size 31 4 v (pre.foldl stepW start).length (pcells (pre.foldl stepW start))
def IxW (w W0 : World) (bc : Nat) (filt start : List Plc) (c : Code) (pre : List Plc) (W : World) : Prop :=
  c = .exit 0 ∧ ∃ pr, pr <+: filt ∧ (pr.foldl stepW start).length = 8 ∧ IW w W0 bc start pr W
def MW (w W0 : World) (bc : Nat) (filt start : List Plc) (a0 : Act) (pre : List Plc) (x : Plc) (a' : Act) (W : World) : Prop :=
  ∃ Bx, IW w W0 bc start pre W ∧ Blk W Bx 31 #[.int .u32 x.h, .int .i64 x.p, .int .i64 x.id, .bool x.via] ∧ pre ++ [x] <+: filt ∧
    a' = { tmps := (a0.tmps.setIfInBounds 25 (.agg #[.int .u32 x.h, .int .i64 x.p, .int .i64 x.id, .bool x.via])).setIfInBounds 9 (.pointer (some ⟨Bx, 0, none⟩)), defers := [] }

section
variable {w wr W0 W W' w3 w4 : World} {own : Int} {bo bk bc : Nat} {v v' : Value} {out filt start pre : List Plc} {Ds : List Nat} {x : Plc} {a0 : Act}
theorem IW.calm (h : IW w W0 bc start pre W) (hw : w.heap.size ≤ W0.heap.size) (hc : Calm W0.heap.size W W') : IW w W0 bc start pre W' := by
  obtain ⟨h1, h2, v, h3, h4⟩ := h
  exact ⟨below_calm hw h1 hc, h2.trans (KeepK.of_calm (fun k hk => hk.1) hc), v, h3.calm hc, own_calm h4 hc⟩
theorem IW.stable (hw : w.heap.size ≤ W0.heap.size) : Stable W0.heap.size (IW w W0 bc start) := fun pre W W' h hc => h.calm hw hc
theorem IxW.stable (hw : w.heap.size ≤ W0.heap.size) (c : Code) : Stable W0.heap.size (IxW w W0 bc filt start c) := fun pre W W' h hc => by
  obtain ⟨h1, pr, h2, h3, h4⟩ := h
  exact ⟨h1, pr, h2, h3, h4.calm hw hc⟩
theorem MW.stable (hw : w.heap.size ≤ W0.heap.size) (pre : List Plc) (x : Plc) (a' : Act) : Stable W0.heap.size (fun (_ : Unit) W => MW w W0 bc filt start a0 pre x a' W) := fun _ W W' h hc => by
  obtain ⟨Bx, h1, h2, h3, h4⟩ := h
  exact ⟨Bx, h1.calm hw hc, h2.calm hc, h3, h4⟩
theorem IW.top (h : IW w W0 bc start pre W) (hb : Below W.heap.size W W') (hz : W0.heap.size ≤ W.heap.size) (hw : w.heap.size ≤ W0.heap.size) : IW w W0 bc start pre W' := h.calm hw (Calm.of_below hb)
theorem WayC.iw (h : WayC w W0 own bo bk bc v out Ds) : IW w W0 bc out [] W0 := ⟨h.below, KeepK.of_below (Below.refl _ _), v, h.cb, h.row⟩
theorem WayC.top (h : WayC w wr own bo bk bc v out Ds) (hb : Below wr.heap.size wr W) : WayC w W own bo bk bc v out Ds :=
  ⟨h.ob.below hb h.ob.lt, h.kb.below hb h.kb.lt, h.cb.below hb h.cb.lt, own_same h.row (fun g hg => hb.block g (h.row.lt g hg).2), h.below.trans (hb.mono h.below.size), h.zs, fun D hD => ⟨(hb.block D (Array.getElem?_eq_some_iff.1 (h.df D hD).1).1).trans (h.df D hD).1, (h.df D hD).2⟩, h.nd⟩
theorem KW.blk {g : Nat} {t : TypeId} {cs : Array Value} {v0 : Value} (hc : Blk W0 bc 23 #[v0]) (h : Blk W0 g t cs) (h1 : t ≠ 31) (h2 : t ≠ 23) : KW w W0 bc g :=
  ⟨h.lt, .inr ⟨fun e => by subst e; exact Blk.ne_ h hc h2 rfl, fun cs' fr e => by
    unfold Blk at h
    rw [h] at e
    injection e with e
    injection e with _ e
    exact h1 e⟩⟩
theorem WayC.next {D : Nat} (h : WayC w W0 own bo bk bc v out Ds) (hI : IW w W0 bc out pre W) (hD : W.heap[D]? = some (.deferred (some []))) (hDz : W0.heap.size ≤ D) : ∃ v', WayC w W own bo bk bc v' (pre.foldl stepW out) (D :: Ds) := by
  obtain ⟨h1, h2, v', h3, h4⟩ := hI
  have hk := fun k hk hl => h2.2 k hk hl
  refine ⟨v', (hk _ (KW.blk h.cb h.ob (by decide) (by decide)) h.ob.lt).trans h.ob, (hk _ (KW.blk h.cb h.kb (by decide) (by decide)) h.kb.lt).trans h.kb, h3, h4, h1, h.zs, fun D' hD' => ?_, ?_⟩
  · rcases List.mem_cons.1 hD' with rfl | hm
    · exact ⟨hD, by have := h.below.size; omega⟩
    · have hd := (h.df D' hm).1
      have hlt := (Array.getElem?_eq_some_iff.1 hd).1
      refine ⟨(hk D' ⟨hlt, .inr ⟨fun e => ?_, fun cs fr e => by rw [hd] at e; cases e⟩⟩ hlt).trans hd, (h.df D' hm).2⟩
      subst e
      have := h.cb
      unfold Blk at this
      rw [hd] at this
      cases this
  · rw [List.pairwise_cons]
    exact ⟨fun D' hD' e => by have := (Array.getElem?_eq_some_iff.1 (h.df D' hD').1).1; omega, h.nd⟩
/-- A place that is there already. -/
theorem IW.skip (h : IW w W0 bc start pre W) (hx : x ∈ pre.foldl stepW start) (hb : Below W.heap.size W W') (hz : W0.heap.size ≤ W.heap.size) (hw : w.heap.size ≤ W0.heap.size) : IW w W0 bc start (pre ++ [x]) W' := by
  have h1 := h.top hb hz hw
  have e : (pre ++ [x]).foldl stepW start = pre.foldl stepW start := by
    rw [List.foldl_append]
    show stepW _ x = _
    unfold stepW
    rw [if_neg (fun hh => hh.2 hx)]
  unfold IW at *
  rw [e]
  exact h1
/-- A place more. -/
theorem IW.push (h1 : Below w.heap.size w W) (h2 : KeepK (KW w W0 bc) W0 W) (h3 : Blk W bc 23 #[v]) (h4 : W.ownsRow w.heap.size 31 4 v (pre.foldl stepW start).length (pcells (pre.foldl stepW start))) (hx : x ∉ pre.foldl stepW start) (h8 : (pre.foldl stepW start).length < 8) (hz : W0.heap.size ≤ W.heap.size) (hw : w.heap.size ≤ W0.heap.size) (hbc : w.heap.size ≤ bc)
    (hb : Below W.heap.size W w3) (hg : w3.grownBy w4 v.ownBlock) (hr : w4.ownsRow w.heap.size 31 4 v' ((pre.foldl stepW start).length + 1) (pcells (pre.foldl stepW start) ++ x.cells)) :
    IW w W0 bc start (pre ++ [x]) (w4.setCell ⟨bc, 0, none⟩ v') ∧ KeepsFrom W0.heap.size W (w4.setCell ⟨bc, 0, none⟩ v') ∧ KeepK (KW w W0 bc) W (w4.setCell ⟨bc, 0, none⟩ v') ∧ (w4.cell? ⟨bc, 0, none⟩ = some v ∧ w4.frozen? ⟨bc, 0, none⟩ = false) := by
  have e : (pre ++ [x]).foldl stepW start = pre.foldl stepW start ++ [x] := by
    rw [List.foldl_append]
    show stepW _ x = _
    unfold stepW
    rw [if_pos ⟨h8, hx⟩]
  have hvc : v.ownBlock ≠ some bc := own_blk_ne h4 h3 (by decide)
  have h3w := h3.below hb h3.lt
  have hb4 : Blk w4 bc 23 #[v] := h3w.grown hg (fun e => hvc e.symm)
  have hvg : ∀ g, v.ownBlock = some g → w.heap.size ≤ g ∧ ∃ cs fr, W.heap[g]? = some (.cells cs 31 fr) := fun g hg' => by
    rcases h4.2 with ⟨rfl, _⟩ | ⟨g', cap, cur, rfl, hb', hh, _⟩
    · simp [Value.ownBlock] at hg'
    · have : g' = g := by simpa [Value.ownBlock] using hg'
      subst this
      exact ⟨hb', _, _, hh⟩
  have hu : Upd (fun k => k = bc ∨ v.ownBlock = some k) W (w4.setCell ⟨bc, 0, none⟩ v') := ((Upd.new hb).grown hg (fun k e => .inl (.inr e))).setCell (p := ⟨bc, 0, none⟩) (.inl (.inl rfl)) _
  have hkk : KeepK (KW w W0 bc) W (w4.setCell ⟨bc, 0, none⟩ v') := ⟨hu.size, fun k hk hl => hu.block k hl (fun e => by
    rcases e with rfl | e
    · rcases hk.2 with h | h
      · omega
      · exact h.1 rfl
    · obtain ⟨hg1, cs, fr, hg2⟩ := hvg k e
      rcases hk.2 with h | h
      · omega
      · have := h2.2 k hk hk.1
        rw [hg2] at this
        exact h.2 cs fr this.symm)⟩
  refine ⟨⟨h1.trans (hu.below h1.size (fun k hk => ?_)), h2.trans hkk, v', ?_, ?_⟩, keepsFrom_of_upd hu (fun k hk => ?_), hkk, hb4.cell 0, hb4.frozen 0⟩
  · rcases hk with rfl | hk
    · exact hbc
    · exact (hvg k hk).1
  · have := hb4.set_ 0 v'
    exact this
  · rw [e, List.length_append, pcells_append]
    have h5 : v'.ownBlock ≠ some bc := own_blk_ne hr hb4 (by decide)
    have := own_same (w' := w4.setCell ⟨bc, 0, none⟩ v') hr (fun g hg' => Below.heap_setCell _ _ _ _ (fun e => h5 (by rw [hg', e])))
    simpa [pcells] using this
  · rcases hk with rfl | hk
    · exact ⟨_, _, _, h3⟩
    · obtain ⟨_, cs, fr, h⟩ := hvg k hk
      exact ⟨cs, 31, fr, h⟩
/-- What the iterator reads, where the loop begins. -/
theorem WayC.src {A : Option Addr} {c k : Nat} {l : List Plc} (h : WayC w wr own bo bk bc v out Ds) (o : Obj) (hp : Pls w (fun k => k < w.heap.size) A l) (hok : ∀ x ∈ l, x.ok) :
    WayC w (((wr.alloc o).alloc (.cells #[.slice A l.length c] 23)).alloc (.cells #[fvOf k bo] 55)) own bo bk bc v out Ds ∧ SrcP (((wr.alloc o).alloc (.cells #[.slice A l.length c] 23)).alloc (.cells #[fvOf k bo] 55)) (KW w (((wr.alloc o).alloc (.cells #[.slice A l.length c] 23)).alloc (.cells #[fvOf k bo] 55)) bc) own k bo (wr.heap.size + 1) (wr.heap.size + 1 + 1) A c l := by
  have hb : Below wr.heap.size wr (((wr.alloc o).alloc (.cells #[.slice A l.length c] 23)).alloc (.cells #[fvOf k bo] 55)) := (((Below.refl _ wr).alloc (Nat.le_refl _) _).alloc (by simp) _).alloc (by simp; omega) _
  have hw := h.top hb
  have p1 := (Blk.new (wr.alloc o) 23 #[.slice A l.length c]).alloc (.cells #[fvOf k bo] 55)
  have p2 := Blk.new ((wr.alloc o).alloc (.cells #[.slice A l.length c] 23)) 55 #[fvOf k bo]
  simp only [World.size_alloc] at p1 p2
  have hbcl := h.cb.lt
  have hlt1 := p1.lt
  have hz := hw.below.size
  refine ⟨hw, p1, p2, hw.ob, ⟨⟨hlt1, .inr ⟨by omega, fun cs fr e => ?_⟩⟩, KW.blk hw.cb p2 (by decide) (by decide), KW.blk hw.cb hw.ob (by decide) (by decide)⟩, ?_, hok⟩
  · unfold Blk at p1
    rw [p1] at e
    injection e with e
    injection e with _ e
    exact absurd e (by decide)
  · have hp2 := RdA.below hp hw.below
    exact ⟨hp2.1, fun hn => by
      obtain ⟨b, o', hA, hS, hl, hc⟩ := hp2.2 hn
      exact ⟨b, o', hA, ⟨hl, .inl hS⟩, hl, hc⟩⟩
/-- Where the loop's variable is laid. -/
theorem IW.lay {Ws : World} (h : IW w W0 bc start pre Ws) (hb : Below Ws.heap.size Ws W) (hw : w.heap.size ≤ W0.heap.size) : IW w W0 bc start pre (W.alloc (.cells #[.int .u32 x.h, .int .i64 x.p, .int .i64 x.id, .bool x.via] 31)) ∧ Blk (W.alloc (.cells #[.int .u32 x.h, .int .i64 x.p, .int .i64 x.id, .bool x.via] 31)) W.heap.size 31 #[.int .u32 x.h, .int .i64 x.p, .int .i64 x.id, .bool x.via] :=
  ⟨(h.calm hw (Calm.of_below hb)).calm hw (Calm.of_below ((Below.refl _ W).alloc (Nat.le_refl _) _)), Blk.new W 31 _⟩
/-- At the end. -/
theorem WayC.fin (h : WayC w wr own bo bk bc v out Ds) : (∃ A' c', v = .slice A' out.length c' ∧ wr.cell? ⟨bc, 0, none⟩ = some (.slice A' out.length c')) ∧ Ds.Pairwise (· ≠ ·) ∧ (∀ D ∈ Ds, wr.heap[D]? = some (.deferred (some []))) ∧
    ∀ W', Upd (fun k => k ∈ Ds) wr W' → W'.ownsRow w.heap.size 31 4 v out.length (pcells out) ∧ Below w.heap.size w W' := by
  obtain ⟨A', c', hv, _, _⟩ := own_slice h.row
  refine ⟨⟨A', c', hv, by rw [← hv]; exact h.cb.cell 0⟩, h.nd, fun D hD => (h.df D hD).1, fun W' hu => ⟨own_same h.row (fun g hg => hu.block g (h.row.lt g hg).2 (fun hm => ?_)), h.below.trans (hu.below h.below.size (fun k hk => (h.df k hk).2))⟩⟩
  have h1 := (h.df g hm).1
  rcases h.row.2 with ⟨rfl, _⟩ | ⟨g', cap, cur, rfl, _, hh, _⟩
  · simp [Value.ownBlock] at hg
  · have : g' = g := by simpa [Value.ownBlock] using hg
    subst this
    rw [h1] at hh
    cases hh
end
end Go.Proofs.Ythlhfhfhagfelaa
