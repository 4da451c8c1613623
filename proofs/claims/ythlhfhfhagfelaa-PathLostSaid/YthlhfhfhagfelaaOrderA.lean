/- PathOrder: the plain law of the ways' order, and what holds between two ticks. No condition. -/
import Derived.Test.YthlhfhfhagfelaaAwake
set_option linter.unusedVariables false
set_option linter.unusedSimpArgs false
namespace Go.Proofs.Ythlhfhfhagfelaa
open Go.RowKit

theorem foldW_more (l : List Plc) : ∀ out : List Plc, ∃ r, l.foldl stepW out = out ++ r ∧ ∀ x ∈ r, x ∈ l := by
  induction l with
  | nil => intro out; exact ⟨[], by simp, fun x hx => by simp at hx⟩
  | cons a l ih =>
    intro out
    obtain ⟨r, h1, h2⟩ := ih (stepW out a)
    rw [List.foldl_cons, h1]
    unfold stepW
    split
    · exact ⟨a :: r, by simp, fun x hx => by rcases List.mem_cons.1 hx with rfl | h; exact List.mem_cons_self; exact List.mem_cons_of_mem _ (h2 x h)⟩
    · exact ⟨r, rfl, fun x hx => List.mem_cons_of_mem _ (h2 x hx)⟩
theorem foldW_nodup (l : List Plc) : ∀ out : List Plc, out.Nodup → (l.foldl stepW out).Nodup := by
  induction l with
  | nil => intro out h; exact h
  | cons a l ih =>
    intro out h
    refine ih _ ?_
    unfold stepW
    split
    · rename_i hc
      rw [List.nodup_append]
      exact ⟨h, by simp, fun x hx y hy => by simp at hy; subst hy; intro e; subst e; exact hc.2 hx⟩
    · exact h
theorem waysTo_nodup (own : Int) (l : List Plc) (k : Nat) : (waysTo own l k).Nodup := by
  induction k with
  | zero => simp [waysTo]
  | succ k ih => exact foldW_nodup _ _ ih
theorem kind_via {own : Int} {x : Plc} (h : kindN own x = 3) : x.via = true := by
  unfold kindN at h
  split at h
  · split at h
    · assumption
    · split at h
      · omega
      · split at h <;> omega
  · omega
theorem kind_not {own : Int} {x : Plc} {k : Nat} (h : kindN own x = k) (h1 : 1 ≤ k) (h2 : k ≤ 2) : x.via = false := by
  unfold kindN at h
  cases hv : x.via with
  | false => rfl
  | true =>
    rw [hv] at h
    split at h
    · simp at h; omega
    · omega
theorem waysTo_not (own : Int) (l : List Plc) (k : Nat) (hk : k ≤ 2) : ∀ x ∈ waysTo own l k, x.via = false := by
  induction k with
  | zero => intro x hx; simp [waysTo] at hx
  | succ k ih =>
    intro x hx
    obtain ⟨r, h1, h2⟩ := foldW_more (ofKind own (k + 1) l) (waysTo own l k)
    have hx' : x ∈ (ofKind own (k + 1) l).foldl stepW (waysTo own l k) := hx
    rw [h1] at hx'
    rcases List.mem_append.1 hx' with h | h
    · exact ih (by omega) x h
    · have := h2 x h
      simp [ofKind] at this
      exact kind_not this.2 (by omega) (by omega)
theorem ways_via {own : Int} {l : List Plc} {i : Nat} {a b : Plc} (ha : (waysW own l)[i]? = some a) (hb : (waysW own l)[i + 1]? = some b) (hv : a.via = true) : b.via = true := by
  obtain ⟨r, h1, h2⟩ := foldW_more (ofKind own 3 l) (waysTo own l 2)
  have hw : waysW own l = waysTo own l 2 ++ r := h1
  rw [hw] at ha hb
  by_cases hi : i < (waysTo own l 2).length
  · rw [List.getElem?_append_left hi] at ha
    have := waysTo_not own l 2 (by omega) a (List.mem_of_getElem? ha)
    rw [hv] at this
    cases this
  · rw [List.getElem?_append_right (by omega)] at hb
    have := h2 b (List.mem_of_getElem? hb)
    simp [ofKind] at this
    exact kind_via this.2
theorem ways_once {own : Int} {l : List Plc} {i k : Nat} {a b : Plc} (hk : k < i) (ha : (waysW own l)[i]? = some a) (hb : (waysW own l)[k]? = some b) : b ≠ a := by
  have hn : (waysW own l).Nodup := waysTo_nodup own l 3
  intro e
  subst e
  rw [List.getElem?_eq_some_iff] at ha hb
  obtain ⟨h1, h2⟩ := ha
  obtain ⟨h3, h4⟩ := hb
  exact (List.pairwise_iff_getElem.1 hn) k i h3 h1 hk (h4.trans h2.symm)

/-- The i-th way is tried. -/
structure OW (w wr : World) (B bp : Nat) (A A2 : Option Addr) (c : Nat) (ws : List Plc) (i : Nat) (s : Pth) (p : Plc) : Prop where
  blk : Blk wr B 51 (wcells (.slice A ws.length c) i s)
  row : Pls wr (fun k => k ≠ B ∧ k ≠ bp) A ws
  row2 : Pls wr (fun k => k ≠ B ∧ k ≠ bp) A2 ws
  bx : Blk wr bp 31 #[.int .u32 p.h, .int .i64 p.p, .int .i64 p.id, .bool p.via]
  below : Below w.heap.size w wr
  zB : w.heap.size ≤ B
  zp : w.heap.size ≤ bp
  ne : bp ≠ B
  len : ws.length ≤ 8
  iz : i ≤ 1000
section
variable {w wr W : World} {B bp c i j : Nat} {A A2 : Option Addr} {ws : List Plc} {s s' : Pth} {p p' : Plc}
theorem RdA.moreS {S T : Nat → Prop} {size n : Nat} {xs : List Value} (h : RdA wr S size A n xs) (hS : ∀ k, S k → T k) : RdA wr T size A n xs :=
  ⟨h.1, fun hn => by
    obtain ⟨b, o, hA, hs, hl, hc⟩ := h.2 hn
    exact ⟨b, o, hA, hS b hs, hl, hc⟩⟩
theorem OW.wk (h : OW w wr B bp A A2 c ws i s p) : WkAt 51 wr B A c ws i s := ⟨h.blk, RdA.moreS h.row (fun k hk => hk.1), h.len, h.iz⟩
theorem OW.upd (h : OW w wr B bp A A2 c ws i s p) (hu : Upd (fun k => k = B) wr W) (hw : WkAt 51 W B A c ws j s') : OW w W B bp A A2 c ws j s' p :=
  ⟨hw.blk, RdA.same h.row (fun k hk hl => hu.block k hl hk.1) hu.size, RdA.same h.row2 (fun k hk hl => hu.block k hl hk.1) hu.size, h.bx.upd hu h.ne, h.below.trans (hu.below h.below.size (fun k hk => by have := h.zB; rw [show k = B from hk]; exact this)), h.zB, h.zp, h.ne, h.len, hw.iz⟩
theorem OW.top (h : OW w wr B bp A A2 c ws i s p) (hb : Below wr.heap.size wr W) : OW w W B bp A A2 c ws i s p :=
  ⟨h.blk.below hb h.blk.lt, RdA.below h.row hb, RdA.below h.row2 hb, h.bx.below hb h.bx.lt, h.below.trans (hb.mono h.below.size), h.zB, h.zp, h.ne, h.len, h.iz⟩
theorem OW.store (h : OW w wr B bp A A2 c ws i s p) (p' : Plc) : OW w (putL wr bp 0 p'.cells) B bp A A2 c ws i s p' := by
  have hu : Upd (fun k => k = bp) wr (putL wr bp 0 p'.cells) := (Upd.refl (fun k => k = bp) _).putAt (.inl rfl) _
  have hx := h.bx.putAt p'.cells rfl
  exact ⟨h.blk.upd hu (fun e => h.ne e.symm), RdA.same h.row (fun k hk hl => hu.block k hl hk.2) hu.size, RdA.same h.row2 (fun k hk hl => hu.block k hl hk.2) hu.size, hx, h.below.trans (hu.below h.below.size (fun k hk => by have := h.zp; rw [show k = bp from hk]; exact this)), h.zB, h.zp, h.ne, h.len, h.iz⟩
end
end Go.Proofs.Ythlhfhfhagfelaa
