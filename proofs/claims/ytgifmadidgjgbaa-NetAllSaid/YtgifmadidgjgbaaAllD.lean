/- The loop over All in NetAll: what holds. No condition. -/
import Derived.Test.YtgifmadidgjgbaaAllW0
set_option linter.unusedVariables false
set_option linter.unusedSimpArgs false
namespace Go.Proofs.Ytgifmadidgjgbaa
open Go.RowKit

theorem Rd.moreT {w : World} {e : TypeId} {S T : Nat → Prop} {size n : Nat} {A : Option Addr} {xs : List Value} (h : Rd w e S size A n xs) (hS : ∀ k cs fr, S k → w.heap[k]? = some (Obj.cells cs e fr) → T k) : Rd w e T size A n xs :=
  ⟨h.1, fun hn => by
    obtain ⟨b, o, cs, fr, hA, hs, hb, r⟩ := h.2 hn
    exact ⟨b, o, cs, fr, hA, hS _ _ _ hs hb, hb, r⟩⟩

section
variable {w W0 W wr : World} {B bx ba bp bn q : Nat} {stop : Int} {bs : List (List UInt8)} {S0 S : Nat → Prop} {v : Value} {l : List Ent}
theorem CoreA.start {w5 : World} (h : S1 w wr B bx ba bp stop bs q S v l) (hq : bs.length = q) (hb : Below (wr.alloc (.cells #[.int .i64 0] 3)).heap.size (wr.alloc (.cells #[.int .i64 0] 3)) w5) :
    ∃ S0, CoreA w w5 w5 B bx ba bp wr.heap.size stop bs S0 S0 v l q 0 0 ∧ ∀ k, S0 k → k < wr.heap.size := by
  have hb1 : Below wr.heap.size wr w5 := ((Below.refl _ wr).alloc (Nat.le_refl _) _).trans (hb.mono (by simp))
  have hz := hb.size
  simp at hz
  obtain ⟨S0, n0, s0, c0⟩ := (h.net.below hb1).tight
  have lt : ∀ k, S0 k → k < wr.heap.size := fun k hk => h.net.old k (s0 k hk)
  have hx := h.xb.lt
  have ha := h.ab.lt
  have hp := h.pb.lt
  refine ⟨S0, ⟨n0, ?_, by rw [h.len, hq]; rfl, by rw [hq]; simp, c0, fun k hk => .inl hk, h.below.trans (hb1.mono h.below.size), fun k hk => h.own k (s0 k hk), h.xb.below hb1 hx, h.ab.below hb1 ha, h.pb.below hb1 hp,
    (Blk.new wr 3 #[.int .i64 0]).below hb (by simp), fun hk => h.xn (s0 _ hk), fun hk => h.an (s0 _ hk), fun hk => h.pn (s0 _ hk), fun hk => by have := lt _ hk; omega, h.below.size, ⟨by omega, by omega, by omega, by omega⟩, ⟨Nat.le_refl _, fun _ _ _ => rfl⟩⟩, lt⟩
  have := h.fr
  rwa [← hq, List.take_length, hq] at this
theorem Src.start {w5 : World} {Bs c : Nat} {A : Option Addr} {last : Int} {z1 z2 : Nat} (h : CoreA w w5 w5 B bx ba bp wr.heap.size stop bs S0 S0 v l last z1 z2) (lt : ∀ k, S0 k → k < wr.heap.size) (hbox : Blk w5 Bs 48 #[.slice A l.length c]) (hBs : wr.heap.size + 1 ≤ Bs)
    (hrow : Rd w5 39 (fun k => wr.heap.size + 1 ≤ k) 6 A l.length (cellsOf l)) : Src w5 (Stay w5 wr.heap.size S0) Bs A c l := by
  refine ⟨hbox, ⟨hbox.lt, by omega, .inl (fun hk => by have := lt _ hk; omega)⟩, hrow.more (fun k hk hl => ⟨hl, by omega, .inl (fun hk' => by have := lt _ hk'; omega)⟩), fun e he => ?_⟩
  obtain ⟨h1, h2, h3⟩ := h.net.byt e he
  exact ⟨h1.moreT (fun k cs fr hk hc => ⟨(Array.getElem?_eq_some_iff.1 hc).1, fun e => by
    have := h.nb
    unfold Blk at this
    rw [← e, hc] at this
    injection this with this
    injection this with _ h2
    exact absurd h2 (by decide), .inr ⟨cs, fr, hc⟩⟩), h2, h3⟩
end

def IA (w W0 : World) (B bx ba bp bn stop : Nat) (bs : List (List UInt8)) (S0 : Nat → Prop) (pre : List Ent) (W : World) : Prop :=
  (∃ S v l last, CoreA w W0 W B bx ba bp bn stop bs S0 S v l last pre.length pre.length) ∧ ∀ j, 1 ≤ j → j ≤ pre.length → j ≠ stop
def IxA (w W0 : World) (B bx ba bp bn stop : Nat) (bs : List (List UInt8)) (S0 : Nat → Prop) (c : Code) (pre : List Ent) (W : World) : Prop :=
  c = .exit 2 ∧ (∃ S v l last, CoreA w W0 W B bx ba bp bn stop bs S0 S v l last pre.length pre.length) ∧ pre.length = stop
/-- In the loop over a datagram's bytes: where they lie. -/
def Bytes (W0 W : World) (S : Nat → Prop) (A : Option Addr) (n : Nat) : Prop := 0 < n → ∃ g cur, A = some ⟨g, 0, none⟩ ∧ W0.heap.size ≤ g ∧ ¬ S g ∧ Blk W g 5 cur ∧ ∀ j, j < n → ∃ z, cur[j]? = some (.int .u8 z)
theorem Bytes.of {W0 W Ws : World} {S : Nat → Prop} {A : Option Addr} {b : List UInt8} {c : Nat} (hs : W0.heap.size ≤ Ws.heap.size) (ho : W.ownsRow Ws.heap.size 5 1 (.slice A b.length c) b.length (enc8 b)) (hS : ∀ k, S k → k < Ws.heap.size) : Bytes W0 W S A b.length := fun hm => by
  rcases ho.2 with ⟨_, h0⟩ | ⟨g, cap, cur, he, hg, hh, hle, _, hsz, ht⟩
  · omega
  · injection he with he
    subst he
    refine ⟨g, cur, rfl, by omega, fun hk => by have := hS g hk; omega, hh, fun j hj => ?_⟩
    have h1 : (cur.toList.take (b.length * 1))[j]? = (enc8 b)[j]? := by rw [ht]
    rw [List.getElem?_take, if_pos (by omega)] at h1
    refine ⟨((b[j]'hj).toNat : Int), ?_⟩
    rw [Array.getElem?_toList] at h1
    rw [h1]
    simp [enc8, hj]
theorem Bytes.calm {W0 W W' : World} {S : Nat → Prop} {A : Option Addr} {n b : Nat} (h : Bytes W0 W S A n) (hc : Calm b W W') : Bytes W0 W' S A n := fun hn => by
  obtain ⟨g, cur, h1, h2, h3, h4, h5⟩ := h hn
  exact ⟨g, cur, h1, h2, h3, h4.calm hc, h5⟩
theorem Bytes.cell {W0 W : World} {S : Nat → Prop} {A : Option Addr} {n j : Nat} (h : Bytes W0 W S A n) (hj : j < n) : ∃ g z, A = some ⟨g, 0, none⟩ ∧ W0.heap.size ≤ g ∧ ¬ S g ∧ g < W.heap.size ∧ W.cell? ⟨g, j, none⟩ = some (.int .u8 z) ∧ W.frozen? ⟨g, j, none⟩ = false := by
  obtain ⟨g, cur, h1, h2, h3, h4, h5⟩ := h (by omega)
  obtain ⟨z, hz⟩ := h5 j hj
  exact ⟨g, z, h1, h2, h3, h4.lt, (h4.cell j).trans hz, h4.frozen j⟩
theorem Bytes.set_ {W0 W : World} {S : Nat → Prop} {A : Option Addr} {n j g : Nat} (h : Bytes W0 W S A n) (hA : A = some ⟨g, 0, none⟩) (z' : Int) : Bytes W0 (W.setCell ⟨g, j, none⟩ (.int .u8 z')) S A n := fun hn => by
  obtain ⟨g', cur, h1, h2, h3, h4, h5⟩ := h hn
  rw [hA] at h1
  injection h1 with h1
  injection h1 with h1
  subst h1
  refine ⟨g, _, hA, h2, h3, h4.set_ j _, fun j' hj' => ?_⟩
  obtain ⟨z, hz⟩ := h5 j' hj'
  rw [Array.getElem?_setIfInBounds]
  split
  · split
    · exact ⟨_, rfl⟩
    · rename_i e h3
      rw [← e] at hz
      rw [Array.getElem?_eq_none (by omega)] at hz
      cases hz
  · exact ⟨z, hz⟩

/-- In a round: the datagram's own variable is laid. -/
structure MidA (w W0 : World) (B bx ba bp bn stop : Nat) (bs : List (List UInt8)) (S0 S : Nat → Prop) (v : Value) (l : List Ent) (last : Int) (cnt : Nat) (x : Ent) (Bx : Nat) (W : World) : Prop where
  core : CoreA w W0 W B bx ba bp bn stop bs S0 S v l last cnt cnt
  no : ∀ j, 1 ≤ j → j ≤ cnt → j ≠ stop
  box : Blk W Bx 39 x.cells.toArray
  bn_ : ¬ S Bx
  nz : W0.heap.size ≤ Bx
  byt : Bytes W0 W S x.A x.x.b.length
  len : x.x.b.length ≤ 1200
def MA (w W0 : World) (B bx ba bp bn stop : Nat) (bs : List (List UInt8)) (S0 : Nat → Prop) (a0 : Act) (pre : List Ent) (x : Ent) (a' : Act) (W : World) : Prop :=
  ∃ Bx S v l last, MidA w W0 B bx ba bp bn stop bs S0 S v l last pre.length x Bx W ∧
    a' = { tmps := (a0.tmps.setIfInBounds 43 (.agg x.cells.toArray)).setIfInBounds 9 (.pointer (some ⟨Bx, 0, none⟩)), defers := [] }
section
variable {w W0 W W' : World} {B bx ba bp bn stop cnt Bx : Nat} {bs : List (List UInt8)} {S0 S : Nat → Prop} {v : Value} {l : List Ent} {last : Int} {x : Ent} {a0 : Act}
theorem IA.stable (hw : w.heap.size ≤ W0.heap.size) : Stable W0.heap.size (IA w W0 B bx ba bp bn stop bs S0) := fun pre W W' h hc => by
  obtain ⟨⟨S, v, l, last, h1⟩, h2⟩ := h
  exact ⟨⟨S, v, l, last, h1.calm hw hc⟩, h2⟩
theorem IxA.stable (hw : w.heap.size ≤ W0.heap.size) (c : Code) : Stable W0.heap.size (IxA w W0 B bx ba bp bn stop bs S0 c) := fun pre W W' h hc => by
  obtain ⟨h0, ⟨S, v, l, last, h1⟩, h2⟩ := h
  exact ⟨h0, ⟨S, v, l, last, h1.calm hw hc⟩, h2⟩
theorem MidA.calm (h : MidA w W0 B bx ba bp bn stop bs S0 S v l last cnt x Bx W) (hw : w.heap.size ≤ W0.heap.size) (hc : Calm W0.heap.size W W') : MidA w W0 B bx ba bp bn stop bs S0 S v l last cnt x Bx W' :=
  ⟨h.core.calm hw hc, h.no, h.box.calm hc, h.bn_, h.nz, h.byt.calm hc, h.len⟩
theorem MA.stable (hw : w.heap.size ≤ W0.heap.size) (pre : List Ent) (x : Ent) (a' : Act) : Stable W0.heap.size (fun (_ : Unit) W => MA w W0 B bx ba bp bn stop bs S0 a0 pre x a' W) := fun _ W W' h hc => by
  obtain ⟨Bx, S, v, l, last, h1, h2⟩ := h
  exact ⟨Bx, S, v, l, last, h1.calm hw hc, h2⟩
theorem MidA.start {Ws : World} {pre l0 : List Ent} (hi : IA w W0 B bx ba bp bn stop bs S0 pre Ws) (hb : Below Ws.heap.size Ws W) (hG : Handed l0 pre x Ws W) (hw : w.heap.size ≤ W0.heap.size) (hl0 : ∀ e ∈ l0, e.x.b.length ≤ 1200) (o : Obj) (ho : o = .cells x.cells.toArray 39) :
    ∃ S v l last, MidA w W0 B bx ba bp bn stop bs S0 S v l last pre.length x W.heap.size (W.alloc o) := by
  subst ho
  obtain ⟨⟨S, v, l, last, h1⟩, h2⟩ := hi
  obtain ⟨⟨e, he, hx⟩, ho⟩ := hG
  have hz := h1.keep.1
  have hzb := hb.size
  refine ⟨S, v, l, last, (h1.top hw hb).top hw ((Below.refl _ _).alloc (Nat.le_refl _) _), h2, Blk.new W 39 _, fun hk => by have := h1.net.old _ hk; omega, by omega, ?_, by rw [hx]; exact hl0 e (List.mem_of_getElem? he)⟩
  exact (Bytes.of (c := x.c) hz ho (fun k hk => h1.net.old k hk)).calm (b := 0) (Calm.of_below ((Below.refl _ _).alloc (Nat.le_refl _) _))
theorem MidA.write {j g : Nat} (h : MidA w W0 B bx ba bp bn stop bs S0 S v l last cnt x Bx W) (hw : w.heap.size ≤ W0.heap.size) (hA : x.A = some ⟨g, 0, none⟩) (hj : j < x.x.b.length) (z' : Int) :
    MidA w W0 B bx ba bp bn stop bs S0 S v l last cnt x Bx (W.setCell ⟨g, j, none⟩ (.int .u8 z')) ∧ KeepK (Stay W0 bn S0) W (W.setCell ⟨g, j, none⟩ (.int .u8 z')) := by
  obtain ⟨g', cur, h1, h2, h3, h4, h5⟩ := h.byt (by omega)
  have hg : g' = g := by rw [hA] at h1; injection h1 with h1; injection h1 with h1; exact h1.symm
  subst hg
  have hu : Upd (fun k => k = g') W (W.setCell ⟨g', j, none⟩ (.int .u8 z')) := (Upd.refl (fun k => k = g') _).setCell (p := ⟨g', j, none⟩) (.inl rfl) _
  exact ⟨⟨h.core.write hw h2 h3 _, h.no, h.box.upd hu (fun e => Blk.ne_ h.box h4 (by decide) e), h.bn_, h.nz, h.byt.set_ hA z', h.len⟩, hu.size, fun k hk hl => hu.block k hl (by show ¬ k = g'; have := hk.1; omega)⟩
end
end Go.Proofs.Ytgifmadidgjgbaa
