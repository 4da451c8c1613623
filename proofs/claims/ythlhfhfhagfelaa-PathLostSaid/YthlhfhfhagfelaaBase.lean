/- Words on memory for this seat: which blocks a step may write, what a block holds, and how such facts are kept. No condition. -/
import Derived.WalkKit
import Derived.BigQuiet
import Derived.Deep.QuietTactic
import Derived.Deep.Draws
import Derived.Deep.AppendLies
import Derived.Maps.AppendAt
import Derived.Laws.Rows
import Derived.KernelRfl
set_option linter.unusedVariables false
set_option linter.unusedSimpArgs false
namespace Go.Proofs.Ythlhfhfhagfelaa
open Go.RowKit

/-! ### Steps that write some blocks only -/
structure Upd (S : Nat → Prop) (w w' : World) : Prop where
  os : w'.os = w.os
  tape : w'.tape = w.tape
  output : w'.output = w.output
  size : w.heap.size ≤ w'.heap.size
  block : ∀ k, k < w.heap.size → ¬ S k → w'.heap[k]? = w.heap[k]?

/-- Blocks of one element type hold what they held. -/
def KeepT (e : TypeId) (w w' : World) : Prop := ∀ (k : Nat) (cs : Array Value) (fr : Nat × Nat), w.heap[k]? = some (Obj.cells cs e fr) → w'.heap[k]? = some (Obj.cells cs e fr)

theorem heap_setCell_self (w : World) (p : Addr) (v : Value) {cs : Array Value} {t : TypeId} {fr : Nat × Nat} (h : w.heap[p.block]? = some (.cells cs t fr)) (hs : p.spot = none) :
    (w.setCell p v).heap[p.block]? = some (.cells (cs.setIfInBounds p.off v) t fr) := by
  simp [World.setCell, Array.getElem?_modify, h, hs]

section
variable {S T : Nat → Prop} {a b w w' : World} {e : TypeId}
theorem Upd.refl (S : Nat → Prop) (w : World) : Upd S w w := ⟨rfl, rfl, rfl, Nat.le_refl _, fun _ _ _ => rfl⟩
theorem Upd.trans {c : World} (h : Upd S a b) (k : Upd T b c) (hT : ∀ i, i < a.heap.size → T i → S i) : Upd S a c :=
  ⟨k.os.trans h.os, k.tape.trans h.tape, k.output.trans h.output, Nat.le_trans h.size k.size, fun i hi hn =>
    (k.block i (Nat.lt_of_lt_of_le hi h.size) (fun ht => hn (hT i hi ht))).trans (h.block i hi hn)⟩
theorem Upd.mono (h : Upd S a b) (hT : ∀ i, i < a.heap.size → S i → T i) : Upd T a b :=
  ⟨h.os, h.tape, h.output, h.size, fun i hi hn => h.block i hi (fun hs => hn (hT i hi hs))⟩
theorem Upd.drew (h : Upd S a w) : Upd S a w.drew := ⟨h.os, h.tape, h.output, h.size, h.block⟩
theorem Upd.drewN (h : Upd S a w) (n : Nat) : Upd S a (w.drewN n) := ⟨h.os, h.tape, h.output, h.size, h.block⟩
theorem Upd.alloc (h : Upd S a w) (o : Obj) : Upd S a (w.alloc o) :=
  ⟨h.os, h.tape, h.output, Nat.le_trans h.size (by simp), fun i hi hn => (Below.heap_alloc w o i (Nat.lt_of_lt_of_le hi h.size)).trans (h.block i hi hn)⟩
theorem Upd.setCell (h : Upd S a w) {p : Addr} (hp : S p.block ∨ a.heap.size ≤ p.block) (v : Value) : Upd S a (w.setCell p v) :=
  ⟨h.os, h.tape, h.output, by simpa [World.setCell] using h.size, fun i hi hn => (Below.heap_setCell w p v i (by
    rintro rfl
    rcases hp with hp | hp
    · exact hn hp
    · omega)).trans (h.block i hi hn)⟩
theorem Upd.grown (h : Upd S a w) {row : Option Nat} (hg : w.grownBy w' row) (hr : ∀ k, row = some k → S k ∨ a.heap.size ≤ k) : Upd S a w' :=
  ⟨hg.os.trans h.os, hg.tape.trans h.tape, hg.output.trans h.output, Nat.le_trans h.size hg.size, fun i hi hn => (hg.block i (Nat.lt_of_lt_of_le hi h.size) (by
    intro e
    rcases hr i e.symm with hp | hp
    · exact hn hp
    · omega)).trans (h.block i hi hn)⟩
theorem Upd.of_below {B : Nat} (h : Below B a b) (hB : ∀ i, i < a.heap.size → B ≤ i → S i) : Upd S a b :=
  ⟨h.os, h.tape, h.output, h.size, fun i hi hn => h.block i (by
    rcases Nat.lt_or_ge i B with hl | hg
    · exact hl
    · exact absurd (hB i hi hg) hn)⟩
theorem Upd.new (h : Below a.heap.size a b) : Upd S a b := Upd.of_below h (fun i hi hg => by omega)
/-- A step that writes what lies from B on alone. -/
theorem Upd.below {B : Nat} (h : Upd S a b) (hB : B ≤ a.heap.size) (hS : ∀ i, S i → B ≤ i) : Below B a b :=
  ⟨h.os, h.tape, h.output, h.size, fun i hi => h.block i (Nat.lt_of_lt_of_le hi hB) (fun hs => by have := hS i hs; omega)⟩

theorem KeepT.refl (e : TypeId) (w : World) : KeepT e w w := fun _ _ _ h => h
theorem KeepT.trans {c : World} (h : KeepT e a b) (k : KeepT e b c) : KeepT e a c := fun i cs fr hi => k i cs fr (h i cs fr hi)
theorem KeepT.drew (h : KeepT e a w) : KeepT e a w.drew := h
theorem KeepT.drewN (h : KeepT e a w) (n : Nat) : KeepT e a (w.drewN n) := h
theorem KeepT.alloc (h : KeepT e a w) (o : Obj) : KeepT e a (w.alloc o) := fun i cs fr hi => by
  have h1 := h i cs fr hi
  rw [Below.heap_alloc _ _ _ (Array.getElem?_eq_some_iff.1 h1).1]; exact h1
theorem KeepT.setCell (h : KeepT e a w) {p : Addr} {cs : Array Value} {t : TypeId} {fr : Nat × Nat} (hp : w.heap[p.block]? = some (.cells cs t fr)) (hne : t ≠ e) (v : Value) : KeepT e a (w.setCell p v) := fun i cs' fr' hi => by
  have h1 := h i cs' fr' hi
  rw [Below.heap_setCell _ _ _ _ (by
    rintro rfl
    rw [hp] at h1
    injection h1 with h1
    injection h1 with _ h2
    exact hne h2)]
  exact h1
theorem KeepT.setNew (h : KeepT e a w) {p : Addr} (hp : a.heap.size ≤ p.block) (v : Value) : KeepT e a (w.setCell p v) := fun i cs' fr' hi => by
  have h1 := h i cs' fr' hi
  have := (Array.getElem?_eq_some_iff.1 hi).1
  rw [Below.heap_setCell _ _ _ _ (by rintro rfl; omega)]
  exact h1
theorem KeepT.grown (h : KeepT e a w) {row : Option Nat} (hg : w.grownBy w' row) (hr : ∀ k, row = some k → ∃ cs t fr, w.heap[k]? = some (.cells cs t fr) ∧ t ≠ e) : KeepT e a w' := fun i cs fr hi => by
  have h1 := h i cs fr hi
  rw [hg.block i (Array.getElem?_eq_some_iff.1 h1).1 (by
    intro he
    obtain ⟨cs', t, fr', h2, hne⟩ := hr i he.symm
    rw [h1] at h2
    injection h2 with h2
    injection h2 with _ h3
    exact hne h3.symm)]
  exact h1
theorem KeepT.new (h : Below a.heap.size a b) : KeepT e a b := fun i cs fr hi => by
  rw [h.block i (Array.getElem?_eq_some_iff.1 hi).1]; exact hi
end

/-! ### A block that is known whole -/
def Blk (w : World) (g : Nat) (t : TypeId) (cs : Array Value) : Prop := w.heap[g]? = some (.cells cs t (0, 0))

section
variable {w w' : World} {g : Nat} {t : TypeId} {cs : Array Value} {S : Nat → Prop}
theorem Blk.lt (h : Blk w g t cs) : g < w.heap.size := (Array.getElem?_eq_some_iff.1 h).1
theorem Blk.cell (h : Blk w g t cs) (i : Nat) : w.cell? ⟨g, i, none⟩ = cs[i]? := cell_of_row w g i cs t (0, 0) h
theorem Blk.frozen (h : Blk w g t cs) (i : Nat) : w.frozen? ⟨g, i, none⟩ = false := by
  unfold Blk at h
  simp [World.frozen?, h]
theorem Blk.new (w : World) (t : TypeId) (cs : Array Value) : Blk (w.alloc (.cells cs t)) w.heap.size t cs := heap_alloc_new w _
theorem Blk.drew (h : Blk w g t cs) : Blk w.drew g t cs := h
theorem Blk.drewN (h : Blk w g t cs) (n : Nat) : Blk (w.drewN n) g t cs := h
theorem Blk.alloc (h : Blk w g t cs) (o : Obj) : Blk (w.alloc o) g t cs := (Below.heap_alloc w o g h.lt).trans h
theorem Blk.set_ (h : Blk w g t cs) (i : Nat) (u : Value) : Blk (w.setCell ⟨g, i, none⟩ u) g t (cs.setIfInBounds i u) := heap_setCell_self w ⟨g, i, none⟩ u h rfl
theorem Blk.far (h : Blk w g t cs) {p : Addr} (hp : g ≠ p.block) (u : Value) : Blk (w.setCell p u) g t cs := (Below.heap_setCell w p u g hp).trans h
theorem Blk.below {B : Nat} (h : Blk w g t cs) (hb : Below B w w') (hg : g < B) : Blk w' g t cs := (hb.block g hg).trans h
theorem Blk.upd (h : Blk w g t cs) (hb : Upd S w w') (hg : ¬ S g) : Blk w' g t cs := (hb.block g h.lt hg).trans h
theorem Blk.grown {row : Option Nat} (h : Blk w g t cs) (hb : w.grownBy w' row) (hg : some g ≠ row) : Blk w' g t cs := (hb.block g h.lt hg).trans h
theorem Blk.ne_ {g' : Nat} {t' : TypeId} {cs' : Array Value} (h : Blk w g t cs) (h' : Blk w g' t' cs') (hne : t ≠ t') : g ≠ g' := by
  rintro rfl
  unfold Blk at h h'
  rw [h] at h'
  injection h' with h'
  injection h' with _ ht
  exact hne ht
theorem own_blk_ne {base : Nat} {e : TypeId} {size n : Nat} {v : Value} {xs : List Value} (h : w.ownsRow base e size v n xs) (hg : Blk w g t cs) (hne : e ≠ t) : v.ownBlock ≠ some g := by
  rcases h.2 with ⟨rfl, _⟩ | ⟨g', cap, cur, rfl, _, hh, _⟩
  · simp [Value.ownBlock]
  · intro he
    have : g' = g := by simpa [Value.ownBlock] using he
    subst this
    exact Blk.ne_ (t := e) hh hg hne rfl
theorem bcell {W w1 : World} (hb : Below W.heap.size W w1) : (∀ b o, b < W.heap.size → w1.cell? ⟨b, o, none⟩ = W.cell? ⟨b, o, none⟩) ∧ (∀ b o, b < W.heap.size → w1.frozen? ⟨b, o, none⟩ = W.frozen? ⟨b, o, none⟩) :=
  ⟨fun b o h => hb.cell (p := ⟨b, o, none⟩) h, fun b o h => hb.frozen (p := ⟨b, o, none⟩) h⟩
end

/-! ### Cells that are read at an address -/
theorem block_of_add (a : Addr) (n : Nat) : (a.add n).block = a.block := by unfold Addr.add; split <;> rfl
theorem add_of_add (a : Addr) (i j : Nat) : (a.add i).add j = a.add (i + j) := by
  unfold Addr.add
  by_cases hi : i = 0 <;> by_cases hj : j = 0 <;> simp [hi, hj, Nat.add_assoc]

/-- The slice value '.slice A n c' reads as the cells xs ('size' cells an element), in a block of element type e that S knows. -/
def Rd (w : World) (e : TypeId) (S : Nat → Prop) (size : Nat) (A : Option Addr) (n : Nat) (xs : List Value) : Prop :=
  xs.length = n * size ∧ (0 < n → ∃ (b o : Nat) (cs : Array Value) (fr : Nat × Nat), A = some ⟨b, o, none⟩ ∧ S b ∧ w.heap[b]? = some (.cells cs e fr) ∧ ∀ (j : Nat) (u : Value), xs[j]? = some u → w.cell? ⟨b, o + j, none⟩ = some u)

section
variable {w w' : World} {e : TypeId} {S T : Nat → Prop} {size n : Nat} {A : Option Addr} {xs : List Value}
theorem Rd.nil : Rd w e S size A 0 [] := ⟨by simp, fun h => absurd h (by omega)⟩
theorem Rd.same (h : Rd w e S size A n xs) (hs : ∀ k, S k → k < w.heap.size → w'.heap[k]? = w.heap[k]?) : Rd w' e S size A n xs :=
  ⟨h.1, fun hn => by
    obtain ⟨b, o, cs, fr, hA, hS, hb, hc⟩ := h.2 hn
    have hk := hs _ hS (Array.getElem?_eq_some_iff.1 hb).1
    exact ⟨b, o, cs, fr, hA, hS, hk.trans hb, fun j u hu => (World.cell?_of_block (a := ⟨b, o + j, none⟩) hk).trans (hc j u hu)⟩⟩
theorem Rd.keep (h : Rd w e S size A n xs) (hs : KeepT e w w') : Rd w' e S size A n xs :=
  ⟨h.1, fun hn => by
    obtain ⟨b, o, cs, fr, hA, hS, hb, hc⟩ := h.2 hn
    have hk : w'.heap[b]? = w.heap[b]? := (hs _ _ _ hb).trans hb.symm
    exact ⟨b, o, cs, fr, hA, hS, hk.trans hb, fun j u hu => (World.cell?_of_block (a := ⟨b, o + j, none⟩) hk).trans (hc j u hu)⟩⟩
theorem Rd.upd (h : Rd w e S size A n xs) (hs : Upd T w w') (hd : ∀ k, S k → ¬ T k) : Rd w' e S size A n xs :=
  h.same fun k hk hl => hs.block k hl (hd k hk)
theorem Rd.below (h : Rd w e S size A n xs) (hb : Below w.heap.size w w') : Rd w' e S size A n xs := h.same fun k _ hl => hb.block k hl
theorem Rd.alloc (h : Rd w e S size A n xs) (ob : Obj) : Rd (w.alloc ob) e S size A n xs := h.same fun k _ hl => Below.heap_alloc w ob k hl
theorem Rd.more (h : Rd w e S size A n xs) (hS : ∀ k, S k → k < w.heap.size → T k) : Rd w e T size A n xs :=
  ⟨h.1, fun hn => by
    obtain ⟨b, o, cs, fr, hA, hs, hb, r⟩ := h.2 hn
    exact ⟨b, o, cs, fr, hA, hS _ hs (Array.getElem?_eq_some_iff.1 hb).1, hb, r⟩⟩
/-- Element k. -/
theorem Rd.elem (h : Rd w e S size A n xs) {k : Nat} (hk : k < n) : ∃ b o, A = some ⟨b, o, none⟩ ∧ S b ∧ b < w.heap.size ∧ ∀ (j : Nat) (u : Value), xs[k * size + j]? = some u → w.cell? ⟨b, o + k * size + j, none⟩ = some u := by
  obtain ⟨b, o, cs, fr, e', hb, hh, hc⟩ := h.2 (by omega)
  exact ⟨b, o, e', hb, (Array.getElem?_eq_some_iff.1 hh).1, fun j u hu => by rw [Nat.add_assoc]; exact hc _ u hu⟩
theorem Rd.of_own {base c : Nat} (h : w.ownsRow base e size (.slice A n c) n xs) (hS : ∀ g, (Value.slice A n c).ownBlock = some g → S g) : Rd w e S size A n xs := by
  refine ⟨h.1, fun hn => ?_⟩
  rcases h.2 with ⟨hv, h0⟩ | ⟨g, cap, cur, hv, _, hh, _⟩
  · omega
  · injection hv with h1
    subst h1
    refine ⟨g, 0, cur, _, rfl, hS _ rfl, hh, fun j u hu => ?_⟩
    have := h.cells (g := g) rfl j u hu
    rw [show (⟨g, 0 + j, none⟩ : Addr) = (⟨g, 0, none⟩ : Addr).add j by unfold Addr.add; split <;> simp_all]
    exact this
/-- A block that is laid now. -/
theorem Rd.new (w : World) (e : TypeId) (cs : List Value) (size n : Nat) (h : cs.length = n * size) : Rd (w.alloc (.cells cs.toArray e)) e (fun _ => True) size (some ⟨w.heap.size, 0, none⟩) n cs :=
  ⟨h, fun _ => ⟨w.heap.size, 0, _, _, rfl, trivial, heap_alloc_new w _, fun j u hu => by
    rw [cell_of_row _ w.heap.size (0 + j) cs.toArray e (0, 0) (heap_alloc_new w _)]
    simpa using hu⟩⟩
/-- The first k elements. -/
theorem Rd.take (h : Rd w e S size A n xs) {k : Nat} (hk : k ≤ n) : Rd w e S size A k (xs.take (k * size)) := by
  refine ⟨?_, fun hn => ?_⟩
  · rw [List.length_take, h.1, Nat.min_eq_left (Nat.mul_le_mul_right _ hk)]
  · obtain ⟨b, o, cs, fr, e', hb, hh, hc⟩ := h.2 (by omega)
    exact ⟨b, o, cs, fr, e', hb, hh, fun j u hu => hc j u (by rw [List.getElem?_take] at hu; split at hu <;> simp_all)⟩
end

/-- The same, whatever the block's element type is. -/
def RdA (w : World) (S : Nat → Prop) (size : Nat) (A : Option Addr) (n : Nat) (xs : List Value) : Prop :=
  xs.length = n * size ∧ (0 < n → ∃ (b o : Nat), A = some ⟨b, o, none⟩ ∧ S b ∧ b < w.heap.size ∧ ∀ (j : Nat) (u : Value), xs[j]? = some u → w.cell? ⟨b, o + j, none⟩ = some u)
section
variable {w w' : World} {e : TypeId} {S T : Nat → Prop} {size n : Nat} {A : Option Addr} {xs : List Value}
theorem Rd.a (h : Rd w e S size A n xs) : RdA w S size A n xs :=
  ⟨h.1, fun hn => by
    obtain ⟨b, o, cs, fr, hA, hS, hb, hc⟩ := h.2 hn
    exact ⟨b, o, hA, hS, (Array.getElem?_eq_some_iff.1 hb).1, hc⟩⟩
/-- A block of another type is not the one that is read. -/
theorem Rd.ne (h : Rd w e S size A n xs) {B : Nat} {t : TypeId} {cs : Array Value} (hB : Blk w B t cs) (hne : e ≠ t) : RdA w (fun k => k ≠ B) size A n xs :=
  ⟨h.1, fun hn => by
    obtain ⟨b, o, cs', fr, hA, hS, hb, hc⟩ := h.2 hn
    refine ⟨b, o, hA, ?_, (Array.getElem?_eq_some_iff.1 hb).1, hc⟩
    rintro rfl
    unfold Blk at hB
    rw [hb] at hB
    injection hB with hB
    injection hB with _ h2
    exact hne h2⟩
theorem RdA.nil : RdA w S size A 0 [] := ⟨by simp, fun h => absurd h (by omega)⟩
theorem RdA.same (h : RdA w S size A n xs) (hs : ∀ k, S k → k < w.heap.size → w'.heap[k]? = w.heap[k]?) (hz : w.heap.size ≤ w'.heap.size) : RdA w' S size A n xs :=
  ⟨h.1, fun hn => by
    obtain ⟨b, o, hA, hS, hb, hc⟩ := h.2 hn
    have hk := hs _ hS hb
    exact ⟨b, o, hA, hS, by omega, fun j u hu => (World.cell?_of_block (a := ⟨b, o + j, none⟩) hk).trans (hc j u hu)⟩⟩
theorem RdA.upd (h : RdA w S size A n xs) (hs : Upd T w w') (hd : ∀ k, S k → ¬ T k) : RdA w' S size A n xs :=
  h.same (fun k hk hl => hs.block k hl (hd k hk)) hs.size
theorem RdA.below (h : RdA w S size A n xs) (hb : Below w.heap.size w w') : RdA w' S size A n xs := h.same (fun k _ hl => hb.block k hl) hb.size
theorem RdA.belowB {B : Nat} (h : RdA w S size A n xs) (hb : Below B w w') (hS : ∀ k, S k → k < B) : RdA w' S size A n xs := h.same (fun k hk _ => hb.block k (hS k hk)) hb.size
theorem RdA.alloc (h : RdA w S size A n xs) (ob : Obj) : RdA (w.alloc ob) S size A n xs := h.same (fun k _ hl => Below.heap_alloc w ob k hl) (by simp)
theorem RdA.more (h : RdA w S size A n xs) (hS : ∀ k, S k → k < w.heap.size → T k) : RdA w T size A n xs :=
  ⟨h.1, fun hn => by
    obtain ⟨b, o, hA, hs, hb, r⟩ := h.2 hn
    exact ⟨b, o, hA, hS _ hs hb, hb, r⟩⟩
theorem RdA.elem (h : RdA w S size A n xs) {k : Nat} (hk : k < n) : ∃ b o, A = some ⟨b, o, none⟩ ∧ S b ∧ b < w.heap.size ∧ ∀ (j : Nat) (u : Value), xs[k * size + j]? = some u → w.cell? ⟨b, o + k * size + j, none⟩ = some u := by
  obtain ⟨b, o, e', hb, hh, hc⟩ := h.2 (by omega)
  exact ⟨b, o, e', hb, hh, fun j u hu => by rw [Nat.add_assoc]; exact hc _ u hu⟩
end

/-! ### Lists of elements of k cells each -/
section
variable {α β : Type} (f : α → List β) (k : Nat) (hf : ∀ x, (f x).length = k)
include hf
theorem flat_length (l : List α) : (l.flatMap f).length = l.length * k := by
  induction l with
  | nil => simp
  | cons a l ih => simp only [List.flatMap_cons, List.length_append, ih, hf, List.length_cons, Nat.add_mul, Nat.one_mul]; omega
theorem flat_at (l : List α) (i : Nat) (e : α) (h : l[i]? = some e) (j : Nat) (hj : j < k) : (l.flatMap f)[i * k + j]? = (f e)[j]? := by
  induction l generalizing i with
  | nil => simp at h
  | cons a l ih =>
    have ha := hf a
    cases i with
    | zero =>
      simp only [List.getElem?_cons_zero, Option.some.injEq] at h
      subst h
      simp only [List.flatMap_cons, Nat.zero_mul, Nat.zero_add]
      rw [List.getElem?_append_left (by omega)]
    | succ i =>
      simp only [List.getElem?_cons_succ] at h
      have hm : (i + 1) * k = i * k + k := Nat.succ_mul i k
      simp only [List.flatMap_cons]
      rw [List.getElem?_append_right (by omega), show (i + 1) * k + j - (f a).length = i * k + j by omega]
      exact ih i h
theorem flat_take (l : List α) (i : Nat) : (l.take i).flatMap f = (l.flatMap f).take (i * k) := by
  induction l generalizing i with
  | nil => simp
  | cons a l ih =>
    have ha := hf a
    cases i with
    | zero => simp
    | succ i =>
      have hm : (i + 1) * k = i * k + k := Nat.succ_mul i k
      simp only [List.take_succ_cons, List.flatMap_cons]
      rw [ih i, List.take_append, List.take_of_length_le (show (f a).length ≤ (i + 1) * k by omega), show (i + 1) * k - (f a).length = i * k by omega]
theorem flat_drop (l : List α) (i : Nat) : (l.drop i).flatMap f = (l.flatMap f).drop (i * k) := by
  induction l generalizing i with
  | nil => simp
  | cons a l ih =>
    have ha := hf a
    cases i with
    | zero => simp
    | succ i =>
      have hm : (i + 1) * k = i * k + k := Nat.succ_mul i k
      simp only [List.drop_succ_cons, List.flatMap_cons]
      rw [ih i, List.drop_append, List.drop_of_length_le (show (f a).length ≤ (i + 1) * k by omega), List.nil_append, show (i + 1) * k - (f a).length = i * k by omega]
end

/-! ### append onto a row of the call's own, the source nil, empty or not -/
section
variable {P : Program} (w : World)
theorem run_append_of_nil (base : Nat) (t ty e : TypeId) (i : TypeInfo) (size : Nat) (ht : P.underlying t = some (.slice e)) (hi : P.info? e = some i)
    (v : Value) (n : Nat) (xs : List Value) (hown : w.ownsRow base e size v n xs) (c : Nat) : (Builtin.append_ #[t, t] ty #[v, .slice none 0 c]).run P w = .ok v w := by
  rcases hown.2 with ⟨rfl, rfl⟩ | ⟨g, cap, cur, rfl, _, _, hnc, _⟩
  · simp [Builtin.append_, run_underlying ht, sizeOf, typeInfo, hi, Builtin.lenOf, Builtin.firstCells]
  · simp [Builtin.append_, run_underlying ht, sizeOf, typeInfo, hi, Builtin.lenOf, Builtin.firstCells, hnc, storeCells]

theorem run_append_any (base : Nat) (t ty e : TypeId) (i : TypeInfo) (z : Value) (size bytes : Nat) (ht : P.underlying t = some (.slice e)) (hi : P.info? e = some i) (hz : i.zero = some z)
    (hsize : i.size = size) (hby : i.bytes = bytes) (hzs : z.cells.size = size) (hsz : 0 < size)
    (v : Value) (n : Nat) (xs : List Value) (hown : w.ownsRow base e size v n xs)
    (S : Nat → Prop) (A : Option Addr) (m c : Nat) (news : List Value) (hr : RdA w S size A m news) (h1 : ∀ u ∈ news, u.oneCell' = true)
    (h63 : n + m ≤ maxLen) (hbytes : (n + m) * bytes ≤ 140737488355328) (hbase : base ≤ w.heap.size) :
    ∃ v' w', (Builtin.append_ #[t, t] ty #[v, .slice A m c]).run P w = .ok v' w' ∧ w'.ownsRow base e size v' (n + m) (xs ++ news) ∧ w.grownBy w' v.ownBlock ∧
      (v'.ownBlock = v.ownBlock ∨ v'.ownBlock = some w.heap.size) := by
  rcases A with _ | ad
  · have hm : m = 0 := by
      rcases Nat.eq_zero_or_pos m with h0 | h0
      · exact h0
      · obtain ⟨_, _, h, _⟩ := hr.2 h0
        cases h
    subst hm
    have hn : news = [] := List.eq_nil_of_length_eq_zero (by simpa using hr.1)
    subst hn
    exact ⟨v, w, run_append_of_nil w base t ty e i size ht hi v n xs hown c, by simpa using hown, World.grownBy.refl w _, .inl rfl⟩
  · have hcells : ∀ j u, news[j]? = some u → w.cell? (ad.add j) = some u := by
      intro j u hu
      rcases Nat.eq_zero_or_pos m with h0 | h0
      · subst h0
        have hn : news = [] := List.eq_nil_of_length_eq_zero (by simpa using hr.1)
        subst hn
        simp at hu
      · obtain ⟨b, o, h, _, _, hc⟩ := hr.2 h0
        injection h with h
        subst h
        rw [show (⟨b, o, none⟩ : Addr).add j = ⟨b, o + j, none⟩ by unfold Addr.add; split <;> simp_all]
        exact hc j u hu
    obtain ⟨v', w', hrun, h2, h3, _, h5⟩ := run_append_own_at (P := P) w base t ty e i z size bytes ht hi hz hsize hby hzs hsz v n xs hown ad m c news hr.1 hcells h1 h63 hbytes hbase
    exact ⟨v', w', hrun, h2, h3, h5⟩

theorem wp_append_any {o : Oper} {a : Act} {K : Act → World → Prop} {Q : Exit → Act → World → Prop} (s x : Operand) (t : TypeId)
    (ho : o.op = .call { callee := .builtin .append, args := #[s, x], argTypes := #[t, t] })
    (base : Nat) (e : TypeId) (i : TypeInfo) (z : Value) (size bytes : Nat) (ht : P.underlying t = some (.slice e)) (hi : P.info? e = some i) (hz : i.zero = some z)
    (hsize : i.size = size) (hby : i.bytes = bytes) (hzs : z.cells.size = size) (hsz : 0 < size)
    (v : Value) (n : Nat) (xs : List Value) (hs : a.eval s = v) (hown : w.ownsRow base e size v n xs)
    (S : Nat → Prop) (A : Option Addr) (m c : Nat) (news : List Value) (hx : a.eval x = .slice A m c) (hr : RdA w S size A m news) (h1 : ∀ u ∈ news, u.oneCell' = true)
    (h63 : n + m ≤ maxLen) (hbytes : (n + m) * bytes ≤ 140737488355328) (hbase : base ≤ w.heap.size)
    (h : ∀ v' w', w'.ownsRow base e size v' (n + m) (xs ++ news) → w.grownBy w' v.ownBlock → (v'.ownBlock = v.ownBlock ∨ v'.ownBlock = some w.heap.size) → K (a.put o.dst v') w') : o.wp P a w K Q := by
  obtain ⟨v', w', hrun, h2, h3, h4⟩ := run_append_any (P := P) w base t o.type e i z size bytes ht hi hz hsize hby hzs hsz v n xs hown S A m c news hr h1 h63 hbytes hbase
  unfold Oper.wp execOp
  simp only [ho, resolve, invoke, builtin, Sem.run_bind, Sem.run_pure, Result.andThen_ok, List.map_toArray, List.map_cons, List.map_nil, hs, hx, hrun]
  exact h v' w' h2 h3 h4

theorem wpList_append_any {ops : Array Oper} {rest : List Oper} {o : Oper} {a : Act} {Q : Exit → Act → World → Prop} (hgd : o.guard = none) (s x : Operand) (t : TypeId)
    (ho : o.op = .call { callee := .builtin .append, args := #[s, x], argTypes := #[t, t] })
    (base : Nat) (e : TypeId) (i : TypeInfo) (z : Value) (size bytes : Nat) (ht : P.underlying t = some (.slice e)) (hi : P.info? e = some i) (hz : i.zero = some z)
    (hsize : i.size = size) (hby : i.bytes = bytes) (hzs : z.cells.size = size) (hsz : 0 < size)
    (v : Value) (n : Nat) (xs : List Value) (hs : a.eval s = v) (hown : w.ownsRow base e size v n xs)
    (S : Nat → Prop) (A : Option Addr) (m c : Nat) (news : List Value) (hx : a.eval x = .slice A m c) (hr : RdA w S size A m news) (h1 : ∀ u ∈ news, u.oneCell' = true)
    (h63 : n + m ≤ maxLen) (hbytes : (n + m) * bytes ≤ 140737488355328) (hbase : base ≤ w.heap.size)
    (h : ∀ v' w', w'.ownsRow base e size v' (n + m) (xs ++ news) → w.grownBy w' v.ownBlock → (v'.ownBlock = v.ownBlock ∨ v'.ownBlock = some w.heap.size) → wpList P ops Q rest (a.put o.dst v') w') : wpList P ops Q (o :: rest) a w :=
  wpList_plain hgd fun _ hK => wp_append_any w s x t ho base e i z size bytes ht hi hz hsize hby hzs hsz v n xs hs hown S A m c news hx hr h1 h63 hbytes hbase fun v' w' h2 h3 h4 => hK _ _ (h v' w' h2 h3 h4)

theorem step_append_any {ops : Array Oper} {o : Oper} {a : Act} {K : Act → World → Prop} {Q : Exit → Act → World → Prop} {E : Prop} (hgd : o.guard = none) (s x : Operand) (t : TypeId)
    (ho : o.op = .call { callee := .builtin .append, args := #[s, x], argTypes := #[t, t] })
    (base : Nat) (e : TypeId) (i : TypeInfo) (z : Value) (size bytes : Nat) (ht : P.underlying t = some (.slice e)) (hi : P.info? e = some i) (hz : i.zero = some z)
    (hsize : i.size = size) (hby : i.bytes = bytes) (hzs : z.cells.size = size) (hsz : 0 < size)
    (v : Value) (n : Nat) (xs : List Value) (hs : a.eval s = v) (hown : w.ownsRow base e size v n xs)
    (S : Nat → Prop) (A : Option Addr) (m c : Nat) (news : List Value) (hx : a.eval x = .slice A m c) (hr : RdA w S size A m news) (h1 : ∀ u ∈ news, u.oneCell' = true)
    (h63 : n + m ≤ maxLen) (hbytes : (n + m) * bytes ≤ 140737488355328) (hbase : base ≤ w.heap.size)
    (h : ∀ v' w', w'.ownsRow base e size v' (n + m) (xs ++ news) → w.grownBy w' v.ownBlock → (v'.ownBlock = v.ownBlock ∨ v'.ownBlock = some w.heap.size) → K (a.put o.dst v') w') :
    if Region.wanted o (yielded ops a.tmps) = true then Oper.wp P o a w K Q else E := by
  have hw : Region.wanted o (yielded ops a.tmps) = true := by simp [Region.wanted, hgd]
  rw [if_pos hw]
  exact wp_append_any w s x t ho base e i z size bytes ht hi hz hsize hby hzs hsz v n xs hs hown S A m c news hx hr h1 h63 hbytes hbase h
end
/-! ### append and clear within a row that is known whole -/
section
variable {P : Program} (w : World)
theorem wp_append_in {o : Oper} {a : Act} {K : Act → World → Prop} {Q : Exit → Act → World → Prop} (s x : Operand) (t : TypeId)
    (ho : o.op = .call { callee := .builtin .append, args := #[s, x], argTypes := #[t, t] })
    (e : TypeId) (i : TypeInfo) (size : Nat) (ht : P.underlying t = some (.slice e)) (hi : P.info? e = some i) (hsize : i.size = size)
    (g sLen sCap : Nat) (cur : Array Value) (hs : a.eval s = .slice (some ⟨g, 0, none⟩) sLen sCap) (hg : w.heap[g]? = some (.cells cur e (0, 0)))
    (ad : Addr) (m c : Nat) (news : List Value) (hx : a.eval x = .slice (some ad) m c) (hl : news.length = m * size) (hnews : ∀ j u, news[j]? = some u → w.cell? (ad.add j) = some u) (h1 : ∀ u ∈ news, u.oneCell' = true)
    (hroom : sLen + m ≤ sCap) (hfit : sLen * size + news.length ≤ cur.size) (N : Nat) (hN : sLen + m = N) (arr : Array Value) (harr : (cur.toList.take (sLen * size) ++ news ++ cur.toList.drop (sLen * size + news.length)).toArray = arr)
    (h : K (a.put o.dst (.slice (some ⟨g, 0, none⟩) N sCap)) (w.setRow g arr)) : o.wp P a w K Q := by
  subst hsize hN harr
  have hrun := run_append_room (P := P) w t o.type e i ht hi g sLen sCap cur hg ad m c news hl hnews h1 hroom hfit
  unfold Oper.wp execOp
  simp only [ho, resolve, invoke, builtin, Sem.run_bind, Sem.run_pure, Result.andThen_ok, List.map_toArray, List.map_cons, List.map_nil, hs, hx, hrun]
  exact h
theorem step_append_in {ops : Array Oper} {o : Oper} {a : Act} {K : Act → World → Prop} {Q : Exit → Act → World → Prop} {E : Prop} (hgd : o.guard = none) (s x : Operand) (t : TypeId)
    (ho : o.op = .call { callee := .builtin .append, args := #[s, x], argTypes := #[t, t] })
    (e : TypeId) (i : TypeInfo) (size : Nat) (ht : P.underlying t = some (.slice e)) (hi : P.info? e = some i) (hsize : i.size = size)
    (g sLen sCap : Nat) (cur : Array Value) (hs : a.eval s = .slice (some ⟨g, 0, none⟩) sLen sCap) (hg : w.heap[g]? = some (.cells cur e (0, 0)))
    (ad : Addr) (m c : Nat) (news : List Value) (hx : a.eval x = .slice (some ad) m c) (hl : news.length = m * size) (hnews : ∀ j u, news[j]? = some u → w.cell? (ad.add j) = some u) (h1 : ∀ u ∈ news, u.oneCell' = true)
    (hroom : sLen + m ≤ sCap) (hfit : sLen * size + news.length ≤ cur.size) (N : Nat) (hN : sLen + m = N) (arr : Array Value) (harr : (cur.toList.take (sLen * size) ++ news ++ cur.toList.drop (sLen * size + news.length)).toArray = arr)
    (h : K (a.put o.dst (.slice (some ⟨g, 0, none⟩) N sCap)) (w.setRow g arr)) :
    if Region.wanted o (yielded ops a.tmps) = true then Oper.wp P o a w K Q else E := by
  have hw : Region.wanted o (yielded ops a.tmps) = true := by simp [Region.wanted, hgd]
  rw [if_pos hw]
  exact wp_append_in w s x t ho e i size ht hi hsize g sLen sCap cur hs hg ad m c news hx hl hnews h1 hroom hfit N hN arr harr h

theorem run_clear_row (t e ty : TypeId) (z : Value) (ht : P.underlying t = some (.slice e)) (hv : ∀ w, (zeroValue e).run P w = .ok z w) (g o n c : Nat) (cur : Array Value) (hg : w.heap[g]? = some (.cells cur e (0, 0)))
    (zs : List Value) (hzs : (Builtin.zeroCells z.cells n).toList = zs) (h1 : ∀ u ∈ zs, u.oneCell' = true) (hn : 0 < n) (hfit : o + zs.length ≤ cur.size) :
    (Builtin.clear_ #[t] ty #[.slice (some ⟨g, o, none⟩) n c]).run P w = .ok (.tuple #[]) (w.setRow g (cur.toList.take o ++ zs ++ cur.toList.drop (o + zs.length)).toArray) := by
  have hst := run_storeCells_at P g o e zs 0 cur w hg (by simpa using hfit) h1
  simp only [Nat.add_zero] at hst
  obtain ⟨m, rfl⟩ : ∃ m, n = m + 1 := ⟨n - 1, by omega⟩
  simp [Builtin.clear_, run_underlying ht, hv, hzs, hst]
theorem wpList_clear {ops : Array Oper} {rest : List Oper} {o : Oper} {a : Act} {Q : Exit → Act → World → Prop} (hgd : o.guard = none) (x : Operand) (t : TypeId)
    (ho : o.op = .call { callee := .builtin .clear, args := #[x], argTypes := #[t] })
    (e : TypeId) (z : Value) (ht : P.underlying t = some (.slice e)) (hv : ∀ w, (zeroValue e).run P w = .ok z w) (g off n c : Nat) (cur : Array Value) (hx : a.eval x = .slice (some ⟨g, off, none⟩) n c)
    (hg : w.heap[g]? = some (.cells cur e (0, 0))) (zs : List Value) (hzs : (Builtin.zeroCells z.cells n).toList = zs) (h1 : ∀ u ∈ zs, u.oneCell' = true) (hn : 0 < n) (hfit : off + zs.length ≤ cur.size) (arr : Array Value) (harr : (cur.toList.take off ++ zs ++ cur.toList.drop (off + zs.length)).toArray = arr)
    (h : wpList P ops Q rest (a.put o.dst (.tuple #[])) (w.setRow g arr)) : wpList P ops Q (o :: rest) a w :=
  wpList_plain hgd fun K hK => by
    subst harr
    have hrun := run_clear_row (P := P) w t e o.type z ht hv g off n c cur hg zs hzs h1 hn hfit
    unfold Oper.wp execOp
    simp only [ho, resolve, invoke, builtin, Sem.run_bind, Sem.run_pure, Result.andThen_ok, List.map_toArray, List.map_cons, List.map_nil, hx, hrun]
    exact hK _ _ h
end
/-! ### A whole struct stored, cell by cell -/
def putL (w : World) (b : Nat) : Nat → List Value → World
  | _, [] => w
  | i, a :: l => putL (w.setCell ⟨b, i, none⟩ a) b (i + 1) l
section
variable {w w0 : World} {b : Nat} {t e : TypeId} {cs : Array Value} {S : Nat → Prop}
theorem Blk.putL_ (l : List Value) : ∀ (i : Nat) (w : World) (cs : Array Value), Blk w b t cs → i + l.length ≤ cs.size → Blk (putL w b i l) b t (cs.toList.take i ++ l ++ cs.toList.drop (i + l.length)).toArray := by
  induction l with
  | nil => intro i w cs h _; simpa [putL] using h
  | cons a l ih =>
    intro i w cs h hl
    have h1 := ih (i + 1) _ _ (h.set_ i a) (by simp only [List.length_cons] at hl; simp; omega)
    simp only [putL]
    simp only [List.length_cons] at hl
    have hlt : i < cs.toList.length := by rw [Array.length_toList]; omega
    have e1 : (cs.setIfInBounds i a).toList.take (i + 1) ++ l ++ (cs.setIfInBounds i a).toList.drop (i + 1 + l.length) = cs.toList.take i ++ (a :: l) ++ cs.toList.drop (i + (a :: l).length) := by
      rw [Array.toList_setIfInBounds, List.take_succ_eq_append_getElem (by simpa using hlt), List.take_set_of_le (Nat.le_refl _), List.drop_set_of_lt (by omega), List.getElem_set_self (by simpa using hlt)]
      simp [Nat.add_comm, Nat.add_left_comm]
    rw [e1] at h1
    exact h1
theorem Blk.putAt (h : Blk w b t cs) (l : List Value) (hl : l.length = cs.size) : Blk (putL w b 0 l) b t l.toArray := by
  have := Blk.putL_ l 0 w cs h (by omega)
  rw [hl, Nat.zero_add, List.drop_of_length_le (by simp)] at this
  simpa using this
theorem putL_heap (l : List Value) : ∀ (i : Nat) (w : World) (k : Nat), k ≠ b → (putL w b i l).heap[k]? = w.heap[k]? := by
  induction l with
  | nil => intro _ _ _ _; rfl
  | cons a l ih => intro i w k hk; simp only [putL]; rw [ih _ _ _ hk, Below.heap_setCell _ _ _ _ hk]
theorem putL_size (l : List Value) : ∀ (i : Nat) (w : World), (putL w b i l).heap.size = w.heap.size := by
  induction l with
  | nil => intro _ _; rfl
  | cons a l ih => intro i w; simp only [putL]; rw [ih]; simp
theorem putL_same (l : List Value) : ∀ (i : Nat) (w : World), (putL w b i l).os = w.os ∧ (putL w b i l).tape = w.tape ∧ (putL w b i l).output = w.output := by
  induction l with
  | nil => intro _ _; exact ⟨rfl, rfl, rfl⟩
  | cons a l ih => intro i w; simp only [putL]; exact ih _ _
theorem Upd.putAt (h : Upd S w0 w) (hb : S b ∨ w0.heap.size ≤ b) (l : List Value) : Upd S w0 (putL w b 0 l) := by
  obtain ⟨h1, h2, h3⟩ := putL_same (b := b) l 0 w
  refine ⟨h1.trans h.os, h2.trans h.tape, h3.trans h.output, by rw [putL_size]; exact h.size, fun k hk hn => ?_⟩
  rw [putL_heap l 0 w k (by
    rintro rfl
    rcases hb with hb | hb
    · exact hn hb
    · omega)]
  exact h.block k hk hn
theorem below_putAt {B : Nat} (h : Below B w0 w) (hb : B ≤ b) (l : List Value) : Below B w0 (putL w b 0 l) := by
  obtain ⟨h1, h2, h3⟩ := putL_same (b := b) l 0 w
  exact ⟨h1.trans h.os, h2.trans h.tape, h3.trans h.output, by rw [putL_size]; exact h.size, fun k hk => by rw [putL_heap l 0 w k (by omega)]; exact h.block k hk⟩
theorem KeepT.putAt (h : KeepT e w0 w) (hb : Blk w b t cs) (hne : t ≠ e) (l : List Value) : KeepT e w0 (putL w b 0 l) := fun k cs' fr hk => by
  have h1 := h k cs' fr hk
  rw [putL_heap l 0 w k (by
    rintro rfl
    unfold Blk at hb
    rw [hb] at h1
    injection h1 with h1
    injection h1 with _ h2
    exact hne h2)]
  exact h1
theorem KeepT.putNew (h : KeepT e w0 w) (hb : w0.heap.size ≤ b) (l : List Value) : KeepT e w0 (putL w b 0 l) := fun k cs' fr hk => by
  have h1 := h k cs' fr hk
  have := (Array.getElem?_eq_some_iff.1 hk).1
  rw [putL_heap l 0 w k (by omega)]
  exact h1
end

/-! ### Rows of one's own -/
theorem own_slice {w : World} {base n : Nat} {e : TypeId} {size : Nat} {v : Value} {xs : List Value} (h : w.ownsRow base e size v n xs) : ∃ A c, v = .slice A n c ∧ n ≤ c ∧ c ≤ maxLen := by
  rcases h.2 with ⟨rfl, rfl⟩ | ⟨g, cap, cur, rfl, _, _, h1, h2, _⟩
  · exact ⟨none, 0, rfl, Nat.le_refl _, Nat.zero_le _⟩
  · exact ⟨_, cap, rfl, h1, h2⟩
theorem own_same {w w' : World} {base n : Nat} {e : TypeId} {size : Nat} {v : Value} {xs : List Value} (h : w.ownsRow base e size v n xs) (hs : ∀ g, v.ownBlock = some g → w'.heap[g]? = w.heap[g]?) : w'.ownsRow base e size v n xs := by
  refine ⟨h.1, ?_⟩
  rcases h.2 with hn | ⟨g, cap, cur, rfl, hb, hgg, rest⟩
  · exact .inl hn
  · exact .inr ⟨g, cap, cur, rfl, hb, (hs g rfl).trans hgg, rest⟩

theorem own_base {w : World} {b b' n : Nat} {e : TypeId} {size : Nat} {v : Value} {xs : List Value} (h : w.ownsRow b e size v n xs) (hb : b' ≤ b) : w.ownsRow b' e size v n xs := by
  refine ⟨h.1, ?_⟩
  rcases h.2 with hn | ⟨g, cap, cur, rfl, hg, rest⟩
  · exact .inl hn
  · exact .inr ⟨g, cap, cur, rfl, by omega, rest⟩

theorem ret_bool {a b : Bool} (h : a = b) : Ending.returned (.bool a) = .returned (.bool b) := by rw [h]
theorem ret_int {k : IntKind} {a b : Int} (h : a = b) : Ending.returned (.int k a) = .returned (.int k b) := by rw [h]

theorem Rd.dropA {w : World} {S : Nat → Prop} {size n : Nat} {g o : Nat} {xs : List Value} (h : RdA w S size (some ⟨g, o, none⟩) n xs) {k : Nat} (hk : k ≤ n) : RdA w S size (some ⟨g, o + k * size, none⟩) (n - k) (xs.drop (k * size)) := by
  refine ⟨by rw [List.length_drop, h.1, Nat.sub_mul], fun hn => ?_⟩
  obtain ⟨b, o', hA, hS, hl, hc⟩ := h.2 (by omega)
  injection hA with hA
  injection hA with h1 h2
  subst h1 h2
  refine ⟨g, o + k * size, rfl, hS, hl, fun j u hu => ?_⟩
  rw [Nat.add_assoc]
  exact hc _ u (by rw [List.getElem?_drop] at hu; exact hu)

theorem len_succ {α : Type} {n : Nat} {l : List α} (h : l.length = n + 1) : ∃ a l', l = a :: l' ∧ l'.length = n := by
  cases l with
  | nil => simp at h
  | cons a l => exact ⟨a, l, rfl, by simpa using h⟩

end Go.Proofs.Ythlhfhfhagfelaa
