/- What holds between the steps of NetOnce. No condition. -/
import Derived.Test.YtgifmadidgjgbaaWalkJ
set_option linter.unusedVariables false
set_option linter.unusedSimpArgs false
namespace Go.Proofs.Ytgifmadidgjgbaa
open Go.RowKit

/-- The numbers 1 .. k. -/
def nums (k : Nat) : List Value := (List.range k).map fun (j : Nat) => .int .i64 ((j : Int) + 1)
theorem nums_length (k : Nat) : (nums k).length = k := by simp [nums]
theorem nums_at (k j : Nat) (h : j < k) : (nums k)[j]? = some (.int .i64 ((j : Int) + 1)) := by simp [nums, h]
theorem nums_succ (k : Nat) : nums (k + 1) = nums k ++ [.int .i64 ((k : Int) + 1)] := by simp [nums, List.range_succ]

/-- What stands all along: a net, two addresses, a row of numbers. -/
structure Core (w wr : World) (B a1 a2 : Nat) (S : Nat → Prop) (v : Value) (l : List Ent) (last : Int) (nv : Value) (k : Nat) : Prop where
  net : NetAt 59 wr B S v l last
  below : Below w.heap.size w wr
  own : ∀ k, S k → w.heap.size ≤ k
  ad1 : Blk wr a1 30 #[.int .u32 1, .int .i64 2]
  ad2 : Blk wr a2 30 #[.int .u32 3, .int .i64 4]
  na1 : ¬ S a1
  na2 : ¬ S a2
  nrow : wr.ownsRow w.heap.size 3 1 nv k (nums k)
  nn : ∀ g, nv.ownBlock = some g → ¬ S g

section
variable {w wr w2 : World} {B a1 a2 : Nat} {S S' U : Nat → Prop} {v v' : Value} {l l' : List Ent} {last last' : Int} {nv : Value} {k : Nat}
theorem own_lt {e : TypeId} {size base n : Nat} {v : Value} {xs : List Value} (h : w.ownsRow base e size v n xs) : ∀ g, v.ownBlock = some g → base ≤ g ∧ g < w.heap.size := fun g hg => h.lt g hg
theorem Core.after (h : Core w wr B a1 a2 S v l last nv k) (hn : NetAt 59 w2 B S' v' l' last') (ha : After S S' wr w2) : Core w w2 B a1 a2 S' v' l' last' nv k := by
  obtain ⟨s1, t1⟩ := ha.base h.own h.below.size
  refine ⟨hn, h.below.trans t1, s1, h.ad1.upd ha.upd h.na1, h.ad2.upd ha.upd h.na2, fun hk => ?_, fun hk => ?_, own_same h.nrow (fun g hg => ha.upd.block g (h.nrow.lt g hg).2 (h.nn g hg)), fun g hg hk => ?_⟩
  · rcases ha.own _ hk with h1 | h1
    · exact h.na1 h1
    · have := h.ad1.lt; omega
  · rcases ha.own _ hk with h1 | h1
    · exact h.na2 h1
    · have := h.ad2.lt; omega
  · rcases ha.own _ hk with h1 | h1
    · exact h.nn g hg h1
    · have := (h.nrow.lt g hg).2; omega
theorem Core.grow (h : Core w wr B a1 a2 S v l last nv k) (hu : Upd U wr w2) (hb : Below w.heap.size wr w2) (hd : ∀ k, S k → ¬ U k) (h1 : ¬ U a1) (h2 : ¬ U a2) {nv' : Value} {k' : Nat}
    (hr : w2.ownsRow w.heap.size 3 1 nv' k' (nums k')) (hn : ∀ g, nv'.ownBlock = some g → ¬ S g) : Core w w2 B a1 a2 S v l last nv' k' :=
  ⟨h.net.upd hu hd, h.below.trans hb, h.own, h.ad1.upd hu h1, h.ad2.upd hu h2, h.na1, h.na2, hr, hn⟩
theorem Core.belowTop (h : Core w wr B a1 a2 S v l last nv k) (hb : Below wr.heap.size wr w2) : Core w w2 B a1 a2 S v l last nv k :=
  h.grow (U := fun _ => False) (Upd.new hb) (hb.mono h.below.size) (fun _ _ h => h) (fun h => h) (fun h => h) (own_same h.nrow (fun g hg => hb.block g (h.nrow.lt g hg).2)) h.nn
end

/-- From the i-th of the k + 1 equal datagrams on. -/
structure Front (i k : Nat) (b : List UInt8) (l : List Ent) (last : Int) : Prop where
  hd : ∀ j, j + i ≤ k → ∃ e, l[j]? = some e ∧ e.x = ⟨(i : Int) + j + 1, 1, 2, 3, 4, b⟩
  gt : ∀ e ∈ l, (i : Int) < e.x.no
  le : ∀ e ∈ l, e.x.no ≤ last
  ap : Apart l
  lo : (i : Int) ≤ last
theorem Apart.more {l : List Ent} (h : Apart l) {e : Ent} (he : ∀ a ∈ l, a.x.no ≠ e.x.no) : Apart (l ++ [e]) := fun i j a b hij ha hb => by
  by_cases hj : j < l.length
  · rw [List.getElem?_append_left hj] at hb
    rw [List.getElem?_append_left (by omega)] at ha
    exact h i j a b hij ha hb
  · have hjl : j = l.length := by
      have := (List.getElem?_eq_some_iff.1 hb).1
      simp at this; omega
    subst hjl
    rw [List.getElem?_append_right (Nat.le_refl _)] at hb
    rw [List.getElem?_append_left hij] at ha
    simp at hb
    rw [← hb]
    exact he a (List.mem_of_getElem? ha)
theorem Front.more {i k : Nat} {b : List UInt8} {l : List Ent} {last : Int} (h : Front i k b l last) (e : Ent) (he : e.x.no = last + 1) : Front i k b (l ++ [e]) (last + 1) := by
  refine ⟨fun j hj => ?_, fun a ha => ?_, fun a ha => ?_, h.ap.more (fun a ha => ?_), by have := h.lo; omega⟩
  · obtain ⟨e', h1, h2⟩ := h.hd j hj
    exact ⟨e', by rw [List.getElem?_append_left (List.getElem?_eq_some_iff.1 h1).1]; exact h1, h2⟩
  · rcases List.mem_append.1 ha with h1 | h1
    · exact h.gt a h1
    · simp at h1; subst h1; have := h.lo; omega
  · rcases List.mem_append.1 ha with h1 | h1
    · have := h.le a h1; omega
    · simp at h1; subst h1; omega
  · have := h.le a ha; omega
theorem Front.take {i k : Nat} {b : List UInt8} {l : List Ent} {last : Int} (h : Front i k b l last) (hi : i ≤ k) : Front (i + 1) k b (l.eraseIdx 0) last := by
  obtain ⟨e, h1, h2⟩ := h.hd 0 (by omega)
  have hno : e.x.no = i + 1 := by rw [h2]; simp
  refine ⟨fun j hj => ?_, fun a ha => ?_, fun a ha => h.le a (List.mem_of_mem_eraseIdx ha), h.ap.erase 0, ?_⟩
  · obtain ⟨e', h3, h4⟩ := h.hd (j + 1) (by omega)
    refine ⟨e', by rw [List.getElem?_eraseIdx, if_neg (by omega)]; exact h3, ?_⟩
    rw [h4]
    congr 1
    push_cast
    omega
  · have := h.gt a (List.mem_of_mem_eraseIdx ha)
    have h3 := h.ap.gone h1 ha
    push_cast
    omega
  · have := h.le e (List.mem_of_getElem? h1)
    push_cast; omega
theorem findNo_none (l : List Ent) (no : Int) (h : ∀ e ∈ l, e.x.no ≠ no) : ∀ i, findNo l no i = -1 := by
  induction l with
  | nil => intro i; rfl
  | cons e l ih => intro i; rw [findNo, if_neg (h e (by simp))]; exact ih (fun a ha => h a (by simp [ha])) _

/-- In the first loop: i copies have been made. -/
def R1X (w wr : World) (B a1 a2 : Nat) (ov nv : Value) (b : List UInt8) (i : Nat) : Prop :=
  ∃ S v l, Core w wr B a1 a2 S v l ((i : Int) + 1) nv (i + 1) ∧ l.length = i + 1 ∧ Front 0 i b l ((i : Int) + 1) ∧ wr.ownsRow w.heap.size 5 1 ov b.length (enc8 b) ∧ ∀ g, ov.ownBlock = some g → ¬ S g
/-- In the third loop: i steps have been gone through. -/
def R3X (w wr : World) (B a1 a2 : Nat) (nv : Value) (b : List UInt8) (k i : Nat) : Prop :=
  ∃ S v l last, Core w wr B a1 a2 S v l last nv (k + 1) ∧ Front 0 k b l last ∧ last ≤ 20 + i ∧ l.length ≤ 20 + i
/-- In the second loop. -/
def R2X (w wr : World) (B a1 a2 : Nat) (A1 : Option Addr) (nv : Value) (b : List UInt8) (k m : Nat) : Prop :=
  ∃ S v l, Core w wr B a1 a2 S v l ((k : Int) + 1) nv (k + 1) ∧ l.length = k + 1 ∧ Front 0 k b l ((k : Int) + 1) ∧
    (0 < m → ∃ g cur, A1 = some ⟨g, 0, none⟩ ∧ w.heap.size ≤ g ∧ ¬ S g ∧ Blk wr g 5 cur ∧ ∀ j, j < m → ∃ z, cur[j]? = some (.int .u8 z))
/-- In the fourth loop: i of the equal ones have been taken. -/
def R4X (w wr : World) (B a1 a2 : Nat) (nv : Value) (b : List UInt8) (k i : Nat) : Prop :=
  ∃ S v l last, Core w wr B a1 a2 S v l last nv (k + 1) ∧ Front i k b l last ∧ last ≤ 120 ∧ l.length ≤ 120
/-- In the fifth loop. -/
def R5X (w wr : World) (B a1 a2 : Nat) (nv : Value) (b : List UInt8) (k : Nat) : Prop :=
  ∃ S v l last, Core w wr B a1 a2 S v l last nv (k + 1) ∧ Front (k + 1) k b l last ∧ last ≤ 120 + l.length ∧ l.length ≤ 300

theorem own_base {w : World} {b b' n : Nat} {e : TypeId} {size : Nat} {v : Value} {xs : List Value} (h : w.ownsRow b e size v n xs) (hb : b' ≤ b) : w.ownsRow b' e size v n xs := by
  refine ⟨h.1, ?_⟩
  rcases h.2 with hn | ⟨g, cap, cur, rfl, hg, rest⟩
  · exact .inl hn
  · exact .inr ⟨g, cap, cur, rfl, by omega, rest⟩

section
variable {w wr w4 w5 : World} {B a1 a2 : Nat} {S S' : Nat → Prop} {v v' : Value} {l : List Ent} {ov nv nv' : Value} {k i : Nat} {b : List UInt8}
theorem R1X.start {w2 w3 w5 : World} {S' : Nat → Prop} {v' : Value} {A A1 : Option Addr} {c c1 : Nat} (hB2 : Below w.heap.size w w2)
    (hown : w3.ownsRow w.heap.size 5 1 (.slice A1 b.length c1) b.length (enc8 b)) (hg : ((w2.alloc (.cells #[.slice none 0 0, .int .i64 0] 59)).alloc (.cells #[] 5)).grownBy w3 (some (w2.heap.size + 1)))
    (hn : NetAt 59 w5 w2.heap.size S' v' [⟨⟨1, 1, 2, 3, 4, b⟩, A, c⟩] 1) (ha : After (fun k => k = w2.heap.size) S' ((w3.alloc (.cells #[.int .u32 1, .int .i64 2] 30)).alloc (.cells #[.int .u32 3, .int .i64 4] 30)) w5) :
    R1X w (w5.alloc (.cells #[.int .i64 1] 3)) w2.heap.size w3.heap.size (w3.heap.size + 1) (.slice A1 b.length c1) (.slice (some ⟨w5.heap.size, 0, none⟩) 1 1) b 0 := by
  have z2 := hB2.size
  have h4 : Below w.heap.size w ((w2.alloc (.cells #[.slice none 0 0, .int .i64 0] 59)).alloc (.cells #[] 5)) := (hB2.alloc z2 _).alloc (by simp; omega) _
  have h3 : Below w.heap.size w w3 := h4.grown hg h4.size (fun k e => by injection e; omega)
  have z3 := h3.size
  have z3' := hg.size
  simp at z3'
  have h5 : Below w.heap.size w ((w3.alloc (.cells #[.int .u32 1, .int .i64 2] 30)).alloc (.cells #[.int .u32 3, .int .i64 4] 30)) := (h3.alloc z3 _).alloc (by simp; omega) _
  obtain ⟨s1, t1⟩ := ha.base (B0 := w.heap.size) (fun k hk => by omega) h5.size
  have z5 := ha.upd.size
  simp at z5
  have d1 : Blk ((w3.alloc (.cells #[.int .u32 1, .int .i64 2] 30)).alloc (.cells #[.int .u32 3, .int .i64 4] 30)) w3.heap.size 30 #[.int .u32 1, .int .i64 2] := (Blk.new w3 30 _).alloc _
  have d2 : Blk ((w3.alloc (.cells #[.int .u32 1, .int .i64 2] 30)).alloc (.cells #[.int .u32 3, .int .i64 4] 30)) (w3.heap.size + 1) 30 #[.int .u32 3, .int .i64 4] := by
    have := Blk.new (w3.alloc (.cells #[.int .u32 1, .int .i64 2] 30)) 30 #[.int .u32 3, .int .i64 4]
    rwa [World.size_alloc] at this
  have hne : ∀ g, S' g → g = w2.heap.size ∨ w3.heap.size + 2 ≤ g := fun g hg => by
    have := ha.own g hg
    simpa using this
  have hblk5 : Blk ((w3.alloc (.cells #[.int .u32 1, .int .i64 2] 30)).alloc (.cells #[.int .u32 3, .int .i64 4] 30)) w2.heap.size 59 #[.slice none 0 0, .int .i64 0] := by
    have h0 := ((Blk.new w2 59 #[.slice none 0 0, .int .i64 0]).alloc (.cells #[] 5)).grown hg (by simp)
    exact (h0.alloc _).alloc _
  have ho5 := (hown.alloc (.cells #[.int .u32 1, .int .i64 2] 30)).alloc (.cells #[.int .u32 3, .int .i64 4] 30)
  have hoB : (Value.slice A1 b.length c1).ownBlock ≠ some w2.heap.size := own_blk_ne ho5 hblk5 (by decide)
  refine ⟨S', v', _, ⟨hn.below ((Below.refl _ _).alloc (Nat.le_refl _) _), (h5.trans t1).alloc (h5.trans t1).size _, s1, (d1.upd ha.upd (by show ¬ w3.heap.size = w2.heap.size; omega)).alloc _, (d2.upd ha.upd (by show ¬ w3.heap.size + 1 = w2.heap.size; omega)).alloc _, fun h => ?_, fun h => ?_, ?_, fun g hg' h => ?_⟩, rfl, ?_, ?_, fun g hg' h => ?_⟩
  · have := hne _ h; omega
  · have := hne _ h; omega
  · refine ⟨by simp [nums], .inr ⟨w5.heap.size, 1, #[.int .i64 1], rfl, (h5.trans t1).size, heap_alloc_new w5 _, Nat.le_refl _, by simp [maxLen], rfl, by simp [nums]⟩⟩
  · have : g = w5.heap.size := by simpa [Value.ownBlock] using hg'.symm
    have := hn.old g h; omega
  · refine ⟨fun j hj => ?_, fun a ha => ?_, fun a ha => ?_, fun i j a b' hij ha' hb => ?_, by omega⟩
    · obtain rfl : j = 0 := by omega
      exact ⟨_, rfl, rfl⟩
    · simp at ha; subst ha; simp
    · simp at ha; subst ha; simp
    · have := (List.getElem?_eq_some_iff.1 hb).1
      simp at this; omega
  · refine (own_same ho5 (fun g hg' => ha.upd.block g (ho5.lt g hg').2 (fun h => hoB (by rw [hg', h])))).alloc _
  · rcases hne g h with h1 | h1
    · exact hoB (by rw [hg', h1])
    · have := (hown.lt g hg').2; omega

theorem R1X.step (h : Core w wr B a1 a2 S v l ((i : Int) + 1) nv (i + 1)) (hl : l.length = i + 1) (hf : Front 0 i b l ((i : Int) + 1)) (ho : wr.ownsRow w.heap.size 5 1 ov b.length (enc8 b)) (hno : ∀ g, ov.ownBlock = some g → ¬ S g)
    {e : Ent} (hn : NetAt 59 w4 B S' v' (l ++ [e]) ((i : Int) + 1 + 1)) (ha : After S S' wr w4) (he : e.x = ⟨(i : Int) + 1 + 1, 1, 2, 3, 4, b⟩) (o : Obj) (hg : (w4.alloc o).grownBy w5 nv.ownBlock)
    (hr : w5.ownsRow w.heap.size 3 1 nv' (i + 1 + 1) (nums (i + 1) ++ [.int .i64 ((i : Int) + 1 + 1)])) (hbk : nv'.ownBlock = nv.ownBlock ∨ nv'.ownBlock = some (w4.alloc o).heap.size) : R1X w w5 B a1 a2 ov nv' b (i + 1) := by
  have core4 := (h.after hn ha).belowTop ((Below.refl _ w4).alloc (Nat.le_refl _) o)
  have hu : Upd (fun k => nv.ownBlock = some k) (w4.alloc o) w5 := (Upd.refl _ _).grown hg (fun k e => .inl e)
  have hb : Below w.heap.size (w4.alloc o) w5 := hu.below core4.below.size (fun g hg' => (core4.nrow.lt g hg').1)
  have hone : ∀ g, ov.ownBlock = some g → g < wr.heap.size := fun g hg' => (ho.lt g hg').2
  have ho4 : (w4.alloc o).ownsRow w.heap.size 5 1 ov b.length (enc8 b) := (own_same ho (fun g hg' => ha.upd.block g (hone g hg') (hno g hg'))).alloc o
  have hnov : ∀ g, ov.ownBlock = some g → ¬ nv.ownBlock = some g := fun g hg' hg2 => by
    rcases core4.nrow.2 with ⟨rfl, h0⟩ | ⟨g', cap, cur, rfl, _, hh, _⟩
    · omega
    · have : g' = g := by simpa [Value.ownBlock] using hg2
      subst this
      exact own_blk_ne ho4 (g := g') (t := 3) (cs := cur) hh (by decide) hg'
  have e2 : ((i : Int) + 1 + 1) = ((i + 1 : Nat) : Int) + 1 := by push_cast; omega
  refine ⟨S', v', l ++ [e], ?_, by simp [hl], ?_, own_same ho4 (fun g hg' => hu.block g (ho4.lt g hg').2 (hnov g hg')), fun g hg' hS => ?_⟩
  · have := core4.grow hu hb (fun k hk hv => core4.nn k hv hk) (own_blk_ne core4.nrow core4.ad1 (by decide)) (own_blk_ne core4.nrow core4.ad2 (by decide)) (nv' := nv') (k' := i + 1 + 1)
      (by rw [nums_succ (i + 1)]; push_cast; exact hr) (fun g hg' hS => by
        rcases hbk with h1 | h1
        · exact core4.nn g (by rw [← h1, hg']) hS
        · have h2 := core4.net.old g hS
          rw [hg'] at h1
          injection h1 with h1
          omega)
    rw [e2] at this
    exact this
  · have := hf.more e (by rw [he])
    rw [e2] at this
    refine ⟨fun j hj => ?_, this.gt, this.le, this.ap, this.lo⟩
    by_cases hji : j ≤ i
    · exact this.hd j (by omega)
    · obtain rfl : j = i + 1 := by omega
      exact ⟨e, by rw [← hl]; simp, by rw [he]; congr 1; push_cast; omega⟩
  · rcases ha.own _ hS with h1 | h1
    · exact hno g hg' h1
    · have := hone g hg'; omega

theorem R2X.start {A1 : Option Addr} {c1 : Nat} (h : Core w wr B a1 a2 S v l ((k : Int) + 1) nv (k + 1)) (hl : l.length = k + 1) (hf : Front 0 k b l ((k : Int) + 1)) (ho : wr.ownsRow w.heap.size 5 1 (.slice A1 b.length c1) b.length (enc8 b))
    (hno : ∀ g, (Value.slice A1 b.length c1).ownBlock = some g → ¬ S g) : R2X w wr B a1 a2 A1 nv b k b.length := by
  refine ⟨S, v, l, h, hl, hf, fun hm => ?_⟩
  rcases ho.2 with ⟨_, h0⟩ | ⟨g, cap, cur, he, hg, hh, hle, _, hsz, ht⟩
  · omega
  · injection he with he
    subst he
    refine ⟨g, cur, rfl, hg, hno g rfl, hh, fun j hj => ?_⟩
    have h1 : (cur.toList.take (b.length * 1))[j]? = (enc8 b)[j]? := by rw [ht]
    rw [List.getElem?_take, if_pos (by omega)] at h1
    refine ⟨((b[j]'hj).toNat : Int), ?_⟩
    rw [Array.getElem?_toList] at h1
    rw [h1]
    simp [enc8, hj]

theorem R2X.step {A1 : Option Addr} {g m j : Nat} (h : R2X w wr B a1 a2 A1 nv b k m) (hj : j < m) (hA : A1 = some ⟨g, 0, none⟩) (z' : Int) : R2X w (wr.setCell ⟨g, j, none⟩ (.int .u8 z')) B a1 a2 A1 nv b k m := by
  obtain ⟨S, v, l, C0, L0, F0, h2⟩ := h
  obtain ⟨g', cur, hA', hg, hS, hb, hc⟩ := h2 (by omega)
  rw [hA] at hA'
  injection hA' with hA'
  injection hA' with hA'
  subst hA'
  have hu : Upd (fun k => k = g) wr (wr.setCell ⟨g, j, none⟩ (.int .u8 z')) := (Upd.refl (fun k => k = g) _).setCell (p := ⟨g, j, none⟩) (.inl rfl) _
  refine ⟨S, v, l, C0.grow hu ((Below.refl _ _).setCell (p := ⟨g, j, none⟩) hg _) (fun q hq e => hS (by rw [← show q = g from e]; exact hq)) (fun e => Blk.ne_ C0.ad1 hb (by decide) e) (fun e => Blk.ne_ C0.ad2 hb (by decide) e) (own_same C0.nrow (fun q hq => hu.block q (C0.nrow.lt q hq).2 (fun e => own_blk_ne C0.nrow hb (by decide) (by rw [hq, show q = g from e])))) C0.nn, L0, F0, fun hm => ⟨g, _, hA, hg, hS, hb.set_ j _, fun j' hj' => ?_⟩⟩
  obtain ⟨z, hz⟩ := hc j' hj'
  rw [Array.getElem?_setIfInBounds]
  split
  · split
    · exact ⟨_, rfl⟩
    · rename_i e h3
      rw [← e] at hz
      rw [Array.getElem?_eq_none (by omega)] at hz
      cases hz
  · exact ⟨z, hz⟩
theorem R2X.cell {A1 : Option Addr} {m j : Nat} (h : R2X w wr B a1 a2 A1 nv b k m) (hj : j < m) : ∃ g z, A1 = some ⟨g, 0, none⟩ ∧ g < wr.heap.size ∧ wr.cell? ⟨g, j, none⟩ = some (.int .u8 z) ∧ wr.frozen? ⟨g, j, none⟩ = false := by
  obtain ⟨S, v, l, C0, L0, F0, h2⟩ := h
  obtain ⟨g, cur, hA, hg, hS, hb, hc⟩ := h2 (by omega)
  obtain ⟨z, hz⟩ := hc j hj
  exact ⟨g, z, hA, hb.lt, (hb.cell j).trans hz, hb.frozen j⟩

theorem R3X.start {A1 : Option Addr} {m : Nat} (h : R2X w wr B a1 a2 A1 nv b k m) (hk : k < 20) : R3X w wr B a1 a2 nv b k 0 := by
  obtain ⟨S, v, l, C0, L0, F0, h2⟩ := h
  exact ⟨S, v, l, _, C0, F0, by omega, by omega⟩
theorem R3X.step {last : Int} {r : Ending} {w2 : World} (h : Core w wr B a1 a2 S v l last nv (k + 1)) (hf : Front 0 k b l last) (h1 : last ≤ 20 + i) (h2 : l.length ≤ 20 + i) (hs : Sent wr B S v l last r w2) : R3X w w2 B a1 a2 nv b k (i + 1) := by
  obtain ⟨_, _, S', v', l', last', _, hn, ha, h3⟩ := hs
  rcases h3 with ⟨rfl, rfl⟩ | ⟨rfl, e, rfl, he⟩
  · exact ⟨S', v', l', last', h.after hn ha, hf, by push_cast; omega, by omega⟩
  · exact ⟨S', v', _, _, h.after hn ha, hf.more e he, by push_cast; omega, by simp; omega⟩

theorem Core.num {An : Option Addr} {last : Int} {c j : Nat} (h : Core w wr B a1 a2 S v l last (.slice An k c) k) (hj : j < k) : ∃ g, An = some ⟨g, 0, none⟩ ∧ g < wr.heap.size ∧ wr.cell? ⟨g, j, none⟩ = some (.int .i64 ((j : Int) + 1)) := by
  obtain ⟨g, cap, he, _, hl⟩ := h.nrow.form (by omega)
  injection he with he
  subst he
  have hr := Rd.of_own (S := fun _ => True) h.nrow (fun _ _ => trivial)
  obtain ⟨b', o, hA, _, _, hc⟩ := hr.elem hj
  injection hA with hA
  injection hA with h1 h2
  subst h1 h2
  exact ⟨g, rfl, hl, by have := hc 0 _ (by rw [Nat.mul_one, Nat.add_zero]; exact nums_at k j hj); simpa using this⟩
/-- The next of the equal ones: what Take hands back, and leaves. -/
theorem R4X.key {An : Option Addr} {c j : Nat} (h : R4X w wr B a1 a2 (.slice An (k + 1) c) b k j) (hj : j ≤ k) :
    ∃ (g : Nat) (A' : Option Addr) (c' : Nat), An = some ⟨g, 0, none⟩ ∧ g < wr.heap.size ∧ wr.cell? ⟨g, j, none⟩ = some (.int .i64 ((j : Int) + 1)) ∧
      Calls Try.prog 12 #[.pointer (some ⟨B, 0, none⟩), .int .i64 ((j : Int) + 1)] wr fun r w2 => r = .returned (.tuple #[.agg #[.int .i64 ((j : Int) + 1), .int .u32 1, .int .i64 2, .int .u32 3, .int .i64 4, .slice A' b.length c'], .int .i64 0]) ∧
        (∃ S, Rd w2 5 S 1 A' b.length (enc8 b)) ∧ R4X w w2 B a1 a2 (.slice An (k + 1) c) b k (j + 1) := by
  obtain ⟨S, v, l, last, C0, F0, h1, h2⟩ := h
  obtain ⟨g, rfl, hg, hc⟩ := C0.num (j := j) (by omega)
  obtain ⟨e, he, hx⟩ := F0.hd 0 (by omega)
  have hfn := findNo_at l F0.ap 0 e he
  have hb := C0.net.byt e (List.mem_of_getElem? he)
  obtain ⟨x, A', c'⟩ := e
  simp only at hx
  subst hx
  have e0 : (j : Int) + ((0 : Nat) : Int) + 1 = (j : Int) + 1 := by omega
  refine ⟨g, A', c', rfl, hg, hc, (TakeHit C0.net ((j : Int) + 1) 0 _ he (by rw [← e0]; exact hfn)).mono fun r w2 ⟨hr, S', v', hn, ha⟩ => ⟨?_, ⟨S, hb.1.keep ha.keep⟩, S', v', _, last, C0.after hn ha, F0.take hj, h1, ?_⟩⟩
  · rw [hr]
    simp
  · have := List.length_eraseIdx_le l 0
    omega
theorem R4X.miss {An : Option Addr} {c j : Nat} (h : R4X w wr B a1 a2 (.slice An (k + 1) c) b k j) (no : Int) (hno : no = (j : Int)) : Calls Try.prog 12 #[.pointer (some ⟨B, 0, none⟩), .int .i64 no] wr fun r w' => r = .returned (.tuple #[.agg #[.int .i64 0, .int .u32 0, .int .i64 0, .int .u32 0, .int .i64 0, .slice none 0 0], .int .i64 5]) ∧ Below wr.heap.size wr w' := by
  obtain ⟨S, v, l, last, C0, F0, h1, h2⟩ := h
  subst hno
  exact TakeMiss C0.net j (findNo_none l j (fun e he => by have := F0.gt e he; omega) 0)
theorem R4X.num {g c i j : Nat} (h : R4X w wr B a1 a2 (.slice (some ⟨g, 0, none⟩) (k + 1) c) b k i) (hj : j < k + 1) : g < wr.heap.size ∧ wr.cell? ⟨g, j, none⟩ = some (.int .i64 ((j : Int) + 1)) := by
  obtain ⟨S, v, l, last, C0, F0, h1, h2⟩ := h
  obtain ⟨g', hA, h3, h4⟩ := C0.num hj
  injection hA with hA
  injection hA with hA
  subst hA
  exact ⟨h3, h4⟩
theorem R4X.below {An : Option Addr} {c j : Nat} {w2 : World} (h : R4X w wr B a1 a2 (.slice An (k + 1) c) b k j) (hb : Below wr.heap.size wr w2) : R4X w w2 B a1 a2 (.slice An (k + 1) c) b k j := by
  obtain ⟨S, v, l, last, C0, F0, h1, h2⟩ := h
  exact ⟨S, v, l, last, C0.belowTop hb, F0, h1, h2⟩
theorem conv_bytesA {w : World} {S : Nat → Prop} {A : Option Addr} {b : List UInt8} (h : RdA w S 1 A b.length (enc8 b)) (c : Nat) :
    (convert 22 9 (.slice A b.length c)).run Try.prog w = .ok (.string ⟨b.toArray⟩) w := by
  cases A with
  | none =>
    have hl : b.length = 0 := by
      rcases Nat.eq_zero_or_pos b.length with h0 | h0
      · exact h0
      · obtain ⟨_, _, h, _⟩ := h.2 h0; cases h
    obtain rfl : b = [] := List.eq_nil_of_length_eq_zero hl
    exact Lib.run_convert_nil_bytes w 22 9 5 c Try.underlying22 Try.underlying5 Try.underlying9
  | some ad =>
    refine run_convert_bytes_back w 22 9 5 ad c b Try.underlying22 Try.underlying5 Try.underlying9 (fun j hj => ?_)
    obtain ⟨g, o, hA, _, _, hc⟩ := h.2 (by omega)
    injection hA with hA
    subst hA
    rw [show (⟨g, o, none⟩ : Addr).add j = ⟨g, o + j, none⟩ by unfold Addr.add; split <;> simp_all]
    exact hc j _ (by simp [enc8, hj])
/-- What the fourth loop's test reads. -/
theorem R4X.reads {An : Option Addr} {c j : Nat} (h : R4X w wr B a1 a2 (.slice An (k + 1) c) b k j) : wr.cell? ⟨a1, 0, none⟩ = some (.int .u32 1) ∧ wr.cell? ⟨a1, 1, none⟩ = some (.int .i64 2) ∧ wr.cell? ⟨a2, 0, none⟩ = some (.int .u32 3) ∧ wr.cell? ⟨a2, 1, none⟩ = some (.int .i64 4) ∧ Below w.heap.size w wr := by
  obtain ⟨S, v, l, last, C0, F0, h1, h2⟩ := h
  exact ⟨C0.ad1.cell 0, C0.ad1.cell 1, C0.ad2.cell 0, C0.ad2.cell 1, C0.below⟩
theorem R4X.drewN {An : Option Addr} {c j : Nat} (h : R4X w wr B a1 a2 (.slice An (k + 1) c) b k j) (nq : Nat) : R4X w (wr.drewN nq) B a1 a2 (.slice An (k + 1) c) b k j :=
  h.below ⟨rfl, rfl, rfl, Nat.le_refl _, fun _ _ => rfl⟩

/-- How many more a net may take. -/
def room (w : World) (B : Nat) : Nat := match w.cell? ⟨B, 0, none⟩ with
  | some (.slice _ n _) => 300 - n
  | _ => 0
theorem NetAt.room_ {T : TypeId} {last : Int} (h : NetAt T w B S v l last) : room w B = 300 - l.length := by
  obtain ⟨A, c, rfl, _⟩ := own_slice h.row
  have : w.cell? ⟨B, 0, none⟩ = some (.slice A l.length c) := h.blk.cell 0
  simp [room, this]
theorem R5X.start {An : Option Addr} {c : Nat} (h : R4X w wr B a1 a2 (.slice An (k + 1) c) b k (k + 1)) : R5X w wr B a1 a2 (.slice An (k + 1) c) b k := by
  obtain ⟨S, v, l, last, C0, F0, h1, h2⟩ := h
  exact ⟨S, v, l, last, C0, F0, by omega, by omega⟩
def Filled (w : World) (B a1 a2 : Nat) (nv : Value) (b : List UInt8) (k n : Nat) (r : Ending) (w2 : World) : Prop :=
  ∃ z : Int, r = .returned (.tuple #[.int .i64 z, .int .i64 0]) ∧ R5X w w2 B a1 a2 nv b k ∧ room w2 B = 300 - (n + 1)
def FullOf (w : World) (z : Int) (r : Ending) (w2 : World) : Prop := r = .returned (.tuple #[.int .i64 z, .int .i64 10]) ∧ Below w.heap.size w w2
theorem R5X.key (h : R5X w wr B a1 a2 nv b k) : Below w.heap.size w wr ∧ (wr.cell? ⟨a1, 0, none⟩ = some (.int .u32 1) ∧ wr.cell? ⟨a1, 1, none⟩ = some (.int .i64 2) ∧ wr.cell? ⟨a2, 0, none⟩ = some (.int .u32 3) ∧ wr.cell? ⟨a2, 1, none⟩ = some (.int .i64 4)) ∧
    ∃ n : Nat, n ≤ 300 ∧ room wr B = 300 - n ∧ (Calls Try.prog 13 #[.pointer (some ⟨B, 0, none⟩)] wr fun r w' => r = .returned (.int .i64 n) ∧ w' = wr) ∧
      (n < 300 → Calls Try.prog 10 #[.pointer (some ⟨B, 0, none⟩), .agg #[.int .u32 1, .int .i64 2], .agg #[.int .u32 3, .int .i64 4], .slice none 0 0] wr (Filled w B a1 a2 nv b k n)) ∧
      (n = 300 → Calls Try.prog 10 #[.pointer (some ⟨B, 0, none⟩), .agg #[.int .u32 1, .int .i64 2], .agg #[.int .u32 3, .int .i64 4], .slice none 0 0] wr (FullOf wr 0) ∧
        ∃ no : Int, (∀ W, Below wr.heap.size wr W → Calls Try.prog 14 #[.pointer (some ⟨B, 0, none⟩), .int .i64 0] W fun r w' => r = .returned (.int .i64 no) ∧ Below W.heap.size W w') ∧
          (∀ W, Below wr.heap.size wr W → Calls Try.prog 11 #[.pointer (some ⟨B, 0, none⟩), .int .i64 no] W (FullOf W 0))) := by
  obtain ⟨S, v, l, last, C0, F0, h1, h2⟩ := h
  refine ⟨C0.below, ⟨C0.ad1.cell 0, C0.ad1.cell 1, C0.ad2.cell 0, C0.ad2.cell 1⟩, l.length, h2, C0.net.room_, Count C0.net, fun hn => ?_, fun hn => ⟨?_, ?_⟩⟩
  · refine (Send_room C0.net hn (by omega) ⟨0, 1, 2, 3, 4, []⟩ none 0 (fun k => k ≠ B) RdA.nil (fun k hk => hk) (by show 0 ≤ 1200; omega) (Nat.le_refl _) (by show mayB 1 2 = true; decide) (by show mayB 3 4 = true; decide) rfl).mono fun r w2 hh => ?_
    obtain ⟨hr, S', v', A1, c1, hn', ha⟩ := hh
    refine ⟨_, hr, ⟨S', v', _, _, C0.after hn' ha, F0.more _ rfl, by simp; omega, by simp; omega⟩, ?_⟩
    rw [hn'.room_]
    simp
  · exact Send_full C0.net (by omega) 1 2 3 4 none 0 0 (by decide) (by decide) (by omega)
  · have hi := atIdx_lt l.length 0 (by omega)
    obtain ⟨e, he⟩ : ∃ e, l[atIdx l.length 0]? = some e := ⟨_, List.getElem?_eq_getElem hi⟩
    have hf := findNo_at l F0.ap _ e he
    exact ⟨e.x.no, fun W hW => At_ (C0.net.below hW) 0 (by omega) e he, fun W hW => Copy_full (C0.net.below hW) e.x.no _ e he hf (by omega)⟩
end
end Go.Proofs.Ytgifmadidgjgbaa
