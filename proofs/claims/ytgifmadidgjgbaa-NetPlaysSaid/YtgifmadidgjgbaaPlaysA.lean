/- NetPlays: the two nets side by side, a step of each. No condition. -/
import Derived.Test.YtgifmadidgjgbaaRefF
import Derived.Test.YtgifmadidgjgbaaAllB
set_option linter.unusedVariables false
set_option linter.unusedSimpArgs false
namespace Go.Proofs.Ytgifmadidgjgbaa
open Go.RowKit

/-- The program's net in block B, the reference's in block B'; O: other blocks that neither may write. -/
structure Two (w wr : World) (B B' : Nat) (S S' O : Nat → Prop) (v v' : Value) (l l' : List Ent) (last last' : Int) : Prop where
  net : NetAt 59 wr B S v l last
  ref : NetAt 50 wr B' S' v' l' last'
  dis : ∀ k, S k → ¬ S' k
  oth : ∀ k, O k → ¬ S k ∧ ¬ S' k ∧ k < wr.heap.size
  below : Below w.heap.size w wr
  own : ∀ k, S k → w.heap.size ≤ k
  own' : ∀ k, S' k → w.heap.size ≤ k

/-- Two rows of datagrams that tell the same. -/
def Same2 (l l' : List Ent) : Prop := l.map Ent.x = l'.map Ent.x
/-- The blocks in O are as they were. -/
def KeepO (O : Nat → Prop) (w w' : World) : Prop := ∀ k, O k → w'.heap[k]? = w.heap[k]?

section
variable {w wr w1 w2 : World} {B B' : Nat} {S S' S1 O : Nat → Prop} {v v' v1 : Value} {l l' l1 : List Ent} {last last' last1 : Int}
theorem KeepO.trans (h : KeepO O wr w1) (k : KeepO O w1 w2) : KeepO O wr w2 := fun i hi => (k i hi).trans (h i hi)
theorem Two.left (h : Two w wr B B' S S' O v v' l l' last last') (hn : NetAt 59 w1 B S1 v1 l1 last1) (ha : After S S1 wr w1) : Two w w1 B B' S1 S' O v1 v' l1 l' last1 last' ∧ KeepO O wr w1 := by
  obtain ⟨s1, t1⟩ := ha.base h.own h.below.size
  have hz := ha.upd.size
  refine ⟨⟨hn, h.ref.upd ha.upd (fun k hk hs => h.dis k hs hk), fun k hk hk' => ?_, fun k hk => ?_, h.below.trans t1, s1, h.own'⟩, fun k hk => ha.upd.block k (h.oth k hk).2.2 (h.oth k hk).1⟩
  · rcases ha.own k hk with h1 | h1
    · exact h.dis k h1 hk'
    · have := h.ref.old k hk'; omega
  · obtain ⟨h1, h2, h3⟩ := h.oth k hk
    refine ⟨fun hs => ?_, h2, by omega⟩
    rcases ha.own k hs with h4 | h4
    · exact h1 h4
    · omega
theorem Two.right (h : Two w wr B B' S S' O v v' l l' last last') (hn : NetAt 50 w1 B' S1 v1 l1 last1) (ha : After S' S1 wr w1) : Two w w1 B B' S S1 O v v1 l l1 last last1 ∧ KeepO O wr w1 := by
  obtain ⟨s1, t1⟩ := ha.base h.own' h.below.size
  have hz := ha.upd.size
  refine ⟨⟨h.net.upd ha.upd (fun k hk hs => h.dis k hk hs), hn, fun k hk hk' => ?_, fun k hk => ?_, h.below.trans t1, h.own, s1⟩, fun k hk => ha.upd.block k (h.oth k hk).2.2 (h.oth k hk).2.1⟩
  · rcases ha.own k hk' with h1 | h1
    · exact h.dis k hk h1
    · have := h.net.old k hk; omega
  · obtain ⟨h1, h2, h3⟩ := h.oth k hk
    refine ⟨h1, fun hs => ?_, by omega⟩
    rcases ha.own k hs with h4 | h4
    · exact h2 h4
    · omega
theorem Two.top (h : Two w wr B B' S S' O v v' l l' last last') (hb : Below wr.heap.size wr w1) : Two w w1 B B' S S' O v v' l l' last last' ∧ KeepO O wr w1 :=
  ⟨⟨h.net.below hb, h.ref.below hb, h.dis, fun k hk => ⟨(h.oth k hk).1, (h.oth k hk).2.1, Nat.lt_of_lt_of_le (h.oth k hk).2.2 hb.size⟩, h.below.trans (hb.mono h.below.size), h.own, h.own'⟩, fun k hk => hb.block k (h.oth k hk).2.2⟩
theorem Two.more {O1 : Nat → Prop} (h : Two w wr B B' S S' O v v' l l' last last') (hO : ∀ k, O1 k → O k ∨ (¬ S k ∧ ¬ S' k ∧ k < wr.heap.size)) : Two w wr B B' S S' O1 v v' l l' last last' :=
  ⟨h.net, h.ref, h.dis, fun k hk => (hO k hk).elim (h.oth k) id, h.below, h.own, h.own'⟩
/-- A block that is laid now is another one. -/
theorem Two.lay (h : Two w wr B B' S S' O v v' l l' last last') (o : Obj) : Two w (wr.alloc o) B B' S S' (fun k => O k ∨ k = wr.heap.size) v v' l l' last last' :=
  ((h.top ((Below.refl _ _).alloc (Nat.le_refl _) o)).1).more fun k hk => by
    rcases hk with hk | rfl
    · exact .inl hk
    · exact .inr ⟨fun e => by have := h.net.old _ e; omega, fun e => by have := h.ref.old _ e; omega, by simp⟩
theorem Same2.len (h : Same2 l l') : l.length = l'.length := by have := congrArg List.length h; simpa using this
theorem Same2.at_ (h : Same2 l l') {i : Nat} {e : Ent} (he : l[i]? = some e) : ∃ e', l'[i]? = some e' ∧ e'.x = e.x := by
  have h1 : (l.map Ent.x)[i]? = (l'.map Ent.x)[i]? := by rw [h]
  rw [List.getElem?_map, List.getElem?_map, he] at h1
  cases h2 : l'[i]? with
  | none => rw [h2] at h1; simp at h1
  | some e' => rw [h2] at h1; exact ⟨e', rfl, by simpa using h1.symm⟩
theorem Same2.snoc (h : Same2 l l') {e e' : Ent} (he : e.x = e'.x) : Same2 (l ++ [e]) (l' ++ [e']) := by unfold Same2 at *; simp [h, he]
theorem Same2.erase (h : Same2 l l') (i : Nat) : Same2 (l.eraseIdx i) (l'.eraseIdx i) := by
  unfold Same2 at *
  simp only [List.eraseIdx_eq_take_drop_succ, List.map_append, List.map_take, List.map_drop, h]
theorem findNo_x (no : Int) : ∀ (l l' : List Ent) (i : Nat), Same2 l l' → findNo l no i = findNo l' no i := by
  intro l
  induction l with
  | nil =>
    intro l' i h
    cases l' with
    | nil => rfl
    | cons a l' => simp [Same2] at h
  | cons a l ih =>
    intro l' i h
    cases l' with
    | nil => simp [Same2] at h
    | cons a' l' =>
      simp only [Same2, List.map_cons, List.cons.injEq] at h
      simp only [findNo, h.1]
      rw [ih l' (i + 1) h.2]
theorem findNo_cases (no : Int) : ∀ (l : List Ent) (k : Nat), findNo l no k = -1 ∨ ∃ (i : Nat) (e : Ent), l[i]? = some e ∧ findNo l no k = ((k + i : Nat) : Int) := by
  intro l
  induction l with
  | nil => intro k; exact .inl rfl
  | cons a l ih =>
    intro k
    by_cases ha : a.x.no = no
    · exact .inr ⟨0, a, rfl, by simp [findNo, ha]⟩
    · simp only [findNo, if_neg ha]
      rcases ih (k + 1) with h | ⟨i, e, h1, h2⟩
      · exact .inl h
      · exact .inr ⟨i + 1, e, by simpa using h1, by rw [h2]; congr 1; omega⟩

/-- What a step of both leaves. -/
def BothAfter (w wr : World) (B B' : Nat) (O : Nat → Prop) (last : Int) (w2 : World) : Prop :=
  KeepO O wr w2 ∧ ∃ S S' v v' l l' last1, Two w w2 B B' S S' O v v' l l' last1 last1 ∧ Same2 l l' ∧ last1 ≤ last + 1

theorem SendBoth (h : Two w wr B B' S S' O v v' l l' last last) (hs : Same2 l l') (hlast : last < 1000000) (fh fp th tp : Int) (hf0 : 0 ≤ fh) (ht0 : 0 ≤ th) (b : List UInt8) (A : Option Addr) (c : Nat) (hr : RdA wr (fun k => k < w.heap.size) 1 A b.length (enc8 b)) (hcc : b.length ≤ c) :
    Calls Try.prog 10 #[.pointer (some ⟨B, 0, none⟩), .agg #[.int .u32 fh, .int .i64 fp], .agg #[.int .u32 th, .int .i64 tp], .slice A b.length c] wr fun r w1 => ∃ a cd : Int, r = .returned (.tuple #[.int .i64 a, .int .i64 cd]) ∧ KeepO O wr w1 ∧
      Hid (Calls Try.prog 15 #[.pointer (some ⟨B', 0, none⟩), .agg #[.int .u32 fh, .int .i64 fp], .agg #[.int .u32 th, .int .i64 tp], .slice A b.length c] w1 fun r2 w2 => r2 = .returned (.tuple #[.int .i64 a, .int .i64 cd]) ∧ BothAfter w wr B B' O last w2) := by
  have hS : ∀ k, k < w.heap.size → k ≠ B := fun k hk e => by have := h.own B h.net.inB; omega
  have hS' : ∀ k, k < w.heap.size → k ≠ B' := fun k hk e => by have := h.own' B' h.ref.inB; omega
  have hlen := hs.len
  by_cases hbad : mayB fh fp = false ∨ mayB th tp = false ∨ 1200 < b.length
  · refine (Send_bad wr _ fh fp th tp A b.length c hbad).mono fun r w1 ⟨hr1, hb⟩ => ⟨0, 1, hr1, (h.top hb).2, ?_⟩
    refine (rSend_bad w1 _ fh fp th tp hf0 ht0 A b.length c hbad).mono fun r w2 ⟨hr2, hb2⟩ => ⟨hr2, ?_⟩
    obtain ⟨h2, k2⟩ := (h.top hb).1.top hb2
    exact ⟨(h.top hb).2.trans k2, _, _, _, _, _, _, _, h2, hs, by omega⟩
  · rw [not_or, not_or] at hbad
    obtain ⟨h1, h2, h3⟩ := hbad
    have h1' : mayB fh fp = true := by simpa using h1
    have h2' : mayB th tp = true := by simpa using h2
    by_cases hf : l.length < 300
    · refine (Send_room h.net hf hlast ⟨0, fh, fp, th, tp, b⟩ A c _ hr hS (by simpa using h3) hcc h1' h2' rfl).mono fun r w1 hp => ?_
      obtain ⟨hr1, S1, v1, A1, c1, hn, ha⟩ := hp
      obtain ⟨t1, k1⟩ := h.left hn ha
      refine ⟨_, _, hr1, k1, ?_⟩
      have hr' := hr.belowB (ha.base h.own h.below.size).2 (fun _ h => h)
      refine (rSend_room t1.ref (by omega) hlast ⟨0, fh, fp, th, tp, b⟩ A c _ hr' hS' (by simpa using h3) hcc h1' h2' rfl hf0 ht0).mono fun r w2 hp2 => ?_
      obtain ⟨hr2, S2, v2, A2, c2, hn2, ha2⟩ := hp2
      obtain ⟨t2, k2⟩ := t1.right hn2 ha2
      exact ⟨hr2, k1.trans k2, _, _, _, _, _, _, _, t2, hs.snoc rfl, by omega⟩
    · refine (Send_full h.net (by omega) fh fp th tp A b.length c h1' h2' (by omega)).mono fun r w1 ⟨hr1, hb⟩ => ⟨0, 10, hr1, (h.top hb).2, ?_⟩
      refine (rSend_full (h.top hb).1.ref (by omega) fh fp th tp hf0 ht0 A b.length c h1' h2' (by omega)).mono fun r w2 ⟨hr2, hb2⟩ => ⟨hr2, ?_⟩
      obtain ⟨h2, k2⟩ := (h.top hb).1.top hb2
      exact ⟨(h.top hb).2.trans k2, _, _, _, _, _, _, _, h2, hs, by omega⟩

theorem CopyBoth (h : Two w wr B B' S S' O v v' l l' last last) (hs : Same2 l l') (hlast : last < 1000000) (no : Int) :
    Calls Try.prog 11 #[.pointer (some ⟨B, 0, none⟩), .int .i64 no] wr fun r w1 => ∃ a cd : Int, r = .returned (.tuple #[.int .i64 a, .int .i64 cd]) ∧ KeepO O wr w1 ∧
      Hid (Calls Try.prog 16 #[.pointer (some ⟨B', 0, none⟩), .int .i64 no] w1 fun r2 w2 => r2 = .returned (.tuple #[.int .i64 a, .int .i64 cd]) ∧ BothAfter w wr B B' O last w2) := by
  have hlen := hs.len
  have hfx := findNo_x no l l' 0 hs
  rcases findNo_cases no l 0 with hf | ⟨i, e, he, hf⟩
  · refine (Copy_miss h.net no hf).mono fun r w1 ⟨hr1, hb⟩ => ⟨0, 5, hr1, (h.top hb).2, ?_⟩
    refine (rCopy_miss (h.top hb).1.ref no (by rw [← hfx]; exact hf)).mono fun r w2 ⟨hr2, hb2⟩ => ⟨hr2, ?_⟩
    obtain ⟨h2, k2⟩ := (h.top hb).1.top hb2
    exact ⟨(h.top hb).2.trans k2, _, _, _, _, _, _, _, h2, hs, by omega⟩
  · rw [Nat.zero_add] at hf
    obtain ⟨e', he', hx⟩ := hs.at_ he
    by_cases hl : l.length < 300
    · refine (Copy_room h.net no i e he hf hl hlast).mono fun r w1 hp => ?_
      obtain ⟨hr1, S1, v1, A1, c1, hn, ha⟩ := hp
      obtain ⟨t1, k1⟩ := h.left hn ha
      refine ⟨_, _, hr1, k1, ?_⟩
      refine (rCopy_room t1.ref no i e' he' (by rw [← hfx]; exact hf) (by omega) hlast).mono fun r w2 hp2 => ?_
      obtain ⟨hr2, S2, v2, A2, c2, hn2, ha2⟩ := hp2
      obtain ⟨t2, k2⟩ := t1.right hn2 ha2
      exact ⟨hr2, k1.trans k2, _, _, _, _, _, _, _, t2, hs.snoc (by simp [hx]), by omega⟩
    · refine (Copy_full h.net no i e he hf (by omega)).mono fun r w1 ⟨hr1, hb⟩ => ⟨0, 10, hr1, (h.top hb).2, ?_⟩
      refine (rCopy_full (h.top hb).1.ref no i e' he' (by rw [← hfx]; exact hf) (by omega)).mono fun r w2 ⟨hr2, hb2⟩ => ⟨hr2, ?_⟩
      obtain ⟨h2, k2⟩ := (h.top hb).1.top hb2
      exact ⟨(h.top hb).2.trans k2, _, _, _, _, _, _, _, h2, hs, by omega⟩

theorem AtBoth (h : Two w wr B B' S S' O v v' l l' last last) (hs : Same2 l l') (p : Int) :
    Calls Try.prog 14 #[.pointer (some ⟨B, 0, none⟩), .int .i64 p] wr fun r w1 => ∃ a : Int, r = .returned (.int .i64 a) ∧ Below wr.heap.size wr w1 ∧
      Hid (Calls Try.prog 17 #[.pointer (some ⟨B', 0, none⟩), .int .i64 p] w1 fun r2 w2 => r2 = .returned (.int .i64 a) ∧ w2 = w1) := by
  have hlen := hs.len
  by_cases hl : 0 < l.length
  · obtain ⟨e, he⟩ : ∃ e, l[atIdx l.length p]? = some e := ⟨_, List.getElem?_eq_getElem (atIdx_lt l.length p hl)⟩
    obtain ⟨e', he', hx⟩ := hs.at_ he
    refine (At_ h.net p hl e he).mono fun r w1 ⟨hr1, hb⟩ => ⟨_, hr1, hb, ?_⟩
    have := rAt (h.top hb).1.ref p (by omega) e' (by rw [← hlen]; exact he')
    rw [hx] at this
    exact this
  · obtain rfl : l = [] := List.eq_nil_of_length_eq_zero (by omega)
    obtain rfl : l' = [] := List.eq_nil_of_length_eq_zero (by simpa using hlen.symm)
    refine (At_empty h.net p).mono fun r w1 ⟨hr1, hb⟩ => ⟨_, hr1, by rw [hb]; exact Below.refl _ _, ?_⟩
    subst hb
    exact rAt_empty h.ref p

/-- A datagram that Take handed back, by value. -/
def agg6 (x : Snt) (A : Option Addr) (c : Nat) : Value := .agg #[.int .i64 x.no, .int .u32 x.fh, .int .i64 x.fp, .int .u32 x.th, .int .i64 x.tp, .slice A x.b.length c]
theorem TakeBoth (h : Two w wr B B' S S' O v v' l l' last last) (hs : Same2 l l') (no : Int) :
    Calls Try.prog 12 #[.pointer (some ⟨B, 0, none⟩), .int .i64 no] wr fun r w1 => ∃ (x : Snt) (A : Option Addr) (c : Nat) (cd : Int), r = .returned (.tuple #[agg6 x A c, .int .i64 cd]) ∧ KeepO O wr w1 ∧ x.b.length ≤ 1200 ∧
      Hid (∀ W, Below w1.heap.size w1 W → Calls Try.prog 18 #[.pointer (some ⟨B', 0, none⟩), .int .i64 no] W fun r2 w2 => ∃ (A' : Option Addr) (c' : Nat), r2 = .returned (.tuple #[agg6 x A' c', .int .i64 cd]) ∧ W.heap.size ≤ w2.heap.size ∧ (∀ k, w1.heap.size ≤ k → k < W.heap.size → w2.heap[k]? = W.heap[k]?) ∧ (∃ T, RdA w2 T 1 A x.b.length (enc8 x.b)) ∧ (∃ T, RdA w2 T 1 A' x.b.length (enc8 x.b)) ∧ BothAfter w wr B B' O last w2) := by
  have hlen := hs.len
  have hfx := findNo_x no l l' 0 hs
  rcases findNo_cases no l 0 with hf | ⟨i, e, he, hf⟩
  · refine (TakeMiss h.net no hf).mono fun r w1 ⟨hr1, hb⟩ => ⟨⟨0, 0, 0, 0, 0, []⟩, none, 0, 5, hr1, (h.top hb).2, by simp, ?_⟩
    intro W hW
    obtain ⟨t1, k1⟩ := h.top hb
    obtain ⟨t2, k2⟩ := t1.top hW
    refine (rTakeMiss t2.ref no (by rw [← hfx]; exact hf)).mono fun r w2 ⟨hr2, hb2⟩ => ⟨none, 0, hr2, hb2.size, fun k _ hk => hb2.block k hk, ⟨fun _ => True, RdA.nil⟩, ⟨fun _ => True, RdA.nil⟩, ?_⟩
    obtain ⟨h3, k3⟩ := t2.top hb2
    exact ⟨(k1.trans k2).trans k3, _, _, _, _, _, _, _, h3, hs, by omega⟩
  · rw [Nat.zero_add] at hf
    obtain ⟨e', he', hx⟩ := hs.at_ he
    obtain ⟨hb1, hb2, hb3⟩ := h.net.byt e (List.mem_of_getElem? he)
    obtain ⟨hb1', hb2', hb3'⟩ := h.ref.byt e' (List.mem_of_getElem? he')
    refine (TakeHit h.net no i e he hf).mono fun r w1 ⟨hr1, S1, v1, hn, ha⟩ => ⟨e.x, e.A, e.c, 0, hr1, (h.left hn ha).2, hb3, ?_⟩
    intro W hW
    obtain ⟨t1, k1⟩ := h.left hn ha
    obtain ⟨t2, k2⟩ := t1.top hW
    refine (rTakeHit t2.ref no i e' he' (by rw [← hfx]; exact hf)).mono fun r w2 ⟨hr2, S2, v2, hn2, ha2⟩ => ⟨e'.A, e'.c, by rw [hr2, hx]; rfl, ha2.upd.size, fun k h1 h2 => ha2.upd.block k h2 (fun hk => by have := h.ref.old k hk; have := ha.upd.size; omega), ⟨S, ((hb1.keep ha.keep).keep ((KeepT.new hW).trans ha2.keep)).a⟩, ⟨S', by rw [← hx]; exact ((hb1'.keep ha.keep).keep ((KeepT.new hW).trans ha2.keep)).a⟩, ?_⟩
    obtain ⟨t3, k3⟩ := t2.right hn2 ha2
    exact ⟨(k1.trans k2).trans k3, _, _, _, _, _, _, _, t3, hs.erase i, by omega⟩
end
end Go.Proofs.Ytgifmadidgjgbaa
