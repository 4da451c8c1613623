/- Contracts of this seat: a net in memory; place, put, Send, Copy, Count, At. No condition. -/
import Derived.Test.YtgifmadidgjgbaaWalkB
import Derived.Deep.RegionHeld3
import Derived.Deep.DeepCutAuto
set_option linter.unusedVariables false
set_option linter.unusedSimpArgs false
namespace Go.Proofs.Ytgifmadidgjgbaa
open Go.RowKit

/-- A net (struct type T, in block B) that holds l, its last number; S: the blocks that are its own. -/
structure NetAt (T : TypeId) (w : World) (B : Nat) (S : Nat → Prop) (v : Value) (l : List Ent) (last : Int) : Prop where
  blk : Blk w B T #[v, .int .i64 last]
  row : w.ownsRow 0 39 6 v l.length (cellsOf l)
  inB : S B
  inV : ∀ g, v.ownBlock = some g → S g
  byt : ∀ e ∈ l, Rd w 5 S 1 e.A e.x.b.length (enc8 e.x.b) ∧ e.x.b.length ≤ e.c ∧ e.x.b.length ≤ 1200
  old : ∀ k, S k → k < w.heap.size
  len : l.length ≤ 300
  lo : 0 ≤ last
  hi : last ≤ 1000000

theorem own_slice {w : World} {base n : Nat} {e : TypeId} {size : Nat} {v : Value} {xs : List Value} (h : w.ownsRow base e size v n xs) : ∃ A c, v = .slice A n c ∧ n ≤ c ∧ c ≤ maxLen := by
  rcases h.2 with ⟨rfl, rfl⟩ | ⟨g, cap, cur, rfl, _, _, h1, h2, _⟩
  · exact ⟨none, 0, rfl, Nat.le_refl _, Nat.zero_le _⟩
  · exact ⟨_, cap, rfl, h1, h2⟩
theorem own_same {w w' : World} {base n : Nat} {e : TypeId} {size : Nat} {v : Value} {xs : List Value} (h : w.ownsRow base e size v n xs) (hs : ∀ g, v.ownBlock = some g → w'.heap[g]? = w.heap[g]?) : w'.ownsRow base e size v n xs := by
  refine ⟨h.1, ?_⟩
  rcases h.2 with hn | ⟨g, cap, cur, rfl, hb, hgg, rest⟩
  · exact .inl hn
  · exact .inr ⟨g, cap, cur, rfl, hb, (hs g rfl).trans hgg, rest⟩

section
variable {T : TypeId} {w w' : World} {B : Nat} {S U : Nat → Prop} {v : Value} {l : List Ent} {last : Int}
theorem NetAt.same (h : NetAt T w B S v l last) (hs : ∀ k, S k → w'.heap[k]? = w.heap[k]?) (hz : w.heap.size ≤ w'.heap.size) : NetAt T w' B S v l last :=
  ⟨(hs B h.inB).trans h.blk, own_same h.row (fun g hg => hs g (h.inV g hg)), h.inB, h.inV, fun e he => ⟨(h.byt e he).1.same (fun k hk _ => hs k hk), (h.byt e he).2⟩,
    fun k hk => Nat.lt_of_lt_of_le (h.old k hk) hz, h.len, h.lo, h.hi⟩
theorem NetAt.upd (h : NetAt T w B S v l last) (hu : Upd U w w') (hd : ∀ k, S k → ¬ U k) : NetAt T w' B S v l last :=
  h.same (fun k hk => hu.block k (h.old k hk) (hd k hk)) hu.size
theorem NetAt.below (h : NetAt T w B S v l last) (hb : Below w.heap.size w w') : NetAt T w' B S v l last :=
  h.same (fun k hk => hb.block k (h.old k hk)) hb.size
theorem NetAt.rd {A : Option Addr} {n c : Nat} (h : NetAt T w B S (.slice A n c) l last) : Rd w 39 S 6 A l.length (cellsOf l) := by
  obtain ⟨A', c', he, _⟩ := own_slice h.row
  injection he with h1 h2 h3
  subst h1 h2 h3
  exact Rd.of_own h.row h.inV

theorem place (h : NetAt 59 w B S v l last) (no : Int) : Calls Try.prog 24 #[.pointer (some ⟨B, 0, none⟩), .int .i64 no] w fun r w' => r = .returned (.int .i64 (findNo l no 0)) ∧ Below w.heap.size w w' := by
  obtain ⟨A, c, rfl, hnc, hcm⟩ := own_slice h.row
  have hB := h.blk.lt
  have hc0 : w.cell? ⟨B, 0, none⟩ = some (.slice A l.length c) := h.blk.cell 0
  have hne : B ≠ w.heap.size := by omega
  have hcall := IndexFunc A c S l no w.heap.size (w.alloc (.cells #[.int .i64 no] 3)) (h.rd.alloc _) (by have := h.len; omega) (by simp) (by simp)
  have H := Lib.hid hcall
  have HN := Lib.hid h
  clear hcall h
  generalize hn : l.length = n at *
  have Hn := Lib.hid hn
  clear hn
  go_enter Try.func24, Try.ntmps24
  go_wp2_with (go_at_call 32; refine H.out.mono ?_; rintro r w' ⟨rfl, hb'⟩)
  go_ret
  exact ⟨rfl, ((Below.refl _ w).alloc (Nat.le_refl _) _).trans (hb'.mono (by simp))⟩

theorem Count (h : NetAt 59 w B S v l last) : Calls Try.prog 13 #[.pointer (some ⟨B, 0, none⟩)] w fun r w' => r = .returned (.int .i64 l.length) ∧ w' = w := by
  obtain ⟨A, c, rfl, hnc, hcm⟩ := own_slice h.row
  have hc0 : w.cell? ⟨B, 0, none⟩ = some (.slice A l.length c) := h.blk.cell 0
  have HN := Lib.hid h
  clear h
  generalize hn : l.length = n at *
  have Hn := Lib.hid hn
  clear hn
  go_enter Try.func13, Try.ntmps13
  go_wp2
  go_ret
  exact ⟨rfl, rfl⟩

theorem New (w : World) : Calls Try.prog 9 #[] w fun r w' => r = .returned (.pointer (some ⟨w.heap.size, 0, none⟩)) ∧ w' = w.alloc (.cells #[.slice none 0 0, .int .i64 0] 59) := by
  go_enter Try.func9, Try.ntmps9
  go_wp2
  go_ret
  exact ⟨rfl, rfl⟩
end
theorem NetAt.new (T : TypeId) (w : World) : NetAt T (w.alloc (.cells #[.slice none 0 0, .int .i64 0] T)) w.heap.size (fun k => k = w.heap.size) (.slice none 0 0) [] 0 :=
  ⟨Blk.new w T _, World.ownsRow_nil _ _ _ _, rfl, fun g hg => by simp [Value.ownBlock] at hg, fun e he => by simp at he, fun k hk => by simp [hk], by simp, by omega, by omega⟩
end Go.Proofs.Ytgifmadidgjgbaa
