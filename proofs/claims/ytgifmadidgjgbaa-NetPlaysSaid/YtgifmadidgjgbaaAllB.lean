/- The iterator of All, by its contract. No condition. -/
import Derived.Test.YtgifmadidgjgbaaAllA
set_option linter.unusedVariables false
set_option linter.unusedSimpArgs false
namespace Go.Proofs.Ytgifmadidgjgbaa
open Go.RowKit Go.Shelf
attribute [local go_sem] Oper.semAt_some

def enc39 (x : Ent) : Array Value := #[.agg #[.int .i64 x.x.no, .int .u32 x.x.fh, .int .i64 x.x.fp, .int .u32 x.x.th, .int .i64 x.x.tp, .slice x.A x.x.b.length x.c]]
/-- What is handed over: the next datagram, its bytes laid anew. -/
def Handed (l : List Ent) (pre : List Ent) (x : Ent) (Ws W : World) : Prop :=
  (∃ e, l[pre.length]? = some e ∧ x.x = e.x) ∧ W.ownsRow Ws.heap.size 5 1 (.slice x.A x.x.b.length x.c) x.x.b.length (enc8 x.x.b)
/-- The blocks in K are as they were. -/
def KeepK (K : Nat → Prop) (A B : World) : Prop := A.heap.size ≤ B.heap.size ∧ ∀ k, K k → k < A.heap.size → B.heap[k]? = A.heap[k]?
theorem KeepK.trans {K : Nat → Prop} {A B C : World} (h : KeepK K A B) (k : KeepK K B C) : KeepK K A C := ⟨Nat.le_trans h.1 k.1, fun i hi hl => (k.2 i hi (Nat.lt_of_lt_of_le hl h.1)).trans (h.2 i hi hl)⟩
theorem KeepK.of_below {K : Nat → Prop} {A B : World} (h : Below A.heap.size A B) : KeepK K A B := ⟨h.size, fun k _ hl => h.block k hl⟩
theorem KeepK.of_calm {K : Nat → Prop} {b : Nat} (hK : ∀ k, K k → k < b) {A B : World} (h : Calm b A B) : KeepK K A B := ⟨h.size, fun k hk hl => by
  rw [Array.getElem?_eq_getElem hl]
  exact h.keep k _ (Array.getElem?_eq_getElem hl) (.inl (hK k hk))⟩
/-- What the iterator reads. -/
structure Src (w : World) (K : Nat → Prop) (Bs : Nat) (A : Option Addr) (c : Nat) (l : List Ent) : Prop where
  box : Blk w Bs 48 #[.slice A l.length c]
  kb : K Bs
  row : Rd w 39 K 6 A l.length (cellsOf l)
  byt : ∀ e ∈ l, Rd w 5 K 1 e.A e.x.b.length (enc8 e.x.b) ∧ e.x.b.length ≤ e.c ∧ e.x.b.length ≤ 1200
theorem Src.keep {w w' : World} {K : Nat → Prop} {Bs c : Nat} {A : Option Addr} {l : List Ent} (h : Src w K Bs A c l) (hk : KeepK K w w') : Src w' K Bs A c l :=
  ⟨(hk.2 Bs h.kb h.box.lt).trans h.box, h.kb, h.row.same (fun k hk' hl => hk.2 k hk' hl), fun e he => ⟨(h.byt e he).1.same (fun k hk' hl => hk.2 k hk' hl), (h.byt e he).2⟩⟩
theorem Src.elem {w : World} {K : Nat → Prop} {Bs c : Nat} {A : Option Addr} {l : List Ent} (h : Src w K Bs A c l) {i : Nat} {e : Ent} (he : l[i]? = some e) :
    ∃ b o, A = some ⟨b, o, none⟩ ∧ w.cell? ⟨b, o + i * 6, none⟩ = some (.int .i64 e.x.no) ∧ w.cell? ⟨b, o + i * 6 + 1, none⟩ = some (.int .u32 e.x.fh) ∧ w.cell? ⟨b, o + i * 6 + 2, none⟩ = some (.int .i64 e.x.fp) ∧ w.cell? ⟨b, o + i * 6 + 3, none⟩ = some (.int .u32 e.x.th) ∧
      w.cell? ⟨b, o + i * 6 + 4, none⟩ = some (.int .i64 e.x.tp) ∧ w.cell? ⟨b, o + i * 6 + 5, none⟩ = some (.slice e.A e.x.b.length e.c) := by
  obtain ⟨b, o, hA, _, _, hcell⟩ := h.row.elem (k := i) (List.getElem?_eq_some_iff.1 he).1
  have key : ∀ j u, j < 6 → e.cells[j]? = some u → w.cell? ⟨b, o + i * 6 + j, none⟩ = some u := fun j u hj hu => hcell j u (by rw [cellsOf_at l i e he j hj]; exact hu)
  exact ⟨b, o, hA, key 0 _ (by omega) rfl, key 1 _ (by omega) rfl, key 2 _ (by omega) rfl, key 3 _ (by omega) rfl, key 4 _ (by omega) rfl, key 5 _ (by omega) rfl⟩

/-- Where the iterator's own variable holds the datagram with its bytes laid anew. -/
theorem handed {l pre : List Ent} {e : Ent} {wr w2 : World} {A1 : Option Addr} {c1 : Nat} (he : l[pre.length]? = some e) (hb : Below (wr.alloc (.cells e.cells.toArray 39)).heap.size (wr.alloc (.cells e.cells.toArray 39)) w2)
    (hr : w2.ownsRow (wr.alloc (.cells e.cells.toArray 39)).heap.size 5 1 (.slice A1 e.x.b.length c1) e.x.b.length (enc8 e.x.b)) (u : Value) :
    Below wr.heap.size wr (w2.setCell ⟨wr.heap.size, 5, none⟩ u) ∧ Handed l pre ⟨e.x, A1, c1⟩ wr (w2.setCell ⟨wr.heap.size, 5, none⟩ u) := by
  have hb1 : Below wr.heap.size wr w2 := ((Below.refl _ wr).alloc (Nat.le_refl _) _).trans (hb.mono (by simp))
  refine ⟨hb1.setCell (p := ⟨wr.heap.size, 5, none⟩) (Nat.le_refl _) _, ⟨e, he, rfl⟩, own_base (own_same hr (fun g hg => Below.heap_setCell _ _ _ _ (by have := (hr.lt g hg).1; simp at this; show g ≠ wr.heap.size; omega))) (by simp)⟩

set_option maxHeartbeats 1600000 in
set_option maxRecDepth 100000 in
theorem all1 (n : Nat) (hn : 2 ≤ n) (K : Nat → Prop) (Bs : Nat) (A : Option Addr) (c : Nat) (l : List Ent) (w : World) (hs : Src w K Bs A c l) (hl : l.length ≤ 300) :
    SeqFresh Fence.wide n Try.prog 30 #[.pointer (some ⟨Bs, 0, none⟩)] enc39 (Handed l) (KeepK K) (fun xs => xs.length = l.length) (fun pre => pre.length ≤ l.length) l.length w := by
  intro L J Jx W hW hY h0
  have hs0 := hs.keep (KeepK.of_below (K := K) hW)
  have HS := Lib.hid hs0
  have HY := Lib.hid hY
  have hc0 : W.cell? ⟨Bs, 0, none⟩ = some (.slice A l.length c) := hs0.box.cell 0
  clear hs hs0 hY
  generalize hm : l.length = m at *
  have HM := Lib.hid hm
  clear hm
  refine callsIn_of_wp Try.func30 rfl trivial ?_ rfl
  simp only [Try.ntmps30, List.size_toArray, List.length_cons, List.length_nil, Nat.reduceAdd, Nat.reduceSub, Array.replicate_succ, Array.replicate_zero, List.push_toArray, List.append_toArray, List.nil_append, List.cons_append]
  gi_wp2
  gi_loopw [7] (fun s7 wr => ∃ k : Nat, k ≤ m ∧ s7 = .int .i64 k ∧ Hid (∃ pre : List Ent, pre.length = k ∧ J pre wr ∧ KeepK K W wr)) (fun s _ => m - (intOf s).toNat)
  case atStart => exact ⟨0, Nat.zero_le _, rfl, [], rfl, h0, KeepK.of_below (Below.refl _ _)⟩
  case round =>
    obtain ⟨k, hk, rfl, HR⟩ := hrel
    obtain ⟨pre, hp, hJ, hK⟩ := HR.out
    by_cases hlt : k < m
    · have hsr := HS.out.keep hK
      obtain ⟨e, he⟩ : ∃ e, l[k]? = some e := ⟨l[k]'(by rw [HM.out]; exact hlt), List.getElem?_eq_getElem _⟩
      obtain ⟨b, o, rfl, c0, c1, c2, c3, c4, c5⟩ := hsr.elem he
      obtain ⟨hb1, hb2, hb3⟩ := hsr.byt e (List.mem_of_getElem? he)
      have hcl := Clone2 e.A e.c K e.x.b (wr.alloc (.cells #[.int .i64 e.x.no, .int .u32 e.x.fh, .int .i64 e.x.fp, .int .u32 e.x.th, .int .i64 e.x.tp, .slice e.A e.x.b.length e.c] 39)) (hb1.a.alloc _) (by omega) hb2
      have HCL := Lib.hid hcl
      have HP := Lib.hid (And.intro hp he)
      have HJ := Lib.hid hJ
      have HK := Lib.hid hK
      have hlt' : (k : Int) < (m : Int) := by omega
      clear hsr he hb1 hb2 hcl hp hJ hK HR
      gi_wp2_with fail
      refine ⟨trivial, fun _ => by omega, (callsIn_wide.2 HCL.out).mono ?_⟩
      rintro r w2 ⟨A1, d1, rfl, hr1, hbb⟩
      obtain ⟨hp, he⟩ := HP.out
      have hbx := (Blk.new wr 39 e.cells.toArray).below hbb (by simp)
      have d0 : w2.cell? ⟨wr.heap.size, 0, none⟩ = some (.int .i64 e.x.no) := hbx.cell 0
      have d1' : w2.cell? ⟨wr.heap.size, 1, none⟩ = some (.int .u32 e.x.fh) := hbx.cell 1
      have d2 : w2.cell? ⟨wr.heap.size, 2, none⟩ = some (.int .i64 e.x.fp) := hbx.cell 2
      have d3 : w2.cell? ⟨wr.heap.size, 3, none⟩ = some (.int .u32 e.x.th) := hbx.cell 3
      have d4 : w2.cell? ⟨wr.heap.size, 4, none⟩ = some (.int .i64 e.x.tp) := hbx.cell 4
      have d5 : w2.cell? ⟨wr.heap.size, 5, none⟩ = some (.slice e.A e.x.b.length e.c) := hbx.cell 5
      have f5 : w2.frozen? ⟨wr.heap.size, 5, none⟩ = false := hbx.frozen 5
      obtain ⟨g1, g2⟩ := handed (pre := pre) (by rw [hp]; exact he) hbb hr1 (.slice A1 e.x.b.length d1)
      obtain ⟨fn, tmps, assign, body, hy, hR⟩ := HY.out pre ⟨e.x, A1, d1⟩ wr _ HJ.out g1 g2 (by omega)
      simp only [enc39] at hy
      have HRR := Lib.hid hR
      have HG1 := Lib.hid g1
      clear hbb hr1 hbx g1 g2 hR c0 c1 c2 c3 c4 c5 hp he
      gi_wp2
      refine ⟨fun _ => by omega, HRR.out.mono ?_⟩
      rintro e' W3 (⟨rfl, hJ3, hk3⟩ | ⟨rfl, hJx3⟩)
      · have H3 : Hid (∃ pre : List Ent, pre.length = k + 1 ∧ J pre W3 ∧ KeepK K W W3) := ⟨pre ++ [⟨e.x, A1, d1⟩], by have := HP.out.1; simp [this], hJ3, (HK.out.trans (KeepK.of_below HG1.out)).trans hk3⟩
        clear hJ3 hk3 hy HRR HG1
        clear d0 d1' d2 d3 d4 d5 f5
        gi_wp2
        go_roundw
        case rel => exact ⟨k + 1, by omega, by go_num, H3.out⟩
        case measure => simp [intOf]; omega
      · have HX := Lib.hid hJx3
        clear hJx3 hy HRR HG1
        clear d0 d1' d2 d3 d4 d5 f5
        gi_wp2
        refine bodyPost_ret (results_none rfl _ _ _) rfl ?_
        exact ⟨⟨_, rfl⟩, .inr ⟨pre ++ [⟨e.x, A1, d1⟩], by have := HP.out.1; simp; omega, HX.out⟩⟩
    · obtain rfl : k = m := by omega
      clear hJ hK
      gi_wp2
      go_end0
      obtain ⟨pre, hp, hJ, hK⟩ := HR.out
      exact ⟨⟨_, rfl⟩, .inl ⟨pre, hp, hJ⟩⟩
end Go.Proofs.Ytgifmadidgjgbaa
