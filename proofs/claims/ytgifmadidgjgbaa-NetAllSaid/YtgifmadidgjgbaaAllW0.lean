/- What NetAll's first loop keeps. No condition. -/
import Derived.Test.YtgifmadidgjgbaaAllC
import Derived.LoopTactic
import Derived.StillTailTactics
import Derived.Deep.OwnRows
set_option linter.unusedVariables false
set_option linter.unusedSimpArgs false
namespace Go.Proofs.Ytgifmadidgjgbaa
open Go.RowKit Go.Shelf
attribute [local go_sem] Oper.semAt_some
attribute [local go_sem ↓] Go.wp_at_zero Go.wp_at_succ

/-- A row of rows of bytes. -/
structure BRow where
  A : Option Addr
  b : List UInt8
  c : Nat
def BRow.val (r : BRow) : Value := .slice r.A r.b.length r.c
structure ListAt (w : World) (M : Nat) (A : Option Addr) (rs : List BRow) : Prop where
  rd : RdA w (fun k => k < M) 1 A rs.length (rs.map BRow.val)
  byt : ∀ r ∈ rs, RdA w (fun k => k < M) 1 r.A r.b.length (enc8 r.b) ∧ r.b.length ≤ r.c
theorem ListAt.below {w w' : World} {M : Nat} {A : Option Addr} {rs : List BRow} (h : ListAt w M A rs) (hb : Below M w w') : ListAt w' M A rs :=
  ⟨h.rd.belowB hb (fun _ h => h), fun d hd => ⟨(h.byt d hd).1.belowB hb (fun _ h => h), (h.byt d hd).2⟩⟩
theorem ListAt.elem {w : World} {M : Nat} {A : Option Addr} {rs : List BRow} (h : ListAt w M A rs) {i : Nat} {r : BRow} (hr : rs[i]? = some r) :
    ∃ b o, A = some ⟨b, o, none⟩ ∧ b < M ∧ b < w.heap.size ∧ w.cell? ⟨b, o + i, none⟩ = some (.slice r.A r.b.length r.c) := by
  obtain ⟨b, o, hA, hM, hl, hc⟩ := h.rd.elem (List.getElem?_eq_some_iff.1 hr).1
  exact ⟨b, o, hA, hM, hl, by have := hc 0 r.val (by simp [hr]); simpa [BRow.val] using this⟩
def bytesOf (rs : List BRow) : List (List UInt8) := rs.map BRow.b

/-- In the first loop: i have been sent. -/
structure S1 (w wr : World) (B bx ba bp : Nat) (stop : Int) (bs : List (List UInt8)) (i : Nat) (S : Nat → Prop) (v : Value) (l : List Ent) : Prop where
  net : NetAt 59 wr B S v l i
  fr : FrontL 0 (bs.take i) l i
  len : l.length = i
  below : Below w.heap.size w wr
  own : ∀ k, S k → w.heap.size ≤ k
  xb : Blk wr bx 26 #[.pointer (some ⟨B, 0, none⟩)]
  ab : Blk wr ba 30 #[.int .u32 1, .int .i64 1]
  pb : Blk wr bp 5 #[.int .u8 stop]
  xn : ¬ S bx
  an : ¬ S ba
  pn : ¬ S bp
def S1X (w wr : World) (B bx ba bp : Nat) (stop : Int) (bs : List (List UInt8)) (i : Nat) : Prop := ∃ S v l, S1 w wr B bx ba bp stop bs i S v l
theorem S1X.step {w wr w2 : World} {B bx ba bp i : Nat} {stop : Int} {bs : List (List UInt8)} {S : Nat → Prop} {v : Value} {l : List Ent} {b : List UInt8} {r : Ending} (h : S1 w wr B bx ba bp stop bs i S v l) (hb : bs[i]? = some b)
    (hp : Put 59 wr B S l i ⟨0, 1, 1, 1, 1, b⟩ r w2) : S1X w w2 B bx ba bp stop bs (i + 1) := by
  obtain ⟨_, S', v', A1, c1, hn, ha⟩ := hp
  obtain ⟨s1, t1⟩ := ha.base h.own h.below.size
  have no : ∀ b, b < wr.heap.size → ¬ S b → ¬ S' b := fun b hb hs hk => by
    rcases ha.own b hk with h1 | h1
    · exact hs h1
    · omega
  refine ⟨S', v', l ++ [⟨⟨(i : Int) + 1, 1, 1, 1, 1, b⟩, A1, c1⟩], ?_, ?_, by simp [h.len], h.below.trans t1, s1, h.xb.upd ha.upd h.xn, h.ab.upd ha.upd h.an, h.pb.upd ha.upd h.pn, no _ h.xb.lt h.xn, no _ h.ab.lt h.an, no _ h.pb.lt h.pn⟩
  · push_cast; exact hn
  · push_cast
    exact h.fr.next h.len hb _ rfl

end Go.Proofs.Ytgifmadidgjgbaa
