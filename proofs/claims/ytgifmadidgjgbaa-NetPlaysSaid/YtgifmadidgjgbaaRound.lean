/- A region that draws its order, within a round of a loop over a function: its reads first, then its last operations. No condition. -/
import Derived.Test.YtgifmadidgjgbaaRange
import Derived.StillTailTactics
import Derived.OrdersIn
set_option linter.unusedVariables false
set_option linter.unusedSimpArgs false
namespace Go.Proofs.Ytgifmadidgjgbaa
open Go.RowKit

variable {P : Program} {ops : Array Oper} {Q : Exit → Act → World → Prop} {a : Act} {w : World} {L n : Nat}

theorem rowsIn_round {row : String} {args : Array Value} {R : Value → World → Prop} (h : Rows P row args w R) : RowsIn (Fence.wide.inRound L) n P row args w R := by
  have h2 : RowsIn Fence.wide n P row args w R := fun c cs hr => by
    obtain ⟨v, w', r, s⟩ := h c cs
    exact ⟨v, w', r, stepsIn_wide.2 s⟩
  exact h2
theorem uponIn_round {o : Oper} {K : Act → World → Prop} {r : Result Next} (h : o.upon P a K Q r) : o.uponIn (Fence.wide.inRound L) n P a K Q r := by
  unfold Oper.upon at h
  split at h
  · exact h
  · exact h
  · exact h
  · exact ⟨fun h => by simp [Fence.wide, Fence.inRound] at h, CallsIn.inRound L (callsIn_wide.2 h)⟩
  · exact ⟨fun h => by simp [Fence.wide, Fence.inRound] at h, rowsIn_round h⟩
  · exact h
  · exact h.elim
/-- No operation defers. -/
def Plain (ops : Array Oper) : Prop := ∀ (i : Nat) (o : Oper), ops[i]? = some o → ∀ c, o.op ≠ .defer c
def defersB (o : Oper) : Bool := match o.op with
  | .defer _ => true
  | _ => false
theorem Plain.of {l : List Oper} (h : l.all (fun o => !defersB o) = true) : Plain l.toArray := fun i o ho c hc => by
  have hm : o ∈ l := by simp at ho; exact List.mem_of_getElem? ho
  have := List.all_eq_true.1 h o hm
  simp [defersB, hc] at this
theorem wpOpsIn_round (hp : Plain ops) (hQ : ¬ LetsOut Q) : ∀ (is : List Nat) (a : Act) (w : World), wpOps P ops Q is a w → wpOpsIn (Fence.wide.inRound L) n P ops Q is a w := by
  intro is
  induction is with
  | nil => intro a w h; exact h
  | cons i rest ih =>
    intro a w h
    simp only [wpOps] at h
    simp only [wpOpsIn]
    cases ho : ops[i]? with
    | none => rw [ho] at h; exact ih a w h
    | some o =>
      rw [ho] at h
      simp only at h ⊢
      have h1 := hp i o ho
      split
      · rename_i hw
        rw [if_pos hw] at h
        rcases h with h | ⟨_, h⟩
        · refine ⟨fun _ _ => trivial, ?_⟩
          have he : Oper.semAt (Fence.wide.inRound L).round a.eval o = execOp a.eval o := Oper.semAt_eq _ _ _ h1
          rw [he]
          exact uponIn_round (Oper.wp_mono (fun a w => ih a w) h)
        · exact absurd h hQ
      · rename_i hw
        rw [if_neg hw] at h
        exact ⟨fun _ _ => trivial, ih _ _ h⟩
/-- What is shown of a region's orders serves in a round. -/
theorem region_round {id : Nat} (hm : P.follows .mixedOrders = true) (hp : Plain ops) (hQ : ¬ LetsOut Q) (h : wpAny P .any ops Q ops.size (Array.replicate ops.size false) a { w with drawn := w.drawn + 1 }) :
    (Code.region id ops true).wpIn (Fence.wide.inRound L) n P Q a w :=
  wpIn_region_draw fun t => by
    simp only [Region.schedule, hm, Bool.true_or, if_true]
    exact wpOpsIn_round hp hQ _ _ _ (wpAny_sound ops.size t _ a _ h)
/-- The reads ahead, in the text's order; then the rest. -/
theorem region_round_tail {id : Nat} {l : List Oper} (k : Nat) (hm : P.follows .mixedOrders = true) (hp : Plain l.toArray) (hQ : ¬ LetsOut Q) (hB : Region.lexTailB .any l.toArray k = true)
    (h : wpStill P l.toArray { w with drawn := w.drawn + 1 } (fun a' => wpList P l.toArray Q (l.drop k) a' { w with drawn := w.drawn + 1 }) (l.take k) a) : (Code.region id l.toArray true).wpIn (Fence.wide.inRound L) n P Q a w := by
  simp only [Region.lexTailB, Bool.and_eq_true, decide_eq_true_eq] at hB
  obtain ⟨⟨⟨⟨hsel, hk⟩, hs⟩, hc⟩, hlex⟩ := hB
  have hk' : k < l.length := by simpa using hk
  have e1 : (l.take k).length = k := by simp; omega
  have e2 : (l.drop k).length = l.toArray.size - k := by simp
  have inv0 : HeadInv .any l.toArray k (Array.replicate l.toArray.size false) :=
    ⟨by simp, fun j oj _ hl => (by rw [getD_replicate_false] at hl; cases hl), fun t _ ht => getD_in (by simpa using ht) (getD_replicate_false _ _)⟩
  have head := wpAnyL_lex (md := .any) (g := l.toArray.size - k) hsel hs hc hk (l.take k) 0 _ a (fun j hj => by rw [e1] at hj; simp [hj]) (by simpa using e1) inv0 (by rw [e1]; exact hlex) h
  refine region_round hm hp hQ ?_
  have all := wpAny_of_head (Q' := Q) (g := l.toArray.size - k) (fun listed a' hL => by
    have := wpAny_of_seq (md := .any) (Q' := Q) (l.drop k) k listed a' { w with drawn := w.drawn + 1 } (fun j => by simp [List.getElem?_drop]) (by rw [e2]; exact hL.1) hL.2
    rwa [e2] at this) _ _ _ head
  rw [e1, show k + (l.toArray.size - k) = l.toArray.size by omega] at all
  exact all
end Go.Proofs.Ytgifmadidgjgbaa
