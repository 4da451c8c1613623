/- PathWays: the plain law, and the contract of Places at two alike. No condition. -/
import Derived.Test.YthlhfhfhagfelaaOrderA
set_option linter.unusedVariables false
set_option linter.unusedSimpArgs false
namespace Go.Proofs.Ythlhfhfhagfelaa
open Go.RowKit
attribute [local go_sem ↓] Go.wp_at_zero Go.wp_at_succ

theorem foldW_again (l : List Plc) : ∀ out : List Plc, (∀ x ∈ l, x ∈ out ∨ out.length = 8) → l.foldl stepW out = out := by
  induction l with
  | nil => intro out _; rfl
  | cons a l ih =>
    intro out h
    have e : stepW out a = out := by
      unfold stepW
      rcases h a List.mem_cons_self with h1 | h1
      · exact if_neg (fun c => c.2 h1)
      · exact if_neg (fun c => by omega)
    rw [List.foldl_cons, e]
    exact ih out (fun x hx => h x (List.mem_cons_of_mem _ hx))
theorem foldW_has (l : List Plc) : ∀ out : List Plc, out.length ≤ 8 → ∀ x ∈ l, x ∈ l.foldl stepW out ∨ (l.foldl stepW out).length = 8 := by
  induction l with
  | nil => intro out _ x hx; simp at hx
  | cons a l ih =>
    intro out h8 x hx
    rw [List.foldl_cons]
    rcases List.mem_cons.1 hx with rfl | hx
    · have h1 : x ∈ stepW out x ∨ (stepW out x).length = 8 := by
        unfold stepW
        split
        · exact .inl (by simp)
        · rename_i hc
          by_cases hm : x ∈ out
          · exact .inl hm
          · exact .inr (by have : ¬ out.length < 8 := fun c => hc ⟨c, hm⟩; omega)
      rcases h1 with h1 | h1
      · obtain ⟨r, e, _⟩ := foldW_more l (stepW out x)
        rw [e]
        exact .inl (List.mem_append_left _ h1)
      · rw [foldW_full l _ h1]
        exact .inr h1
    · exact ih _ (stepW_le a h8) x hx
theorem ways_twice (own : Int) (l : List Plc) : waysW own (l ++ l) = waysW own l := by
  have : ∀ k, waysTo own (l ++ l) k = waysTo own l k := fun k => by
    induction k with
    | zero => rfl
    | succ k ih =>
      show (ofKind own (k + 1) (l ++ l)).foldl stepW (waysTo own (l ++ l) k) = (ofKind own (k + 1) l).foldl stepW (waysTo own l k)
      rw [ih, show ofKind own (k + 1) (l ++ l) = ofKind own (k + 1) l ++ ofKind own (k + 1) l from List.filter_append .., List.foldl_append]
      exact foldW_again _ _ (foldW_has _ _ (waysTo_le own l k))
  exact this 3
theorem foldW_new (r : List Plc) : ∀ out : List Plc, (out ++ r).Nodup → (out ++ r).length ≤ 8 → r.foldl stepW out = out ++ r := by
  induction r with
  | nil => intro out _ _; simp
  | cons a r ih =>
    intro out hn h8
    have e : stepW out a = out ++ [a] := by
      unfold stepW
      refine if_pos ⟨by simp at h8; omega, fun hm => ?_⟩
      rw [List.nodup_append] at hn
      exact hn.2.2 a hm a List.mem_cons_self rfl
    rw [List.foldl_cons, e, ih (out ++ [a]) (by simpa using hn) (by simpa using h8)]
    simp
theorem ofKind_all {own : Int} {k : Nat} {r : List Plc} (h : ∀ x ∈ r, kindN own x = k) : ofKind own k r = r := List.filter_eq_self.2 fun x hx => by simp [h x hx]
theorem ofKind_none {own : Int} {k j : Nat} {r : List Plc} (h : ∀ x ∈ r, kindN own x = j) (hne : j ≠ k) : ofKind own k r = [] := List.filter_eq_nil_iff.2 fun x hx => by simp [h x hx, hne]
theorem ways_again (own : Int) (l : List Plc) : waysW own (waysW own l) = waysW own l := by
  have part : ∀ k, ∃ r, waysTo own l (k + 1) = waysTo own l k ++ r ∧ ∀ x ∈ r, kindN own x = k + 1 := fun k => by
    obtain ⟨r, h1, h2⟩ := foldW_more (ofKind own (k + 1) l) (waysTo own l k)
    exact ⟨r, h1, fun x hx => by have := h2 x hx; simp [ofKind] at this; exact this.2⟩
  obtain ⟨r1, e1, k1⟩ := part 0
  obtain ⟨r2, e2, k2⟩ := part 1
  obtain ⟨r3, e3, k3⟩ := part 2
  have e0 : waysTo own l 0 = [] := rfl
  rw [e0, List.nil_append] at e1
  rw [e1] at e2
  rw [e2] at e3
  have eW : waysW own l = r1 ++ r2 ++ r3 := e3
  have n1 : r1.Nodup := by rw [← e1]; exact waysTo_nodup own l 1
  have n2 : (r1 ++ r2).Nodup := by rw [← e2]; exact waysTo_nodup own l 2
  have n3 : (r1 ++ r2 ++ r3).Nodup := by rw [← e3]; exact waysTo_nodup own l 3
  have l3 : (r1 ++ r2 ++ r3).length ≤ 8 := by rw [← e3]; exact waysTo_le own l 3
  rw [eW]
  have f1 : ofKind own 1 (r1 ++ r2 ++ r3) = r1 := by
    have : ofKind own 1 (r1 ++ r2 ++ r3) = ofKind own 1 r1 ++ ofKind own 1 r2 ++ ofKind own 1 r3 := by simp [ofKind]
    rw [this, ofKind_all k1, ofKind_none k2 (by omega), ofKind_none k3 (by omega)]; simp
  have f2 : ofKind own 2 (r1 ++ r2 ++ r3) = r2 := by
    have : ofKind own 2 (r1 ++ r2 ++ r3) = ofKind own 2 r1 ++ ofKind own 2 r2 ++ ofKind own 2 r3 := by simp [ofKind]
    rw [this, ofKind_all k2, ofKind_none k1 (by omega), ofKind_none k3 (by omega)]; simp
  have f3 : ofKind own 3 (r1 ++ r2 ++ r3) = r3 := by
    have : ofKind own 3 (r1 ++ r2 ++ r3) = ofKind own 3 r1 ++ ofKind own 3 r2 ++ ofKind own 3 r3 := by simp [ofKind]
    rw [this, ofKind_all k3, ofKind_none k1 (by omega), ofKind_none k2 (by omega)]; simp
  show (ofKind own 3 (r1 ++ r2 ++ r3)).foldl stepW ((ofKind own 2 (r1 ++ r2 ++ r3)).foldl stepW ((ofKind own 1 (r1 ++ r2 ++ r3)).foldl stepW [])) = _
  rw [f1, f2, f3, foldW_new r1 [] (by simpa using n1) (by simp at l3 ⊢; omega), List.nil_append, foldW_new r2 r1 n2 (by simp at l3 ⊢; omega), foldW_new r3 _ n3 l3]
def bareW (l : List Plc) : List Plc := l.filter fun x => !x.via
theorem ways_bare (own : Int) (l : List Plc) : ∃ r, waysW own l = waysW own (bareW l) ++ r := by
  have b : ∀ k, 1 ≤ k → k ≤ 2 → ofKind own k (bareW l) = ofKind own k l := fun k h1 h2 => by
    unfold ofKind bareW
    rw [List.filter_filter]
    refine List.filter_congr fun x _ => ?_
    by_cases h : kindN own x = k
    · have := kind_not h h1 h2; simp [h, this]
    · simp [h]
  have b3 : ofKind own 3 (bareW l) = [] := by
    unfold ofKind bareW
    rw [List.filter_filter]
    refine List.filter_eq_nil_iff.2 fun x _ => ?_
    by_cases h : kindN own x = 3
    · have := kind_via h; simp [this]
    · simp [h]
  have e : waysW own (bareW l) = waysTo own l 2 := by
    show (ofKind own 3 (bareW l)).foldl stepW ((ofKind own 2 (bareW l)).foldl stepW ((ofKind own 1 (bareW l)).foldl stepW [])) = _
    rw [b3, b 2 (by omega) (by omega), b 1 (by omega) (by omega)]
    rfl
  obtain ⟨r, h1, _⟩ := foldW_more (ofKind own 3 l) (waysTo own l 2)
  exact ⟨r, by rw [e]; exact h1⟩

set_option maxHeartbeats 1600000 in
set_option maxRecDepth 100000 in
theorem Places_ (A A2 : Option Addr) (c c2 : Nat) (l : List Plc) (w : World) (S T : Nat → Prop) (hp : Pls w S A l) (hq : Pls w T A2 l) (hl : l.length ≤ 100000) :
    Calls Try.prog 15 #[.slice A l.length c, .slice A2 l.length c2] w fun r w' => r = .returned (.bool true) ∧ Below w.heap.size w w' := by
  have HP := Lib.hid hp
  have HQ := Lib.hid hq
  clear hp hq
  generalize hn : l.length = n at *
  have HN := Lib.hid hn
  clear hn
  go_enter Try.func15, Try.ntmps15
  go_wp2
  go_loopw [5] (fun s5 wr => ∃ (i : Nat), i ≤ n ∧ s5 = .int .i64 i ∧ Hid (∃ m, wr = w.drewN m)) (fun s _ => n - (intOf s).toNat)
  · exact ⟨0, by omega, rfl, 0, rfl⟩
  · obtain ⟨i, hi, rfl, HW⟩ := hrel
    obtain ⟨m, hm⟩ := HW.out
    by_cases hin : i < n
    · have hin' : (i : Int) < (n : Int) := by omega
      obtain ⟨x, hx⟩ : ∃ x, l[i]? = some x := ⟨l[i]'(by rw [HN.out]; exact hin), List.getElem?_eq_getElem _⟩
      have h1 : Pls wr S A l := by rw [hm]; exact HP.out.same (fun _ _ _ => rfl) (Nat.le_refl _)
      have h2 : Pls wr T A2 l := by rw [hm]; exact HQ.out.same (fun _ _ _ => rfl) (Nat.le_refl _)
      obtain ⟨b, o, rfl, _, c0, c1, c2, c3⟩ := h1.elem hx
      obtain ⟨b2, o2, rfl, _, q0, q1, q2, q3⟩ := h2.elem hx
      have hneq := fun W => run_neq31 x x W
      have hqt : x.eqB x = true := (Plc.eqB_iff x x).2 rfl
      have HM := Lib.hid hm
      clear h1 h2 hx hm
      go_wp2
      go_quiet (fail)
      clear c0 c1 c2 c3 q0 q1 q2 q3
      go_wp2
      go_roundw
      case' rel => exact ⟨i + 1, by omega, by go_num, m + nq, by rw [HM.out, World.drewN_drewN]⟩
      case' measure => simp [intOf]; omega
    · have hge : (n : Int) ≤ (i : Int) := by omega
      have HM := Lib.hid hm
      clear hm
      go_wp2
      go_ret
      exact ⟨rfl, by rw [HM.out]; exact ⟨rfl, rfl, rfl, Nat.le_refl _, fun _ _ => rfl⟩⟩
end Go.Proofs.Ythlhfhfhagfelaa
