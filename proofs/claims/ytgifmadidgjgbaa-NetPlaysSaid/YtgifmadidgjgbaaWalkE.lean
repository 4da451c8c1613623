/- Contracts of this seat: slices.Delete of one datagram. No condition. -/
import Derived.Test.YtgifmadidgjgbaaWalkC
import Derived.Deep.RegionLaw
import Derived.Deep.DrawnRows
set_option linter.unusedVariables false
set_option linter.unusedSimpArgs false
namespace Go.Proofs.Ytgifmadidgjgbaa
open Go.RowKit
attribute [local go_sem ↓] Go.wp_at_zero Go.wp_at_succ

theorem info39' : (Try.prog.info? 39).map (fun i => (i.zero, i.size, i.bytes)) = some (some (.agg #[.int .i64 0, .int .u32 0, .int .i64 0, .int .u32 0, .int .i64 0, .slice none 0 0]), 6, 64) := by kernel_rfl


/-- The row's cells when one element has been struck, and when the place that is left over has been cleared. -/
def cut1 (cur : Array Value) (xs : List Value) (i : Nat) : Array Value := (cur.toList.take (i * 6) ++ xs.drop ((i + 1) * 6) ++ cur.toList.drop (i * 6 + (xs.drop ((i + 1) * 6)).length)).toArray
def zero6 : List Value := [.int .i64 0, .int .u32 0, .int .i64 0, .int .u32 0, .int .i64 0, .slice none 0 0]
def cut2 (cur : Array Value) (n : Nat) : Array Value := (cur.toList.take ((n - 1) * 6) ++ zero6 ++ cur.toList.drop ((n - 1) * 6 + zero6.length)).toArray
section
variable {cur : Array Value} {xs : List Value} {n c i : Nat}
theorem cut1_size (hx : xs.length = n * 6) (hc : cur.size = c * 6) (hi : i < n) (hnc : n ≤ c) : (cut1 cur xs i).size = c * 6 := by
  have : cur.toList.length = c * 6 := by simpa using hc
  simp only [cut1, List.size_toArray, List.length_append, List.length_take, List.length_drop, this, hx]
  omega
theorem cut1_take (hx : xs.length = n * 6) (hc : cur.size = c * 6) (ht : cur.toList.take (n * 6) = xs) (hi : i < n) : (cut1 cur xs i).toList.take ((n - 1) * 6) = xs.take (i * 6) ++ xs.drop ((i + 1) * 6) := by
  have hl : cur.toList.length = c * 6 := by simpa using hc
  have h1 : cur.toList.take (i * 6) = xs.take (i * 6) := by
    rw [← ht, List.take_take, Nat.min_eq_left (by omega)]
  simp only [cut1, h1]
  rw [List.take_append_of_le_length (by simp [hx]; omega)]
  exact List.take_of_length_le (by simp [hx]; omega)
theorem cut2_size (hx : xs.length = n * 6) (hc : cur.size = c * 6) (hi : i < n) (hnc : n ≤ c) : (cut2 (cut1 cur xs i) n).size = c * 6 := by
  have h := cut1_size hx hc hi hnc
  have : (cut1 cur xs i).toList.length = c * 6 := by simpa using h
  simp only [cut2, List.size_toArray, List.length_append, List.length_take, List.length_drop, this, zero6, List.length_cons, List.length_nil]
  omega
theorem cut2_take (hx : xs.length = n * 6) (hc : cur.size = c * 6) (ht : cur.toList.take (n * 6) = xs) (hi : i < n) (hnc : n ≤ c) : (cut2 (cut1 cur xs i) n).toList.take ((n - 1) * 6) = xs.take (i * 6) ++ xs.drop ((i + 1) * 6) := by
  have h := cut1_size hx hc hi hnc
  have h1 : (cut1 cur xs i).toList.length = c * 6 := by simpa using h
  rw [← cut1_take hx hc ht hi]
  simp only [cut2]
  rw [List.append_assoc, List.take_append_of_le_length (by simp only [List.length_take, h1]; omega), List.take_take, Nat.min_self]
end
theorem zero39 (w : World) : (zeroValue 39).run Try.prog w = .ok (.agg #[.int .i64 0, .int .u32 0, .int .i64 0, .int .u32 0, .int .i64 0, .slice none 0 0]) w := by kernel_rfl

theorem zero6_cells : (Builtin.zeroCells (Value.agg #[.int .i64 0, .int .u32 0, .int .i64 0, .int .u32 0, .int .i64 0, .slice none 0 0]).cells 1).toList = zero6 := by kernel_rfl

set_option maxRecDepth 100000 in
set_option maxHeartbeats 800000 in
theorem Delete (g c i : Nat) (l : List Ent) (w : World) (hrow : w.ownsRow 0 39 6 (.slice (some ⟨g, 0, none⟩) l.length c) l.length (cellsOf l)) (hi : i < l.length) (hl : l.length ≤ 300) :
    Calls Try.prog 25 #[.slice (some ⟨g, 0, none⟩) l.length c, .int .i64 i, .int .i64 (i + 1)] w fun r w' => r = .returned (.slice (some ⟨g, 0, none⟩) (l.length - 1) c) ∧ w'.ownsRow 0 39 6 (.slice (some ⟨g, 0, none⟩) (l.length - 1) c) (l.length - 1) (cellsOf (l.eraseIdx i)) ∧ w.grownBy w' (some g) := by
  obtain ⟨i0, hi0, hz0, hz1, hz2⟩ := info_parts info39'
  have hcl := cellsOf_length l
  have hrow' := hrow
  rcases hrow.2 with ⟨h, _⟩ | ⟨g', cap, cur, h, _, hg, hnc, hcm, hcs, htake⟩
  · cases h
  injection h with h1 h2 h3
  injection h1 with h1
  injection h1 with h1
  subst h1 h3
  have HL := Lib.hid hrow
  have HT := Lib.hid htake
  have HC := Lib.hid hcl
  clear hrow' hrow htake hcl
  generalize hn : l.length = n at *
  have Hn := Lib.hid hn
  clear hn
  have HS := Lib.hid hcs
  have HG := Lib.hid hg
  clear hcs hg
  have hcm' : c ≤ 9223372036854775807 := by unfold maxLen at hcm; omega
  have hfin : ∀ W : World, W.heap[g]? = some (.cells (cut2 (cut1 cur (cellsOf l) i) n) 39 (0, 0)) → W.ownsRow 0 39 6 (.slice (some ⟨g, 0, none⟩) (n - 1) c) (n - 1) (cellsOf (l.eraseIdx i)) := fun W hW => by
    have e1 : cellsOf (l.eraseIdx i) = (cellsOf l).take (i * 6) ++ (cellsOf l).drop ((i + 1) * 6) := by
      rw [List.eraseIdx_eq_take_drop_succ, cellsOf_append, cellsOf_take, cellsOf_drop]
    refine ⟨?_, .inr ⟨g, c, _, rfl, Nat.zero_le _, hW, by omega, hcm, cut2_size HC.out HS.out hi hnc, ?_⟩⟩
    · rw [cellsOf_length, List.length_eraseIdx, if_pos (by rw [Hn.out]; exact hi), Hn.out]
    · rw [e1]; exact cut2_take HC.out HS.out HT.out hi hnc
  have HF := Lib.hid hfin
  clear hfin
  have hfit : i * 6 + ((cellsOf l).drop ((i + 1) * 6)).length ≤ cur.size := by rw [List.length_drop, HC.out, HS.out]; omega
  have hlen : ((cellsOf l).drop ((i + 1) * 6)).length = (n - (i + 1)) * 6 := by rw [List.length_drop, HC.out]; omega
  have hone : ∀ u ∈ (cellsOf l).drop ((i + 1) * 6), u.oneCell' = true := fun u hu => cellsOf_one l u (List.mem_of_mem_drop hu)
  have HFIT := Lib.hid hfit
  have HLEN := Lib.hid hlen
  have HONE := Lib.hid hone
  clear hfit hlen hone
  have hic : i ≤ c := by omega
  have hic1 : i + 1 ≤ n := by omega
  have hI0 : (0 : Int) ≤ (i : Int) + 1 := by omega
  have hI1 : (i : Int) + 1 ≤ (n : Int) := by omega
  by_cases hc : c = i + 1
  · have hnil : (cellsOf l).drop ((i + 1) * 6) = [] := List.drop_of_length_le (by rw [HC.out]; omega)
    have hnews : ∀ (j : Nat) (u : Value), ((cellsOf l).drop ((i + 1) * 6))[j]? = some u → w.drew.cell? ((⟨g, 0, none⟩ : Addr).add j) = some u := fun j u hu => by
      rw [hnil] at hu; simp at hu
    clear hnil
    have HNEWS := Lib.hid hnews
    clear hnews
    obtain rfl : n = i + 1 := by omega
    subst hc
    rw [show i + 1 - (i + 1) = 0 by omega] at HLEN
    simp only [Nat.add_sub_cancel] at HF ⊢
    have hI2 : (i : Int) ≤ (i : Int) + 1 := by omega
    go_enter Try.func25, Try.ntmps25
    go_wp2
    go_region_law (refine step_append_in _ (by rfl) (.tmp 22) (.tmp 25) 48 (by rfl) 39 i0 6 Try.underlying48 hi0 hz1 g i (i + 1) cur (by simp [Act.eval, Act.put]) (by exact HG.out) ⟨g, 0, none⟩ 0 0 ((cellsOf l).drop ((i + 1) * 6)) (by simp [Act.eval, Act.put]) HLEN.out (by exact HNEWS.out) HONE.out (by omega) HFIT.out i (by omega) (cut1 cur (cellsOf l) i) rfl ?_)
    have hb1 : (w.drew.setRow g (cut1 cur (cellsOf l) i)).heap[g]? = some (.cells (cut1 cur (cellsOf l) i) 39 (0, 0)) := setRow_heap w.drew g cur _ 39 (0, 0) HG.out
    have hg1 : w.grownBy (w.drew.setRow g (cut1 cur (cellsOf l) i)) (some g) := ⟨rfl, rfl, rfl, by simp, fun k _ hne => setRow_other w.drew g k _ (fun e => hne (by rw [e]))⟩
    generalize w.drew.setRow g (cut1 cur (cellsOf l) i) = W1 at *
    have HB1 := Lib.hid hb1
    have HG1 := Lib.hid hg1
    clear hb1 hg1
    have hfz : i * 6 + zero6.length ≤ (cut1 cur (cellsOf l) i).size := by
      rw [cut1_size HC.out HS.out hi hnc]; simp only [zero6, List.length_cons, List.length_nil]; omega
    have hz1c : ∀ u ∈ zero6, u.oneCell' = true := by decide
    have HZ1 := Lib.hid hz1c
    have HFZ := Lib.hid hfz
    have HZC := Lib.hid zero6_cells
    clear hz1c hfz
    go_wp2_with (refine wpList_clear _ rfl (.tmp 31) 48 rfl 39 _ Try.underlying48 zero39 g (i * 6) 1 1 (cut1 cur (cellsOf l) i) (by rfl) HB1.out zero6 HZC.out HZ1.out (by omega) HFZ.out (cut2 (cut1 cur (cellsOf l) i) (i + 1)) rfl ?_)
    go_ret
    have hg2 : w.grownBy (W1.setRow g (cut2 (cut1 cur (cellsOf l) i) (i + 1))) (some g) := ⟨HG1.out.os, HG1.out.tape, HG1.out.output, by simpa using HG1.out.size, fun k hk hne => (setRow_other W1 g k _ (fun e => hne (by rw [e]))).trans (HG1.out.block k hk hne)⟩
    exact ⟨rfl, HF.out _ (setRow_heap W1 g _ _ 39 (0, 0) HB1.out), hg2⟩
  · have hnews : ∀ (j : Nat) (u : Value), ((cellsOf l).drop ((i + 1) * 6))[j]? = some u → w.drew.cell? ((⟨g, (i + 1) * 6, none⟩ : Addr).add j) = some u := fun j u hu => by
      rw [show (⟨g, (i + 1) * 6, none⟩ : Addr).add j = ⟨g, (i + 1) * 6 + j, none⟩ by unfold Addr.add; split <;> simp_all]
      have := HL.out.cells (g := g) rfl ((i + 1) * 6 + j) u (by rw [← hu, List.getElem?_drop])
      rwa [show (⟨g, 0, none⟩ : Addr).add ((i + 1) * 6 + j) = ⟨g, (i + 1) * 6 + j, none⟩ by unfold Addr.add; split <;> simp_all] at this
    have HNEWS := Lib.hid hnews
    clear hnews
    go_enter Try.func25, Try.ntmps25
    go_wp2
    go_region_law (refine step_append_in _ (by rfl) (.tmp 22) (.tmp 25) 48 (by rfl) 39 i0 6 Try.underlying48 hi0 hz1 g i c cur (by simp [Act.eval, Act.put]) (by exact HG.out) ⟨g, (i + 1) * 6, none⟩ (n - (i + 1)) (c - (i + 1)) ((cellsOf l).drop ((i + 1) * 6)) (by simp [Act.eval, Act.put]) HLEN.out (by exact HNEWS.out) HONE.out (by omega) HFIT.out (n - 1) (by omega) (cut1 cur (cellsOf l) i) rfl ?_)
    have hb1 : (w.drew.setRow g (cut1 cur (cellsOf l) i)).heap[g]? = some (.cells (cut1 cur (cellsOf l) i) 39 (0, 0)) := setRow_heap w.drew g cur _ 39 (0, 0) HG.out
    have hg1 : w.grownBy (w.drew.setRow g (cut1 cur (cellsOf l) i)) (some g) := ⟨rfl, rfl, rfl, by simp, fun k _ hne => setRow_other w.drew g k _ (fun e => hne (by rw [e]))⟩
    generalize w.drew.setRow g (cut1 cur (cellsOf l) i) = W1 at *
    have HB1 := Lib.hid hb1
    have HG1 := Lib.hid hg1
    clear hb1 hg1
    have hzc : (Builtin.zeroCells (Value.agg #[.int .i64 0, .int .u32 0, .int .i64 0, .int .u32 0, .int .i64 0, .slice none 0 0]).cells (n - (n - 1))).toList = zero6 := by
      rw [show n - (n - 1) = 1 by omega]; exact zero6_cells
    have hz1c : ∀ u ∈ zero6, u.oneCell' = true := by decide
    have hfz : (n - 1) * 6 + zero6.length ≤ (cut1 cur (cellsOf l) i).size := by
      rw [cut1_size HC.out HS.out hi hnc]; simp only [zero6, List.length_cons, List.length_nil]; omega
    have HZC := Lib.hid hzc
    have HZ1 := Lib.hid hz1c
    have HFZ := Lib.hid hfz
    clear hzc hz1c hfz
    go_wp2_with (refine wpList_clear _ rfl (.tmp 31) 48 rfl 39 _ Try.underlying48 zero39 g ((n - 1) * 6) (n - (n - 1)) (c - (n - 1)) (cut1 cur (cellsOf l) i) (by rfl) HB1.out zero6 HZC.out HZ1.out (by omega) HFZ.out (cut2 (cut1 cur (cellsOf l) i) n) rfl ?_)
    go_ret
    have hg2 : w.grownBy (W1.setRow g (cut2 (cut1 cur (cellsOf l) i) n)) (some g) := ⟨HG1.out.os, HG1.out.tape, HG1.out.output, by simpa using HG1.out.size, fun k hk hne => (setRow_other W1 g k _ (fun e => hne (by rw [e]))).trans (HG1.out.block k hk hne)⟩
    exact ⟨rfl, HF.out _ (setRow_heap W1 g _ _ 39 (0, 0) HB1.out), hg2⟩
end Go.Proofs.Ytgifmadidgjgbaa
