/-
  No cell of these rows narrows 'for every input' (looked for: loops, veiled, ifaces, maps, wideKeys, modest, calm, conditions, laid).
  DERIVED. THE GIVEN ROWS OF THIS SEAT. 4 by the template 'for every input the law returns true; each argument reads behind the call as it read before'; 0 by the template 'total and deterministic' (their statements: YtgifmadidgjgbaaTotals.lean).
  GIVEN WITH THE SEED: the statements are not yours to turn. If you find one false, say at which input.
  Laid BY PROGRAM, IN A SANDBOX (cutbox-rows.mjs): the forced cells as the released guide's own fill.sh prints them over the translation 1da2e641e14b2c98… (all of the seat's roots in one cut). By AI agents, Wed Nov 11 2026. No macro, syntax, notation, axiom, sorry.
-/
import Derived.Test.YtgifmadidgjgbaaChecked
import GoSem.Claim
import GoSem.ClaimJoined
import GoSem.ClaimMapViews
import Derived.JoinedTies
import Derived.KernelRfl
namespace Go.Proofs.Ytgifmadidgjgbaa
/- THE CELL 'sum', in the pinned program and in every row, IS THE sha256 OF THE DUMP (.gsa) THAT YtgifmadidgjgbaaProg.lean LOADS. Nothing in Lean hashes anything: it is a label: what it is worth is what the hold of that sum in a sandbox is worth. -/
noncomputable def Try.pinned : Pinned := { name := "ytgifmadidgjgbaa", sum := "1da2e641e14b2c98bbab0d940c6c7c5e0d11472a2fce281dcd18345d431c35f3", checked := Try.checked }
namespace Rows
def none {H : Type} : Left H := { results := [], args := [] }

/-- 'embrasurelaw13.NetOnce': WHATEVER THE INPUT: true; the input reads as it did. -/
def netOnceSpec : ChangeSpec := { name := "netOnce", fn := fun _ => fun
  | [d1, d2, d3] => { results := [.lit (.bool true)], args := [d1, d2, d3] }
  | _ => none }
def netOnceRow : OpenClaim := { program := "ytgifmadidgjgbaa", sum := "1da2e641e14b2c98bbab0d940c6c7c5e0d11472a2fce281dcd18345d431c35f3", func := "embrasure/embrasurelaw13.NetOnce", spec := "netOnce", unfollowed := true, recurses := true, apart := false }
def NetOnceSaid : Prop := netOnceRow.holds Try.pinned (OpenSpec.ofChange netOnceSpec)

/-- ITS FALSE NEIGHBOUR: 'it returns false'. Refute it at one input. -/
def netOnceWrong : ChangeSpec := { name := "netOnce", fn := fun _ => fun
  | [d1, d2, d3] => { results := [.lit (.bool false)], args := [d1, d2, d3] }
  | _ => none }
def NetOnceWrongFalsely : Prop := netOnceRow.holds Try.pinned (OpenSpec.ofChange netOnceWrong)

/-- 'embrasurelaw13.NetPlaces': WHATEVER THE INPUT: true; the input reads as it did. -/
def netPlacesSpec : ChangeSpec := { name := "netPlaces", fn := fun _ => fun
  | [d1, d2] => { results := [.lit (.bool true)], args := [d1, d2] }
  | _ => none }
def netPlacesRow : OpenClaim := { program := "ytgifmadidgjgbaa", sum := "1da2e641e14b2c98bbab0d940c6c7c5e0d11472a2fce281dcd18345d431c35f3", func := "embrasure/embrasurelaw13.NetPlaces", spec := "netPlaces", unfollowed := true, recurses := true, apart := false }
def NetPlacesSaid : Prop := netPlacesRow.holds Try.pinned (OpenSpec.ofChange netPlacesSpec)

/-- ITS FALSE NEIGHBOUR: 'it returns false'. Refute it at one input. -/
def netPlacesWrong : ChangeSpec := { name := "netPlaces", fn := fun _ => fun
  | [d1, d2] => { results := [.lit (.bool false)], args := [d1, d2] }
  | _ => none }
def NetPlacesWrongFalsely : Prop := netPlacesRow.holds Try.pinned (OpenSpec.ofChange netPlacesWrong)

/-- 'embrasurelaw13.NetPlays': WHATEVER THE INPUT: true; the input reads as it did. -/
def netPlaysSpec : ChangeSpec := { name := "netPlays", fn := fun _ => fun
  | [d] => { results := [.lit (.bool true)], args := [d] }
  | _ => none }
def netPlaysRow : OpenClaim := { program := "ytgifmadidgjgbaa", sum := "1da2e641e14b2c98bbab0d940c6c7c5e0d11472a2fce281dcd18345d431c35f3", func := "embrasure/embrasurelaw13.NetPlays", spec := "netPlays", unfollowed := true, recurses := true, apart := false }
def NetPlaysSaid : Prop := netPlaysRow.holds Try.pinned (OpenSpec.ofChange netPlaysSpec)

/-- ITS FALSE NEIGHBOUR: 'it returns false'. Refute it at one input. -/
def netPlaysWrong : ChangeSpec := { name := "netPlays", fn := fun _ => fun
  | [d] => { results := [.lit (.bool false)], args := [d] }
  | _ => none }
def NetPlaysWrongFalsely : Prop := netPlaysRow.holds Try.pinned (OpenSpec.ofChange netPlaysWrong)

/-- 'embrasurelaw13.NetAll': WHATEVER THE INPUT: true; the input reads as it did. -/
def netAllSpec : ChangeSpec := { name := "netAll", fn := fun _ => fun
  | [d1, d2] => { results := [.lit (.bool true)], args := [d1, d2] }
  | _ => none }
def netAllRow : OpenClaim := { program := "ytgifmadidgjgbaa", sum := "1da2e641e14b2c98bbab0d940c6c7c5e0d11472a2fce281dcd18345d431c35f3", func := "embrasure/embrasurelaw13.NetAll", spec := "netAll", unfollowed := true, recurses := true, apart := false }
def NetAllSaid : Prop := netAllRow.holds Try.pinned (OpenSpec.ofChange netAllSpec)

/-- ITS FALSE NEIGHBOUR: 'it returns false'. Refute it at one input. -/
def netAllWrong : ChangeSpec := { name := "netAll", fn := fun _ => fun
  | [d1, d2] => { results := [.lit (.bool false)], args := [d1, d2] }
  | _ => none }
def NetAllWrongFalsely : Prop := netAllRow.holds Try.pinned (OpenSpec.ofChange netAllWrong)

/- THE SECOND FORM. 'bulk': how many values and letters a reading holds, each counted each time it is reached (what is shared counts as often as it is met; a slice's spare places count too). A statement '..UptoSaid' is the law's where the arguments, and the package variables that the reading takes, are together of bulk at most 1048576: NARROWER than '..Said'. Prove '..Said' where nothing that the law and all that it calls make is longer than what came in: it says more and counts as full. Else prove '..UptoSaid'. A law counts once. -/
mutual
def uptoBulk {H : Type} : DataW H → Nat
  | .lit (.string bytes) => bytes.length + 1
  | .lit _ => 1
  | .nil => 1
  | .ptr d => uptoBulk d + 1
  | .slice elems spare => uptoBulkAll elems + uptoBulkAll spare + 1
  | .agg parts => uptoBulkAll parts + 1
  | .iface _ d => uptoBulk d + 1
  | .map entries => uptoBulkEntries entries + 1
  | .held _ => 1
def uptoBulkAll {H : Type} : List (DataW H) → Nat
  | [] => 0
  | d :: r => uptoBulk d + uptoBulkAll r
def uptoBulkEntries {H : Type} : List (Lit × DataW H) → Nat
  | [] => 0
  | x :: r => uptoBulkEntry x + uptoBulkEntries r
def uptoBulkEntry {H : Type} : Lit × DataW H → Nat
  | (.string bytes, d) => bytes.length + uptoBulk d + 1
  | (_, d) => uptoBulk d + 1
 end
def uptoSmall : (H : Type) → List (DataW H) → Bool := fun _ ds => decide (uptoBulkAll ds ≤ 1048576)
def OpenSpec.upto (s : _root_.Go.ChangeSpec) : _root_.Go.OpenSpec := { _root_.Go.OpenSpec.ofChange s with cond := some uptoSmall }

/-- 'embrasurelaw13.NetOnce', WHERE WHAT IT READS IS OF BULK AT MOST 1048576: true; the input reads as it did. -/
def netOnceUptoRow : OpenClaim := { program := "ytgifmadidgjgbaa", sum := "1da2e641e14b2c98bbab0d940c6c7c5e0d11472a2fce281dcd18345d431c35f3", func := "embrasure/embrasurelaw13.NetOnce", spec := "netOnce", unfollowed := true, recurses := true, apart := false, narrowed := true }
def NetOnceUptoSaid : Prop := netOnceUptoRow.holds Try.pinned (OpenSpec.upto netOnceSpec)

/-- 'embrasurelaw13.NetPlaces', WHERE WHAT IT READS IS OF BULK AT MOST 1048576: true; the input reads as it did. -/
def netPlacesUptoRow : OpenClaim := { program := "ytgifmadidgjgbaa", sum := "1da2e641e14b2c98bbab0d940c6c7c5e0d11472a2fce281dcd18345d431c35f3", func := "embrasure/embrasurelaw13.NetPlaces", spec := "netPlaces", unfollowed := true, recurses := true, apart := false, narrowed := true }
def NetPlacesUptoSaid : Prop := netPlacesUptoRow.holds Try.pinned (OpenSpec.upto netPlacesSpec)

/-- 'embrasurelaw13.NetPlays', WHERE WHAT IT READS IS OF BULK AT MOST 1048576: true; the input reads as it did. -/
def netPlaysUptoRow : OpenClaim := { program := "ytgifmadidgjgbaa", sum := "1da2e641e14b2c98bbab0d940c6c7c5e0d11472a2fce281dcd18345d431c35f3", func := "embrasure/embrasurelaw13.NetPlays", spec := "netPlays", unfollowed := true, recurses := true, apart := false, narrowed := true }
def NetPlaysUptoSaid : Prop := netPlaysUptoRow.holds Try.pinned (OpenSpec.upto netPlaysSpec)

/-- 'embrasurelaw13.NetAll', WHERE WHAT IT READS IS OF BULK AT MOST 1048576: true; the input reads as it did. -/
def netAllUptoRow : OpenClaim := { program := "ytgifmadidgjgbaa", sum := "1da2e641e14b2c98bbab0d940c6c7c5e0d11472a2fce281dcd18345d431c35f3", func := "embrasure/embrasurelaw13.NetAll", spec := "netAll", unfollowed := true, recurses := true, apart := false, narrowed := true }
def NetAllUptoSaid : Prop := netAllUptoRow.holds Try.pinned (OpenSpec.upto netAllSpec)

end Rows
end Go.Proofs.Ytgifmadidgjgbaa
