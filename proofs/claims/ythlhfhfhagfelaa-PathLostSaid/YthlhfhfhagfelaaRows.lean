/-
  No cell of these rows narrows 'for every input' (looked for: loops, veiled, ifaces, maps, wideKeys, modest, calm, conditions, laid).
  DERIVED. THE GIVEN ROWS OF THIS SEAT. 5 by the template 'for every input the law returns true; each argument reads behind the call as it read before'; 0 by the template 'total and deterministic' (their statements: YthlhfhfhagfelaaTotals.lean).
  GIVEN WITH THE SEED: the statements are not yours to turn. If you find one false, say at which input.
  Laid BY PROGRAM, IN A SANDBOX (cutbox-rows.mjs): the forced cells as the released guide's own fill.sh prints them over the translation 3d8f1ea3cc6591af… (all of the seat's roots in one cut). By AI agents, Wed Nov 11 2026. No macro, syntax, notation, axiom, sorry.
-/
import Derived.Test.YthlhfhfhagfelaaChecked
import GoSem.Claim
import GoSem.ClaimJoined
import GoSem.ClaimMapViews
import Derived.JoinedTies
import Derived.KernelRfl
namespace Go.Proofs.Ythlhfhfhagfelaa
/- THE CELL 'sum', in the pinned program and in every row, IS THE sha256 OF THE DUMP (.gsa) THAT YthlhfhfhagfelaaProg.lean LOADS. Nothing in Lean hashes anything: it is a label: what it is worth is what the hold of that sum in a sandbox is worth. -/
noncomputable def Try.pinned : Pinned := { name := "ythlhfhfhagfelaa", sum := "3d8f1ea3cc6591af11a147a642e9a67c6d24c59ffb3079b5b97666c51d52bf29", checked := Try.checked }
namespace Rows
def none {H : Type} : Left H := { results := [], args := [] }

/-- 'embrasurelaw29.PathOrder': WHATEVER THE INPUT: true; the input reads as it did. -/
def pathOrderSpec : ChangeSpec := { name := "pathOrder", fn := fun _ => fun
  | [d1, d2] => { results := [.lit (.bool true)], args := [d1, d2] }
  | _ => none }
def pathOrderRow : OpenClaim := { program := "ythlhfhfhagfelaa", sum := "3d8f1ea3cc6591af11a147a642e9a67c6d24c59ffb3079b5b97666c51d52bf29", func := "embrasure/embrasurelaw29.PathOrder", spec := "pathOrder", unfollowed := true, recurses := true, apart := false }
def PathOrderSaid : Prop := pathOrderRow.holds Try.pinned (OpenSpec.ofChange pathOrderSpec)

/-- ITS FALSE NEIGHBOUR: 'it returns false'. Refute it at one input. -/
def pathOrderWrong : ChangeSpec := { name := "pathOrder", fn := fun _ => fun
  | [d1, d2] => { results := [.lit (.bool false)], args := [d1, d2] }
  | _ => none }
def PathOrderWrongFalsely : Prop := pathOrderRow.holds Try.pinned (OpenSpec.ofChange pathOrderWrong)

/-- 'embrasurelaw29.PathWays': WHATEVER THE INPUT: true; the input reads as it did. -/
def pathWaysSpec : ChangeSpec := { name := "pathWays", fn := fun _ => fun
  | [d1, d2] => { results := [.lit (.bool true)], args := [d1, d2] }
  | _ => none }
def pathWaysRow : OpenClaim := { program := "ythlhfhfhagfelaa", sum := "3d8f1ea3cc6591af11a147a642e9a67c6d24c59ffb3079b5b97666c51d52bf29", func := "embrasure/embrasurelaw29.PathWays", spec := "pathWays", unfollowed := true, recurses := true, apart := false }
def PathWaysSaid : Prop := pathWaysRow.holds Try.pinned (OpenSpec.ofChange pathWaysSpec)

/-- ITS FALSE NEIGHBOUR: 'it returns false'. Refute it at one input. -/
def pathWaysWrong : ChangeSpec := { name := "pathWays", fn := fun _ => fun
  | [d1, d2] => { results := [.lit (.bool false)], args := [d1, d2] }
  | _ => none }
def PathWaysWrongFalsely : Prop := pathWaysRow.holds Try.pinned (OpenSpec.ofChange pathWaysWrong)

/-- 'embrasurelaw29.PathPlays': WHATEVER THE INPUT: true; the input reads as it did. -/
def pathPlaysSpec : ChangeSpec := { name := "pathPlays", fn := fun _ => fun
  | [d1, d2, d3] => { results := [.lit (.bool true)], args := [d1, d2, d3] }
  | _ => none }
def pathPlaysRow : OpenClaim := { program := "ythlhfhfhagfelaa", sum := "3d8f1ea3cc6591af11a147a642e9a67c6d24c59ffb3079b5b97666c51d52bf29", func := "embrasure/embrasurelaw29.PathPlays", spec := "pathPlays", unfollowed := true, recurses := true, apart := false }
def PathPlaysSaid : Prop := pathPlaysRow.holds Try.pinned (OpenSpec.ofChange pathPlaysSpec)

/-- ITS FALSE NEIGHBOUR: 'it returns false'. Refute it at one input. -/
def pathPlaysWrong : ChangeSpec := { name := "pathPlays", fn := fun _ => fun
  | [d1, d2, d3] => { results := [.lit (.bool false)], args := [d1, d2, d3] }
  | _ => none }
def PathPlaysWrongFalsely : Prop := pathPlaysRow.holds Try.pinned (OpenSpec.ofChange pathPlaysWrong)

/-- 'embrasurelaw29.PathLost': WHATEVER THE INPUT: true; the input reads as it did. -/
def pathLostSpec : ChangeSpec := { name := "pathLost", fn := fun _ => fun
  | [d1, d2, d3] => { results := [.lit (.bool true)], args := [d1, d2, d3] }
  | _ => none }
def pathLostRow : OpenClaim := { program := "ythlhfhfhagfelaa", sum := "3d8f1ea3cc6591af11a147a642e9a67c6d24c59ffb3079b5b97666c51d52bf29", func := "embrasure/embrasurelaw29.PathLost", spec := "pathLost", unfollowed := true, recurses := true, apart := false }
def PathLostSaid : Prop := pathLostRow.holds Try.pinned (OpenSpec.ofChange pathLostSpec)

/-- ITS FALSE NEIGHBOUR: 'it returns false'. Refute it at one input. -/
def pathLostWrong : ChangeSpec := { name := "pathLost", fn := fun _ => fun
  | [d1, d2, d3] => { results := [.lit (.bool false)], args := [d1, d2, d3] }
  | _ => none }
def PathLostWrongFalsely : Prop := pathLostRow.holds Try.pinned (OpenSpec.ofChange pathLostWrong)

/-- 'embrasurelaw29.PathOff': WHATEVER THE INPUT: true; the input reads as it did. -/
def pathOffSpec : ChangeSpec := { name := "pathOff", fn := fun _ => fun
  | [d1, d2, d3] => { results := [.lit (.bool true)], args := [d1, d2, d3] }
  | _ => none }
def pathOffRow : OpenClaim := { program := "ythlhfhfhagfelaa", sum := "3d8f1ea3cc6591af11a147a642e9a67c6d24c59ffb3079b5b97666c51d52bf29", func := "embrasure/embrasurelaw29.PathOff", spec := "pathOff", unfollowed := true, recurses := true, apart := false }
def PathOffSaid : Prop := pathOffRow.holds Try.pinned (OpenSpec.ofChange pathOffSpec)

/-- ITS FALSE NEIGHBOUR: 'it returns false'. Refute it at one input. -/
def pathOffWrong : ChangeSpec := { name := "pathOff", fn := fun _ => fun
  | [d1, d2, d3] => { results := [.lit (.bool false)], args := [d1, d2, d3] }
  | _ => none }
def PathOffWrongFalsely : Prop := pathOffRow.holds Try.pinned (OpenSpec.ofChange pathOffWrong)

/- THE SECOND FORM. 'bulk': how many values and letters a reading holds, each counted each time it is reached (what is shared counts as often as it is met; a slice's spare places count too). A statement '..UptoSaid' is the law's where the arguments, and the package variables that the reading takes, are together of bulk at most 1048576: NARROWER than '..Said'. Prove '..Said' where nothing that the law and all that it calls make is longer than what came in: it says more and counts as full. Else prove '..UptoSaid'. A law counts once. -/
mutual
def uptoBulk {H : Type} : DataW H → Nat
  | .lit (.string bytes) => bytes.length + 1
  | .lit _ => 1
  | .nil => 1
  | .ptr d => uptoBulk d + 1
  | .slice elems spare => uptoBulkAll elems + uptoBulkAll spare + 1
  | .agg parts => uptoBulkAll parts + 1
  | .iface _ d => uptoBulk d + 1
  | .map entries => uptoBulkEntries entries + 1
  | .held _ => 1
def uptoBulkAll {H : Type} : List (DataW H) → Nat
  | [] => 0
  | d :: r => uptoBulk d + uptoBulkAll r
def uptoBulkEntries {H : Type} : List (Lit × DataW H) → Nat
  | [] => 0
  | x :: r => uptoBulkEntry x + uptoBulkEntries r
def uptoBulkEntry {H : Type} : Lit × DataW H → Nat
  | (.string bytes, d) => bytes.length + uptoBulk d + 1
  | (_, d) => uptoBulk d + 1
 end
def uptoSmall : (H : Type) → List (DataW H) → Bool := fun _ ds => decide (uptoBulkAll ds ≤ 1048576)
def OpenSpec.upto (s : _root_.Go.ChangeSpec) : _root_.Go.OpenSpec := { _root_.Go.OpenSpec.ofChange s with cond := some uptoSmall }

/-- 'embrasurelaw29.PathOrder', WHERE WHAT IT READS IS OF BULK AT MOST 1048576: true; the input reads as it did. -/
def pathOrderUptoRow : OpenClaim := { program := "ythlhfhfhagfelaa", sum := "3d8f1ea3cc6591af11a147a642e9a67c6d24c59ffb3079b5b97666c51d52bf29", func := "embrasure/embrasurelaw29.PathOrder", spec := "pathOrder", unfollowed := true, recurses := true, apart := false, narrowed := true }
def PathOrderUptoSaid : Prop := pathOrderUptoRow.holds Try.pinned (OpenSpec.upto pathOrderSpec)

/-- 'embrasurelaw29.PathWays', WHERE WHAT IT READS IS OF BULK AT MOST 1048576: true; the input reads as it did. -/
def pathWaysUptoRow : OpenClaim := { program := "ythlhfhfhagfelaa", sum := "3d8f1ea3cc6591af11a147a642e9a67c6d24c59ffb3079b5b97666c51d52bf29", func := "embrasure/embrasurelaw29.PathWays", spec := "pathWays", unfollowed := true, recurses := true, apart := false, narrowed := true }
def PathWaysUptoSaid : Prop := pathWaysUptoRow.holds Try.pinned (OpenSpec.upto pathWaysSpec)

/-- 'embrasurelaw29.PathPlays', WHERE WHAT IT READS IS OF BULK AT MOST 1048576: true; the input reads as it did. -/
def pathPlaysUptoRow : OpenClaim := { program := "ythlhfhfhagfelaa", sum := "3d8f1ea3cc6591af11a147a642e9a67c6d24c59ffb3079b5b97666c51d52bf29", func := "embrasure/embrasurelaw29.PathPlays", spec := "pathPlays", unfollowed := true, recurses := true, apart := false, narrowed := true }
def PathPlaysUptoSaid : Prop := pathPlaysUptoRow.holds Try.pinned (OpenSpec.upto pathPlaysSpec)

/-- 'embrasurelaw29.PathLost', WHERE WHAT IT READS IS OF BULK AT MOST 1048576: true; the input reads as it did. -/
def pathLostUptoRow : OpenClaim := { program := "ythlhfhfhagfelaa", sum := "3d8f1ea3cc6591af11a147a642e9a67c6d24c59ffb3079b5b97666c51d52bf29", func := "embrasure/embrasurelaw29.PathLost", spec := "pathLost", unfollowed := true, recurses := true, apart := false, narrowed := true }
def PathLostUptoSaid : Prop := pathLostUptoRow.holds Try.pinned (OpenSpec.upto pathLostSpec)

/-- 'embrasurelaw29.PathOff', WHERE WHAT IT READS IS OF BULK AT MOST 1048576: true; the input reads as it did. -/
def pathOffUptoRow : OpenClaim := { program := "ythlhfhfhagfelaa", sum := "3d8f1ea3cc6591af11a147a642e9a67c6d24c59ffb3079b5b97666c51d52bf29", func := "embrasure/embrasurelaw29.PathOff", spec := "pathOff", unfollowed := true, recurses := true, apart := false, narrowed := true }
def PathOffUptoSaid : Prop := pathOffUptoRow.holds Try.pinned (OpenSpec.upto pathOffSpec)

end Rows
end Go.Proofs.Ythlhfhfhagfelaa
