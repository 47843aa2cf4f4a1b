/-
  No cell of these rows narrows 'for every input' (looked for: loops, veiled, ifaces, maps, wideKeys, modest, calm, conditions, laid).
  DERIVED. THE GIVEN ROWS OF THIS SEAT. 3 by the template 'for every input the law returns true; each argument reads behind the call as it read before'; 0 by the template 'total and deterministic' (their statements: YtkfccpabigikkaaTotals.lean).
  GIVEN WITH THE SEED: the statements are not yours to turn. If you find one false, say at which input.
  Laid BY PROGRAM, IN A SANDBOX (cutbox-rows.mjs): the forced cells as the released guide's own fill.sh prints them over the translation 20c884c5d4e5e60d… (all of the seat's roots in one cut). By AI agents, Wed Nov 11 2026. No macro, syntax, notation, axiom, sorry.
-/
import Derived.Test.YtkfccpabigikkaaChecked
import GoSem.Claim
import GoSem.ClaimJoined
import GoSem.ClaimMapViews
import Derived.JoinedTies
import Derived.KernelRfl
namespace Go.Proofs.Ytkfccpabigikkaa
/- THE CELL 'sum', in the pinned program and in every row, IS THE sha256 OF THE DUMP (.gsa) THAT YtkfccpabigikkaaProg.lean LOADS. Nothing in Lean hashes anything: it is a label: what it is worth is what the hold of that sum in a sandbox is worth. -/
noncomputable def Try.pinned : Pinned := { name := "ytkfccpabigikkaa", sum := "20c884c5d4e5e60d4437908ce8234e5a875d60fcccc6f74ba1dca478f95e56be", checked := Try.checked }
namespace Rows
def none {H : Type} : Left H := { results := [], args := [] }

/-- 'slipwaylaw11.NeighNumbers': WHATEVER THE INPUT: true; the input reads as it did. -/
def neighNumbersSpec : ChangeSpec := { name := "neighNumbers", fn := fun _ => fun
  | [] => { results := [.lit (.bool true)], args := [] }
  | _ => none }
def neighNumbersRow : OpenClaim := { program := "ytkfccpabigikkaa", sum := "20c884c5d4e5e60d4437908ce8234e5a875d60fcccc6f74ba1dca478f95e56be", func := "slipway/slipwaylaw11.NeighNumbers", spec := "neighNumbers", recurses := true, apart := false }
def NeighNumbersSaid : Prop := neighNumbersRow.holds Try.pinned (OpenSpec.ofChange neighNumbersSpec)

/-- ITS FALSE NEIGHBOUR: 'it returns false'. Refute it at one input. -/
def neighNumbersWrong : ChangeSpec := { name := "neighNumbers", fn := fun _ => fun
  | [] => { results := [.lit (.bool false)], args := [] }
  | _ => none }
def NeighNumbersWrongFalsely : Prop := neighNumbersRow.holds Try.pinned (OpenSpec.ofChange neighNumbersWrong)

/-- 'slipwaylaw11.NeighPlays': WHATEVER THE INPUT: true; the input reads as it did. -/
def neighPlaysSpec : ChangeSpec := { name := "neighPlays", fn := fun _ => fun
  | [d1, d2, d3] => { results := [.lit (.bool true)], args := [d1, d2, d3] }
  | _ => none }
def neighPlaysRow : OpenClaim := { program := "ytkfccpabigikkaa", sum := "20c884c5d4e5e60d4437908ce8234e5a875d60fcccc6f74ba1dca478f95e56be", func := "slipway/slipwaylaw11.NeighPlays", spec := "neighPlays", recurses := true, apart := false }
def NeighPlaysSaid : Prop := neighPlaysRow.holds Try.pinned (OpenSpec.ofChange neighPlaysSpec)

/-- ITS FALSE NEIGHBOUR: 'it returns false'. Refute it at one input. -/
def neighPlaysWrong : ChangeSpec := { name := "neighPlays", fn := fun _ => fun
  | [d1, d2, d3] => { results := [.lit (.bool false)], args := [d1, d2, d3] }
  | _ => none }
def NeighPlaysWrongFalsely : Prop := neighPlaysRow.holds Try.pinned (OpenSpec.ofChange neighPlaysWrong)

/-- 'slipwaylaw11.NeighWaits': WHATEVER THE INPUT: true; the input reads as it did. -/
def neighWaitsSpec : ChangeSpec := { name := "neighWaits", fn := fun _ => fun
  | [d1, d2, d3] => { results := [.lit (.bool true)], args := [d1, d2, d3] }
  | _ => none }
def neighWaitsRow : OpenClaim := { program := "ytkfccpabigikkaa", sum := "20c884c5d4e5e60d4437908ce8234e5a875d60fcccc6f74ba1dca478f95e56be", func := "slipway/slipwaylaw11.NeighWaits", spec := "neighWaits", recurses := true, apart := false }
def NeighWaitsSaid : Prop := neighWaitsRow.holds Try.pinned (OpenSpec.ofChange neighWaitsSpec)

/-- ITS FALSE NEIGHBOUR: 'it returns false'. Refute it at one input. -/
def neighWaitsWrong : ChangeSpec := { name := "neighWaits", fn := fun _ => fun
  | [d1, d2, d3] => { results := [.lit (.bool false)], args := [d1, d2, d3] }
  | _ => none }
def NeighWaitsWrongFalsely : Prop := neighWaitsRow.holds Try.pinned (OpenSpec.ofChange neighWaitsWrong)

/- THE SECOND FORM. 'bulk': how many values and letters a reading holds, each counted each time it is reached (what is shared counts as often as it is met; a slice's spare places count too). A statement '..UptoSaid' is the law's where the arguments, and the package variables that the reading takes, are together of bulk at most 1048576: NARROWER than '..Said'. Prove '..Said' where nothing that the law and all that it calls make is longer than what came in: it says more and counts as full. Else prove '..UptoSaid'. A law counts once. -/
mutual
def uptoBulk {H : Type} : DataW H → Nat
  | .lit (.string bytes) => bytes.length + 1
  | .lit _ => 1
  | .nil => 1
  | .ptr d => uptoBulk d + 1
  | .slice elems spare => uptoBulkAll elems + uptoBulkAll spare + 1
  | .agg parts => uptoBulkAll parts + 1
  | .iface _ d => uptoBulk d + 1
  | .map entries => uptoBulkEntries entries + 1
  | .held _ => 1
def uptoBulkAll {H : Type} : List (DataW H) → Nat
  | [] => 0
  | d :: r => uptoBulk d + uptoBulkAll r
def uptoBulkEntries {H : Type} : List (Lit × DataW H) → Nat
  | [] => 0
  | x :: r => uptoBulkEntry x + uptoBulkEntries r
def uptoBulkEntry {H : Type} : Lit × DataW H → Nat
  | (.string bytes, d) => bytes.length + uptoBulk d + 1
  | (_, d) => uptoBulk d + 1
 end
def uptoSmall : (H : Type) → List (DataW H) → Bool := fun _ ds => decide (uptoBulkAll ds ≤ 1048576)
def OpenSpec.upto (s : _root_.Go.ChangeSpec) : _root_.Go.OpenSpec := { _root_.Go.OpenSpec.ofChange s with cond := some uptoSmall }

/-- 'slipwaylaw11.NeighNumbers', WHERE WHAT IT READS IS OF BULK AT MOST 1048576: true; the input reads as it did. -/
def neighNumbersUptoRow : OpenClaim := { program := "ytkfccpabigikkaa", sum := "20c884c5d4e5e60d4437908ce8234e5a875d60fcccc6f74ba1dca478f95e56be", func := "slipway/slipwaylaw11.NeighNumbers", spec := "neighNumbers", recurses := true, apart := false, narrowed := true }
def NeighNumbersUptoSaid : Prop := neighNumbersUptoRow.holds Try.pinned (OpenSpec.upto neighNumbersSpec)

/-- 'slipwaylaw11.NeighPlays', WHERE WHAT IT READS IS OF BULK AT MOST 1048576: true; the input reads as it did. -/
def neighPlaysUptoRow : OpenClaim := { program := "ytkfccpabigikkaa", sum := "20c884c5d4e5e60d4437908ce8234e5a875d60fcccc6f74ba1dca478f95e56be", func := "slipway/slipwaylaw11.NeighPlays", spec := "neighPlays", recurses := true, apart := false, narrowed := true }
def NeighPlaysUptoSaid : Prop := neighPlaysUptoRow.holds Try.pinned (OpenSpec.upto neighPlaysSpec)

/-- 'slipwaylaw11.NeighWaits', WHERE WHAT IT READS IS OF BULK AT MOST 1048576: true; the input reads as it did. -/
def neighWaitsUptoRow : OpenClaim := { program := "ytkfccpabigikkaa", sum := "20c884c5d4e5e60d4437908ce8234e5a875d60fcccc6f74ba1dca478f95e56be", func := "slipway/slipwaylaw11.NeighWaits", spec := "neighWaits", recurses := true, apart := false, narrowed := true }
def NeighWaitsUptoSaid : Prop := neighWaitsUptoRow.holds Try.pinned (OpenSpec.upto neighWaitsSpec)

end Rows
end Go.Proofs.Ytkfccpabigikkaa
