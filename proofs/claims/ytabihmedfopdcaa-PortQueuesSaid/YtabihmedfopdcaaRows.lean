/-
  No cell of these rows narrows 'for every input' (looked for: loops, veiled, ifaces, maps, wideKeys, modest, calm, conditions, laid).
  DERIVED. THE GIVEN ROWS OF THIS SEAT. 4 by the template 'for every input the law returns true; each argument reads behind the call as it read before'; 0 by the template 'total and deterministic' (their statements: YtabihmedfopdcaaTotals.lean).
  GIVEN WITH THE SEED: the statements are not yours to turn. If you find one false, say at which input.
  Laid BY PROGRAM, IN A SANDBOX (cutbox-rows.mjs): the forced cells as the released guide's own fill.sh prints them over the translation 8f77ccff38cf1c88… (all of the seat's roots in one cut). By AI agents, Wed Nov 11 2026. No macro, syntax, notation, axiom, sorry.
-/
import Derived.Test.YtabihmedfopdcaaChecked
import GoSem.Claim
import GoSem.ClaimJoined
import GoSem.ClaimMapViews
import Derived.JoinedTies
import Derived.KernelRfl
namespace Go.Proofs.Ytabihmedfopdcaa
/- THE CELL 'sum', in the pinned program and in every row, IS THE sha256 OF THE DUMP (.gsa) THAT YtabihmedfopdcaaProg.lean LOADS. Nothing in Lean hashes anything: it is a label: what it is worth is what the hold of that sum in a sandbox is worth. -/
noncomputable def Try.pinned : Pinned := { name := "ytabihmedfopdcaa", sum := "8f77ccff38cf1c884c9dc150e667e49644b65158a95dc09b7685e25350e6be81", checked := Try.checked }
namespace Rows
def none {H : Type} : Left H := { results := [], args := [] }

/-- 'slipwaylaw13.PortNumbers': WHATEVER THE INPUT: true; the input reads as it did. -/
def portNumbersSpec : ChangeSpec := { name := "portNumbers", fn := fun _ => fun
  | [] => { results := [.lit (.bool true)], args := [] }
  | _ => none }
def portNumbersRow : OpenClaim := { program := "ytabihmedfopdcaa", sum := "8f77ccff38cf1c884c9dc150e667e49644b65158a95dc09b7685e25350e6be81", func := "slipway/slipwaylaw13.PortNumbers", spec := "portNumbers", unfollowed := true, recurses := true, apart := false }
def PortNumbersSaid : Prop := portNumbersRow.holds Try.pinned (OpenSpec.ofChange portNumbersSpec)

/-- ITS FALSE NEIGHBOUR: 'it returns false'. Refute it at one input. -/
def portNumbersWrong : ChangeSpec := { name := "portNumbers", fn := fun _ => fun
  | [] => { results := [.lit (.bool false)], args := [] }
  | _ => none }
def PortNumbersWrongFalsely : Prop := portNumbersRow.holds Try.pinned (OpenSpec.ofChange portNumbersWrong)

/-- 'slipwaylaw13.PortMakes': WHATEVER THE INPUT: true; the input reads as it did. -/
def portMakesSpec : ChangeSpec := { name := "portMakes", fn := fun _ => fun
  | [d1, d2] => { results := [.lit (.bool true)], args := [d1, d2] }
  | _ => none }
def portMakesRow : OpenClaim := { program := "ytabihmedfopdcaa", sum := "8f77ccff38cf1c884c9dc150e667e49644b65158a95dc09b7685e25350e6be81", func := "slipway/slipwaylaw13.PortMakes", spec := "portMakes", unfollowed := true, recurses := true, apart := false }
def PortMakesSaid : Prop := portMakesRow.holds Try.pinned (OpenSpec.ofChange portMakesSpec)

/-- ITS FALSE NEIGHBOUR: 'it returns false'. Refute it at one input. -/
def portMakesWrong : ChangeSpec := { name := "portMakes", fn := fun _ => fun
  | [d1, d2] => { results := [.lit (.bool false)], args := [d1, d2] }
  | _ => none }
def PortMakesWrongFalsely : Prop := portMakesRow.holds Try.pinned (OpenSpec.ofChange portMakesWrong)

/-- 'slipwaylaw13.PortQueues': WHATEVER THE INPUT: true; the input reads as it did. -/
def portQueuesSpec : ChangeSpec := { name := "portQueues", fn := fun _ => fun
  | [d1, d2, d3] => { results := [.lit (.bool true)], args := [d1, d2, d3] }
  | _ => none }
def portQueuesRow : OpenClaim := { program := "ytabihmedfopdcaa", sum := "8f77ccff38cf1c884c9dc150e667e49644b65158a95dc09b7685e25350e6be81", func := "slipway/slipwaylaw13.PortQueues", spec := "portQueues", unfollowed := true, recurses := true, apart := false }
def PortQueuesSaid : Prop := portQueuesRow.holds Try.pinned (OpenSpec.ofChange portQueuesSpec)

/-- ITS FALSE NEIGHBOUR: 'it returns false'. Refute it at one input. -/
def portQueuesWrong : ChangeSpec := { name := "portQueues", fn := fun _ => fun
  | [d1, d2, d3] => { results := [.lit (.bool false)], args := [d1, d2, d3] }
  | _ => none }
def PortQueuesWrongFalsely : Prop := portQueuesRow.holds Try.pinned (OpenSpec.ofChange portQueuesWrong)

/-- 'slipwaylaw13.PortPlays': WHATEVER THE INPUT: true; the input reads as it did. -/
def portPlaysSpec : ChangeSpec := { name := "portPlays", fn := fun _ => fun
  | [d1, d2, d3, d4, d5, d6] => { results := [.lit (.bool true)], args := [d1, d2, d3, d4, d5, d6] }
  | _ => none }
def portPlaysRow : OpenClaim := { program := "ytabihmedfopdcaa", sum := "8f77ccff38cf1c884c9dc150e667e49644b65158a95dc09b7685e25350e6be81", func := "slipway/slipwaylaw13.PortPlays", spec := "portPlays", unfollowed := true, recurses := true, apart := false }
def PortPlaysSaid : Prop := portPlaysRow.holds Try.pinned (OpenSpec.ofChange portPlaysSpec)

/-- ITS FALSE NEIGHBOUR: 'it returns false'. Refute it at one input. -/
def portPlaysWrong : ChangeSpec := { name := "portPlays", fn := fun _ => fun
  | [d1, d2, d3, d4, d5, d6] => { results := [.lit (.bool false)], args := [d1, d2, d3, d4, d5, d6] }
  | _ => none }
def PortPlaysWrongFalsely : Prop := portPlaysRow.holds Try.pinned (OpenSpec.ofChange portPlaysWrong)

/- THE SECOND FORM. 'bulk': how many values and letters a reading holds, each counted each time it is reached (what is shared counts as often as it is met; a slice's spare places count too). A statement '..UptoSaid' is the law's where the arguments, and the package variables that the reading takes, are together of bulk at most 1048576: NARROWER than '..Said'. Prove '..Said' where nothing that the law and all that it calls make is longer than what came in: it says more and counts as full. Else prove '..UptoSaid'. A law counts once. -/
mutual
def uptoBulk {H : Type} : DataW H → Nat
  | .lit (.string bytes) => bytes.length + 1
  | .lit _ => 1
  | .nil => 1
  | .ptr d => uptoBulk d + 1
  | .slice elems spare => uptoBulkAll elems + uptoBulkAll spare + 1
  | .agg parts => uptoBulkAll parts + 1
  | .iface _ d => uptoBulk d + 1
  | .map entries => uptoBulkEntries entries + 1
  | .held _ => 1
def uptoBulkAll {H : Type} : List (DataW H) → Nat
  | [] => 0
  | d :: r => uptoBulk d + uptoBulkAll r
def uptoBulkEntries {H : Type} : List (Lit × DataW H) → Nat
  | [] => 0
  | x :: r => uptoBulkEntry x + uptoBulkEntries r
def uptoBulkEntry {H : Type} : Lit × DataW H → Nat
  | (.string bytes, d) => bytes.length + uptoBulk d + 1
  | (_, d) => uptoBulk d + 1
 end
def uptoSmall : (H : Type) → List (DataW H) → Bool := fun _ ds => decide (uptoBulkAll ds ≤ 1048576)
def OpenSpec.upto (s : _root_.Go.ChangeSpec) : _root_.Go.OpenSpec := { _root_.Go.OpenSpec.ofChange s with cond := some uptoSmall }

/-- 'slipwaylaw13.PortNumbers', WHERE WHAT IT READS IS OF BULK AT MOST 1048576: true; the input reads as it did. -/
def portNumbersUptoRow : OpenClaim := { program := "ytabihmedfopdcaa", sum := "8f77ccff38cf1c884c9dc150e667e49644b65158a95dc09b7685e25350e6be81", func := "slipway/slipwaylaw13.PortNumbers", spec := "portNumbers", unfollowed := true, recurses := true, apart := false, narrowed := true }
def PortNumbersUptoSaid : Prop := portNumbersUptoRow.holds Try.pinned (OpenSpec.upto portNumbersSpec)

/-- 'slipwaylaw13.PortMakes', WHERE WHAT IT READS IS OF BULK AT MOST 1048576: true; the input reads as it did. -/
def portMakesUptoRow : OpenClaim := { program := "ytabihmedfopdcaa", sum := "8f77ccff38cf1c884c9dc150e667e49644b65158a95dc09b7685e25350e6be81", func := "slipway/slipwaylaw13.PortMakes", spec := "portMakes", unfollowed := true, recurses := true, apart := false, narrowed := true }
def PortMakesUptoSaid : Prop := portMakesUptoRow.holds Try.pinned (OpenSpec.upto portMakesSpec)

/-- 'slipwaylaw13.PortQueues', WHERE WHAT IT READS IS OF BULK AT MOST 1048576: true; the input reads as it did. -/
def portQueuesUptoRow : OpenClaim := { program := "ytabihmedfopdcaa", sum := "8f77ccff38cf1c884c9dc150e667e49644b65158a95dc09b7685e25350e6be81", func := "slipway/slipwaylaw13.PortQueues", spec := "portQueues", unfollowed := true, recurses := true, apart := false, narrowed := true }
def PortQueuesUptoSaid : Prop := portQueuesUptoRow.holds Try.pinned (OpenSpec.upto portQueuesSpec)

/-- 'slipwaylaw13.PortPlays', WHERE WHAT IT READS IS OF BULK AT MOST 1048576: true; the input reads as it did. -/
def portPlaysUptoRow : OpenClaim := { program := "ytabihmedfopdcaa", sum := "8f77ccff38cf1c884c9dc150e667e49644b65158a95dc09b7685e25350e6be81", func := "slipway/slipwaylaw13.PortPlays", spec := "portPlays", unfollowed := true, recurses := true, apart := false, narrowed := true }
def PortPlaysUptoSaid : Prop := portPlaysUptoRow.holds Try.pinned (OpenSpec.upto portPlaysSpec)

end Rows
end Go.Proofs.Ytabihmedfopdcaa
