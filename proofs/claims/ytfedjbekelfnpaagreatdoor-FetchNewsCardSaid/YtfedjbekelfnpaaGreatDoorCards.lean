/-
  DERIVED. GIVEN WITH THE SEED: THE CARDS: each row of YtfedjbekelfnpaaGreatDoorRows.lean that lists a variable, with what it lists TIED to the program's text (the seventh form; the later family's looks); each row that meets fmt, with fmt's text TOLD by the authors' own Lean function (tested against real Go, not proved from fmt's source: count such statements apart). THE CARD IS WHAT COUNTS. Prove the row's statement (the work); the ties are given (YtfedjbekelfnpaaGreatDoorTie.lean); close each card by the builder's one call (the guide's Derived/Test/ToyasCard.lean, 'card_holds'). Laid BY PROGRAM, IN A SANDBOX (cutbox-door.mjs). By AI agents, Wed Nov 11 2026. No macro, syntax, notation, axiom, sorry.
-/
import Derived.Test.YtfedjbekelfnpaaGreatDoorRows
import GoSem.ClaimSeven
namespace Go.Proofs.YtfedjbekelfnpaaGreatDoor
namespace Rows

/-- THE TIED CARD OF 'slipwaylaw21.FetchNames'. -/
def fetchNamesCard : Claim7 := { stood := { row := fetchNamesRow, standIns := [], harness := (true, "07b2a5efc8bf13ac9c53d73f6120ea57849f4ee7a03bd5d76484620bc13cc5b3"), looks := true }, kinds := [], alts := [], laidByText := true, laidKinds := [.data, .data, .data, .sentinel, .sentinel, .sentinel, .sentinel], laidTests := true, laidLooks := .later }
def FetchNamesCardSaid : Prop := Claim7.holds Tryz.pinned (.plain (OpenSpec.ofChange fetchNamesSpec)) fetchNamesCard

/-- THE TIED CARD OF 'slipwaylaw21.FetchNews'. -/
def fetchNewsCard : Claim7 := { stood := { row := fetchNewsRow, standIns := [], harness := (true, "07b2a5efc8bf13ac9c53d73f6120ea57849f4ee7a03bd5d76484620bc13cc5b3"), looks := true }, kinds := [], alts := [], laidByText := true, laidKinds := [.data, .data, .data, .sentinel, .sentinel, .sentinel, .sentinel], laidTests := true, laidLooks := .later }
def FetchNewsCardSaid : Prop := Claim7.holds Tryz.pinned (.plain (OpenSpec.ofChange fetchNewsSpec)) fetchNewsCard

/-- THE TIED CARD OF 'slipwaylaw21.FetchKeeps'. -/
def fetchKeepsCard : Claim7 := { stood := { row := fetchKeepsRow, standIns := [], harness := (true, "07b2a5efc8bf13ac9c53d73f6120ea57849f4ee7a03bd5d76484620bc13cc5b3"), looks := true }, kinds := [], alts := [], laidByText := true, laidKinds := [.data, .data, .data, .sentinel, .sentinel, .sentinel, .sentinel], laidTests := true, laidLooks := .later }
def FetchKeepsCardSaid : Prop := Claim7.holds Tryz.pinned (.plain (OpenSpec.ofChange fetchKeepsSpec)) fetchKeepsCard

/-- THE TIED CARD OF 'slipwaylaw21.FetchQuiet'. -/
def fetchQuietCard : Claim7 := { stood := { row := fetchQuietRow, standIns := [], harness := (true, "07b2a5efc8bf13ac9c53d73f6120ea57849f4ee7a03bd5d76484620bc13cc5b3"), looks := true }, kinds := [], alts := [], laidByText := true, laidKinds := [.data, .data, .data, .sentinel, .sentinel, .sentinel, .sentinel], laidTests := true, laidLooks := .later }
def FetchQuietCardSaid : Prop := Claim7.holds Tryz.pinned (.plain (OpenSpec.ofChange fetchQuietSpec)) fetchQuietCard

/-- THE TIED CARD OF 'slipwaylaw21.FetchPlays'. -/
def fetchPlaysCard : Claim7 := { stood := { row := fetchPlaysRow, standIns := [], harness := (true, "07b2a5efc8bf13ac9c53d73f6120ea57849f4ee7a03bd5d76484620bc13cc5b3"), looks := true }, kinds := [], alts := [], laidByText := true, laidKinds := [.data, .data, .data, .sentinel, .sentinel, .sentinel, .sentinel], laidTests := true, laidLooks := .later }
def FetchPlaysCardSaid : Prop := Claim7.holds Tryz.pinned (.plain (OpenSpec.ofChange fetchPlaysSpec)) fetchPlaysCard

/-- THE SECOND FORM's CARD OF 'slipwaylaw21.FetchNames'. -/
def fetchNamesUptoCard : Claim7 := { stood := { row := fetchNamesUptoRow, standIns := [], harness := (true, "07b2a5efc8bf13ac9c53d73f6120ea57849f4ee7a03bd5d76484620bc13cc5b3"), looks := true }, kinds := [], alts := [], laidByText := true, laidKinds := [.data, .data, .data, .sentinel, .sentinel, .sentinel, .sentinel], laidTests := true, laidLooks := .later }
def FetchNamesUptoCardSaid : Prop := Claim7.holds Tryz.pinned (.plain (OpenSpec.upto fetchNamesSpec)) fetchNamesUptoCard

/-- THE SECOND FORM's CARD OF 'slipwaylaw21.FetchNews'. -/
def fetchNewsUptoCard : Claim7 := { stood := { row := fetchNewsUptoRow, standIns := [], harness := (true, "07b2a5efc8bf13ac9c53d73f6120ea57849f4ee7a03bd5d76484620bc13cc5b3"), looks := true }, kinds := [], alts := [], laidByText := true, laidKinds := [.data, .data, .data, .sentinel, .sentinel, .sentinel, .sentinel], laidTests := true, laidLooks := .later }
def FetchNewsUptoCardSaid : Prop := Claim7.holds Tryz.pinned (.plain (OpenSpec.upto fetchNewsSpec)) fetchNewsUptoCard

/-- THE SECOND FORM's CARD OF 'slipwaylaw21.FetchKeeps'. -/
def fetchKeepsUptoCard : Claim7 := { stood := { row := fetchKeepsUptoRow, standIns := [], harness := (true, "07b2a5efc8bf13ac9c53d73f6120ea57849f4ee7a03bd5d76484620bc13cc5b3"), looks := true }, kinds := [], alts := [], laidByText := true, laidKinds := [.data, .data, .data, .sentinel, .sentinel, .sentinel, .sentinel], laidTests := true, laidLooks := .later }
def FetchKeepsUptoCardSaid : Prop := Claim7.holds Tryz.pinned (.plain (OpenSpec.upto fetchKeepsSpec)) fetchKeepsUptoCard

/-- THE SECOND FORM's CARD OF 'slipwaylaw21.FetchQuiet'. -/
def fetchQuietUptoCard : Claim7 := { stood := { row := fetchQuietUptoRow, standIns := [], harness := (true, "07b2a5efc8bf13ac9c53d73f6120ea57849f4ee7a03bd5d76484620bc13cc5b3"), looks := true }, kinds := [], alts := [], laidByText := true, laidKinds := [.data, .data, .data, .sentinel, .sentinel, .sentinel, .sentinel], laidTests := true, laidLooks := .later }
def FetchQuietUptoCardSaid : Prop := Claim7.holds Tryz.pinned (.plain (OpenSpec.upto fetchQuietSpec)) fetchQuietUptoCard

/-- THE SECOND FORM's CARD OF 'slipwaylaw21.FetchPlays'. -/
def fetchPlaysUptoCard : Claim7 := { stood := { row := fetchPlaysUptoRow, standIns := [], harness := (true, "07b2a5efc8bf13ac9c53d73f6120ea57849f4ee7a03bd5d76484620bc13cc5b3"), looks := true }, kinds := [], alts := [], laidByText := true, laidKinds := [.data, .data, .data, .sentinel, .sentinel, .sentinel, .sentinel], laidTests := true, laidLooks := .later }
def FetchPlaysUptoCardSaid : Prop := Claim7.holds Tryz.pinned (.plain (OpenSpec.upto fetchPlaysSpec)) fetchPlaysUptoCard
end Rows
end Go.Proofs.YtfedjbekelfnpaaGreatDoor
