/-
  DERIVED. GIVEN WITH THE SEED: THE CARDS: each row of YtedklcmdjoojfaaDoorRows.lean that lists a variable, with what it lists TIED to the program's text (the seventh form; the later family's looks); each row that meets fmt, with fmt's text TOLD by the authors' own Lean function (tested against real Go, not proved from fmt's source: count such statements apart). THE CARD IS WHAT COUNTS. Prove the row's statement (the work); the ties are given (YtedklcmdjoojfaaDoorTie.lean); close each card by the builder's one call (the guide's Derived/Test/ToyasCard.lean, 'card_holds'). Laid BY PROGRAM, IN A SANDBOX (cutbox-door.mjs). By AI agents, Wed Nov 11 2026. No macro, syntax, notation, axiom, sorry.
-/
import Derived.Test.YtedklcmdjoojfaaDoorRows
import GoSem.ClaimSeven
namespace Go.Proofs.YtedklcmdjoojfaaDoor
namespace Rows

/-- THE TIED CARD OF 'slipwaylaw17.TftpNumbers'. -/
def tftpNumbersCard : Claim7 := { stood := { row := tftpNumbersRow, standIns := [], harness := (true, "57917abc3043b30326b73d3c41ae8754757e9b53f33011c05b618fb3e5176772"), looks := true }, kinds := [], alts := [], laidByText := true, laidKinds := [.data, .data, .data, .sentinel, .sentinel], laidTests := true, laidLooks := .later }
def TftpNumbersCardSaid : Prop := Claim7.holds Tryd.pinned (.plain (OpenSpec.ofChange tftpNumbersSpec)) tftpNumbersCard

/-- THE TIED CARD OF 'slipwaylaw17.TftpEncodes'. -/
def tftpEncodesCard : Claim7 := { stood := { row := tftpEncodesRow, standIns := [], harness := (true, "57917abc3043b30326b73d3c41ae8754757e9b53f33011c05b618fb3e5176772"), looks := true }, kinds := [], alts := [], laidByText := true, laidKinds := [.data, .data, .data, .sentinel, .sentinel], laidTests := true, laidLooks := .later }
def TftpEncodesCardSaid : Prop := Claim7.holds Tryd.pinned (.plain (OpenSpec.ofChange tftpEncodesSpec)) tftpEncodesCard

/-- THE TIED CARD OF 'slipwaylaw17.TftpDecodes'. -/
def tftpDecodesCard : Claim7 := { stood := { row := tftpDecodesRow, standIns := [], harness := (true, "57917abc3043b30326b73d3c41ae8754757e9b53f33011c05b618fb3e5176772"), looks := true }, kinds := [], alts := [], laidByText := true, laidKinds := [.data, .data, .data, .sentinel, .sentinel], laidTests := true, laidLooks := .later }
def TftpDecodesCardSaid : Prop := Claim7.holds Tryd.pinned (.plain (OpenSpec.ofChange tftpDecodesSpec)) tftpDecodesCard

/-- THE TIED CARD OF 'slipwaylaw17.TftpAgrees'. -/
def tftpAgreesCard : Claim7 := { stood := { row := tftpAgreesRow, standIns := [], harness := (true, "57917abc3043b30326b73d3c41ae8754757e9b53f33011c05b618fb3e5176772"), looks := true }, kinds := [], alts := [], laidByText := true, laidKinds := [.data, .data, .data, .sentinel, .sentinel], laidTests := true, laidLooks := .later }
def TftpAgreesCardSaid : Prop := Claim7.holds Tryd.pinned (.plain (OpenSpec.ofChange tftpAgreesSpec)) tftpAgreesCard

/-- THE TIED CARD OF 'slipwaylaw17.TftpBack'. -/
def tftpBackCard : Claim7 := { stood := { row := tftpBackRow, standIns := [], harness := (true, "57917abc3043b30326b73d3c41ae8754757e9b53f33011c05b618fb3e5176772"), looks := true }, kinds := [], alts := [], laidByText := true, laidKinds := [.data, .data, .data, .sentinel, .sentinel], laidTests := true, laidLooks := .later }
def TftpBackCardSaid : Prop := Claim7.holds Tryd.pinned (.plain (OpenSpec.ofChange tftpBackSpec)) tftpBackCard

/-- THE SECOND FORM's CARD OF 'slipwaylaw17.TftpNumbers'. -/
def tftpNumbersUptoCard : Claim7 := { stood := { row := tftpNumbersUptoRow, standIns := [], harness := (true, "57917abc3043b30326b73d3c41ae8754757e9b53f33011c05b618fb3e5176772"), looks := true }, kinds := [], alts := [], laidByText := true, laidKinds := [.data, .data, .data, .sentinel, .sentinel], laidTests := true, laidLooks := .later }
def TftpNumbersUptoCardSaid : Prop := Claim7.holds Tryd.pinned (.plain (OpenSpec.upto tftpNumbersSpec)) tftpNumbersUptoCard

/-- THE SECOND FORM's CARD OF 'slipwaylaw17.TftpEncodes'. -/
def tftpEncodesUptoCard : Claim7 := { stood := { row := tftpEncodesUptoRow, standIns := [], harness := (true, "57917abc3043b30326b73d3c41ae8754757e9b53f33011c05b618fb3e5176772"), looks := true }, kinds := [], alts := [], laidByText := true, laidKinds := [.data, .data, .data, .sentinel, .sentinel], laidTests := true, laidLooks := .later }
def TftpEncodesUptoCardSaid : Prop := Claim7.holds Tryd.pinned (.plain (OpenSpec.upto tftpEncodesSpec)) tftpEncodesUptoCard

/-- THE SECOND FORM's CARD OF 'slipwaylaw17.TftpDecodes'. -/
def tftpDecodesUptoCard : Claim7 := { stood := { row := tftpDecodesUptoRow, standIns := [], harness := (true, "57917abc3043b30326b73d3c41ae8754757e9b53f33011c05b618fb3e5176772"), looks := true }, kinds := [], alts := [], laidByText := true, laidKinds := [.data, .data, .data, .sentinel, .sentinel], laidTests := true, laidLooks := .later }
def TftpDecodesUptoCardSaid : Prop := Claim7.holds Tryd.pinned (.plain (OpenSpec.upto tftpDecodesSpec)) tftpDecodesUptoCard

/-- THE SECOND FORM's CARD OF 'slipwaylaw17.TftpAgrees'. -/
def tftpAgreesUptoCard : Claim7 := { stood := { row := tftpAgreesUptoRow, standIns := [], harness := (true, "57917abc3043b30326b73d3c41ae8754757e9b53f33011c05b618fb3e5176772"), looks := true }, kinds := [], alts := [], laidByText := true, laidKinds := [.data, .data, .data, .sentinel, .sentinel], laidTests := true, laidLooks := .later }
def TftpAgreesUptoCardSaid : Prop := Claim7.holds Tryd.pinned (.plain (OpenSpec.upto tftpAgreesSpec)) tftpAgreesUptoCard

/-- THE SECOND FORM's CARD OF 'slipwaylaw17.TftpBack'. -/
def tftpBackUptoCard : Claim7 := { stood := { row := tftpBackUptoRow, standIns := [], harness := (true, "57917abc3043b30326b73d3c41ae8754757e9b53f33011c05b618fb3e5176772"), looks := true }, kinds := [], alts := [], laidByText := true, laidKinds := [.data, .data, .data, .sentinel, .sentinel], laidTests := true, laidLooks := .later }
def TftpBackUptoCardSaid : Prop := Claim7.holds Tryd.pinned (.plain (OpenSpec.upto tftpBackSpec)) tftpBackUptoCard
end Rows
end Go.Proofs.YtedklcmdjoojfaaDoor
