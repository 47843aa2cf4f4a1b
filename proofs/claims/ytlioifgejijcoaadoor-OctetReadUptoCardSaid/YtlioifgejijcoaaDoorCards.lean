/-
  DERIVED. GIVEN WITH THE SEED: THE CARDS: each row of YtlioifgejijcoaaDoorRows.lean that lists a variable, with what it lists TIED to the program's text (the seventh form; the later family's looks); each row that meets fmt, with fmt's text TOLD by the authors' own Lean function (tested against real Go, not proved from fmt's source: count such statements apart). THE CARD IS WHAT COUNTS. Prove the row's statement (the work); the ties are given (YtlioifgejijcoaaDoorTie.lean); close each card by the builder's one call (the guide's Derived/Test/ToyasCard.lean, 'card_holds'). Laid BY PROGRAM, IN A SANDBOX (cutbox-door.mjs). By AI agents, Wed Nov 11 2026. No macro, syntax, notation, axiom, sorry.
-/
import Derived.Test.YtlioifgejijcoaaDoorRows
import GoSem.ClaimSeven
namespace Go.Proofs.YtlioifgejijcoaaDoor
namespace Rows

/-- THE TIED CARD OF 'slipwaylaw01.OctetPuts'. -/
def octetPutsCard : Claim7 := { stood := { row := octetPutsRow, standIns := [], harness := (true, "56cb0fc03a3dfc1bfe4648d45d1533646674b9c7df771b5f79239cc7243cf7b8"), looks := true }, kinds := [], alts := [], laidByText := true, laidKinds := [.data, .data, .data, .data, .sentinel, .sentinel, .pinned], laidTests := true, laidLooks := .later }
def OctetPutsCardSaid : Prop := Claim7.holds Tryd.pinned (.plain (OpenSpec.ofChange octetPutsSpec)) octetPutsCard

/-- THE TIED CARD OF 'slipwaylaw01.OctetGets'. -/
def octetGetsCard : Claim7 := { stood := { row := octetGetsRow, standIns := [], harness := (true, "56cb0fc03a3dfc1bfe4648d45d1533646674b9c7df771b5f79239cc7243cf7b8"), looks := true }, kinds := [], alts := [], laidByText := true, laidKinds := [.data, .data, .data, .data, .sentinel, .sentinel, .pinned], laidTests := true, laidLooks := .later }
def OctetGetsCardSaid : Prop := Claim7.holds Tryd.pinned (.plain (OpenSpec.ofChange octetGetsSpec)) octetGetsCard

/-- THE TIED CARD OF 'slipwaylaw01.OctetBack'. -/
def octetBackCard : Claim7 := { stood := { row := octetBackRow, standIns := [], harness := (true, "56cb0fc03a3dfc1bfe4648d45d1533646674b9c7df771b5f79239cc7243cf7b8"), looks := true }, kinds := [], alts := [], laidByText := true, laidKinds := [.data, .data, .data, .data, .sentinel, .sentinel, .pinned], laidTests := true, laidLooks := .later }
def OctetBackCardSaid : Prop := Claim7.holds Tryd.pinned (.plain (OpenSpec.ofChange octetBackSpec)) octetBackCard

/-- THE TIED CARD OF 'slipwaylaw01.OctetSums'. -/
def octetSumsCard : Claim7 := { stood := { row := octetSumsRow, standIns := [], harness := (true, "56cb0fc03a3dfc1bfe4648d45d1533646674b9c7df771b5f79239cc7243cf7b8"), looks := true }, kinds := [], alts := [], laidByText := true, laidKinds := [.data, .data, .data, .data, .sentinel, .sentinel, .pinned], laidTests := true, laidLooks := .later }
def OctetSumsCardSaid : Prop := Claim7.holds Tryd.pinned (.plain (OpenSpec.ofChange octetSumsSpec)) octetSumsCard

/-- THE TIED CARD OF 'slipwaylaw01.OctetJoined'. -/
def octetJoinedCard : Claim7 := { stood := { row := octetJoinedRow, standIns := [], harness := (true, "56cb0fc03a3dfc1bfe4648d45d1533646674b9c7df771b5f79239cc7243cf7b8"), looks := true }, kinds := [], alts := [], laidByText := true, laidKinds := [.data, .data, .data, .data, .sentinel, .sentinel, .pinned], laidTests := true, laidLooks := .later }
def OctetJoinedCardSaid : Prop := Claim7.holds Tryd.pinned (.plain (OpenSpec.ofChange octetJoinedSpec)) octetJoinedCard

/-- THE TIED CARD OF 'slipwaylaw01.OctetLaid'. -/
def octetLaidCard : Claim7 := { stood := { row := octetLaidRow, standIns := [], harness := (true, "56cb0fc03a3dfc1bfe4648d45d1533646674b9c7df771b5f79239cc7243cf7b8"), looks := true }, kinds := [], alts := [], laidByText := true, laidKinds := [.data, .data, .data, .data, .sentinel, .sentinel, .pinned], laidTests := true, laidLooks := .later }
def OctetLaidCardSaid : Prop := Claim7.holds Tryd.pinned (.plain (OpenSpec.ofChange octetLaidSpec)) octetLaidCard

/-- THE TIED CARD OF 'slipwaylaw01.OctetTexts'. -/
def octetTextsCard : Claim7 := { stood := { row := octetTextsRow, standIns := [], harness := (true, "56cb0fc03a3dfc1bfe4648d45d1533646674b9c7df771b5f79239cc7243cf7b8"), looks := true }, kinds := [], alts := [], laidByText := true, laidKinds := [.data, .data, .data, .data, .sentinel, .sentinel, .pinned], laidTests := true, laidLooks := .later }
def OctetTextsCardSaid : Prop := Claim7.holds Tryd.pinned (.plain (OpenSpec.ofChange octetTextsSpec)) octetTextsCard

/-- THE TIED CARD OF 'slipwaylaw01.OctetRead'. -/
def octetReadCard : Claim7 := { stood := { row := octetReadRow, standIns := [], harness := (true, "56cb0fc03a3dfc1bfe4648d45d1533646674b9c7df771b5f79239cc7243cf7b8"), looks := true }, kinds := [], alts := [], laidByText := true, laidKinds := [.data, .data, .data, .data, .sentinel, .sentinel, .pinned], laidTests := true, laidLooks := .later }
def OctetReadCardSaid : Prop := Claim7.holds Tryd.pinned (.plain (OpenSpec.ofChange octetReadSpec)) octetReadCard

/-- THE TIED CARD OF 'slipwaylaw01.OctetNumbers'. -/
def octetNumbersCard : Claim7 := { stood := { row := octetNumbersRow, standIns := [], harness := (true, "56cb0fc03a3dfc1bfe4648d45d1533646674b9c7df771b5f79239cc7243cf7b8"), looks := true }, kinds := [], alts := [], laidByText := true, laidKinds := [.data, .data, .data, .data, .sentinel, .sentinel, .pinned], laidTests := true, laidLooks := .later }
def OctetNumbersCardSaid : Prop := Claim7.holds Tryd.pinned (.plain (OpenSpec.ofChange octetNumbersSpec)) octetNumbersCard

/-- THE TIED CARD OF 'slipwaylaw01.OctetMasks'. -/
def octetMasksCard : Claim7 := { stood := { row := octetMasksRow, standIns := [], harness := (true, "56cb0fc03a3dfc1bfe4648d45d1533646674b9c7df771b5f79239cc7243cf7b8"), looks := true }, kinds := [], alts := [], laidByText := true, laidKinds := [.data, .data, .data, .data, .sentinel, .sentinel, .pinned], laidTests := true, laidLooks := .later }
def OctetMasksCardSaid : Prop := Claim7.holds Tryd.pinned (.plain (OpenSpec.ofChange octetMasksSpec)) octetMasksCard

/-- THE TIED CARD OF 'slipwaylaw01.OctetTurns'. -/
def octetTurnsCard : Claim7 := { stood := { row := octetTurnsRow, standIns := [], harness := (true, "56cb0fc03a3dfc1bfe4648d45d1533646674b9c7df771b5f79239cc7243cf7b8"), looks := true }, kinds := [], alts := [], laidByText := true, laidKinds := [.data, .data, .data, .data, .sentinel, .sentinel, .pinned], laidTests := true, laidLooks := .later }
def OctetTurnsCardSaid : Prop := Claim7.holds Tryd.pinned (.plain (OpenSpec.ofChange octetTurnsSpec)) octetTurnsCard

/-- THE TIED CARD OF 'slipwaylaw01.OctetTurned'. -/
def octetTurnedCard : Claim7 := { stood := { row := octetTurnedRow, standIns := [], harness := (true, "56cb0fc03a3dfc1bfe4648d45d1533646674b9c7df771b5f79239cc7243cf7b8"), looks := true }, kinds := [], alts := [], laidByText := true, laidKinds := [.data, .data, .data, .data, .sentinel, .sentinel, .pinned], laidTests := true, laidLooks := .later }
def OctetTurnedCardSaid : Prop := Claim7.holds Tryd.pinned (.plain (OpenSpec.ofChange octetTurnedSpec)) octetTurnedCard

/-- THE SECOND FORM's CARD OF 'slipwaylaw01.OctetPuts'. -/
def octetPutsUptoCard : Claim7 := { stood := { row := octetPutsUptoRow, standIns := [], harness := (true, "56cb0fc03a3dfc1bfe4648d45d1533646674b9c7df771b5f79239cc7243cf7b8"), looks := true }, kinds := [], alts := [], laidByText := true, laidKinds := [.data, .data, .data, .data, .sentinel, .sentinel, .pinned], laidTests := true, laidLooks := .later }
def OctetPutsUptoCardSaid : Prop := Claim7.holds Tryd.pinned (.plain (OpenSpec.upto octetPutsSpec)) octetPutsUptoCard

/-- THE SECOND FORM's CARD OF 'slipwaylaw01.OctetGets'. -/
def octetGetsUptoCard : Claim7 := { stood := { row := octetGetsUptoRow, standIns := [], harness := (true, "56cb0fc03a3dfc1bfe4648d45d1533646674b9c7df771b5f79239cc7243cf7b8"), looks := true }, kinds := [], alts := [], laidByText := true, laidKinds := [.data, .data, .data, .data, .sentinel, .sentinel, .pinned], laidTests := true, laidLooks := .later }
def OctetGetsUptoCardSaid : Prop := Claim7.holds Tryd.pinned (.plain (OpenSpec.upto octetGetsSpec)) octetGetsUptoCard

/-- THE SECOND FORM's CARD OF 'slipwaylaw01.OctetBack'. -/
def octetBackUptoCard : Claim7 := { stood := { row := octetBackUptoRow, standIns := [], harness := (true, "56cb0fc03a3dfc1bfe4648d45d1533646674b9c7df771b5f79239cc7243cf7b8"), looks := true }, kinds := [], alts := [], laidByText := true, laidKinds := [.data, .data, .data, .data, .sentinel, .sentinel, .pinned], laidTests := true, laidLooks := .later }
def OctetBackUptoCardSaid : Prop := Claim7.holds Tryd.pinned (.plain (OpenSpec.upto octetBackSpec)) octetBackUptoCard

/-- THE SECOND FORM's CARD OF 'slipwaylaw01.OctetSums'. -/
def octetSumsUptoCard : Claim7 := { stood := { row := octetSumsUptoRow, standIns := [], harness := (true, "56cb0fc03a3dfc1bfe4648d45d1533646674b9c7df771b5f79239cc7243cf7b8"), looks := true }, kinds := [], alts := [], laidByText := true, laidKinds := [.data, .data, .data, .data, .sentinel, .sentinel, .pinned], laidTests := true, laidLooks := .later }
def OctetSumsUptoCardSaid : Prop := Claim7.holds Tryd.pinned (.plain (OpenSpec.upto octetSumsSpec)) octetSumsUptoCard

/-- THE SECOND FORM's CARD OF 'slipwaylaw01.OctetJoined'. -/
def octetJoinedUptoCard : Claim7 := { stood := { row := octetJoinedUptoRow, standIns := [], harness := (true, "56cb0fc03a3dfc1bfe4648d45d1533646674b9c7df771b5f79239cc7243cf7b8"), looks := true }, kinds := [], alts := [], laidByText := true, laidKinds := [.data, .data, .data, .data, .sentinel, .sentinel, .pinned], laidTests := true, laidLooks := .later }
def OctetJoinedUptoCardSaid : Prop := Claim7.holds Tryd.pinned (.plain (OpenSpec.upto octetJoinedSpec)) octetJoinedUptoCard

/-- THE SECOND FORM's CARD OF 'slipwaylaw01.OctetLaid'. -/
def octetLaidUptoCard : Claim7 := { stood := { row := octetLaidUptoRow, standIns := [], harness := (true, "56cb0fc03a3dfc1bfe4648d45d1533646674b9c7df771b5f79239cc7243cf7b8"), looks := true }, kinds := [], alts := [], laidByText := true, laidKinds := [.data, .data, .data, .data, .sentinel, .sentinel, .pinned], laidTests := true, laidLooks := .later }
def OctetLaidUptoCardSaid : Prop := Claim7.holds Tryd.pinned (.plain (OpenSpec.upto octetLaidSpec)) octetLaidUptoCard

/-- THE SECOND FORM's CARD OF 'slipwaylaw01.OctetTexts'. -/
def octetTextsUptoCard : Claim7 := { stood := { row := octetTextsUptoRow, standIns := [], harness := (true, "56cb0fc03a3dfc1bfe4648d45d1533646674b9c7df771b5f79239cc7243cf7b8"), looks := true }, kinds := [], alts := [], laidByText := true, laidKinds := [.data, .data, .data, .data, .sentinel, .sentinel, .pinned], laidTests := true, laidLooks := .later }
def OctetTextsUptoCardSaid : Prop := Claim7.holds Tryd.pinned (.plain (OpenSpec.upto octetTextsSpec)) octetTextsUptoCard

/-- THE SECOND FORM's CARD OF 'slipwaylaw01.OctetRead'. -/
def octetReadUptoCard : Claim7 := { stood := { row := octetReadUptoRow, standIns := [], harness := (true, "56cb0fc03a3dfc1bfe4648d45d1533646674b9c7df771b5f79239cc7243cf7b8"), looks := true }, kinds := [], alts := [], laidByText := true, laidKinds := [.data, .data, .data, .data, .sentinel, .sentinel, .pinned], laidTests := true, laidLooks := .later }
def OctetReadUptoCardSaid : Prop := Claim7.holds Tryd.pinned (.plain (OpenSpec.upto octetReadSpec)) octetReadUptoCard

/-- THE SECOND FORM's CARD OF 'slipwaylaw01.OctetNumbers'. -/
def octetNumbersUptoCard : Claim7 := { stood := { row := octetNumbersUptoRow, standIns := [], harness := (true, "56cb0fc03a3dfc1bfe4648d45d1533646674b9c7df771b5f79239cc7243cf7b8"), looks := true }, kinds := [], alts := [], laidByText := true, laidKinds := [.data, .data, .data, .data, .sentinel, .sentinel, .pinned], laidTests := true, laidLooks := .later }
def OctetNumbersUptoCardSaid : Prop := Claim7.holds Tryd.pinned (.plain (OpenSpec.upto octetNumbersSpec)) octetNumbersUptoCard

/-- THE SECOND FORM's CARD OF 'slipwaylaw01.OctetMasks'. -/
def octetMasksUptoCard : Claim7 := { stood := { row := octetMasksUptoRow, standIns := [], harness := (true, "56cb0fc03a3dfc1bfe4648d45d1533646674b9c7df771b5f79239cc7243cf7b8"), looks := true }, kinds := [], alts := [], laidByText := true, laidKinds := [.data, .data, .data, .data, .sentinel, .sentinel, .pinned], laidTests := true, laidLooks := .later }
def OctetMasksUptoCardSaid : Prop := Claim7.holds Tryd.pinned (.plain (OpenSpec.upto octetMasksSpec)) octetMasksUptoCard

/-- THE SECOND FORM's CARD OF 'slipwaylaw01.OctetTurns'. -/
def octetTurnsUptoCard : Claim7 := { stood := { row := octetTurnsUptoRow, standIns := [], harness := (true, "56cb0fc03a3dfc1bfe4648d45d1533646674b9c7df771b5f79239cc7243cf7b8"), looks := true }, kinds := [], alts := [], laidByText := true, laidKinds := [.data, .data, .data, .data, .sentinel, .sentinel, .pinned], laidTests := true, laidLooks := .later }
def OctetTurnsUptoCardSaid : Prop := Claim7.holds Tryd.pinned (.plain (OpenSpec.upto octetTurnsSpec)) octetTurnsUptoCard

/-- THE SECOND FORM's CARD OF 'slipwaylaw01.OctetTurned'. -/
def octetTurnedUptoCard : Claim7 := { stood := { row := octetTurnedUptoRow, standIns := [], harness := (true, "56cb0fc03a3dfc1bfe4648d45d1533646674b9c7df771b5f79239cc7243cf7b8"), looks := true }, kinds := [], alts := [], laidByText := true, laidKinds := [.data, .data, .data, .data, .sentinel, .sentinel, .pinned], laidTests := true, laidLooks := .later }
def OctetTurnedUptoCardSaid : Prop := Claim7.holds Tryd.pinned (.plain (OpenSpec.upto octetTurnedSpec)) octetTurnedUptoCard
end Rows
end Go.Proofs.YtlioifgejijcoaaDoor
