/-
  DERIVED. GIVEN WITH THE SEED: THE CARDS: each row of YtnohnnjeabehjaaGreatDoorRows.lean that lists a variable, with what it lists TIED to the program's text (the seventh form; the later family's looks); each row that meets fmt, with fmt's text TOLD by the authors' own Lean function (tested against real Go, not proved from fmt's source: count such statements apart). THE CARD IS WHAT COUNTS. Prove the row's statement (the work); the ties are given (YtnohnnjeabehjaaGreatDoorTie.lean); close each card by the builder's one call (the guide's Derived/Test/ToyasCard.lean, 'card_holds'). Laid BY PROGRAM, IN A SANDBOX (cutbox-door.mjs). By AI agents, Wed Nov 11 2026. No macro, syntax, notation, axiom, sorry.
-/
import Derived.Test.YtnohnnjeabehjaaGreatDoorRows
import GoSem.ClaimSeven
namespace Go.Proofs.YtnohnnjeabehjaaGreatDoor
namespace Rows

/-- THE TIED CARD OF 'ginnellaw23.HandshakeMatchesModel'. -/
def handshakeMatchesModelCard : Claim7 := { stood := { row := handshakeMatchesModelRow, standIns := [], harness := (true, "113b2ee7fbd1fb09183af2935ead70ecec844d674e6770f73def0a68c489223d"), looks := true }, kinds := [], alts := [], laidByText := true, laidKinds := [.data, .data, .data, .data, .sentinel, .sentinel, .pinned], laidTests := true, laidLooks := .later }
def HandshakeMatchesModelCardSaid : Prop := Claim7.holds Tryz.pinned (.plain (OpenSpec.ofChange handshakeMatchesModelSpec)) handshakeMatchesModelCard

/-- THE TIED CARD OF 'ginnellaw23.HandshakeStages'. -/
def handshakeStagesCard : Claim7 := { stood := { row := handshakeStagesRow, standIns := [], harness := (true, "113b2ee7fbd1fb09183af2935ead70ecec844d674e6770f73def0a68c489223d"), looks := true }, kinds := [], alts := [], laidByText := true, laidKinds := [.data, .data, .data, .data, .sentinel, .sentinel, .pinned], laidTests := true, laidLooks := .later }
def HandshakeStagesCardSaid : Prop := Claim7.holds Tryz.pinned (.plain (OpenSpec.ofChange handshakeStagesSpec)) handshakeStagesCard

/-- THE TIED CARD OF 'ginnellaw23.HandshakeIndependentOfSplits'. -/
def handshakeIndependentOfSplitsCard : Claim7 := { stood := { row := handshakeIndependentOfSplitsRow, standIns := [], harness := (true, "113b2ee7fbd1fb09183af2935ead70ecec844d674e6770f73def0a68c489223d"), looks := true }, kinds := [], alts := [], laidByText := true, laidKinds := [.data, .data, .data, .data, .sentinel, .sentinel, .pinned], laidTests := true, laidLooks := .later }
def HandshakeIndependentOfSplitsCardSaid : Prop := Claim7.holds Tryz.pinned (.plain (OpenSpec.ofChange handshakeIndependentOfSplitsSpec)) handshakeIndependentOfSplitsCard

/-- THE TIED CARD OF 'ginnellaw23.HandshakeCompletes'. -/
def handshakeCompletesCard : Claim7 := { stood := { row := handshakeCompletesRow, standIns := [], harness := (true, "113b2ee7fbd1fb09183af2935ead70ecec844d674e6770f73def0a68c489223d"), looks := true }, kinds := [], alts := [], laidByText := true, laidKinds := [.data, .data, .data, .data, .sentinel, .sentinel, .pinned], laidTests := true, laidLooks := .later }
def HandshakeCompletesCardSaid : Prop := Claim7.holds Tryz.pinned (.plain (OpenSpec.ofChange handshakeCompletesSpec)) handshakeCompletesCard

/-- THE TIED CARD OF 'ginnellaw23.HandshakeRejectsOtherProtocols'. -/
def handshakeRejectsOtherProtocolsCard : Claim7 := { stood := { row := handshakeRejectsOtherProtocolsRow, standIns := [], harness := (true, "113b2ee7fbd1fb09183af2935ead70ecec844d674e6770f73def0a68c489223d"), looks := true }, kinds := [], alts := [], laidByText := true, laidKinds := [.data, .data, .data, .data, .sentinel, .sentinel, .pinned], laidTests := true, laidLooks := .later }
def HandshakeRejectsOtherProtocolsCardSaid : Prop := Claim7.holds Tryz.pinned (.plain (OpenSpec.ofChange handshakeRejectsOtherProtocolsSpec)) handshakeRejectsOtherProtocolsCard

/-- THE SECOND FORM's CARD OF 'ginnellaw23.HandshakeMatchesModel'. -/
def handshakeMatchesModelUptoCard : Claim7 := { stood := { row := handshakeMatchesModelUptoRow, standIns := [], harness := (true, "113b2ee7fbd1fb09183af2935ead70ecec844d674e6770f73def0a68c489223d"), looks := true }, kinds := [], alts := [], laidByText := true, laidKinds := [.data, .data, .data, .data, .sentinel, .sentinel, .pinned], laidTests := true, laidLooks := .later }
def HandshakeMatchesModelUptoCardSaid : Prop := Claim7.holds Tryz.pinned (.plain (OpenSpec.upto handshakeMatchesModelSpec)) handshakeMatchesModelUptoCard

/-- THE SECOND FORM's CARD OF 'ginnellaw23.HandshakeStages'. -/
def handshakeStagesUptoCard : Claim7 := { stood := { row := handshakeStagesUptoRow, standIns := [], harness := (true, "113b2ee7fbd1fb09183af2935ead70ecec844d674e6770f73def0a68c489223d"), looks := true }, kinds := [], alts := [], laidByText := true, laidKinds := [.data, .data, .data, .data, .sentinel, .sentinel, .pinned], laidTests := true, laidLooks := .later }
def HandshakeStagesUptoCardSaid : Prop := Claim7.holds Tryz.pinned (.plain (OpenSpec.upto handshakeStagesSpec)) handshakeStagesUptoCard

/-- THE SECOND FORM's CARD OF 'ginnellaw23.HandshakeIndependentOfSplits'. -/
def handshakeIndependentOfSplitsUptoCard : Claim7 := { stood := { row := handshakeIndependentOfSplitsUptoRow, standIns := [], harness := (true, "113b2ee7fbd1fb09183af2935ead70ecec844d674e6770f73def0a68c489223d"), looks := true }, kinds := [], alts := [], laidByText := true, laidKinds := [.data, .data, .data, .data, .sentinel, .sentinel, .pinned], laidTests := true, laidLooks := .later }
def HandshakeIndependentOfSplitsUptoCardSaid : Prop := Claim7.holds Tryz.pinned (.plain (OpenSpec.upto handshakeIndependentOfSplitsSpec)) handshakeIndependentOfSplitsUptoCard

/-- THE SECOND FORM's CARD OF 'ginnellaw23.HandshakeCompletes'. -/
def handshakeCompletesUptoCard : Claim7 := { stood := { row := handshakeCompletesUptoRow, standIns := [], harness := (true, "113b2ee7fbd1fb09183af2935ead70ecec844d674e6770f73def0a68c489223d"), looks := true }, kinds := [], alts := [], laidByText := true, laidKinds := [.data, .data, .data, .data, .sentinel, .sentinel, .pinned], laidTests := true, laidLooks := .later }
def HandshakeCompletesUptoCardSaid : Prop := Claim7.holds Tryz.pinned (.plain (OpenSpec.upto handshakeCompletesSpec)) handshakeCompletesUptoCard

/-- THE SECOND FORM's CARD OF 'ginnellaw23.HandshakeRejectsOtherProtocols'. -/
def handshakeRejectsOtherProtocolsUptoCard : Claim7 := { stood := { row := handshakeRejectsOtherProtocolsUptoRow, standIns := [], harness := (true, "113b2ee7fbd1fb09183af2935ead70ecec844d674e6770f73def0a68c489223d"), looks := true }, kinds := [], alts := [], laidByText := true, laidKinds := [.data, .data, .data, .data, .sentinel, .sentinel, .pinned], laidTests := true, laidLooks := .later }
def HandshakeRejectsOtherProtocolsUptoCardSaid : Prop := Claim7.holds Tryz.pinned (.plain (OpenSpec.upto handshakeRejectsOtherProtocolsSpec)) handshakeRejectsOtherProtocolsUptoCard
end Rows
end Go.Proofs.YtnohnnjeabehjaaGreatDoor
