/-
  DERIVED. GIVEN WITH THE SEED: THE CARDS: each row of YtmdlgfnibjcgmaaGreatDoorRows.lean that lists a variable, with what it lists TIED to the program's text (the seventh form; the later family's looks); each row that meets fmt, with fmt's text TOLD by the authors' own Lean function (tested against real Go, not proved from fmt's source: count such statements apart). THE CARD IS WHAT COUNTS. Prove the row's statement (the work); the ties are given (YtmdlgfnibjcgmaaGreatDoorTie.lean); close each card by the builder's one call (the guide's Derived/Test/ToyasCard.lean, 'card_holds'). Laid BY PROGRAM, IN A SANDBOX (cutbox-door.mjs). By AI agents, Wed Nov 11 2026. No macro, syntax, notation, axiom, sorry.
-/
import Derived.Test.YtmdlgfnibjcgmaaGreatDoorRows
import GoSem.ClaimSeven
namespace Go.Proofs.YtmdlgfnibjcgmaaGreatDoor
namespace Rows

/-- THE TIED CARD OF 'ginnellaw35.ScriptValidates'. -/
def scriptValidatesCard : Claim7 := { stood := { row := scriptValidatesRow, standIns := [], harness := (true, "74084f65e01a8a944a6054348424e5281f1241c9b9953709dfd660d9d861ba9a"), looks := true }, kinds := [], alts := [], laidByText := true, laidKinds := [.data, .data, .data, .data, .sentinel, .sentinel, .pinned], laidTests := true, laidLooks := .later }
def ScriptValidatesCardSaid : Prop := Claim7.holds Tryz.pinned (.plain (OpenSpec.ofChange scriptValidatesSpec)) scriptValidatesCard

/-- THE TIED CARD OF 'ginnellaw35.ScriptRoundTrip'. -/
def scriptRoundTripCard : Claim7 := { stood := { row := scriptRoundTripRow, standIns := [], harness := (true, "74084f65e01a8a944a6054348424e5281f1241c9b9953709dfd660d9d861ba9a"), looks := true }, kinds := [], alts := [], laidByText := true, laidKinds := [.data, .data, .data, .data, .sentinel, .sentinel, .pinned], laidTests := true, laidLooks := .later }
def ScriptRoundTripCardSaid : Prop := Claim7.holds Tryz.pinned (.plain (OpenSpec.ofChange scriptRoundTripSpec)) scriptRoundTripCard

/-- THE TIED CARD OF 'ginnellaw35.ScriptDecodesExactly'. -/
def scriptDecodesExactlyCard : Claim7 := { stood := { row := scriptDecodesExactlyRow, standIns := [], harness := (true, "74084f65e01a8a944a6054348424e5281f1241c9b9953709dfd660d9d861ba9a"), looks := true }, kinds := [], alts := [], laidByText := true, laidKinds := [.data, .data, .data, .data, .sentinel, .sentinel, .pinned], laidTests := true, laidLooks := .later }
def ScriptDecodesExactlyCardSaid : Prop := Claim7.holds Tryz.pinned (.plain (OpenSpec.ofChange scriptDecodesExactlySpec)) scriptDecodesExactlyCard

/-- THE TIED CARD OF 'ginnellaw35.ScriptNumbersCanonical'. -/
def scriptNumbersCanonicalCard : Claim7 := { stood := { row := scriptNumbersCanonicalRow, standIns := [], harness := (true, "74084f65e01a8a944a6054348424e5281f1241c9b9953709dfd660d9d861ba9a"), looks := true }, kinds := [], alts := [], laidByText := true, laidKinds := [.data, .data, .data, .data, .sentinel, .sentinel, .pinned], laidTests := true, laidLooks := .later }
def ScriptNumbersCanonicalCardSaid : Prop := Claim7.holds Tryz.pinned (.plain (OpenSpec.ofChange scriptNumbersCanonicalSpec)) scriptNumbersCanonicalCard

/-- THE SECOND FORM's CARD OF 'ginnellaw35.ScriptValidates'. -/
def scriptValidatesUptoCard : Claim7 := { stood := { row := scriptValidatesUptoRow, standIns := [], harness := (true, "74084f65e01a8a944a6054348424e5281f1241c9b9953709dfd660d9d861ba9a"), looks := true }, kinds := [], alts := [], laidByText := true, laidKinds := [.data, .data, .data, .data, .sentinel, .sentinel, .pinned], laidTests := true, laidLooks := .later }
def ScriptValidatesUptoCardSaid : Prop := Claim7.holds Tryz.pinned (.plain (OpenSpec.upto scriptValidatesSpec)) scriptValidatesUptoCard

/-- THE SECOND FORM's CARD OF 'ginnellaw35.ScriptRoundTrip'. -/
def scriptRoundTripUptoCard : Claim7 := { stood := { row := scriptRoundTripUptoRow, standIns := [], harness := (true, "74084f65e01a8a944a6054348424e5281f1241c9b9953709dfd660d9d861ba9a"), looks := true }, kinds := [], alts := [], laidByText := true, laidKinds := [.data, .data, .data, .data, .sentinel, .sentinel, .pinned], laidTests := true, laidLooks := .later }
def ScriptRoundTripUptoCardSaid : Prop := Claim7.holds Tryz.pinned (.plain (OpenSpec.upto scriptRoundTripSpec)) scriptRoundTripUptoCard

/-- THE SECOND FORM's CARD OF 'ginnellaw35.ScriptDecodesExactly'. -/
def scriptDecodesExactlyUptoCard : Claim7 := { stood := { row := scriptDecodesExactlyUptoRow, standIns := [], harness := (true, "74084f65e01a8a944a6054348424e5281f1241c9b9953709dfd660d9d861ba9a"), looks := true }, kinds := [], alts := [], laidByText := true, laidKinds := [.data, .data, .data, .data, .sentinel, .sentinel, .pinned], laidTests := true, laidLooks := .later }
def ScriptDecodesExactlyUptoCardSaid : Prop := Claim7.holds Tryz.pinned (.plain (OpenSpec.upto scriptDecodesExactlySpec)) scriptDecodesExactlyUptoCard

/-- THE SECOND FORM's CARD OF 'ginnellaw35.ScriptNumbersCanonical'. -/
def scriptNumbersCanonicalUptoCard : Claim7 := { stood := { row := scriptNumbersCanonicalUptoRow, standIns := [], harness := (true, "74084f65e01a8a944a6054348424e5281f1241c9b9953709dfd660d9d861ba9a"), looks := true }, kinds := [], alts := [], laidByText := true, laidKinds := [.data, .data, .data, .data, .sentinel, .sentinel, .pinned], laidTests := true, laidLooks := .later }
def ScriptNumbersCanonicalUptoCardSaid : Prop := Claim7.holds Tryz.pinned (.plain (OpenSpec.upto scriptNumbersCanonicalSpec)) scriptNumbersCanonicalUptoCard
end Rows
end Go.Proofs.YtmdlgfnibjcgmaaGreatDoor
