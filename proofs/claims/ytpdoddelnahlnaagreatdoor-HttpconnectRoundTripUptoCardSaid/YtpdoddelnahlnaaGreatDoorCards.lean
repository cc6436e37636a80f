/-
  DERIVED. GIVEN WITH THE SEED: THE CARDS: each row of YtpdoddelnahlnaaGreatDoorRows.lean that lists a variable, with what it lists TIED to the program's text (the seventh form; the later family's looks); each row that meets fmt, with fmt's text TOLD by the authors' own Lean function (tested against real Go, not proved from fmt's source: count such statements apart). THE CARD IS WHAT COUNTS. Prove the row's statement (the work); the ties are given (YtpdoddelnahlnaaGreatDoorTie.lean); close each card by the builder's one call (the guide's Derived/Test/ToyasCard.lean, 'card_holds'). Laid BY PROGRAM, IN A SANDBOX (cutbox-door.mjs). By AI agents, Wed Nov 11 2026. No macro, syntax, notation, axiom, sorry.
-/
import Derived.Test.YtpdoddelnahlnaaGreatDoorRows
import GoSem.ClaimSeven
namespace Go.Proofs.YtpdoddelnahlnaaGreatDoor
namespace Rows

/-- THE TIED CARD OF 'ginnellaw08.HostParsesExactly'. -/
def hostParsesExactlyCard : Claim7 := { stood := { row := hostParsesExactlyRow, standIns := [], harness := (true, "93bad39d4115cef6ecce964cb316565d4e4167c7d7f53a9cdd02aa7c0dfbcf43"), looks := true }, kinds := [], alts := [], laidByText := true, laidKinds := [.data, .data, .data, .data, .sentinel, .sentinel, .pinned], laidTests := true, laidLooks := .later }
def HostParsesExactlyCardSaid : Prop := Claim7.holds Tryz.pinned (.plain (OpenSpec.ofChange hostParsesExactlySpec)) hostParsesExactlyCard

/-- THE TIED CARD OF 'ginnellaw08.HostLengthLimits'. -/
def hostLengthLimitsCard : Claim7 := { stood := { row := hostLengthLimitsRow, standIns := [], harness := (true, "93bad39d4115cef6ecce964cb316565d4e4167c7d7f53a9cdd02aa7c0dfbcf43"), looks := true }, kinds := [], alts := [], laidByText := true, laidKinds := [.data, .data, .data, .data, .sentinel, .sentinel, .pinned], laidTests := true, laidLooks := .later }
def HostLengthLimitsCardSaid : Prop := Claim7.holds Tryz.pinned (.plain (OpenSpec.ofChange hostLengthLimitsSpec)) hostLengthLimitsCard

/-- THE TIED CARD OF 'ginnellaw08.HostRoundTrip'. -/
def hostRoundTripCard : Claim7 := { stood := { row := hostRoundTripRow, standIns := [], harness := (true, "93bad39d4115cef6ecce964cb316565d4e4167c7d7f53a9cdd02aa7c0dfbcf43"), looks := true }, kinds := [], alts := [], laidByText := true, laidKinds := [.data, .data, .data, .data, .sentinel, .sentinel, .pinned], laidTests := true, laidLooks := .later }
def HostRoundTripCardSaid : Prop := Claim7.holds Tryz.pinned (.plain (OpenSpec.ofChange hostRoundTripSpec)) hostRoundTripCard

/-- THE TIED CARD OF 'ginnellaw20.HttpconnectParses'. -/
def httpconnectParsesCard : Claim7 := { stood := { row := httpconnectParsesRow, standIns := [], harness := (true, "93bad39d4115cef6ecce964cb316565d4e4167c7d7f53a9cdd02aa7c0dfbcf43"), looks := true }, kinds := [], alts := [], laidByText := true, laidKinds := [.data, .data, .data, .data, .sentinel, .sentinel, .pinned], laidTests := true, laidLooks := .later }
def HttpconnectParsesCardSaid : Prop := Claim7.holds Tryz.pinned (.plain (OpenSpec.ofChange httpconnectParsesSpec)) httpconnectParsesCard

/-- THE TIED CARD OF 'ginnellaw20.HttpconnectMutatedHeads'. -/
def httpconnectMutatedHeadsCard : Claim7 := { stood := { row := httpconnectMutatedHeadsRow, standIns := [], harness := (true, "93bad39d4115cef6ecce964cb316565d4e4167c7d7f53a9cdd02aa7c0dfbcf43"), looks := true }, kinds := [], alts := [], laidByText := true, laidKinds := [.data, .data, .data, .data, .sentinel, .sentinel, .pinned], laidTests := true, laidLooks := .later }
def HttpconnectMutatedHeadsCardSaid : Prop := Claim7.holds Tryz.pinned (.plain (OpenSpec.ofChange httpconnectMutatedHeadsSpec)) httpconnectMutatedHeadsCard

/-- THE TIED CARD OF 'ginnellaw20.HttpconnectIsIncremental'. -/
def httpconnectIsIncrementalCard : Claim7 := { stood := { row := httpconnectIsIncrementalRow, standIns := [], harness := (true, "93bad39d4115cef6ecce964cb316565d4e4167c7d7f53a9cdd02aa7c0dfbcf43"), looks := true }, kinds := [], alts := [], laidByText := true, laidKinds := [.data, .data, .data, .data, .sentinel, .sentinel, .pinned], laidTests := true, laidLooks := .later }
def HttpconnectIsIncrementalCardSaid : Prop := Claim7.holds Tryz.pinned (.plain (OpenSpec.ofChange httpconnectIsIncrementalSpec)) httpconnectIsIncrementalCard

/-- THE TIED CARD OF 'ginnellaw20.HttpconnectLengthLimit'. -/
def httpconnectLengthLimitCard : Claim7 := { stood := { row := httpconnectLengthLimitRow, standIns := [], harness := (true, "93bad39d4115cef6ecce964cb316565d4e4167c7d7f53a9cdd02aa7c0dfbcf43"), looks := true }, kinds := [], alts := [], laidByText := true, laidKinds := [.data, .data, .data, .data, .sentinel, .sentinel, .pinned], laidTests := true, laidLooks := .later }
def HttpconnectLengthLimitCardSaid : Prop := Claim7.holds Tryz.pinned (.plain (OpenSpec.ofChange httpconnectLengthLimitSpec)) httpconnectLengthLimitCard

/-- THE TIED CARD OF 'ginnellaw20.HttpconnectRoundTrip'. -/
def httpconnectRoundTripCard : Claim7 := { stood := { row := httpconnectRoundTripRow, standIns := [], harness := (true, "93bad39d4115cef6ecce964cb316565d4e4167c7d7f53a9cdd02aa7c0dfbcf43"), looks := true }, kinds := [], alts := [], laidByText := true, laidKinds := [.data, .data, .data, .data, .sentinel, .sentinel, .pinned], laidTests := true, laidLooks := .later }
def HttpconnectRoundTripCardSaid : Prop := Claim7.holds Tryz.pinned (.plain (OpenSpec.ofChange httpconnectRoundTripSpec)) httpconnectRoundTripCard

/-- THE SECOND FORM's CARD OF 'ginnellaw08.HostParsesExactly'. -/
def hostParsesExactlyUptoCard : Claim7 := { stood := { row := hostParsesExactlyUptoRow, standIns := [], harness := (true, "93bad39d4115cef6ecce964cb316565d4e4167c7d7f53a9cdd02aa7c0dfbcf43"), looks := true }, kinds := [], alts := [], laidByText := true, laidKinds := [.data, .data, .data, .data, .sentinel, .sentinel, .pinned], laidTests := true, laidLooks := .later }
def HostParsesExactlyUptoCardSaid : Prop := Claim7.holds Tryz.pinned (.plain (OpenSpec.upto hostParsesExactlySpec)) hostParsesExactlyUptoCard

/-- THE SECOND FORM's CARD OF 'ginnellaw08.HostLengthLimits'. -/
def hostLengthLimitsUptoCard : Claim7 := { stood := { row := hostLengthLimitsUptoRow, standIns := [], harness := (true, "93bad39d4115cef6ecce964cb316565d4e4167c7d7f53a9cdd02aa7c0dfbcf43"), looks := true }, kinds := [], alts := [], laidByText := true, laidKinds := [.data, .data, .data, .data, .sentinel, .sentinel, .pinned], laidTests := true, laidLooks := .later }
def HostLengthLimitsUptoCardSaid : Prop := Claim7.holds Tryz.pinned (.plain (OpenSpec.upto hostLengthLimitsSpec)) hostLengthLimitsUptoCard

/-- THE SECOND FORM's CARD OF 'ginnellaw08.HostRoundTrip'. -/
def hostRoundTripUptoCard : Claim7 := { stood := { row := hostRoundTripUptoRow, standIns := [], harness := (true, "93bad39d4115cef6ecce964cb316565d4e4167c7d7f53a9cdd02aa7c0dfbcf43"), looks := true }, kinds := [], alts := [], laidByText := true, laidKinds := [.data, .data, .data, .data, .sentinel, .sentinel, .pinned], laidTests := true, laidLooks := .later }
def HostRoundTripUptoCardSaid : Prop := Claim7.holds Tryz.pinned (.plain (OpenSpec.upto hostRoundTripSpec)) hostRoundTripUptoCard

/-- THE SECOND FORM's CARD OF 'ginnellaw20.HttpconnectParses'. -/
def httpconnectParsesUptoCard : Claim7 := { stood := { row := httpconnectParsesUptoRow, standIns := [], harness := (true, "93bad39d4115cef6ecce964cb316565d4e4167c7d7f53a9cdd02aa7c0dfbcf43"), looks := true }, kinds := [], alts := [], laidByText := true, laidKinds := [.data, .data, .data, .data, .sentinel, .sentinel, .pinned], laidTests := true, laidLooks := .later }
def HttpconnectParsesUptoCardSaid : Prop := Claim7.holds Tryz.pinned (.plain (OpenSpec.upto httpconnectParsesSpec)) httpconnectParsesUptoCard

/-- THE SECOND FORM's CARD OF 'ginnellaw20.HttpconnectMutatedHeads'. -/
def httpconnectMutatedHeadsUptoCard : Claim7 := { stood := { row := httpconnectMutatedHeadsUptoRow, standIns := [], harness := (true, "93bad39d4115cef6ecce964cb316565d4e4167c7d7f53a9cdd02aa7c0dfbcf43"), looks := true }, kinds := [], alts := [], laidByText := true, laidKinds := [.data, .data, .data, .data, .sentinel, .sentinel, .pinned], laidTests := true, laidLooks := .later }
def HttpconnectMutatedHeadsUptoCardSaid : Prop := Claim7.holds Tryz.pinned (.plain (OpenSpec.upto httpconnectMutatedHeadsSpec)) httpconnectMutatedHeadsUptoCard

/-- THE SECOND FORM's CARD OF 'ginnellaw20.HttpconnectIsIncremental'. -/
def httpconnectIsIncrementalUptoCard : Claim7 := { stood := { row := httpconnectIsIncrementalUptoRow, standIns := [], harness := (true, "93bad39d4115cef6ecce964cb316565d4e4167c7d7f53a9cdd02aa7c0dfbcf43"), looks := true }, kinds := [], alts := [], laidByText := true, laidKinds := [.data, .data, .data, .data, .sentinel, .sentinel, .pinned], laidTests := true, laidLooks := .later }
def HttpconnectIsIncrementalUptoCardSaid : Prop := Claim7.holds Tryz.pinned (.plain (OpenSpec.upto httpconnectIsIncrementalSpec)) httpconnectIsIncrementalUptoCard

/-- THE SECOND FORM's CARD OF 'ginnellaw20.HttpconnectLengthLimit'. -/
def httpconnectLengthLimitUptoCard : Claim7 := { stood := { row := httpconnectLengthLimitUptoRow, standIns := [], harness := (true, "93bad39d4115cef6ecce964cb316565d4e4167c7d7f53a9cdd02aa7c0dfbcf43"), looks := true }, kinds := [], alts := [], laidByText := true, laidKinds := [.data, .data, .data, .data, .sentinel, .sentinel, .pinned], laidTests := true, laidLooks := .later }
def HttpconnectLengthLimitUptoCardSaid : Prop := Claim7.holds Tryz.pinned (.plain (OpenSpec.upto httpconnectLengthLimitSpec)) httpconnectLengthLimitUptoCard

/-- THE SECOND FORM's CARD OF 'ginnellaw20.HttpconnectRoundTrip'. -/
def httpconnectRoundTripUptoCard : Claim7 := { stood := { row := httpconnectRoundTripUptoRow, standIns := [], harness := (true, "93bad39d4115cef6ecce964cb316565d4e4167c7d7f53a9cdd02aa7c0dfbcf43"), looks := true }, kinds := [], alts := [], laidByText := true, laidKinds := [.data, .data, .data, .data, .sentinel, .sentinel, .pinned], laidTests := true, laidLooks := .later }
def HttpconnectRoundTripUptoCardSaid : Prop := Claim7.holds Tryz.pinned (.plain (OpenSpec.upto httpconnectRoundTripSpec)) httpconnectRoundTripUptoCard
end Rows
end Go.Proofs.YtpdoddelnahlnaaGreatDoor
