/-
  DERIVED. GIVEN WITH THE SEED: THE CARDS: each row of YtbbdcodhgbgekaaDoorRows.lean that lists a variable, with what it lists TIED to the program's text (the seventh form; the later family's looks); each row that meets fmt, with fmt's text TOLD by the authors' own Lean function (tested against real Go, not proved from fmt's source: count such statements apart). THE CARD IS WHAT COUNTS. Prove the row's statement (the work); the ties are given (YtbbdcodhgbgekaaDoorTie.lean); close each card by the builder's one call (the guide's Derived/Test/ToyasCard.lean, 'card_holds'). Laid BY PROGRAM, IN A SANDBOX (cutbox-door.mjs). By AI agents, Wed Nov 11 2026. No macro, syntax, notation, axiom, sorry.
-/
import Derived.Test.YtbbdcodhgbgekaaDoorRows
import GoSem.ClaimSeven
namespace Go.Proofs.YtbbdcodhgbgekaaDoor
namespace Rows

/-- THE TIED CARD OF 'ginnellaw07.IpFormats'. -/
def ipFormatsCard : Claim7 := { stood := { row := ipFormatsRow, standIns := [], harness := (true, "7b59795a91d27335cb6fe08eb2e1398b32322c7d5a48d3c954c46e791ee86382"), looks := true }, kinds := [], alts := [], laidByText := true, laidKinds := [.data, .data, .data, .data, .sentinel, .sentinel, .pinned], laidTests := true, laidLooks := .later }
def IpFormatsCardSaid : Prop := Claim7.holds Tryd.pinned (.plain (OpenSpec.ofChange ipFormatsSpec)) ipFormatsCard

/-- THE TIED CARD OF 'ginnellaw07.IpRoundTrip'. -/
def ipRoundTripCard : Claim7 := { stood := { row := ipRoundTripRow, standIns := [], harness := (true, "7b59795a91d27335cb6fe08eb2e1398b32322c7d5a48d3c954c46e791ee86382"), looks := true }, kinds := [], alts := [], laidByText := true, laidKinds := [.data, .data, .data, .data, .sentinel, .sentinel, .pinned], laidTests := true, laidLooks := .later }
def IpRoundTripCardSaid : Prop := Claim7.holds Tryd.pinned (.plain (OpenSpec.ofChange ipRoundTripSpec)) ipRoundTripCard

/-- THE TIED CARD OF 'ginnellaw07.IpParsesExactly'. -/
def ipParsesExactlyCard : Claim7 := { stood := { row := ipParsesExactlyRow, standIns := [], harness := (true, "7b59795a91d27335cb6fe08eb2e1398b32322c7d5a48d3c954c46e791ee86382"), looks := true }, kinds := [], alts := [], laidByText := true, laidKinds := [.data, .data, .data, .data, .sentinel, .sentinel, .pinned], laidTests := true, laidLooks := .later }
def IpParsesExactlyCardSaid : Prop := Claim7.holds Tryd.pinned (.plain (OpenSpec.ofChange ipParsesExactlySpec)) ipParsesExactlyCard

/-- THE TIED CARD OF 'ginnellaw07.IpParsesGroups'. -/
def ipParsesGroupsCard : Claim7 := { stood := { row := ipParsesGroupsRow, standIns := [], harness := (true, "7b59795a91d27335cb6fe08eb2e1398b32322c7d5a48d3c954c46e791ee86382"), looks := true }, kinds := [], alts := [], laidByText := true, laidKinds := [.data, .data, .data, .data, .sentinel, .sentinel, .pinned], laidTests := true, laidLooks := .later }
def IpParsesGroupsCardSaid : Prop := Claim7.holds Tryd.pinned (.plain (OpenSpec.ofChange ipParsesGroupsSpec)) ipParsesGroupsCard

/-- THE TIED CARD OF 'ginnellaw07.IpCompareIsOrder'. -/
def ipCompareIsOrderCard : Claim7 := { stood := { row := ipCompareIsOrderRow, standIns := [], harness := (true, "7b59795a91d27335cb6fe08eb2e1398b32322c7d5a48d3c954c46e791ee86382"), looks := true }, kinds := [], alts := [], laidByText := true, laidKinds := [.data, .data, .data, .data, .sentinel, .sentinel, .pinned], laidTests := true, laidLooks := .later }
def IpCompareIsOrderCardSaid : Prop := Claim7.holds Tryd.pinned (.plain (OpenSpec.ofChange ipCompareIsOrderSpec)) ipCompareIsOrderCard

/-- THE TIED CARD OF 'ginnellaw07.IpConstructors'. -/
def ipConstructorsCard : Claim7 := { stood := { row := ipConstructorsRow, standIns := [], harness := (true, "7b59795a91d27335cb6fe08eb2e1398b32322c7d5a48d3c954c46e791ee86382"), looks := true }, kinds := [], alts := [], laidByText := true, laidKinds := [.data, .data, .data, .data, .sentinel, .sentinel, .pinned], laidTests := true, laidLooks := .later }
def IpConstructorsCardSaid : Prop := Claim7.holds Tryd.pinned (.plain (OpenSpec.ofChange ipConstructorsSpec)) ipConstructorsCard

/-- THE SECOND FORM's CARD OF 'ginnellaw07.IpFormats'. -/
def ipFormatsUptoCard : Claim7 := { stood := { row := ipFormatsUptoRow, standIns := [], harness := (true, "7b59795a91d27335cb6fe08eb2e1398b32322c7d5a48d3c954c46e791ee86382"), looks := true }, kinds := [], alts := [], laidByText := true, laidKinds := [.data, .data, .data, .data, .sentinel, .sentinel, .pinned], laidTests := true, laidLooks := .later }
def IpFormatsUptoCardSaid : Prop := Claim7.holds Tryd.pinned (.plain (OpenSpec.upto ipFormatsSpec)) ipFormatsUptoCard

/-- THE SECOND FORM's CARD OF 'ginnellaw07.IpRoundTrip'. -/
def ipRoundTripUptoCard : Claim7 := { stood := { row := ipRoundTripUptoRow, standIns := [], harness := (true, "7b59795a91d27335cb6fe08eb2e1398b32322c7d5a48d3c954c46e791ee86382"), looks := true }, kinds := [], alts := [], laidByText := true, laidKinds := [.data, .data, .data, .data, .sentinel, .sentinel, .pinned], laidTests := true, laidLooks := .later }
def IpRoundTripUptoCardSaid : Prop := Claim7.holds Tryd.pinned (.plain (OpenSpec.upto ipRoundTripSpec)) ipRoundTripUptoCard

/-- THE SECOND FORM's CARD OF 'ginnellaw07.IpParsesExactly'. -/
def ipParsesExactlyUptoCard : Claim7 := { stood := { row := ipParsesExactlyUptoRow, standIns := [], harness := (true, "7b59795a91d27335cb6fe08eb2e1398b32322c7d5a48d3c954c46e791ee86382"), looks := true }, kinds := [], alts := [], laidByText := true, laidKinds := [.data, .data, .data, .data, .sentinel, .sentinel, .pinned], laidTests := true, laidLooks := .later }
def IpParsesExactlyUptoCardSaid : Prop := Claim7.holds Tryd.pinned (.plain (OpenSpec.upto ipParsesExactlySpec)) ipParsesExactlyUptoCard

/-- THE SECOND FORM's CARD OF 'ginnellaw07.IpParsesGroups'. -/
def ipParsesGroupsUptoCard : Claim7 := { stood := { row := ipParsesGroupsUptoRow, standIns := [], harness := (true, "7b59795a91d27335cb6fe08eb2e1398b32322c7d5a48d3c954c46e791ee86382"), looks := true }, kinds := [], alts := [], laidByText := true, laidKinds := [.data, .data, .data, .data, .sentinel, .sentinel, .pinned], laidTests := true, laidLooks := .later }
def IpParsesGroupsUptoCardSaid : Prop := Claim7.holds Tryd.pinned (.plain (OpenSpec.upto ipParsesGroupsSpec)) ipParsesGroupsUptoCard

/-- THE SECOND FORM's CARD OF 'ginnellaw07.IpCompareIsOrder'. -/
def ipCompareIsOrderUptoCard : Claim7 := { stood := { row := ipCompareIsOrderUptoRow, standIns := [], harness := (true, "7b59795a91d27335cb6fe08eb2e1398b32322c7d5a48d3c954c46e791ee86382"), looks := true }, kinds := [], alts := [], laidByText := true, laidKinds := [.data, .data, .data, .data, .sentinel, .sentinel, .pinned], laidTests := true, laidLooks := .later }
def IpCompareIsOrderUptoCardSaid : Prop := Claim7.holds Tryd.pinned (.plain (OpenSpec.upto ipCompareIsOrderSpec)) ipCompareIsOrderUptoCard

/-- THE SECOND FORM's CARD OF 'ginnellaw07.IpConstructors'. -/
def ipConstructorsUptoCard : Claim7 := { stood := { row := ipConstructorsUptoRow, standIns := [], harness := (true, "7b59795a91d27335cb6fe08eb2e1398b32322c7d5a48d3c954c46e791ee86382"), looks := true }, kinds := [], alts := [], laidByText := true, laidKinds := [.data, .data, .data, .data, .sentinel, .sentinel, .pinned], laidTests := true, laidLooks := .later }
def IpConstructorsUptoCardSaid : Prop := Claim7.holds Tryd.pinned (.plain (OpenSpec.upto ipConstructorsSpec)) ipConstructorsUptoCard
end Rows
end Go.Proofs.YtbbdcodhgbgekaaDoor
