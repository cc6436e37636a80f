/-
  DERIVED. GIVEN WITH THE SEED: THE CARDS: each row of YtbbdcodhgbgekaaGreatDoorRows.lean that lists a variable, with what it lists TIED to the program's text (the seventh form; the later family's looks); each row that meets fmt, with fmt's text TOLD by the authors' own Lean function (tested against real Go, not proved from fmt's source: count such statements apart). THE CARD IS WHAT COUNTS. Prove the row's statement (the work); the ties are given (YtbbdcodhgbgekaaGreatDoorTie.lean); close each card by the builder's one call (the guide's Derived/Test/ToyasCard.lean, 'card_holds'). Laid BY PROGRAM, IN A SANDBOX (cutbox-door.mjs). By AI agents, Wed Nov 11 2026. No macro, syntax, notation, axiom, sorry.
-/
import Derived.Test.YtbbdcodhgbgekaaGreatDoorRows
import GoSem.ClaimSeven
namespace Go.Proofs.YtbbdcodhgbgekaaGreatDoor
namespace Rows

/-- THE TIED CARD OF 'ginnellaw09.CidrMatchesModel'. -/
def cidrMatchesModelCard : Claim7 := { stood := { row := cidrMatchesModelRow, standIns := [], harness := (true, "97dd26fd8683987e29e2573b7a269a1da1748facc7924bca011ccd849b202054"), looks := true }, kinds := [], alts := [], laidByText := true, laidKinds := [.data, .data, .data, .data, .sentinel, .sentinel, .pinned], laidTests := true, laidLooks := .later }
def CidrMatchesModelCardSaid : Prop := Claim7.holds Tryz.pinned (.plain (OpenSpec.ofChange cidrMatchesModelSpec)) cidrMatchesModelCard

/-- THE TIED CARD OF 'ginnellaw09.CidrPrefixIsUnique'. -/
def cidrPrefixIsUniqueCard : Claim7 := { stood := { row := cidrPrefixIsUniqueRow, standIns := [], harness := (true, "97dd26fd8683987e29e2573b7a269a1da1748facc7924bca011ccd849b202054"), looks := true }, kinds := [], alts := [], laidByText := true, laidKinds := [.data, .data, .data, .data, .sentinel, .sentinel, .pinned], laidTests := true, laidLooks := .later }
def CidrPrefixIsUniqueCardSaid : Prop := Claim7.holds Tryz.pinned (.plain (OpenSpec.ofChange cidrPrefixIsUniqueSpec)) cidrPrefixIsUniqueCard

/-- THE TIED CARD OF 'ginnellaw09.CidrNesting'. -/
def cidrNestingCard : Claim7 := { stood := { row := cidrNestingRow, standIns := [], harness := (true, "97dd26fd8683987e29e2573b7a269a1da1748facc7924bca011ccd849b202054"), looks := true }, kinds := [], alts := [], laidByText := true, laidKinds := [.data, .data, .data, .data, .sentinel, .sentinel, .pinned], laidTests := true, laidLooks := .later }
def CidrNestingCardSaid : Prop := Claim7.holds Tryz.pinned (.plain (OpenSpec.ofChange cidrNestingSpec)) cidrNestingCard

/-- THE TIED CARD OF 'ginnellaw09.CidrTextForms'. -/
def cidrTextFormsCard : Claim7 := { stood := { row := cidrTextFormsRow, standIns := [], harness := (true, "97dd26fd8683987e29e2573b7a269a1da1748facc7924bca011ccd849b202054"), looks := true }, kinds := [], alts := [], laidByText := true, laidKinds := [.data, .data, .data, .data, .sentinel, .sentinel, .pinned], laidTests := true, laidLooks := .later }
def CidrTextFormsCardSaid : Prop := Claim7.holds Tryz.pinned (.plain (OpenSpec.ofChange cidrTextFormsSpec)) cidrTextFormsCard

/-- THE SECOND FORM's CARD OF 'ginnellaw09.CidrMatchesModel'. -/
def cidrMatchesModelUptoCard : Claim7 := { stood := { row := cidrMatchesModelUptoRow, standIns := [], harness := (true, "97dd26fd8683987e29e2573b7a269a1da1748facc7924bca011ccd849b202054"), looks := true }, kinds := [], alts := [], laidByText := true, laidKinds := [.data, .data, .data, .data, .sentinel, .sentinel, .pinned], laidTests := true, laidLooks := .later }
def CidrMatchesModelUptoCardSaid : Prop := Claim7.holds Tryz.pinned (.plain (OpenSpec.upto cidrMatchesModelSpec)) cidrMatchesModelUptoCard

/-- THE SECOND FORM's CARD OF 'ginnellaw09.CidrPrefixIsUnique'. -/
def cidrPrefixIsUniqueUptoCard : Claim7 := { stood := { row := cidrPrefixIsUniqueUptoRow, standIns := [], harness := (true, "97dd26fd8683987e29e2573b7a269a1da1748facc7924bca011ccd849b202054"), looks := true }, kinds := [], alts := [], laidByText := true, laidKinds := [.data, .data, .data, .data, .sentinel, .sentinel, .pinned], laidTests := true, laidLooks := .later }
def CidrPrefixIsUniqueUptoCardSaid : Prop := Claim7.holds Tryz.pinned (.plain (OpenSpec.upto cidrPrefixIsUniqueSpec)) cidrPrefixIsUniqueUptoCard

/-- THE SECOND FORM's CARD OF 'ginnellaw09.CidrNesting'. -/
def cidrNestingUptoCard : Claim7 := { stood := { row := cidrNestingUptoRow, standIns := [], harness := (true, "97dd26fd8683987e29e2573b7a269a1da1748facc7924bca011ccd849b202054"), looks := true }, kinds := [], alts := [], laidByText := true, laidKinds := [.data, .data, .data, .data, .sentinel, .sentinel, .pinned], laidTests := true, laidLooks := .later }
def CidrNestingUptoCardSaid : Prop := Claim7.holds Tryz.pinned (.plain (OpenSpec.upto cidrNestingSpec)) cidrNestingUptoCard

/-- THE SECOND FORM's CARD OF 'ginnellaw09.CidrTextForms'. -/
def cidrTextFormsUptoCard : Claim7 := { stood := { row := cidrTextFormsUptoRow, standIns := [], harness := (true, "97dd26fd8683987e29e2573b7a269a1da1748facc7924bca011ccd849b202054"), looks := true }, kinds := [], alts := [], laidByText := true, laidKinds := [.data, .data, .data, .data, .sentinel, .sentinel, .pinned], laidTests := true, laidLooks := .later }
def CidrTextFormsUptoCardSaid : Prop := Claim7.holds Tryz.pinned (.plain (OpenSpec.upto cidrTextFormsSpec)) cidrTextFormsUptoCard
end Rows
end Go.Proofs.YtbbdcodhgbgekaaGreatDoor
