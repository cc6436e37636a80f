/-
  DERIVED. GIVEN WITH THE SEED: THE CARDS: each row of YtpdoddelnahlnaaDoorRows.lean that lists a variable, with what it lists TIED to the program's text (the seventh form; the later family's looks); each row that meets fmt, with fmt's text TOLD by the authors' own Lean function (tested against real Go, not proved from fmt's source: count such statements apart). THE CARD IS WHAT COUNTS. Prove the row's statement (the work); the ties are given (YtpdoddelnahlnaaDoorTie.lean); close each card by the builder's one call (the guide's Derived/Test/ToyasCard.lean, 'card_holds'). Laid BY PROGRAM, IN A SANDBOX (cutbox-door.mjs). By AI agents, Wed Nov 11 2026. No macro, syntax, notation, axiom, sorry.
-/
import Derived.Test.YtpdoddelnahlnaaDoorRows
import GoSem.ClaimSeven
namespace Go.Proofs.YtpdoddelnahlnaaDoor
namespace Rows

/-- THE TIED CARD OF 'ginnellaw08.HostSubdomains'. -/
def hostSubdomainsCard : Claim7 := { stood := { row := hostSubdomainsRow, standIns := [], harness := (true, "6e8dcf50b577674c7fe906867be623a9928ee1dad10ca95fb17114b1f1f48c55"), looks := true }, kinds := [], alts := [], laidByText := true, laidKinds := [.data, .data, .data, .data, .sentinel, .sentinel, .pinned], laidTests := true, laidLooks := .later }
def HostSubdomainsCardSaid : Prop := Claim7.holds Tryd.pinned (.plain (OpenSpec.ofChange hostSubdomainsSpec)) hostSubdomainsCard

/-- THE TIED CARD OF 'ginnellaw08.HostPortForms'. -/
def hostPortFormsCard : Claim7 := { stood := { row := hostPortFormsRow, standIns := [], harness := (true, "6e8dcf50b577674c7fe906867be623a9928ee1dad10ca95fb17114b1f1f48c55"), looks := true }, kinds := [], alts := [], laidByText := true, laidKinds := [.data, .data, .data, .data, .sentinel, .sentinel, .pinned], laidTests := true, laidLooks := .later }
def HostPortFormsCardSaid : Prop := Claim7.holds Tryd.pinned (.plain (OpenSpec.ofChange hostPortFormsSpec)) hostPortFormsCard

/-- THE SECOND FORM's CARD OF 'ginnellaw08.HostSubdomains'. -/
def hostSubdomainsUptoCard : Claim7 := { stood := { row := hostSubdomainsUptoRow, standIns := [], harness := (true, "6e8dcf50b577674c7fe906867be623a9928ee1dad10ca95fb17114b1f1f48c55"), looks := true }, kinds := [], alts := [], laidByText := true, laidKinds := [.data, .data, .data, .data, .sentinel, .sentinel, .pinned], laidTests := true, laidLooks := .later }
def HostSubdomainsUptoCardSaid : Prop := Claim7.holds Tryd.pinned (.plain (OpenSpec.upto hostSubdomainsSpec)) hostSubdomainsUptoCard

/-- THE SECOND FORM's CARD OF 'ginnellaw08.HostPortForms'. -/
def hostPortFormsUptoCard : Claim7 := { stood := { row := hostPortFormsUptoRow, standIns := [], harness := (true, "6e8dcf50b577674c7fe906867be623a9928ee1dad10ca95fb17114b1f1f48c55"), looks := true }, kinds := [], alts := [], laidByText := true, laidKinds := [.data, .data, .data, .data, .sentinel, .sentinel, .pinned], laidTests := true, laidLooks := .later }
def HostPortFormsUptoCardSaid : Prop := Claim7.holds Tryd.pinned (.plain (OpenSpec.upto hostPortFormsSpec)) hostPortFormsUptoCard
end Rows
end Go.Proofs.YtpdoddelnahlnaaDoor
