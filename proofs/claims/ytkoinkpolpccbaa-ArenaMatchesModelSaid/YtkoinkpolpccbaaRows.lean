/-
  No cell of these rows narrows 'for every input' (looked for: loops, veiled, ifaces, maps, wideKeys, modest, calm, conditions, laid).
  DERIVED. THE GIVEN ROWS OF THIS SEAT. 10 by the template 'for every input the law returns true; each argument reads behind the call as it read before'; 0 by the template 'total and deterministic' (their statements: YtkoinkpolpccbaaTotals.lean).
  GIVEN WITH THE SEED: the statements are not yours to turn. If you find one false, say at which input.
  Laid BY PROGRAM, IN A SANDBOX (cutbox-rows.mjs): the forced cells as the released guide's own fill.sh prints them over the translation 77162cebcd19e2e0… (all of the seat's roots in one cut). By AI agents, Wed Nov 11 2026. No macro, syntax, notation, axiom, sorry.
-/
import Derived.Test.YtkoinkpolpccbaaChecked
import GoSem.Claim
import GoSem.ClaimJoined
import GoSem.ClaimMapViews
import Derived.JoinedTies
import Derived.KernelRfl
namespace Go.Proofs.Ytkoinkpolpccbaa
/- THE CELL 'sum', in the pinned program and in every row, IS THE sha256 OF THE DUMP (.gsa) THAT YtkoinkpolpccbaaProg.lean LOADS. Nothing in Lean hashes anything: it is a label: what it is worth is what the hold of that sum in a sandbox is worth. -/
noncomputable def Try.pinned : Pinned := { name := "ytkoinkpolpccbaa", sum := "77162cebcd19e2e0d60199487fa2ef39b9e63ee3908a8af80ccd168ec9d5f0fd", checked := Try.checked }
namespace Rows
def none {H : Type} : Left H := { results := [], args := [] }

/-- 'ginnellaw16.GreetingParses': WHATEVER THE INPUT: true; the input reads as it did. -/
def greetingParsesSpec : ChangeSpec := { name := "greetingParses", fn := fun _ => fun
  | [d1, d2, d3, d4] => { results := [.lit (.bool true)], args := [d1, d2, d3, d4] }
  | _ => none }
def greetingParsesRow : OpenClaim := { program := "ytkoinkpolpccbaa", sum := "77162cebcd19e2e0d60199487fa2ef39b9e63ee3908a8af80ccd168ec9d5f0fd", func := "ginnel/ginnellaw16.GreetingParses", spec := "greetingParses", inPlace := ["internal/bytealg.IndexByteString"], apart := false }
def GreetingParsesSaid : Prop := greetingParsesRow.holds Try.pinned (OpenSpec.ofChange greetingParsesSpec)

/-- ITS FALSE NEIGHBOUR: 'it returns false'. Refute it at one input. -/
def greetingParsesWrong : ChangeSpec := { name := "greetingParses", fn := fun _ => fun
  | [d1, d2, d3, d4] => { results := [.lit (.bool false)], args := [d1, d2, d3, d4] }
  | _ => none }
def GreetingParsesWrongFalsely : Prop := greetingParsesRow.holds Try.pinned (OpenSpec.ofChange greetingParsesWrong)

/-- 'ginnellaw16.GreetingIsIncremental': WHATEVER THE INPUT: true; the input reads as it did. -/
def greetingIsIncrementalSpec : ChangeSpec := { name := "greetingIsIncremental", fn := fun _ => fun
  | [d1, d2, d3] => { results := [.lit (.bool true)], args := [d1, d2, d3] }
  | _ => none }
def greetingIsIncrementalRow : OpenClaim := { program := "ytkoinkpolpccbaa", sum := "77162cebcd19e2e0d60199487fa2ef39b9e63ee3908a8af80ccd168ec9d5f0fd", func := "ginnel/ginnellaw16.GreetingIsIncremental", spec := "greetingIsIncremental", inPlace := ["internal/bytealg.IndexByteString"], apart := false }
def GreetingIsIncrementalSaid : Prop := greetingIsIncrementalRow.holds Try.pinned (OpenSpec.ofChange greetingIsIncrementalSpec)

/-- ITS FALSE NEIGHBOUR: 'it returns false'. Refute it at one input. -/
def greetingIsIncrementalWrong : ChangeSpec := { name := "greetingIsIncremental", fn := fun _ => fun
  | [d1, d2, d3] => { results := [.lit (.bool false)], args := [d1, d2, d3] }
  | _ => none }
def GreetingIsIncrementalWrongFalsely : Prop := greetingIsIncrementalRow.holds Try.pinned (OpenSpec.ofChange greetingIsIncrementalWrong)

/-- 'ginnellaw17.UserpassParses': WHATEVER THE INPUT: true; the input reads as it did. -/
def userpassParsesSpec : ChangeSpec := { name := "userpassParses", fn := fun _ => fun
  | [d1, d2, d3, d4, d5, d6] => { results := [.lit (.bool true)], args := [d1, d2, d3, d4, d5, d6] }
  | _ => none }
def userpassParsesRow : OpenClaim := { program := "ytkoinkpolpccbaa", sum := "77162cebcd19e2e0d60199487fa2ef39b9e63ee3908a8af80ccd168ec9d5f0fd", func := "ginnel/ginnellaw17.UserpassParses", spec := "userpassParses", apart := false }
def UserpassParsesSaid : Prop := userpassParsesRow.holds Try.pinned (OpenSpec.ofChange userpassParsesSpec)

/-- ITS FALSE NEIGHBOUR: 'it returns false'. Refute it at one input. -/
def userpassParsesWrong : ChangeSpec := { name := "userpassParses", fn := fun _ => fun
  | [d1, d2, d3, d4, d5, d6] => { results := [.lit (.bool false)], args := [d1, d2, d3, d4, d5, d6] }
  | _ => none }
def UserpassParsesWrongFalsely : Prop := userpassParsesRow.holds Try.pinned (OpenSpec.ofChange userpassParsesWrong)

/-- 'ginnellaw17.UserpassIsIncremental': WHATEVER THE INPUT: true; the input reads as it did. -/
def userpassIsIncrementalSpec : ChangeSpec := { name := "userpassIsIncremental", fn := fun _ => fun
  | [d1, d2, d3, d4] => { results := [.lit (.bool true)], args := [d1, d2, d3, d4] }
  | _ => none }
def userpassIsIncrementalRow : OpenClaim := { program := "ytkoinkpolpccbaa", sum := "77162cebcd19e2e0d60199487fa2ef39b9e63ee3908a8af80ccd168ec9d5f0fd", func := "ginnel/ginnellaw17.UserpassIsIncremental", spec := "userpassIsIncremental", apart := false }
def UserpassIsIncrementalSaid : Prop := userpassIsIncrementalRow.holds Try.pinned (OpenSpec.ofChange userpassIsIncrementalSpec)

/-- ITS FALSE NEIGHBOUR: 'it returns false'. Refute it at one input. -/
def userpassIsIncrementalWrong : ChangeSpec := { name := "userpassIsIncremental", fn := fun _ => fun
  | [d1, d2, d3, d4] => { results := [.lit (.bool false)], args := [d1, d2, d3, d4] }
  | _ => none }
def UserpassIsIncrementalWrongFalsely : Prop := userpassIsIncrementalRow.holds Try.pinned (OpenSpec.ofChange userpassIsIncrementalWrong)

/-- 'ginnellaw16.GreetingRoundTrip': WHATEVER THE INPUT: true; the input reads as it did. -/
def greetingRoundTripSpec : ChangeSpec := { name := "greetingRoundTrip", fn := fun _ => fun
  | [d1, d2, d3] => { results := [.lit (.bool true)], args := [d1, d2, d3] }
  | _ => none }
def greetingRoundTripRow : OpenClaim := { program := "ytkoinkpolpccbaa", sum := "77162cebcd19e2e0d60199487fa2ef39b9e63ee3908a8af80ccd168ec9d5f0fd", func := "ginnel/ginnellaw16.GreetingRoundTrip", spec := "greetingRoundTrip", inPlace := ["internal/bytealg.IndexByteString"], apart := false }
def GreetingRoundTripSaid : Prop := greetingRoundTripRow.holds Try.pinned (OpenSpec.ofChange greetingRoundTripSpec)

/-- ITS FALSE NEIGHBOUR: 'it returns false'. Refute it at one input. -/
def greetingRoundTripWrong : ChangeSpec := { name := "greetingRoundTrip", fn := fun _ => fun
  | [d1, d2, d3] => { results := [.lit (.bool false)], args := [d1, d2, d3] }
  | _ => none }
def GreetingRoundTripWrongFalsely : Prop := greetingRoundTripRow.holds Try.pinned (OpenSpec.ofChange greetingRoundTripWrong)

/-- 'ginnellaw17.UserpassRoundTrip': WHATEVER THE INPUT: true; the input reads as it did. -/
def userpassRoundTripSpec : ChangeSpec := { name := "userpassRoundTrip", fn := fun _ => fun
  | [d1, d2, d3, d4] => { results := [.lit (.bool true)], args := [d1, d2, d3, d4] }
  | _ => none }
def userpassRoundTripRow : OpenClaim := { program := "ytkoinkpolpccbaa", sum := "77162cebcd19e2e0d60199487fa2ef39b9e63ee3908a8af80ccd168ec9d5f0fd", func := "ginnel/ginnellaw17.UserpassRoundTrip", spec := "userpassRoundTrip", apart := false }
def UserpassRoundTripSaid : Prop := userpassRoundTripRow.holds Try.pinned (OpenSpec.ofChange userpassRoundTripSpec)

/-- ITS FALSE NEIGHBOUR: 'it returns false'. Refute it at one input. -/
def userpassRoundTripWrong : ChangeSpec := { name := "userpassRoundTrip", fn := fun _ => fun
  | [d1, d2, d3, d4] => { results := [.lit (.bool false)], args := [d1, d2, d3, d4] }
  | _ => none }
def UserpassRoundTripWrongFalsely : Prop := userpassRoundTripRow.holds Try.pinned (OpenSpec.ofChange userpassRoundTripWrong)

/-- 'ginnellaw04.ArenaReusesLowestSlot': WHATEVER THE INPUT: true; the input reads as it did. -/
def arenaReusesLowestSlotSpec : ChangeSpec := { name := "arenaReusesLowestSlot", fn := fun _ => fun
  | [d1, d2, d3] => { results := [.lit (.bool true)], args := [d1, d2, d3] }
  | _ => none }
def arenaReusesLowestSlotRow : OpenClaim := { program := "ytkoinkpolpccbaa", sum := "77162cebcd19e2e0d60199487fa2ef39b9e63ee3908a8af80ccd168ec9d5f0fd", func := "ginnel/ginnellaw04.ArenaReusesLowestSlot", spec := "arenaReusesLowestSlot", apart := false }
def ArenaReusesLowestSlotSaid : Prop := arenaReusesLowestSlotRow.holds Try.pinned (OpenSpec.ofChange arenaReusesLowestSlotSpec)

/-- ITS FALSE NEIGHBOUR: 'it returns false'. Refute it at one input. -/
def arenaReusesLowestSlotWrong : ChangeSpec := { name := "arenaReusesLowestSlot", fn := fun _ => fun
  | [d1, d2, d3] => { results := [.lit (.bool false)], args := [d1, d2, d3] }
  | _ => none }
def ArenaReusesLowestSlotWrongFalsely : Prop := arenaReusesLowestSlotRow.holds Try.pinned (OpenSpec.ofChange arenaReusesLowestSlotWrong)

/-- 'ginnellaw04.ArenaRejectsStaleHandles': WHATEVER THE INPUT: true; the input reads as it did. -/
def arenaRejectsStaleHandlesSpec : ChangeSpec := { name := "arenaRejectsStaleHandles", fn := fun _ => fun
  | [d1, d2, d3] => { results := [.lit (.bool true)], args := [d1, d2, d3] }
  | _ => none }
def arenaRejectsStaleHandlesRow : OpenClaim := { program := "ytkoinkpolpccbaa", sum := "77162cebcd19e2e0d60199487fa2ef39b9e63ee3908a8af80ccd168ec9d5f0fd", func := "ginnel/ginnellaw04.ArenaRejectsStaleHandles", spec := "arenaRejectsStaleHandles", apart := false }
def ArenaRejectsStaleHandlesSaid : Prop := arenaRejectsStaleHandlesRow.holds Try.pinned (OpenSpec.ofChange arenaRejectsStaleHandlesSpec)

/-- ITS FALSE NEIGHBOUR: 'it returns false'. Refute it at one input. -/
def arenaRejectsStaleHandlesWrong : ChangeSpec := { name := "arenaRejectsStaleHandles", fn := fun _ => fun
  | [d1, d2, d3] => { results := [.lit (.bool false)], args := [d1, d2, d3] }
  | _ => none }
def ArenaRejectsStaleHandlesWrongFalsely : Prop := arenaRejectsStaleHandlesRow.holds Try.pinned (OpenSpec.ofChange arenaRejectsStaleHandlesWrong)

/-- 'ginnellaw04.ArenaValidatesCapacity': WHATEVER THE INPUT: true; the input reads as it did. -/
def arenaValidatesCapacitySpec : ChangeSpec := { name := "arenaValidatesCapacity", fn := fun _ => fun
  | [d] => { results := [.lit (.bool true)], args := [d] }
  | _ => none }
def arenaValidatesCapacityRow : OpenClaim := { program := "ytkoinkpolpccbaa", sum := "77162cebcd19e2e0d60199487fa2ef39b9e63ee3908a8af80ccd168ec9d5f0fd", func := "ginnel/ginnellaw04.ArenaValidatesCapacity", spec := "arenaValidatesCapacity", apart := false }
def ArenaValidatesCapacitySaid : Prop := arenaValidatesCapacityRow.holds Try.pinned (OpenSpec.ofChange arenaValidatesCapacitySpec)

/-- ITS FALSE NEIGHBOUR: 'it returns false'. Refute it at one input. -/
def arenaValidatesCapacityWrong : ChangeSpec := { name := "arenaValidatesCapacity", fn := fun _ => fun
  | [d] => { results := [.lit (.bool false)], args := [d] }
  | _ => none }
def ArenaValidatesCapacityWrongFalsely : Prop := arenaValidatesCapacityRow.holds Try.pinned (OpenSpec.ofChange arenaValidatesCapacityWrong)

/-- 'ginnellaw04.ArenaMatchesModel': WHATEVER THE INPUT: true; the input reads as it did. -/
def arenaMatchesModelSpec : ChangeSpec := { name := "arenaMatchesModel", fn := fun _ => fun
  | [d1, d2] => { results := [.lit (.bool true)], args := [d1, d2] }
  | _ => none }
def arenaMatchesModelRow : OpenClaim := { program := "ytkoinkpolpccbaa", sum := "77162cebcd19e2e0d60199487fa2ef39b9e63ee3908a8af80ccd168ec9d5f0fd", func := "ginnel/ginnellaw04.ArenaMatchesModel", spec := "arenaMatchesModel", unfollowed := true, recurses := true, apart := false }
def ArenaMatchesModelSaid : Prop := arenaMatchesModelRow.holds Try.pinned (OpenSpec.ofChange arenaMatchesModelSpec)

/-- ITS FALSE NEIGHBOUR: 'it returns false'. Refute it at one input. -/
def arenaMatchesModelWrong : ChangeSpec := { name := "arenaMatchesModel", fn := fun _ => fun
  | [d1, d2] => { results := [.lit (.bool false)], args := [d1, d2] }
  | _ => none }
def ArenaMatchesModelWrongFalsely : Prop := arenaMatchesModelRow.holds Try.pinned (OpenSpec.ofChange arenaMatchesModelWrong)

/- THE SECOND FORM. 'bulk': how many values and letters a reading holds, each counted each time it is reached (what is shared counts as often as it is met; a slice's spare places count too). A statement '..UptoSaid' is the law's where the arguments, and the package variables that the reading takes, are together of bulk at most 1048576: NARROWER than '..Said'. Prove '..Said' where nothing that the law and all that it calls make is longer than what came in: it says more and counts as full. Else prove '..UptoSaid'. A law counts once. -/
mutual
def uptoBulk {H : Type} : DataW H → Nat
  | .lit (.string bytes) => bytes.length + 1
  | .lit _ => 1
  | .nil => 1
  | .ptr d => uptoBulk d + 1
  | .slice elems spare => uptoBulkAll elems + uptoBulkAll spare + 1
  | .agg parts => uptoBulkAll parts + 1
  | .iface _ d => uptoBulk d + 1
  | .map entries => uptoBulkEntries entries + 1
  | .held _ => 1
def uptoBulkAll {H : Type} : List (DataW H) → Nat
  | [] => 0
  | d :: r => uptoBulk d + uptoBulkAll r
def uptoBulkEntries {H : Type} : List (Lit × DataW H) → Nat
  | [] => 0
  | x :: r => uptoBulkEntry x + uptoBulkEntries r
def uptoBulkEntry {H : Type} : Lit × DataW H → Nat
  | (.string bytes, d) => bytes.length + uptoBulk d + 1
  | (_, d) => uptoBulk d + 1
 end
def uptoSmall : (H : Type) → List (DataW H) → Bool := fun _ ds => decide (uptoBulkAll ds ≤ 1048576)
def OpenSpec.upto (s : _root_.Go.ChangeSpec) : _root_.Go.OpenSpec := { _root_.Go.OpenSpec.ofChange s with cond := some uptoSmall }

/-- 'ginnellaw16.GreetingParses', WHERE WHAT IT READS IS OF BULK AT MOST 1048576: true; the input reads as it did. -/
def greetingParsesUptoRow : OpenClaim := { program := "ytkoinkpolpccbaa", sum := "77162cebcd19e2e0d60199487fa2ef39b9e63ee3908a8af80ccd168ec9d5f0fd", func := "ginnel/ginnellaw16.GreetingParses", spec := "greetingParses", inPlace := ["internal/bytealg.IndexByteString"], apart := false, narrowed := true }
def GreetingParsesUptoSaid : Prop := greetingParsesUptoRow.holds Try.pinned (OpenSpec.upto greetingParsesSpec)

/-- 'ginnellaw16.GreetingIsIncremental', WHERE WHAT IT READS IS OF BULK AT MOST 1048576: true; the input reads as it did. -/
def greetingIsIncrementalUptoRow : OpenClaim := { program := "ytkoinkpolpccbaa", sum := "77162cebcd19e2e0d60199487fa2ef39b9e63ee3908a8af80ccd168ec9d5f0fd", func := "ginnel/ginnellaw16.GreetingIsIncremental", spec := "greetingIsIncremental", inPlace := ["internal/bytealg.IndexByteString"], apart := false, narrowed := true }
def GreetingIsIncrementalUptoSaid : Prop := greetingIsIncrementalUptoRow.holds Try.pinned (OpenSpec.upto greetingIsIncrementalSpec)

/-- 'ginnellaw17.UserpassParses', WHERE WHAT IT READS IS OF BULK AT MOST 1048576: true; the input reads as it did. -/
def userpassParsesUptoRow : OpenClaim := { program := "ytkoinkpolpccbaa", sum := "77162cebcd19e2e0d60199487fa2ef39b9e63ee3908a8af80ccd168ec9d5f0fd", func := "ginnel/ginnellaw17.UserpassParses", spec := "userpassParses", apart := false, narrowed := true }
def UserpassParsesUptoSaid : Prop := userpassParsesUptoRow.holds Try.pinned (OpenSpec.upto userpassParsesSpec)

/-- 'ginnellaw17.UserpassIsIncremental', WHERE WHAT IT READS IS OF BULK AT MOST 1048576: true; the input reads as it did. -/
def userpassIsIncrementalUptoRow : OpenClaim := { program := "ytkoinkpolpccbaa", sum := "77162cebcd19e2e0d60199487fa2ef39b9e63ee3908a8af80ccd168ec9d5f0fd", func := "ginnel/ginnellaw17.UserpassIsIncremental", spec := "userpassIsIncremental", apart := false, narrowed := true }
def UserpassIsIncrementalUptoSaid : Prop := userpassIsIncrementalUptoRow.holds Try.pinned (OpenSpec.upto userpassIsIncrementalSpec)

/-- 'ginnellaw16.GreetingRoundTrip', WHERE WHAT IT READS IS OF BULK AT MOST 1048576: true; the input reads as it did. -/
def greetingRoundTripUptoRow : OpenClaim := { program := "ytkoinkpolpccbaa", sum := "77162cebcd19e2e0d60199487fa2ef39b9e63ee3908a8af80ccd168ec9d5f0fd", func := "ginnel/ginnellaw16.GreetingRoundTrip", spec := "greetingRoundTrip", inPlace := ["internal/bytealg.IndexByteString"], apart := false, narrowed := true }
def GreetingRoundTripUptoSaid : Prop := greetingRoundTripUptoRow.holds Try.pinned (OpenSpec.upto greetingRoundTripSpec)

/-- 'ginnellaw17.UserpassRoundTrip', WHERE WHAT IT READS IS OF BULK AT MOST 1048576: true; the input reads as it did. -/
def userpassRoundTripUptoRow : OpenClaim := { program := "ytkoinkpolpccbaa", sum := "77162cebcd19e2e0d60199487fa2ef39b9e63ee3908a8af80ccd168ec9d5f0fd", func := "ginnel/ginnellaw17.UserpassRoundTrip", spec := "userpassRoundTrip", apart := false, narrowed := true }
def UserpassRoundTripUptoSaid : Prop := userpassRoundTripUptoRow.holds Try.pinned (OpenSpec.upto userpassRoundTripSpec)

/-- 'ginnellaw04.ArenaReusesLowestSlot', WHERE WHAT IT READS IS OF BULK AT MOST 1048576: true; the input reads as it did. -/
def arenaReusesLowestSlotUptoRow : OpenClaim := { program := "ytkoinkpolpccbaa", sum := "77162cebcd19e2e0d60199487fa2ef39b9e63ee3908a8af80ccd168ec9d5f0fd", func := "ginnel/ginnellaw04.ArenaReusesLowestSlot", spec := "arenaReusesLowestSlot", apart := false, narrowed := true }
def ArenaReusesLowestSlotUptoSaid : Prop := arenaReusesLowestSlotUptoRow.holds Try.pinned (OpenSpec.upto arenaReusesLowestSlotSpec)

/-- 'ginnellaw04.ArenaRejectsStaleHandles', WHERE WHAT IT READS IS OF BULK AT MOST 1048576: true; the input reads as it did. -/
def arenaRejectsStaleHandlesUptoRow : OpenClaim := { program := "ytkoinkpolpccbaa", sum := "77162cebcd19e2e0d60199487fa2ef39b9e63ee3908a8af80ccd168ec9d5f0fd", func := "ginnel/ginnellaw04.ArenaRejectsStaleHandles", spec := "arenaRejectsStaleHandles", apart := false, narrowed := true }
def ArenaRejectsStaleHandlesUptoSaid : Prop := arenaRejectsStaleHandlesUptoRow.holds Try.pinned (OpenSpec.upto arenaRejectsStaleHandlesSpec)

/-- 'ginnellaw04.ArenaValidatesCapacity', WHERE WHAT IT READS IS OF BULK AT MOST 1048576: true; the input reads as it did. -/
def arenaValidatesCapacityUptoRow : OpenClaim := { program := "ytkoinkpolpccbaa", sum := "77162cebcd19e2e0d60199487fa2ef39b9e63ee3908a8af80ccd168ec9d5f0fd", func := "ginnel/ginnellaw04.ArenaValidatesCapacity", spec := "arenaValidatesCapacity", apart := false, narrowed := true }
def ArenaValidatesCapacityUptoSaid : Prop := arenaValidatesCapacityUptoRow.holds Try.pinned (OpenSpec.upto arenaValidatesCapacitySpec)

/-- 'ginnellaw04.ArenaMatchesModel', WHERE WHAT IT READS IS OF BULK AT MOST 1048576: true; the input reads as it did. -/
def arenaMatchesModelUptoRow : OpenClaim := { program := "ytkoinkpolpccbaa", sum := "77162cebcd19e2e0d60199487fa2ef39b9e63ee3908a8af80ccd168ec9d5f0fd", func := "ginnel/ginnellaw04.ArenaMatchesModel", spec := "arenaMatchesModel", unfollowed := true, recurses := true, apart := false, narrowed := true }
def ArenaMatchesModelUptoSaid : Prop := arenaMatchesModelUptoRow.holds Try.pinned (OpenSpec.upto arenaMatchesModelSpec)

end Rows
end Go.Proofs.Ytkoinkpolpccbaa
