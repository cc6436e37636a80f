/-
  What the rows of this seat list ('laid'): the tables as the contracts ask for them, and a world for the witness.
-/
import Derived.Test.YtpdoddelnahlnaaDoorLawR
import Derived.Deep.DeepWitnessRowRef
import Derived.Stop.LaidErr
import Derived.Deep.DeepLaidRun
import Derived.Test.YtpdoddelnahlnaaDoorCards
import Derived.Test.YtpdoddelnahlnaaDoorTie
namespace Go.Proofs.YtpdoddelnahlnaaDoor
open Go.ChangeShapes Go.WideShapes Go.ChangeAt Go.RowKit

theorem gMax : Tryd.prog.globalNamed "internal/bytealg.MaxLen" = some 0 := by kernel_rfl
theorem gP10 : Tryd.prog.globalNamed "internal/strconv.uint64pow10" = some 3 := by kernel_rfl
theorem gP10t : (Tryd.prog.globals[3]?).map (·.type) = some 115 := by kernel_rfl
theorem gTz : Tryd.prog.globalNamed "math/bits.deBruijn64tab" = some 7 := by kernel_rfl
theorem gTzt : (Tryd.prog.globals[7]?).map (·.type) = some 128 := by kernel_rfl
theorem cells96 : Tryd.prog.cellsOf 115 = 20 := by kernel_rfl
theorem cells123 : Tryd.prog.cellsOf 128 = 64 := by kernel_rfl
theorem cellsU64 : Tryd.prog.cellsOf 80 = 1 := by kernel_rfl
theorem cellsU8 : Tryd.prog.cellsOf 5 = 1 := by kernel_rfl

def tzTab : List Int := [0, 1, 56, 2, 57, 49, 28, 3, 61, 58, 42, 50, 38, 29, 17, 4, 62, 47, 59, 36, 45, 43, 51, 22, 53, 39, 33, 30, 24, 18, 12, 5, 63, 55, 48, 27, 60, 41, 37, 16, 46, 35, 44, 21, 52, 32, 23, 11, 54, 26, 40, 15, 34, 20, 31, 10, 25, 14, 19, 9, 13, 8, 7, 6]

theorem env_of_shaped {W : World} (h : W.ShapedOpen Tryd.prog) : Env W :=
  cell_of_shapedOpen_int (zero := #[.int .i64 0]) (t := 3) h (of_decide_eq_true (by kernel_rfl)) (by kernel_rfl) rfl (by kernel_rfl) (by kernel_rfl) Tryd.underlying3

theorem laid_open {W : World} (h : laidMetH Tryd.prog Rows.hostSubdomainsRow.laid W) : laidMet Tryd.prog Rows.hostSubdomainsRow.laid W := h

set_option maxRecDepth 100000 in
theorem tabs_of_laid {W : World} (h : laidMetH Tryd.prog Rows.hostSubdomainsRow.laid W) : Tabs W := by
  have h1 : laidMet Tryd.prog (("math/bits.deBruijn64tab", Lib.tabData .u8 tzTab) :: ("internal/strconv.uint64pow10", Lib.tabData .u64 Lib.pow10Tab) :: Rows.hostSubdomainsRow.laid.drop 3) W := (laid_open h).tail
  have a := Lib.tabIs_of_head gTz gTzt Tryd.underlying128 Tryd.underlying5 cellsU8 cells123 h1
  have b := Lib.tabIs_of_head gP10 gP10t Tryd.underlying115 Tryd.underlying80 cellsU64 cells96 h1.tail
  have c : W.cell? ⟨7, 15, none⟩ = some (.int .u8 (tzTab.getD 15 0)) := a.cell gTz 15 (of_decide_eq_true (by kernel_rfl))
  exact ⟨c, b⟩


/-- The cells of a datum of integers. -/
def flatCells : DataW Unit → List Value
  | .lit (.int k z) => [.int k z]
  | .agg xs => flats xs
  | _ => []
where flats : List (DataW Unit) → List Value
  | [] => []
  | x :: xs => flatCells x ++ flats xs

def rangeText : ByteArray := ⟨#[118, 97, 108, 117, 101, 32, 111, 117, 116, 32, 111, 102, 32, 114, 97, 110, 103, 101]⟩
def syntaxText : ByteArray := ⟨#[105, 110, 118, 97, 108, 105, 100, 32, 115, 121, 110, 116, 97, 120]⟩

def setCells (cs : List Value) : Obj → Obj
  | .cells _ t f => .cells cs.toArray t f
  | o => o

/-- The world that the witness holds: 'extra' lie first among the new blocks, the two sentinels' texts behind them. -/
noncomputable def laidWorld (os : Os) (extra : Array Obj) : World :=
  let w0 := World.holding Tryd.prog os ⟨extra ++ #[.cells #[.string rangeText] 126, .cells #[.string syntaxText] 126], #[], []⟩
  let low := (World.settled Tryd.prog os).heap.size + extra.size
  { w0 with heap := ((((((w0.heap.modify 6 (setCells (flatCells Rows.laid_math_bits_deBruijn32tab))).modify 7 (setCells (flatCells Rows.laid_math_bits_deBruijn64tab))).modify 3 (setCells (flatCells Rows.laid_internal_strconv_uint64pow10))).modify 2 (setCells (flatCells Rows.laid_unicode_utf8_acceptRanges))).modify 1 (setCells (flatCells Rows.laid_unicode_utf8_first))).modify 5 (setCells [.iface 124 (.pointer (some ⟨low, 0, none⟩))])).modify 4 (setCells [.iface 124 (.pointer (some ⟨low + 1, 0, none⟩))]) }

set_option maxRecDepth 100000 in
theorem laid_met (os : Os) (args : Array Value) : laidMet Tryd.prog Rows.hostSubdomainsRow.laid ((laidWorld os #[]).forCall (fun _ _ => 0) ⟨#[], args, []⟩).memory :=
  laidMet_of_run3 8 (by kernel_rfl) (by kernel_rfl) (by kernel_rfl)

end Go.Proofs.YtpdoddelnahlnaaDoor
