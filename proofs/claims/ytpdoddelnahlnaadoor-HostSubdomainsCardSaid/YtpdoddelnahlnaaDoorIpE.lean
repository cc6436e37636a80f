/-
  '==' of two addresses.
-/
import Derived.Test.YtpdoddelnahlnaaDoorIpA
import Derived.DeepKeys
set_option linter.unusedSimpArgs false
set_option linter.unusedVariables false
namespace Go.Proofs.YtpdoddelnahlnaaDoor
open Go.RowKit

theorem key22 : Tryd.prog.keyTypeAt 2 35 = true := by kernel_rfl
theorem eq_awake (W : World) : (Op.equalIn 9999 35 (.agg #[.int .u8 10, .int .u8 0, .int .u8 0, .int .u8 1, .int .u8 0, .int .u8 0, .int .u8 0, .int .u8 0, .int .u8 0, .int .u8 0, .int .u8 0, .int .u8 0, .int .u8 0, .int .u8 0, .int .u8 0, .int .u8 0]) (.agg #[.int .u8 10, .int .u8 0, .int .u8 0, .int .u8 1, .int .u8 0, .int .u8 0, .int .u8 0, .int .u8 0, .int .u8 0, .int .u8 0, .int .u8 0, .int .u8 0, .int .u8 0, .int .u8 0, .int .u8 0, .int .u8 0])).run Tryd.prog W = .ok true W := by
  obtain ⟨la, hla⟩ := Option.isSome_iff_exists.1 (show (Tryd.prog.keyLits 9 35 (Value.agg #[.int .u8 10, .int .u8 0, .int .u8 0, .int .u8 1, .int .u8 0, .int .u8 0, .int .u8 0, .int .u8 0, .int .u8 0, .int .u8 0, .int .u8 0, .int .u8 0, .int .u8 0, .int .u8 0, .int .u8 0, .int .u8 0]).cells.toList).isSome = true by kernel_rfl)
  obtain ⟨r, hr, hi⟩ := run_equalIn_deep (P := Tryd.prog) 9997 2 35 key22 W 9 9 _ _ la la (by kernel_rfl) (by kernel_rfl) hla hla
  rw [hi.2 rfl] at hr
  exact hr
end Go.Proofs.YtpdoddelnahlnaaDoor
