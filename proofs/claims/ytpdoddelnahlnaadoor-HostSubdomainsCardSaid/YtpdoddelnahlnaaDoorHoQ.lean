/-
  Contract of the reference's ParseTarget.
-/
import Derived.Test.YtpdoddelnahlnaaDoorHoP
import Derived.Test.YtpdoddelnahlnaaDoorIpPr
set_option linter.unusedSimpArgs false
set_option linter.unusedVariables false
namespace Go.Proofs.YtpdoddelnahlnaaDoor
open Go.RowKit
theorem data_B (s : ByteArray) (k : Nat) : ((s.data[k]!).toNat : Int) = B s k := by
  unfold B
  rw [List.getD_eq_getElem?_getD, Array.getElem?_toList]
  rcases Nat.lt_or_ge k s.data.size with h | h
  · rw [getElem!_pos s.data k h, Array.getElem?_eq_getElem h]; rfl
  · rw [getElem!_neg s.data k (by omega), Array.getElem?_eq_none h]; rfl
theorem lastIdx_bd (s : ByteArray) (c : Int) : ∀ k, -1 ≤ Lib.lastIdx s c k ∧ Lib.lastIdx s c k < k
  | 0 => by unfold Lib.lastIdx; omega
  | k + 1 => by
    have ih := lastIdx_bd s c k
    unfold Lib.lastIdx
    split <;> omega
end Go.Proofs.YtpdoddelnahlnaaDoor
