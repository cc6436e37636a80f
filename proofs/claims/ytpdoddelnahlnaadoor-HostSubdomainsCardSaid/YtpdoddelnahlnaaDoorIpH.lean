/-
  Contract of the reference's parseGroups.
-/
import Derived.Test.YtpdoddelnahlnaaDoorIpG
set_option linter.unusedSimpArgs false
set_option linter.unusedVariables false
namespace Go.Proofs.YtpdoddelnahlnaaDoor
open Go.RowKit Go.Joins

theorem parse4_some {s : ByteArray} {b : List Int} (h : parse4 s = some b) : b.length = 4 ∧ ∀ x ∈ b, 0 ≤ x ∧ x < 256 := by
  rw [parse4_eq] at h
  split at h
  · rename_i h1
    cases h
    refine ⟨by simp [h1.1], fun x hx => ?_⟩
    obtain ⟨y, hy, rfl⟩ := List.mem_map.1 hx
    have := h1.2
    unfold okDec at this; rw [List.all_eq_true] at this
    have h2 := this y hy
    have h3 := dec_bd y
    simp at h2; omega
  · cases h
theorem okA_p4A (s : ByteArray) : okA (p4A s).1 := by
  unfold p4A
  cases h : parse4 s with
  | none => exact okA_zadr
  | some b =>
    have := parse4_some h
    show okA (v4 _ _ _ _)
    rw [v4_getD this.1]
    refine ⟨by simp [this.1], fun x hx => ?_⟩
    rcases List.mem_append.1 hx with hx | hx
    · exact this.2 x hx
    · simp at hx; omega
theorem p4A_snd (s : ByteArray) : (p4A s).2 = (parse4 s).isSome := by unfold p4A; cases parse4 s <;> rfl
end Go.Proofs.YtpdoddelnahlnaaDoor
