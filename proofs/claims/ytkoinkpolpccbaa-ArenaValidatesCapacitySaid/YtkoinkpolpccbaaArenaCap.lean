/-
  The law ArenaValidatesCapacity.
-/
import Derived.Test.YtkoinkpolpccbaaArenaAw
import Derived.Test.YtkoinkpolpccbaaArenaH
set_option linter.unusedSimpArgs false
set_option linter.unusedVariables false
namespace Go.Proofs.Ytkoinkpolpccbaa
open Go.RowKit

theorem hand_fresh (n : Nat) (x : List Value) (i : Nat) : hand (List.replicate n ⟨0, false, x⟩) i = [] := by
  induction n generalizing i with
  | zero => rfl
  | succ n ih => simp [List.replicate_succ, hand, ih]

set_option maxRecDepth 100000 in
set_option maxHeartbeats 2000000 in
theorem ArenaValidatesCapacity_walk (n : Int) (w : World) {G : Prop} (_ : G) :
    Calls Try.prog 11 #[.int .i64 n] w fun e w' => e = .returned (.bool true) ∧ Ext w w' := by
  by_cases h : n < 1 ∨ 4096 < n
  · by_cases h1 : 1 ≤ n
    · have h2 : ¬ n ≤ 4096 := by omega
      go_enter Try.func11, Try.ntmps11
      go_wp2_with fail
      refine (ArenaInt.new_bad n _ h).mono ?_
      rintro e w' ⟨rfl, rfl⟩
      go_wp2_with fail
      refine (aawake_any _).mono ?_
      rintro e w2 ⟨rfl, x2⟩
      go_wp2_with fail
      go_ret
      exact ⟨rfl, x2⟩
    · go_enter Try.func11, Try.ntmps11
      go_wp2_with fail
      refine (ArenaInt.new_bad n _ h).mono ?_
      rintro e w' ⟨rfl, rfl⟩
      go_wp2_with fail
      refine (aawake_any _).mono ?_
      rintro e w2 ⟨rfl, x2⟩
      go_wp2_with fail
      go_ret
      exact ⟨rfl, x2⟩
  · obtain ⟨k, rfl⟩ := Int.eq_ofNat_of_zero_le (show 0 ≤ n by omega)
    have h1 : (1 : Int) ≤ k := by omega
    have h2 : (k : Int) ≤ 4096 := by omega
    clear h
    go_enter Try.func11, Try.ntmps11
    go_wp2_with fail
    refine (ArenaInt.new_ok k _ (by omega) (by omega)).mono ?_
    rintro e w1 ⟨rfl, A1, x1⟩
    go_wp2_with fail
    refine (aawake_any _).mono ?_
    rintro e w2 ⟨rfl, x2⟩
    have A2 := A1.ext x2
    have HA := Lib.hid A2; clear A1 A2
    go_wp2_with fail
    refine (ArenaInt.cap_any _ _ _ _ _ _ HA.out).mono ?_
    rintro e w3 ⟨rfl, rfl⟩
    rw [List.length_replicate]
    go_wp2_with fail
    refine (ArenaInt.len_any _ _ _ _ _ _ HA.out).mono ?_
    rintro e w3 ⟨rfl, rfl⟩
    go_wp2_with fail
    refine (handles_any _ _ _ _ _ _ HA.out (fun s hs => ⟨0, by rw [(List.mem_replicate.1 hs).2]⟩)).mono ?_
    rintro e w3 ⟨v, rfl, hown, x3⟩
    rw [hand_fresh] at hown
    obtain ⟨_, ⟨rfl, _⟩ | ⟨g, cap, cur, rfl, _⟩⟩ := hown
    all_goals
      go_wp2_with fail
      go_ret
      exact ⟨rfl, by (repeat' (first | exact Ext.refl _ | assumption | refine Ext.alloc ?_ _ | refine Ext.drew ?_ | refine Ext.setCell ?_ (Nat.le_refl _) _ | refine Ext.setCell ?_ (Nat.le_add_right _ _) _ | refine Ext.drewN ?_ _ | refine Ext.trans ?_ (by assumption) | refine Ext.dr ?_ (by assumption)))⟩
end Go.Proofs.Ytkoinkpolpccbaa
