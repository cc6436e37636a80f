/-
  Contracts of the package userpass and of its reference.
-/
import Derived.Test.YtkoinkpolpccbaaProg
import Derived.Test.YtkoinkpolpccbaaBase
import Derived.Test.YtkoinkpolpccbaaLaw
import Derived.Handy
set_option linter.unusedSimpArgs false
set_option linter.unusedVariables false
namespace Go.Proofs.Ytkoinkpolpccbaa
open Go.RowKit

/-- one field behind its length -/
def ufield (s : ByteArray) : ByteArray × ByteArray × Int :=
  if s.size = 0 then (⟨#[]⟩, ⟨#[]⟩, 0)
  else if B s 0 = 0 then (⟨#[]⟩, ⟨#[]⟩, 2)
  else if (s.size : Int) < 1 + B s 0 then (⟨#[]⟩, ⟨#[]⟩, 0)
  else (s.extract 1 (1 + B s 0).toNat, s.extract (1 + B s 0).toNat s.size, 1)

set_option maxHeartbeats 400000 in
theorem ufield_any (s : ByteArray) (w : World) (hs : s.size ≤ maxLen) :
    Calls Try.prog 50 #[.string s] w fun e w' => e = .returned (.tuple #[.string (ufield s).1, .string (ufield s).2.1, .int .i64 (ufield s).2.2]) ∧ Dr w w' := by
  replace hs := size_max hs
  have b1 := B_bd s 0
  go_enter Try.func50, Try.ntmps50
  go_wp2
  all_goals first | go_ret3 | (go_quiet (fail); go_wp2; go_ret3) | skip
  all_goals go_light
  all_goals (try simp only [decide_eq_true_eq, decide_eq_false_iff_not, bne_iff_ne, beq_iff_eq, ne_eq, bne_eq_false_iff_eq, beq_eq_false_iff_ne, Decidable.not_not, Bool.not_eq_true', Bool.not_eq_false'] at *)
  all_goals first | (exfalso; omega) | skip
  all_goals (refine ⟨?_, ?_⟩ <;> first | trivial | rfl | exact Dr.refl _ | exact Dr.mk _ _ | (unfold ufield; (repeat' split) <;> first | (exfalso; omega) | rfl))

/-- what Parse returns, by fields -/
def uparseP (s : ByteArray) : ByteArray × ByteArray × Int × Int :=
  if s.size = 0 then (⟨#[]⟩, ⟨#[]⟩, 0, 0)
  else if B s 0 ≠ 1 then (⟨#[]⟩, ⟨#[]⟩, 0, 2)
  else if (ufield (s.extract 1 s.size)).2.2 ≠ 1 then (⟨#[]⟩, ⟨#[]⟩, 0, (ufield (s.extract 1 s.size)).2.2)
  else if (ufield (ufield (s.extract 1 s.size)).2.1).2.2 ≠ 1 then (⟨#[]⟩, ⟨#[]⟩, 0, (ufield (ufield (s.extract 1 s.size)).2.1).2.2)
  else ((ufield (s.extract 1 s.size)).1, (ufield (ufield (s.extract 1 s.size)).2.1).1, (s.size : Int) - ((ufield (ufield (s.extract 1 s.size)).2.1).2.1.size : Int), 1)

theorem ufield_le (s : ByteArray) : (ufield s).2.1.size ≤ s.size := by
  unfold ufield
  (repeat' split) <;> first | exact extract_le _ _ _ | exact Nat.zero_le _

set_option maxHeartbeats 400000 in
theorem uparseP_any (s : ByteArray) (w : World) (hs : s.size ≤ maxLen) :
    Calls Try.prog 19 #[.string s] w fun e w' => e = .returned (.tuple #[.string (uparseP s).1, .string (uparseP s).2.1, .int .i64 (uparseP s).2.2.1, .int .i64 (uparseP s).2.2.2]) ∧ Dr w w' := by
  replace hs := size_max hs
  have l0 := extract_le s 1 s.size
  have l1 := ufield_le (s.extract 1 s.size)
  have k1 := fun w => ufield_any (s.extract 1 s.size) w (by unfold maxLen; omega)
  unfold uparseP
  generalize ufield (s.extract 1 s.size) = u1 at *
  obtain ⟨f1, r1, s1⟩ := u1
  dsimp only at *
  have l2 := ufield_le r1
  have k2 := fun w => ufield_any r1 w (by unfold maxLen; omega)
  generalize ufield r1 = u2 at *
  obtain ⟨f2, r2, s2⟩ := u2
  dsimp only at *
  have K1 := Lib.hid k1; clear k1
  have K2 := Lib.hid k2; clear k2
  by_cases h0 : s.size = 0
  · have h0' : (s.size : Int) < 1 := by omega
    rw [if_pos h0]
    clear h0
    go_enter Try.func19, Try.ntmps19
    go_wp2_with fail
    go_returns
    exact ⟨rfl, Dr.refl _⟩
  rw [if_neg h0]
  have h0' : (1 : Int) ≤ s.size := by omega
  by_cases h1 : B s 0 = 1
  · have h1' : (B s 0 != 1) = false := by simp [h1]
    rw [if_neg (by simp [h1])]
    clear h1
    by_cases h2 : s1 = 1
    · subst h2
      rw [if_neg (by decide)]
      by_cases h3 : s2 = 1
      · subst h3
        rw [if_neg (by decide)]
        go_enter Try.func19, Try.ntmps19
        go_wp2_with fail
        refine (K1.out _).mono ?_
        rintro e w1 ⟨rfl, n, rfl⟩
        go_wp2_with fail
        refine (K2.out _).mono ?_
        rintro e w1 ⟨rfl, m, rfl⟩
        go_wp2_with fail
        go_returns
        exact ⟨rfl, Dr.mk _ _⟩
      · have h3' : (s2 != 1) = true := by simpa using h3
        rw [if_pos h3]
        clear h3
        go_enter Try.func19, Try.ntmps19
        go_wp2_with fail
        refine (K1.out _).mono ?_
        rintro e w1 ⟨rfl, n, rfl⟩
        go_wp2_with fail
        refine (K2.out _).mono ?_
        rintro e w1 ⟨rfl, m, rfl⟩
        go_wp2_with fail
        go_returns
        exact ⟨rfl, Dr.mk _ _⟩
    · have h2' : (s1 != 1) = true := by simpa using h2
      rw [if_pos h2]
      clear h2
      go_enter Try.func19, Try.ntmps19
      go_wp2_with fail
      refine (K1.out _).mono ?_
      rintro e w1 ⟨rfl, n, rfl⟩
      go_wp2_with fail
      go_returns
      exact ⟨rfl, Dr.mk _ _⟩
  · have h1' : (B s 0 != 1) = true := by simpa using h1
    rw [if_pos h1]
    clear h1
    go_enter Try.func19, Try.ntmps19
    go_wp2_with fail
    go_returns
    exact ⟨rfl, Dr.refl _⟩

/-- the same, over the whole string -/
def uparse (s : ByteArray) : ByteArray × ByteArray × Int × Int :=
  if s.size = 0 then (⟨#[]⟩, ⟨#[]⟩, 0, 0)
  else if B s 0 ≠ 1 then (⟨#[]⟩, ⟨#[]⟩, 0, 2)
  else if s.size < 2 then (⟨#[]⟩, ⟨#[]⟩, 0, 0)
  else if B s 1 = 0 then (⟨#[]⟩, ⟨#[]⟩, 0, 2)
  else if (s.size : Int) < 3 + B s 1 then (⟨#[]⟩, ⟨#[]⟩, 0, 0)
  else if B s (2 + B s 1).toNat = 0 then (⟨#[]⟩, ⟨#[]⟩, 0, 2)
  else if (s.size : Int) < 3 + B s 1 + B s (2 + B s 1).toNat then (⟨#[]⟩, ⟨#[]⟩, 0, 0)
  else (s.extract 2 (2 + B s 1).toNat, s.extract (3 + B s 1).toNat (3 + B s 1 + B s (2 + B s 1).toNat).toNat, 3 + B s 1 + B s (2 + B s 1).toNat, 1)

theorem extract_extract (s : ByteArray) (a b c d : Nat) (h : a + d ≤ b) : (s.extract a b).extract c d = s.extract (a + c) (a + d) := by
  apply BA_ext
  rw [data_extract, data_extract, data_extract, List.take_drop, List.drop_drop, List.take_take]
  rw [show min (a + d) b = a + d from by omega]

theorem ufield_0 {s : ByteArray} (h : s.size = 0) : ufield s = (⟨#[]⟩, ⟨#[]⟩, 0) := by unfold ufield; rw [if_pos h]
theorem ufield_2 {s : ByteArray} (h : s.size ≠ 0) (h1 : B s 0 = 0) : ufield s = (⟨#[]⟩, ⟨#[]⟩, 2) := by unfold ufield; rw [if_neg h, if_pos h1]
theorem ufield_1 {s : ByteArray} (h : s.size ≠ 0) (h1 : B s 0 ≠ 0) (h2 : (s.size : Int) < 1 + B s 0) : ufield s = (⟨#[]⟩, ⟨#[]⟩, 0) := by unfold ufield; rw [if_neg h, if_neg h1, if_pos h2]
theorem ufield_3 {s : ByteArray} (h : s.size ≠ 0) (h1 : B s 0 ≠ 0) (h2 : ¬ (s.size : Int) < 1 + B s 0) : ufield s = (s.extract 1 (1 + B s 0).toNat, s.extract (1 + B s 0).toNat s.size, 1) := by unfold ufield; rw [if_neg h, if_neg h1, if_neg h2]
theorem tail_field (s : ByteArray) (k : Nat) (hk : k < s.size) (n : Int) (hn : n = B s k) (h1 : n ≠ 0) (h2 : ¬ (s.size : Int) < k + 1 + n) (j : Nat) (hj : (j : Int) = k + 1 + n) :
    ufield (s.extract k s.size) = (s.extract (k + 1) j, s.extract j s.size, 1) := by
  have q := B_bd s k
  have z : (s.extract k s.size).size = s.size - k := by rw [ByteArray.size_extract]; omega
  have b : B (s.extract k s.size) 0 = n := by rw [B_extract _ _ _ _ (by omega), Nat.add_zero, hn]
  rw [ufield_3 (by omega) (by omega) (by omega), b, z, extract_extract _ _ _ _ _ (by omega), extract_extract _ _ _ _ _ (by omega),
    show k + (1 + n).toNat = j from by omega, show k + (s.size - k) = s.size from by omega]
theorem tail_field_0 (s : ByteArray) (k : Nat) (hk : s.size ≤ k) : ufield (s.extract k s.size) = (⟨#[]⟩, ⟨#[]⟩, 0) :=
  ufield_0 (by rw [ByteArray.size_extract]; omega)
theorem tail_field_2 (s : ByteArray) (k : Nat) (hk : k < s.size) (h1 : B s k = 0) : ufield (s.extract k s.size) = (⟨#[]⟩, ⟨#[]⟩, 2) := by
  have b : B (s.extract k s.size) 0 = 0 := by rw [B_extract _ _ _ _ (by omega), Nat.add_zero, h1]
  exact ufield_2 (by rw [ByteArray.size_extract]; omega) b
theorem tail_field_1 (s : ByteArray) (k : Nat) (hk : k < s.size) (h1 : B s k ≠ 0) (h2 : (s.size : Int) < k + 1 + B s k) : ufield (s.extract k s.size) = (⟨#[]⟩, ⟨#[]⟩, 0) := by
  have b : B (s.extract k s.size) 0 = B s k := by rw [B_extract _ _ _ _ (by omega), Nat.add_zero]
  have z : (s.extract k s.size).size = s.size - k := by rw [ByteArray.size_extract]; omega
  exact ufield_1 (by omega) (by omega) (by omega)

theorem uparse_eq (s : ByteArray) : uparseP s = uparse s := by
  have q1 := B_bd s 1
  have q2 := B_bd s (2 + B s 1).toNat
  unfold uparseP uparse
  by_cases h0 : s.size = 0
  · rw [if_pos h0, if_pos h0]
  rw [if_neg h0, if_neg h0]
  by_cases h1 : B s 0 ≠ 1
  · rw [if_pos h1, if_pos h1]
  rw [if_neg h1, if_neg h1]
  by_cases h2 : s.size < 2
  · rw [if_pos h2, tail_field_0 s 1 (by omega), if_pos (by decide)]
  rw [if_neg h2]
  by_cases h3 : B s 1 = 0
  · rw [if_pos h3, tail_field_2 s 1 (by omega) h3, if_pos (by decide)]
  rw [if_neg h3]
  by_cases h4 : (s.size : Int) < 2 + B s 1
  · have h4' : (s.size : Int) < 3 + B s 1 := by omega
    rw [if_pos h4', tail_field_1 s 1 (by omega) h3 (by omega), if_pos (by decide)]
  have e := tail_field s 1 (by omega) (B s 1) rfl h3 (by omega) (2 + B s 1).toNat (by omega)
  generalize hj : (2 + B s 1).toNat = j at *
  generalize B s 1 = n at *
  rw [e]
  dsimp only
  rw [if_neg (by simp)]
  by_cases h5 : (s.size : Int) < 3 + n
  · rw [if_pos h5, tail_field_0 s j (by omega), if_pos (by decide)]
  rw [if_neg h5]
  by_cases h6 : B s j = 0
  · rw [if_pos h6, tail_field_2 s j (by omega) h6, if_pos (by decide)]
  rw [if_neg h6]
  by_cases h7 : (s.size : Int) < 3 + n + B s j
  · rw [if_pos h7, tail_field_1 s j (by omega) h6 (by omega), if_pos (by decide)]
  rw [if_neg h7]
  rw [tail_field s j (by omega) (B s j) rfl h6 (by omega) (3 + n + B s j).toNat (by omega)]
  dsimp only
  rw [if_neg (by simp)]
  have z3 : (s.extract (3 + n + B s j).toNat s.size).size = s.size - (3 + n + B s j).toNat := by rw [ByteArray.size_extract]; omega
  rw [z3, show (s.size : Int) - ((s.size - (3 + n + B s j).toNat : Nat) : Int) = 3 + n + B s j from by omega, show (3 + n).toNat = j + 1 from by omega]

theorem uparse_any (s : ByteArray) (w : World) (hs : s.size ≤ maxLen) :
    Calls Try.prog 19 #[.string s] w fun e w' => e = .returned (.tuple #[.string (uparse s).1, .string (uparse s).2.1, .int .i64 (uparse s).2.2.1, .int .i64 (uparse s).2.2.2]) ∧ Dr w w' := by
  have h := uparseP_any s w hs
  rw [uparse_eq] at h
  exact h

set_option maxHeartbeats 400000 in
theorem uparseR_any (s : ByteArray) (w : World) (hs : s.size ≤ maxLen) :
    Calls Try.prog 49 #[.string s] w fun e w' => e = .returned (.tuple #[.string (uparse s).1, .string (uparse s).2.1, .int .i64 (uparse s).2.2.1, .int .i64 (uparse s).2.2.2]) ∧ Dr w w' := by
  replace hs := size_max hs
  have b1 := B_bd s 1
  have b2 := B_bd s (2 + B s 1).toNat
  go_enter Try.func49, Try.ntmps49
  go_wp2
  all_goals first | go_returns | (go_quiet (fail); go_wp2; go_returns) | skip
  all_goals go_light
  all_goals (try simp only [decide_eq_true_eq, decide_eq_false_iff_not, bne_iff_ne, beq_iff_eq, ne_eq, bne_eq_false_iff_eq, beq_eq_false_iff_ne, Decidable.not_not, Bool.not_eq_true', Bool.not_eq_false'] at *)
  all_goals first | (exfalso; omega) | skip
  all_goals (refine ⟨?_, ?_⟩ <;> first | trivial | rfl | exact Dr.refl _ | exact Dr.mk _ _ | (unfold uparse; (repeat' split) <;> first | (exfalso; omega) | rfl))
end Go.Proofs.Ytkoinkpolpccbaa
