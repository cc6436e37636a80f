/-
  Several texts joined: User, HsM.
-/
import Derived.Test.YtnohnnjeabehjaaGreatDoorProg
import Derived.Handy
import Derived.Test.YtnohnnjeabehjaaGreatDoorK01
import Derived.Test.YtnohnnjeabehjaaGreatDoorK21
set_option maxHeartbeats 400000
set_option linter.unusedVariables false
set_option linter.unusedSimpArgs false
namespace Go.Proofs.YtnohnnjeabehjaaGreatDoor
open Go.RowKit
def ufield (s : ByteArray) : ByteArray × ByteArray × Int :=
 if s.size = 0 then (⟨#[]⟩, ⟨#[]⟩, 0)
 else if B s 0 = 0 then (⟨#[]⟩, ⟨#[]⟩, 2)
 else if (s.size : Int) < 1 + B s 0 then (⟨#[]⟩, ⟨#[]⟩, 0)
 else (s.extract 1 (1 + B s 0).toNat, s.extract (1 + B s 0).toNat s.size, 1)
theorem ufield_any (s : ByteArray) (w : World) (hs : s.size <= maxLen) :
  Calls Tryz.prog 128 #[.string s] w fun e w' => e = .returned (.tuple #[.string (ufield s).1, .string (ufield s).2.1, .int .i64 (ufield s).2.2]) /\ Dr w w' := by
 replace hs := size_max hs
 have b1 := B_bd s 0
 go_enter Tryz.func128, Tryz.ntmps128
 go_wp2
 all_goals first | go_ret3 | (go_quiet (fail); go_wp2; go_ret3) | skip
 all_goals go_light
 all_goals (try simp only [decide_eq_true_eq, decide_eq_false_iff_not, bne_iff_ne, beq_iff_eq, ne_eq, bne_eq_false_iff_eq, beq_eq_false_iff_ne, Decidable.not_not, Bool.not_eq_true', Bool.not_eq_false'] at *)
 all_goals first | (exfalso; omega) | skip
 all_goals (refine ⟨?_, ?_⟩ <;> first | trivial | rfl | exact Dr.refl _ | exact Dr.mk _ _ | (unfold ufield; (repeat' split) <;> first | (exfalso; omega) | rfl))
def uparseP (s : ByteArray) : ByteArray × ByteArray × Int × Int :=
 if s.size = 0 then (⟨#[]⟩, ⟨#[]⟩, 0, 0)
 else if B s 0 ≠ 1 then (⟨#[]⟩, ⟨#[]⟩, 0, 2)
 else if (ufield (s.extract 1 s.size)).2.2 ≠ 1 then (⟨#[]⟩, ⟨#[]⟩, 0, (ufield (s.extract 1 s.size)).2.2)
 else if (ufield (ufield (s.extract 1 s.size)).2.1).2.2 ≠ 1 then (⟨#[]⟩, ⟨#[]⟩, 0, (ufield (ufield (s.extract 1 s.size)).2.1).2.2)
 else ((ufield (s.extract 1 s.size)).1, (ufield (ufield (s.extract 1 s.size)).2.1).1, (s.size : Int) - ((ufield (ufield (s.extract 1 s.size)).2.1).2.1.size : Int), 1)
theorem ufield_le (s : ByteArray) : (ufield s).2.1.size <= s.size := by
 unfold ufield
 (repeat' split) <;> first | exact extract_le _ _ _ | exact Nat.zero_le _
theorem uparseP_any (s : ByteArray) (w : World) (hs : s.size <= maxLen) :
  Calls Tryz.prog 103 #[.string s] w fun e w' => e = .returned (.tuple #[.string (uparseP s).1, .string (uparseP s).2.1, .int .i64 (uparseP s).2.2.1, .int .i64 (uparseP s).2.2.2]) /\ Dr w w' := by
 replace hs := size_max hs
 have l0 := extract_le s 1 s.size
 have l1 := ufield_le (s.extract 1 s.size)
 have k1 := fun w => ufield_any (s.extract 1 s.size) w (by unfold maxLen; omega)
 unfold uparseP
 generalize ufield (s.extract 1 s.size) = u1 at *
 obtain ⟨f1, r1, s1⟩ := u1
 dsimp only at *
 have l2 := ufield_le r1
 have k2 := fun w => ufield_any r1 w (by unfold maxLen; omega)
 generalize ufield r1 = u2 at *
 obtain ⟨f2, r2, s2⟩ := u2
 dsimp only at *
 have K1 := Lib.hid k1; clear k1
 have K2 := Lib.hid k2; clear k2
 by_cases h0 : s.size = 0
 ·have h0' : (s.size : Int) < 1 := by omega
  rw [if_pos h0]
  clear h0
  go_enter Tryz.func103, Tryz.ntmps103
  go_wp2_with fail
  go_returns
  exact ⟨rfl, Dr.refl _⟩
 rw [if_neg h0]
 have h0' : (1 : Int) <= s.size := by omega
 by_cases h1 : B s 0 = 1
 ·have h1' : (B s 0 != 1) = false := by simp [h1]
  rw [if_neg (by simp [h1])]
  clear h1
  by_cases h2 : s1 = 1
  ·subst h2
   rw [if_neg (by decide)]
   by_cases h3 : s2 = 1
   ·subst h3
    rw [if_neg (by decide)]
    go_enter Tryz.func103, Tryz.ntmps103
    go_wp2_with fail
    refine (K1.out _).mono ?_
    rintro e w1 ⟨rfl, n, rfl⟩
    go_wp2_with fail
    refine (K2.out _).mono ?_
    rintro e w1 ⟨rfl, m, rfl⟩
    go_wp2_with fail
    go_returns
    exact ⟨rfl, Dr.mk _ _⟩
   ·have h3' : (s2 != 1) = true := by simpa using h3
    rw [if_pos h3]
    clear h3
    go_enter Tryz.func103, Tryz.ntmps103
    go_wp2_with fail
    refine (K1.out _).mono ?_
    rintro e w1 ⟨rfl, n, rfl⟩
    go_wp2_with fail
    refine (K2.out _).mono ?_
    rintro e w1 ⟨rfl, m, rfl⟩
    go_wp2_with fail
    go_returns
    exact ⟨rfl, Dr.mk _ _⟩
  ·have h2' : (s1 != 1) = true := by simpa using h2
   rw [if_pos h2]
   clear h2
   go_enter Tryz.func103, Tryz.ntmps103
   go_wp2_with fail
   refine (K1.out _).mono ?_
   rintro e w1 ⟨rfl, n, rfl⟩
   go_wp2_with fail
   go_returns
   exact ⟨rfl, Dr.mk _ _⟩
 ·have h1' : (B s 0 != 1) = true := by simpa using h1
  rw [if_pos h1]
  clear h1
  go_enter Tryz.func103, Tryz.ntmps103
  go_wp2_with fail
  go_returns
  exact ⟨rfl, Dr.refl _⟩
def uparse (s : ByteArray) : ByteArray × ByteArray × Int × Int :=
 if s.size = 0 then (⟨#[]⟩, ⟨#[]⟩, 0, 0)
 else if B s 0 ≠ 1 then (⟨#[]⟩, ⟨#[]⟩, 0, 2)
 else if s.size < 2 then (⟨#[]⟩, ⟨#[]⟩, 0, 0)
 else if B s 1 = 0 then (⟨#[]⟩, ⟨#[]⟩, 0, 2)
 else if (s.size : Int) < 3 + B s 1 then (⟨#[]⟩, ⟨#[]⟩, 0, 0)
 else if B s (2 + B s 1).toNat = 0 then (⟨#[]⟩, ⟨#[]⟩, 0, 2)
 else if (s.size : Int) < 3 + B s 1 + B s (2 + B s 1).toNat then (⟨#[]⟩, ⟨#[]⟩, 0, 0)
 else (s.extract 2 (2 + B s 1).toNat, s.extract (3 + B s 1).toNat (3 + B s 1 + B s (2 + B s 1).toNat).toNat, 3 + B s 1 + B s (2 + B s 1).toNat, 1)
theorem extract_extract (s : ByteArray) (a b c d : Nat) (h : a + d <= b) : (s.extract a b).extract c d = s.extract (a + c) (a + d) := by
 apply BA_ext
 rw [data_extract, data_extract, data_extract, List.take_drop, List.drop_drop, List.take_take]
 rw [show min (a + d) b = a + d from by omega]
theorem ufield_0 {s : ByteArray} (h : s.size = 0) : ufield s = (⟨#[]⟩, ⟨#[]⟩, 0) := by unfold ufield; rw [if_pos h]
theorem ufield_2 {s : ByteArray} (h : s.size ≠ 0) (h1 : B s 0 = 0) : ufield s = (⟨#[]⟩, ⟨#[]⟩, 2) := by unfold ufield; rw [if_neg h, if_pos h1]
theorem ufield_1 {s : ByteArray} (h : s.size ≠ 0) (h1 : B s 0 ≠ 0) (h2 : (s.size : Int) < 1 + B s 0) : ufield s = (⟨#[]⟩, ⟨#[]⟩, 0) := by unfold ufield; rw [if_neg h, if_neg h1, if_pos h2]
theorem ufield_3 {s : ByteArray} (h : s.size ≠ 0) (h1 : B s 0 ≠ 0) (h2 : ¬ (s.size : Int) < 1 + B s 0) : ufield s = (s.extract 1 (1 + B s 0).toNat, s.extract (1 + B s 0).toNat s.size, 1) := by unfold ufield; rw [if_neg h, if_neg h1, if_neg h2]
theorem tail_field (s : ByteArray) (k : Nat) (hk : k < s.size) (n : Int) (hn : n = B s k) (h1 : n ≠ 0) (h2 : ¬ (s.size : Int) < k + 1 + n) (j : Nat) (hj : (j : Int) = k + 1 + n) :
  ufield (s.extract k s.size) = (s.extract (k + 1) j, s.extract j s.size, 1) := by
 have q := B_bd s k
 have z : (s.extract k s.size).size = s.size - k := by rw [ByteArray.size_extract]; omega
 have b : B (s.extract k s.size) 0 = n := by rw [B_extract _ _ _ _ (by omega), Nat.add_zero, hn]
 rw [ufield_3 (by omega) (by omega) (by omega), b, z, extract_extract _ _ _ _ _ (by omega), extract_extract _ _ _ _ _ (by omega),
  show k + (1 + n).toNat = j from by omega, show k + (s.size - k) = s.size from by omega]
theorem tail_field_0 (s : ByteArray) (k : Nat) (hk : s.size <= k) : ufield (s.extract k s.size) = (⟨#[]⟩, ⟨#[]⟩, 0) :=
 ufield_0 (by rw [ByteArray.size_extract]; omega)
theorem tail_field_2 (s : ByteArray) (k : Nat) (hk : k < s.size) (h1 : B s k = 0) : ufield (s.extract k s.size) = (⟨#[]⟩, ⟨#[]⟩, 2) := by
 have b : B (s.extract k s.size) 0 = 0 := by rw [B_extract _ _ _ _ (by omega), Nat.add_zero, h1]
 exact ufield_2 (by rw [ByteArray.size_extract]; omega) b
theorem tail_field_1 (s : ByteArray) (k : Nat) (hk : k < s.size) (h1 : B s k ≠ 0) (h2 : (s.size : Int) < k + 1 + B s k) : ufield (s.extract k s.size) = (⟨#[]⟩, ⟨#[]⟩, 0) := by
 have b : B (s.extract k s.size) 0 = B s k := by rw [B_extract _ _ _ _ (by omega), Nat.add_zero]
 have z : (s.extract k s.size).size = s.size - k := by rw [ByteArray.size_extract]; omega
 exact ufield_1 (by omega) (by omega) (by omega)
theorem uparse_eq (s : ByteArray) : uparseP s = uparse s := by
 have q1 := B_bd s 1
 have q2 := B_bd s (2 + B s 1).toNat
 unfold uparseP uparse
 by_cases h0 : s.size = 0
 ·rw [if_pos h0, if_pos h0]
 rw [if_neg h0, if_neg h0]
 by_cases h1 : B s 0 ≠ 1
 ·rw [if_pos h1, if_pos h1]
 rw [if_neg h1, if_neg h1]
 by_cases h2 : s.size < 2
 ·rw [if_pos h2, tail_field_0 s 1 (by omega), if_pos (by decide)]
 rw [if_neg h2]
 by_cases h3 : B s 1 = 0
 ·rw [if_pos h3, tail_field_2 s 1 (by omega) h3, if_pos (by decide)]
 rw [if_neg h3]
 by_cases h4 : (s.size : Int) < 2 + B s 1
 ·have h4' : (s.size : Int) < 3 + B s 1 := by omega
  rw [if_pos h4', tail_field_1 s 1 (by omega) h3 (by omega), if_pos (by decide)]
 have e := tail_field s 1 (by omega) (B s 1) rfl h3 (by omega) (2 + B s 1).toNat (by omega)
 generalize hj : (2 + B s 1).toNat = j at *
 generalize B s 1 = n at *
 rw [e]
 dsimp only
 rw [if_neg (by simp)]
 by_cases h5 : (s.size : Int) < 3 + n
 ·rw [if_pos h5, tail_field_0 s j (by omega), if_pos (by decide)]
 rw [if_neg h5]
 by_cases h6 : B s j = 0
 ·rw [if_pos h6, tail_field_2 s j (by omega) h6, if_pos (by decide)]
 rw [if_neg h6]
 by_cases h7 : (s.size : Int) < 3 + n + B s j
 ·rw [if_pos h7, tail_field_1 s j (by omega) h6 (by omega), if_pos (by decide)]
 rw [if_neg h7]
 rw [tail_field s j (by omega) (B s j) rfl h6 (by omega) (3 + n + B s j).toNat (by omega)]
 dsimp only
 rw [if_neg (by simp)]
 have z3 : (s.extract (3 + n + B s j).toNat s.size).size = s.size - (3 + n + B s j).toNat := by rw [ByteArray.size_extract]; omega
 rw [z3, show (s.size : Int) - ((s.size - (3 + n + B s j).toNat : Nat) : Int) = 3 + n + B s j from by omega, show (3 + n).toNat = j + 1 from by omega]
theorem uparse_any (s : ByteArray) (w : World) (hs : s.size <= maxLen) :
  Calls Tryz.prog 103 #[.string s] w fun e w' => e = .returned (.tuple #[.string (uparse s).1, .string (uparse s).2.1, .int .i64 (uparse s).2.2.1, .int .i64 (uparse s).2.2.2]) /\ Dr w w' := by
 have h := uparseP_any s w hs
 rw [uparse_eq] at h
 exact h
theorem uparseR_any (s : ByteArray) (w : World) (hs : s.size <= maxLen) :
  Calls Tryz.prog 110 #[.string s] w fun e w' => e = .returned (.tuple #[.string (uparse s).1, .string (uparse s).2.1, .int .i64 (uparse s).2.2.1, .int .i64 (uparse s).2.2.2]) /\ Dr w w' := by
 replace hs := size_max hs
 have b1 := B_bd s 1
 have b2 := B_bd s (2 + B s 1).toNat
 go_enter Tryz.func110, Tryz.ntmps110
 go_wp2
 all_goals first | go_returns | (go_quiet (fail); go_wp2; go_returns) | skip
 all_goals go_light
 all_goals (try simp only [decide_eq_true_eq, decide_eq_false_iff_not, bne_iff_ne, beq_iff_eq, ne_eq, bne_eq_false_iff_eq, beq_eq_false_iff_ne, Decidable.not_not, Bool.not_eq_true', Bool.not_eq_false'] at *)
 all_goals first | (exfalso; omega) | skip
 all_goals (refine ⟨?_, ?_⟩ <;> first | trivial | rfl | exact Dr.refl _ | exact Dr.mk _ _ | (unfold uparse; (repeat' split) <;> first | (exfalso; omega) | rfl))
theorem app_le (s r : ByteArray) : s.size <= (s ++ r).size := by rw [ByteArray.size_append]; omega
theorem B_app {s : ByteArray} (r : ByteArray) {j : Nat} (h : j < s.size) : B (s ++ r) j = B s j := B_append_left _ _ _ h
theorem ext_app {s : ByteArray} (r : ByteArray) {a b : Nat} (h : b <= s.size) : (s ++ r).extract a b = s.extract a b := by
 refine BA_B (by rw [ByteArray.size_extract, ByteArray.size_extract, ByteArray.size_append]; omega) fun j hj => ?_
 rw [ByteArray.size_extract, ByteArray.size_append] at hj
 rw [B_extract _ _ _ _ (by omega), B_extract _ _ _ _ (by omega), B_app r (by omega)]
theorem gparse_app {s : ByteArray} (r : ByteArray) (h : (gparse s).2.2 ≠ 0) : gparse (s ++ r) = gparse s := by
 have hb := B_bd s 1
 unfold gparse at h ⊢
 have hz : (s ++ r).size = s.size + r.size := ByteArray.size_append
 by_cases h0 : s.size = 0
 ·rw [if_pos h0] at h; exact absurd rfl h
 rw [if_neg h0] at h ⊢
 rw [if_neg (show ¬ (s ++ r).size = 0 by omega), B_app r (show 0 < s.size by omega)]
 by_cases h1 : B s 0 ≠ 5
 ·rw [if_pos h1, if_pos h1]
 rw [if_neg h1] at h ⊢
 rw [if_neg h1]
 by_cases h2 : s.size < 2
 ·rw [if_pos h2] at h; exact absurd rfl h
 rw [if_neg h2] at h ⊢
 rw [if_neg (show ¬ (s ++ r).size < 2 by omega), B_app r (show 1 < s.size by omega)]
 by_cases h3 : B s 1 = 0
 ·rw [if_pos h3, if_pos h3]
 rw [if_neg h3] at h ⊢
 rw [if_neg h3]
 by_cases h4 : (s.size : Int) < 2 + B s 1
 ·rw [if_pos h4] at h; exact absurd rfl h
 rw [if_neg h4, if_neg (show ¬ ((s ++ r).size : Int) < 2 + B s 1 by omega), ext_app r (by omega)]
theorem gparse_n (s : ByteArray) : 0 <= (gparse s).2.1 /\ (gparse s).2.1 <= s.size := by
 have hb := B_bd s 1
 unfold gparse
 (repeat' split) <;> simp only <;> omega
theorem uparse_app {s : ByteArray} (r : ByteArray) (h : (uparse s).2.2.2 ≠ 0) : uparse (s ++ r) = uparse s := by
 have hb := B_bd s 1
 have hb2 := B_bd s (2 + B s 1).toNat
 unfold uparse at h ⊢
 have hz : (s ++ r).size = s.size + r.size := ByteArray.size_append
 by_cases h0 : s.size = 0
 ·rw [if_pos h0] at h; exact absurd rfl h
 rw [if_neg h0] at h ⊢
 rw [if_neg (show ¬ (s ++ r).size = 0 by omega), B_app r (show 0 < s.size by omega)]
 by_cases h1 : B s 0 ≠ 1
 ·rw [if_pos h1, if_pos h1]
 rw [if_neg h1] at h ⊢
 rw [if_neg h1]
 by_cases h2 : s.size < 2
 ·rw [if_pos h2] at h; exact absurd rfl h
 rw [if_neg h2] at h ⊢
 rw [if_neg (show ¬ (s ++ r).size < 2 by omega), B_app r (show 1 < s.size by omega)]
 by_cases h3 : B s 1 = 0
 ·rw [if_pos h3, if_pos h3]
 rw [if_neg h3] at h ⊢
 rw [if_neg h3]
 by_cases h4 : (s.size : Int) < 3 + B s 1
 ·rw [if_pos h4] at h; exact absurd rfl h
 rw [if_neg h4] at h ⊢
 rw [if_neg (show ¬ ((s ++ r).size : Int) < 3 + B s 1 by omega), B_app r (show (2 + B s 1).toNat < s.size by omega)]
 by_cases h5 : B s (2 + B s 1).toNat = 0
 ·rw [if_pos h5, if_pos h5]
 rw [if_neg h5] at h ⊢
 rw [if_neg h5]
 by_cases h6 : (s.size : Int) < 3 + B s 1 + B s (2 + B s 1).toNat
 ·rw [if_pos h6] at h; exact absurd rfl h
 rw [if_neg h6, if_neg (show ¬ ((s ++ r).size : Int) < 3 + B s 1 + B s (2 + B s 1).toNat by omega), ext_app r (by omega), ext_app r (by omega)]
theorem uparse_n (s : ByteArray) : 0 <= (uparse s).2.2.1 /\ (uparse s).2.2.1 <= s.size := by
 have hb := B_bd s 1
 have hb2 := B_bd s (2 + B s 1).toNat
 unfold uparse
 (repeat' split) <;> simp only <;> omega
theorem finAt_from {s : ByteArray} {i : Nat} (h : (finAt s i).2.2 ≠ 0) : ∀ d, finAt s (i + d) = finAt s i
 | 0 => rfl
 | d + 1 => by
  have ih := finAt_from h d
  rw [← Nat.add_assoc, finAt_stay (by rw [ih]; exact h), ih]
theorem fin_app {s : ByteArray} (r : ByteArray) (h : (fin s).2.2 ≠ 0) : fin (s ++ r) = fin s := by
 have e1 : (s ++ r).extract 0 s.size = s := ext_left s r
 have e2 : finAt (s ++ r) s.size = fin s := by rw [← fin_pre (s ++ r) (app_le s r), e1]
 have hz : (s ++ r).size = s.size + r.size := ByteArray.size_append
 rw [fin_all (s ++ r), hz, finAt_from (by rw [e2]; exact h), e2]
theorem fin_n (s : ByteArray) : 0 <= (fin s).2.1 /\ (fin s).2.1 <= s.size := by
 unfold fin
 have hi := inv_st s (min s.size 512) (by unfold maxLen; omega)
 generalize st s (min s.size 512) = x at *
 cases x with
 | mal => exact ⟨Int.le_refl _, by show (0 : Int) <= _; omega⟩
 | run n f h b => unfold fin1; simp only; split <;> simp only <;> omega
 | done h m =>
  have h2 : 1 <= m /\ m <= min s.size 512 /\ okC h := hi
  exact ⟨by show (0 : Int) <= m; omega, by show (m : Int) <= _; omega⟩
def pad16 (s : ByteArray) (a n : Nat) : List Int := (List.range 16).map fun j => if j < n then B s (a + j) else 0
def tgp (s : ByteArray) : Tgt × Int × Int :=
 if s.size = 0 then (ztgt, 0, 0)
 else if B s 0 = 1 then (if s.size < 7 then (ztgt, 0, 0) else ((⟨#[]⟩, (false, pad16 s 1 4), B s 5 * 256 + B s 6), 7, 1))
 else if B s 0 = 4 then (if s.size < 19 then (ztgt, 0, 0) else ((⟨#[]⟩, (true, pad16 s 1 16), B s 17 * 256 + B s 18), 19, 1))
 else if B s 0 = 3 then
  (if s.size < 2 then (ztgt, 0, 0)
  else if B s 1 = 0 then (ztgt, 0, 2)
  else if (s.size : Int) < 4 + B s 1 then (ztgt, 0, 0)
  else ((s.extract 2 (2 + B s 1).toNat, zadr, B s (2 + B s 1).toNat * 256 + B s (3 + B s 1).toNat), 4 + B s 1, 1))
 else (ztgt, 0, 2)
theorem pad16_app {s : ByteArray} (r : ByteArray) {a n : Nat} (h : a + n <= s.size) : pad16 (s ++ r) a n = pad16 s a n := by
 unfold pad16
 refine List.map_congr_left fun j _ => ?_
 split
 ·rw [B_app r (by omega)]
 ·rfl
theorem tgp_app {s : ByteArray} (r : ByteArray) (h : (tgp s).2.2 ≠ 0) : tgp (s ++ r) = tgp s := by
 have hb := B_bd s 1
 have hz : (s ++ r).size = s.size + r.size := ByteArray.size_append
 unfold tgp at h ⊢
 by_cases h0 : s.size = 0
 ·rw [if_pos h0] at h; exact absurd rfl h
 rw [if_neg h0] at h ⊢
 rw [if_neg (show ¬ (s ++ r).size = 0 by omega), B_app r (show 0 < s.size by omega)]
 by_cases h1 : B s 0 = 1
 ·rw [if_pos h1] at h ⊢
  rw [if_pos h1]
  by_cases q : s.size < 7
  ·rw [if_pos q] at h; exact absurd rfl h
  ·rw [if_neg q, if_neg (by omega), pad16_app r (by omega), B_app r (by omega), B_app r (by omega)]
 rw [if_neg h1] at h ⊢
 rw [if_neg h1]
 by_cases h2 : B s 0 = 4
 ·rw [if_pos h2] at h ⊢
  rw [if_pos h2]
  by_cases q : s.size < 19
  ·rw [if_pos q] at h; exact absurd rfl h
  ·rw [if_neg q, if_neg (by omega), pad16_app r (by omega), B_app r (by omega), B_app r (by omega)]
 rw [if_neg h2] at h ⊢
 rw [if_neg h2]
 by_cases h3 : B s 0 = 3
 ·rw [if_pos h3] at h ⊢
  rw [if_pos h3]
  by_cases q : s.size < 2
  ·rw [if_pos q] at h; exact absurd rfl h
  rw [if_neg q] at h ⊢
  rw [if_neg (show ¬ (s ++ r).size < 2 by omega), B_app r (show 1 < s.size by omega)]
  by_cases q2 : B s 1 = 0
  ·rw [if_pos q2, if_pos q2]
  rw [if_neg q2] at h ⊢
  rw [if_neg q2]
  by_cases q3 : (s.size : Int) < 4 + B s 1
  ·rw [if_pos q3] at h; exact absurd rfl h
  ·rw [if_neg q3, if_neg (by omega), ext_app r (by omega), B_app r (by omega), B_app r (by omega)]
 ·rw [if_neg h3, if_neg h3]
theorem tgp_n (s : ByteArray) : 0 <= (tgp s).2.1 /\ (tgp s).2.1 <= s.size := by
 have hb := B_bd s 1
 unfold tgp
 (repeat' split) <;> simp only <;> omega
theorem tgp_st (s : ByteArray) : (tgp s).2.2 = 0 ∨ (tgp s).2.2 = 1 ∨ (tgp s).2.2 = 2 := by
 unfold tgp
 (repeat' split) <;> simp
def reqTail (t : Tgt) (n : Int) (cmd : Int) : Tgt × Int × Int × Int :=
 if cmd ≠ 1 then (ztgt, 7, n, 1)
 else if t.1.size ≠ 0 /\ (nameP t.1).2 = false then (ztgt, 1, n, 1)
 else if t.2.2 = 0 then (ztgt, 1, n, 1)
 else ((if t.1.size = 0 then t.1 else (nameP t.1).1, t.2), 0, n, 1)
def rqp (s : ByteArray) : Tgt × Int × Int × Int :=
 if (0 < s.size /\ B s 0 ≠ 5) ∨ (2 < s.size /\ B s 2 ≠ 0) then (ztgt, 0, 0, 2)
 else if s.size < 4 then (ztgt, 0, 0, 0)
 else if ¬ (B s 3 = 1 ∨ B s 3 = 3 ∨ B s 3 = 4) then (ztgt, 8, 4, 1)
 else if (tgp (s.extract 3 s.size)).2.2 ≠ 1 then (ztgt, 0, 0, (tgp (s.extract 3 s.size)).2.2)
 else reqTail (tgp (s.extract 3 s.size)).1 ((tgp (s.extract 3 s.size)).2.1 + 3) (B s 1)
theorem reqTail_st (t : Tgt) (n c : Int) : (reqTail t n c).2.2.2 = 1 /\ (reqTail t n c).2.2.1 = n := by
 unfold reqTail
 (repeat' split) <;> exact ⟨rfl, rfl⟩
theorem rqp_app {s : ByteArray} (r : ByteArray) (h : (rqp s).2.2.2 ≠ 0) : rqp (s ++ r) = rqp s := by
 have hz : (s ++ r).size = s.size + r.size := ByteArray.size_append
 unfold rqp at h ⊢
 by_cases h0 : (0 < s.size /\ B s 0 ≠ 5) ∨ (2 < s.size /\ B s 2 ≠ 0)
 ·rw [if_pos h0, if_pos (by
   rcases h0 with q | q
   ·left; exact ⟨by omega, by rw [B_app r q.1]; exact q.2⟩
   ·right; exact ⟨by omega, by rw [B_app r q.1]; exact q.2⟩)]
 rw [if_neg h0] at h ⊢
 by_cases h1 : s.size < 4
 ·rw [if_pos h1] at h; exact absurd rfl h
 rw [if_neg h1] at h ⊢
 have hx : (s ++ r).extract 3 (s ++ r).size = s.extract 3 s.size ++ r := by
  refine BA_B (by rw [ByteArray.size_extract, ByteArray.size_append, ByteArray.size_append, ByteArray.size_extract]; omega) fun j hj => ?_
  rw [ByteArray.size_extract] at hj
  rw [B_extract _ _ _ _ (by omega)]
  have hes : (s.extract 3 s.size).size = s.size - 3 := by rw [ByteArray.size_extract]; omega
  rcases Nat.lt_or_ge (3 + j) s.size with q | q
  ·rw [B_append_left _ _ _ q, B_append_left _ _ _ (by omega), B_extract _ _ _ _ (by omega)]
  ·rw [B_append_right _ _ _ q, B_append_right _ _ _ (by omega), hes, show 3 + j - s.size = j - (s.size - 3) by omega]
 rw [if_neg (show ¬ ((0 < (s ++ r).size /\ B (s ++ r) 0 ≠ 5) ∨ (2 < (s ++ r).size /\ B (s ++ r) 2 ≠ 0)) by
  rw [B_app r (by omega), B_app r (by omega)]
  intro q
  refine h0 ?_
  rcases q with q | q
  ·left; exact ⟨by omega, q.2⟩
  ·right; exact ⟨by omega, q.2⟩), if_neg (show ¬ (s ++ r).size < 4 by omega), B_app r (show 3 < s.size by omega), B_app r (show 1 < s.size by omega), hx]
 by_cases h2 : ¬ (B s 3 = 1 ∨ B s 3 = 3 ∨ B s 3 = 4)
 ·rw [if_pos h2, if_pos h2]
 rw [if_neg h2] at h ⊢
 rw [if_neg h2]
 by_cases h3 : (tgp (s.extract 3 s.size)).2.2 = 0
 ·rw [if_pos (by omega)] at h; exact absurd h3 h
 rw [tgp_app r h3]
theorem rqp_n (s : ByteArray) : 0 <= (rqp s).2.2.1 /\ (rqp s).2.2.1 <= s.size := by
 have ht := tgp_n (s.extract 3 s.size)
 have hx := (reqTail_st (tgp (s.extract 3 s.size)).1 ((tgp (s.extract 3 s.size)).2.1 + 3) (B s 1)).2
 have hes : (s.extract 3 s.size).size <= s.size - 3 := by rw [ByteArray.size_extract]; omega
 unfold rqp
 split
 ·simp only; omega
 ·split
  ·simp only; omega
  ·split
   ·simp only; omega
   ·split
    ·simp only; omega
    ·rw [hx]; omega
abbrev Hst := Int × Int × Int × Int × Tgt × Int
def zhst : Hst := (0, 0, 0, -1, ztgt, 0)
abbrev Tns := List (ByteArray × ByteArray)
def authT (u p : ByteArray) : Tns -> Nat -> Option Nat
 | [], _ => none
 | x :: l, i => if x.1 = u /\ x.2 = p then some i else authT u p l (i + 1)
def hfail (s : Hst) (why : Int) : Hst := (5, 2, s.2.2.1, s.2.2.2.1, s.2.2.2.2.1, why)
def hgo (s : Hst) (stage : Int) : Hst := (stage, s.2)
def hdone (s : Hst) (t : Tgt) : Hst := (5, 1, s.2.2.1, s.2.2.2.1, t, s.2.2.2.2.2)
def rep8 (c : Int) : ByteArray := str3 5 c 0 ++ ⟨#[1, 0, 0, 0, 0, 0, 0]⟩
def why8 (c : Int) : Int := if c = 7 then 8 else if c = 8 then 9 else 10
structure Txt where
 t400 : ByteArray
 t407 : ByteArray
def hstep (x : Txt) (tn : Tns) (s : Hst) (z : ByteArray) : Option (Int × ByteArray × Hst) :=
 if s.1 = 0 then
  if z.size = 0 then none
  else if B z 0 = 5 then some (0, ⟨#[]⟩, (1, s.2.1, 1, s.2.2.2))
  else if B z 0 = 67 then some (0, ⟨#[]⟩, (4, s.2.1, 2, s.2.2.2))
  else some (0, x.t400, hfail s 10)
 else if s.1 = 1 then
  if (gparse z).2.2 = 0 then none
  else if (gparse z).2.2 = 2 then some (0, str2 5 255, hfail s 10)
  else if gsel (gparse z).1 2 = 255 then some ((gparse z).2.1, str2 5 255, hfail s 11)
  else some ((gparse z).2.1, str2 5 2, hgo s 2)
 else if s.1 = 2 then
  if (uparse z).2.2.2 = 0 then none
  else if (uparse z).2.2.2 = 2 then some (0, str2 1 1, hfail s 10)
  else match authT (uparse z).1 (uparse z).2.1 tn 0 with
   | none => some ((uparse z).2.2.1, str2 1 1, hfail s 11)
   | some i => some ((uparse z).2.2.1, str2 1 0, (3, s.2.1, s.2.2.1, (i : Int), s.2.2.2.2))
 else if s.1 = 3 then
  if (rqp z).2.2.2 = 0 then none
  else if (rqp z).2.2.2 = 2 then some (0, rep8 1, hfail s 10)
  else if (rqp z).2.1 = 0 then some ((rqp z).2.2.1, ⟨#[]⟩, hdone s (rqp z).1)
  else some ((rqp z).2.2.1, rep8 (rqp z).2.1, hfail s (why8 (rqp z).2.1))
 else
  if (fin z).2.2 = 0 then none
  else if (fin z).2.2 = 2 then some (0, x.t400, hfail s 10)
  else match (if (fin z).1.2.1 = true then authT (fin z).1.2.2.1 (fin z).1.2.2.2 tn 0 else none) with
   | none => some ((fin z).2.1, x.t407, hfail s 11)
   | some i => some ((fin z).2.1, ⟨#[]⟩, (5, 1, s.2.2.1, (i : Int), (fin z).1.1, s.2.2.2.2.2))
theorem hstep_app {x : Txt} {tn : Tns} {s : Hst} {z : ByteArray} (r : ByteArray) {o : Int × ByteArray × Hst} (h : hstep x tn s z = some o) : hstep x tn s (z ++ r) = some o := by
 have hz : (z ++ r).size = z.size + r.size := ByteArray.size_append
 unfold hstep at h ⊢
 split
 ·rename_i h0
  rw [if_pos h0] at h
  by_cases q : z.size = 0
  ·rw [if_pos q] at h; cases h
  ·rw [if_neg q] at h
   rw [if_neg (by omega), B_app r (by omega)]
   exact h
 ·rename_i h0
  rw [if_neg h0] at h
  split
  ·rename_i h1
   rw [if_pos h1] at h
   by_cases q : (gparse z).2.2 = 0
   ·rw [if_pos q] at h; cases h
   ·rw [gparse_app r q]; exact h
  ·rename_i h1
   rw [if_neg h1] at h
   split
   ·rename_i h2
    rw [if_pos h2] at h
    by_cases q : (uparse z).2.2.2 = 0
    ·rw [if_pos q] at h; cases h
    ·rw [uparse_app r q]; exact h
   ·rename_i h2
    rw [if_neg h2] at h
    split
    ·rename_i h3
     rw [if_pos h3] at h
     by_cases q : (rqp z).2.2.2 = 0
     ·rw [if_pos q] at h; cases h
     ·rw [rqp_app r q]; exact h
    ·rename_i h3
     rw [if_neg h3] at h
     by_cases q : (fin z).2.2 = 0
     ·rw [if_pos q] at h; cases h
     ·rw [fin_app r q]; exact h
theorem hstep_n {x : Txt} {tn : Tns} {s : Hst} {z : ByteArray} {o : Int × ByteArray × Hst} (h : hstep x tn s z = some o) : 0 <= o.1 /\ o.1 <= z.size := by
 have hg := gparse_n z
 have hu := uparse_n z
 have hr := rqp_n z
 have hf := fin_n z
 unfold hstep at h
 (repeat' split at h) <;> first | (cases h; done) | (injection h with h; rw [← h]; simp only; omega)
theorem hstep_up {x : Txt} {tn : Tns} {s : Hst} {z : ByteArray} {o : Int × ByteArray × Hst} (h0 : 0 <= s.1 /\ s.1 < 5) (h : hstep x tn s z = some o) : s.1 < o.2.2.1 /\ o.2.2.1 <= 5 := by
 unfold hstep hfail hgo hdone at h
 (repeat' split at h) <;> first | (cases h; done) | (injection h with h; rw [← h]; simp only; omega)
end Go.Proofs.YtnohnnjeabehjaaGreatDoor
