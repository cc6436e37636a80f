/-
  Contracts of the parsers of numbers: num.Parse, and the reference's ParseDecimal and parseGroup.
-/
import Derived.Test.YtpdoddelnahlnaaDoorProg
import Derived.Test.YtpdoddelnahlnaaDoorIpSpec
import Derived.Handy
set_option linter.unusedSimpArgs false
set_option linter.unusedVariables false
namespace Go.Proofs.YtpdoddelnahlnaaDoor
open Go.RowKit

theorem pow9 {k : Nat} (h : k ≤ 9) : (10 : Int) ^ k ≤ 1000000000 := by
  obtain ⟨j, hj⟩ : ∃ j, 9 = k + j := ⟨9 - k, by omega⟩
  have e : (10 : Int) ^ 9 = 10 ^ k * 10 ^ j := by rw [hj, Int.pow_add]
  have e2 : (1 : Int) ≤ 10 ^ j := Int.pow_pos (by decide)
  have e3 : (0 : Int) ≤ 10 ^ k := Int.le_of_lt (Int.pow_pos (by decide))
  have e4 : (10 : Int) ^ k * 1 ≤ 10 ^ k * 10 ^ j := Int.mul_le_mul_of_nonneg_left e2 e3
  have e5 : (10 : Int) ^ 9 = 1000000000 := by decide
  omega
theorem u8_sub {x c : Int} (h0 : 0 ≤ x) (h1 : x < 256) (hc : c ≤ x) (c0 : 0 ≤ c) : IntKind.u8.wrap (x - c) = x - c := by
  have : ∀ n : Int, IntKind.u8.wrap n = n % 256 := fun n => by simp [IntKind.wrap, IntKind.bits, IntKind.signed]
  rw [this]; omega

theorem pow4 {k : Nat} (h : k ≤ 4) : (16 : Int) ^ k ≤ 65536 := by
  match k, h with
  | 0, _ => decide
  | 1, _ => decide
  | 2, _ => decide
  | 3, _ => decide
  | 4, _ => decide
theorem allHex_mono (s : ByteArray) : ∀ k j, j ≤ k → allHex s k = true → allHex s j = true
  | 0, j, hj, h => by obtain rfl : j = 0 := by omega
                      exact h
  | k + 1, j, hj, h => by
    by_cases e : j = k + 1
    · subst e; exact h
    · simp only [allHex, Bool.and_eq_true] at h
      exact allHex_mono s k j (by omega) h.1
set_option maxRecDepth 4000 in
set_option maxHeartbeats 1000000 in
theorem num_any (s : ByteArray) (lo hi : Int) (w : World) (hs : s.size ≤ maxLen) :
    Calls Tryd.prog 24 #[.string s, .int .i64 lo, .int .i64 hi] w fun e w' => e = .returned (.tuple #[.int .i64 (numP s lo hi).1, .bool (numP s lo hi).2]) ∧ w = w' := by
  replace hs := size_max hs
  have b0 := B_bd s 0
  go_enter Tryd.func24, Tryd.ntmps24
  by_cases h1 : (s.size : Int) < 1
  · have e : numP s lo hi = (0, false) := by unfold numP; rw [if_pos (by omega)]
    rw [e]; go_wp2; go_ret2; exact ⟨rfl, rfl⟩
  by_cases h2 : (9 : Int) < s.size
  · have e : numP s lo hi = (0, false) := by unfold numP; rw [if_pos (by omega)]
    rw [e]; go_wp2; go_ret2; exact ⟨rfl, rfl⟩
  by_cases h3 : 1 < s.size ∧ B s 0 = 48
  · have e : numP s lo hi = (0, false) := by unfold numP; rw [if_pos (by omega)]
    have h4 : (B s 0 == 48) = true := by simpa using h3.2
    have h5 := h3.1
    rw [e]; clear h3; go_wp2; go_ret2; exact ⟨rfl, rfl⟩
  have en : numP s lo hi = if allDig s s.size = false then (0, false) else if dval s s.size < lo ∨ hi < dval s s.size then (0, false) else (dval s s.size, true) := by unfold numP; rw [if_neg (by omega)]
  have EN := Lib.hid en; clear en
  by_cases h5 : (1 : Int) < s.size
  all_goals first | have h4 : (B s 0 == 48) = false := by (rw [beq_eq_false_iff_ne]; intro h; exact h3 ⟨by omega, h⟩) | skip
  all_goals clear h3
  all_goals go_wp2_with fail
  all_goals go_loop [8, 9, 29] (fun n i c => ∃ k : Nat, k ≤ s.size ∧ c = .int .i64 k ∧ n = .int .i64 (dval s k) ∧ allDig s k = true) (fun _ _ c => s.size - (intOf c).toNat)
  all_goals first | (case atStart => exact ⟨0, Nat.zero_le _, rfl, rfl, rfl⟩) | skip
  all_goals (
    case round =>
      obtain ⟨k, hk, rfl, rfl, hd⟩ := hrel
      have HD := Lib.hid hd; clear hd
      have hv := dval_bd s k HD.out
      have hp : (10 : Int) ^ k ≤ 1000000000 := pow9 (by omega)
      have hv1 : 0 ≤ dval s k := hv.1
      have hv2 : dval s k < 1000000000 := by omega
      clear hv hp
      have bk := B_bd s k
      by_cases hlt : k < s.size
      · by_cases hdg : 48 ≤ B s k ∧ B s k ≤ 57
        · have e8 := u8_sub bk.1 bk.2 hdg.1 (by decide)
          have hg1 := hdg.1
          have hg2 := hdg.2
          have HDG : Hid (dig (B s k) = true) := Lib.hid (by unfold dig; exact decide_eq_true hdg)
          clear hdg
          go_wp2_with fail
          go_round
          case rel => exact ⟨k + 1, by omega, by go_num, by rw [dval], by rw [allDig, HD.out, HDG.out]; rfl⟩
          case measure => simp [intOf]; omega
        · have e : numP s lo hi = (0, false) := by
            rw [EN.out, if_pos]
            cases h : allDig s s.size with
            | false => rfl
            | true =>
              have := allDig_mono s s.size (k + 1) (by omega) h
              simp only [allDig, dig, Bool.and_eq_true, decide_eq_true_eq] at this
              exact absurd this.2 hdg
          have E := Lib.hid e; clear e
          by_cases hg : B s k < 48
          · clear hdg; go_wp2_with fail; go_ret2; exact ⟨by rw [E.out]; rfl, rfl⟩
          · have hg2 : 57 < B s k := by omega
            clear hdg; go_wp2_with fail; go_ret2; exact ⟨by rw [E.out]; rfl, rfl⟩
      · obtain rfl : k = s.size := by omega
        have e : numP s lo hi = if dval s s.size < lo ∨ hi < dval s s.size then (0, false) else (dval s s.size, true) := by rw [EN.out, HD.out]; rfl
        by_cases hr : dval s s.size < lo ∨ hi < dval s s.size
        · rw [if_pos hr] at e; have E := Lib.hid e; clear e
          rcases hr with hr | hr
          · go_wp2_with fail; go_ret2; exact ⟨by rw [E.out]; rfl, rfl⟩
          · by_cases hr2 : dval s s.size < lo
            · go_wp2_with fail; go_ret2; exact ⟨by rw [E.out]; rfl, rfl⟩
            · go_wp2_with fail; go_ret2; exact ⟨by rw [E.out]; rfl, rfl⟩
        · rw [if_neg hr] at e; have E := Lib.hid e; clear e
          have hr1 : lo ≤ dval s s.size := by omega
          have hr2 : dval s s.size ≤ hi := by omega
          clear hr
          go_wp2_with fail; go_ret2; exact ⟨by rw [E.out]; rfl, rfl⟩)
set_option maxRecDepth 4000 in
set_option maxHeartbeats 1000000 in
theorem decP_any (s : ByteArray) (hi : Int) (w : World) (hs : s.size ≤ maxLen) :
    Calls Tryd.prog 25 #[.string s, .int .i64 hi] w fun e w' => e = .returned (.int .i64 (decP s hi)) ∧ w = w' := by
  replace hs := size_max hs
  have b0 := B_bd s 0
  go_enter Tryd.func25, Tryd.ntmps25
  by_cases h1 : (s.size : Int) < 1
  · have e : decP s hi = -1 := by unfold decP; rw [if_pos (by omega)]
    rw [e]; go_wp2; go_ret; exact ⟨rfl, rfl⟩
  by_cases h2 : (6 : Int) < s.size
  · have e : decP s hi = -1 := by unfold decP; rw [if_pos (by omega)]
    rw [e]; go_wp2; go_ret; exact ⟨rfl, rfl⟩
  by_cases h3 : 1 < s.size ∧ B s 0 = 48
  · have e : decP s hi = -1 := by unfold decP; rw [if_pos (by omega)]
    have h4 : (B s 0 == 48) = true := by simpa using h3.2
    have h5 := h3.1
    rw [e]; clear h3; go_wp2; go_ret; exact ⟨rfl, rfl⟩
  have en : decP s hi = if allDig s s.size = false then -1 else if hi < dval s s.size then -1 else dval s s.size := by unfold decP; rw [if_neg (by omega)]
  have EN := Lib.hid en; clear en
  by_cases h5 : (1 : Int) < s.size
  all_goals first | have h4 : (B s 0 == 48) = false := by (rw [beq_eq_false_iff_ne]; intro h; exact h3 ⟨by omega, h⟩) | skip
  all_goals clear h3
  all_goals go_wp2_with fail
  all_goals go_loop [5, 6] (fun n c => ∃ k : Nat, k ≤ s.size ∧ c = .int .i64 k ∧ n = .int .i64 (dval s k) ∧ allDig s k = true) (fun _ c => s.size - (intOf c).toNat)
  all_goals first | (case atStart => exact ⟨0, Nat.zero_le _, rfl, rfl, rfl⟩) | skip
  all_goals (
    case round =>
      obtain ⟨k, hk, rfl, rfl, hd⟩ := hrel
      have HD := Lib.hid hd; clear hd
      have hv := dval_bd s k HD.out
      have hp : (10 : Int) ^ k ≤ 1000000000 := pow9 (by omega)
      have hv1 : 0 ≤ dval s k := hv.1
      have hv2 : dval s k < 1000000000 := by omega
      clear hv hp
      have bk := B_bd s k
      by_cases hlt : k < s.size
      · by_cases hdg : 48 ≤ B s k ∧ B s k ≤ 57
        · have e8 := u8_sub bk.1 bk.2 hdg.1 (by decide)
          have hg1 := hdg.1
          have hg2 := hdg.2
          have HDG : Hid (dig (B s k) = true) := Lib.hid (by unfold dig; exact decide_eq_true hdg)
          clear hdg
          go_wp2_with fail
          go_round
          case rel => exact ⟨k + 1, by omega, by go_num, by rw [dval], by rw [allDig, HD.out, HDG.out]; rfl⟩
          case measure => simp [intOf]; omega
        · have e : decP s hi = -1 := by
            rw [EN.out, if_pos]
            cases h : allDig s s.size with
            | false => rfl
            | true =>
              have := allDig_mono s s.size (k + 1) (by omega) h
              simp only [allDig, dig, Bool.and_eq_true, decide_eq_true_eq] at this
              exact absurd this.2 hdg
          have E := Lib.hid e; clear e
          by_cases hg : B s k < 48
          · clear hdg; go_wp2_with fail; go_ret; exact ⟨by rw [E.out]; rfl, rfl⟩
          · have hg2 : 57 < B s k := by omega
            clear hdg; go_wp2_with fail; go_ret; exact ⟨by rw [E.out]; rfl, rfl⟩
      · obtain rfl : k = s.size := by omega
        have e : decP s hi = if hi < dval s s.size then -1 else dval s s.size := by rw [EN.out, HD.out]; rfl
        by_cases hr : hi < dval s s.size
        · rw [if_pos hr] at e; have E := Lib.hid e; clear e
          go_wp2_with fail; go_ret; exact ⟨by rw [E.out]; rfl, rfl⟩
        · rw [if_neg hr] at e; have E := Lib.hid e; clear e
          have hr2 : dval s s.size ≤ hi := by omega
          clear hr
          go_wp2_with fail; go_ret; exact ⟨by rw [E.out]; rfl, rfl⟩)
end Go.Proofs.YtpdoddelnahlnaaDoor
