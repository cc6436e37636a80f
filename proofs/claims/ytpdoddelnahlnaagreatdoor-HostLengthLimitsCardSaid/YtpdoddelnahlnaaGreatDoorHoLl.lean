/-
  longName; HostLengthLimits.
-/
import Derived.Test.YtpdoddelnahlnaaGreatDoorHoPe
set_option linter.unusedSimpArgs false
set_option linter.unusedVariables false
namespace Go.Proofs.YtpdoddelnahlnaaGreatDoor
open Go.RowKit Go.Joins
set_option maxRecDepth 4000 in
set_option maxHeartbeats 4000000 in
theorem longName_any (a : Option Addr) (n c : Nat) (x : ByteArray) (w : World) (hn : n ≤ 140737488351232) (hin : BytesIn w a n c x) :
    Calls Tryz.prog 14 #[.slice a n c] w fun e w' => ∃ t : ByteArray, e = .returned (.string t) ∧ t.size ≤ 600 ∧ Ext w w' := by
  have HIN := Lib.hid hin; clear hin
  go_enter Tryz.func14, Tryz.ntmps14
  go_wp2_with fail
  go_loopw [3, 4, 5] (fun s i _ wr => ∃ (k : Nat) (z : ByteArray), k ≤ n ∧ k ≤ 8 ∧ i = .int .i64 k ∧ s = .string z ∧ z.size ≤ 69 * k ∧ wr = w) (fun _ i _ _ => 8 - (intOf i).toNat)
  case atStart => exact ⟨0, ⟨#[]⟩, Nat.zero_le _, Nat.zero_le _, rfl, rfl, Nat.zero_le _, rfl⟩
  case round =>
    obtain ⟨k, z, hk, hk8, rfl, rfl, hz, rfl⟩ := hrel
    by_cases hlt : k < n
    · have hlt' : (k : Int) < n := by omega
      have hd1 : decide ((k : Int) < n) = true := decide_eq_true hlt'
      by_cases h8 : k < 8
      · have h8' : (k : Int) < 8 := by omega
        have hd2 : decide ((k : Int) < 8) = true := decide_eq_true h8'
        rcases HIN.out with ⟨_, h0, _⟩ | ⟨ad, rfl, hnc, hc, hcell⟩
        · omega
        · obtain ⟨b, off, rfl, hb, hcell⟩ := hcell (by omega)
          have hck := hcell k hlt
          have hbk := B_bd x k
          obtain ⟨m, hm⟩ : ∃ m : Nat, B x k = m := ⟨(B x k).toNat, by omega⟩
          rw [hm] at hck hbk
          have hm2 : ((m : Int).tmod 68) = ((m % 68 : Nat) : Int) := by rw [Int.tmod_eq_emod_of_nonneg (by omega)]; omega
          have hr : m % 68 < 68 := Nat.mod_lt _ (by decide)
          generalize m % 68 = r at *
          have hr' : (r : Int) < 68 := by omega
          clear hcell hm
          have y1 : ¬ 9223372036854775807 < z.size + 1 := by omega
          by_cases h0 : k = 0
          · subst h0
            have hck2 : wr.cell? ⟨b, off, none⟩ = some (.int .u8 (m : Int)) := by simpa using hck
            clear hlt' h8' hd1 hd2 hck
            have hlt' : (0 : Int) < n := by omega
            go_wp2_with fail
            go_loop [3, 5] (fun s j => ∃ (q : Nat) (y : ByteArray), q ≤ r ∧ j = .int .i64 q ∧ s = .string y ∧ y.size ≤ 1 + q) (fun _ j => 68 - (intOf j).toNat)
            case atStart => exact ⟨0, z, Nat.zero_le _, rfl, rfl, by omega⟩
            case round =>
              obtain ⟨q, y, hq, rfl, rfl, hy⟩ := hrel
              have y2 : ¬ 9223372036854775807 < y.size + 1 := by omega
              have e1 : (y ++ (⟨#[113]⟩ : ByteArray)).size = y.size + 1 := by rw [ByteArray.size_append]; rfl
              by_cases hqr : q < r
              · have hqr' : (q : Int) < r := by omega
                go_wp2_with fail
                go_round
                case rel => exact ⟨q + 1, _, by omega, by go_num, rfl, by rw [e1]; omega⟩
                case measure => simp [intOf]; omega
              · have hqr' : ¬ (q : Int) < r := by omega
                go_wp2_with fail
                go_roundw
                case rel => exact ⟨1, y, by omega, by omega, by go_num, rfl, by omega, by first | rfl | trivial⟩
                case measure => simp [intOf]
          · have h0' : (0 : Int) < k := by omega
            have e0 : (z ++ (⟨#[46]⟩ : ByteArray)).size = z.size + 1 := by rw [ByteArray.size_append]; rfl
            go_wp2_with fail
            go_loop [3, 5] (fun s j => ∃ (q : Nat) (y : ByteArray), q ≤ r ∧ j = .int .i64 q ∧ s = .string y ∧ y.size ≤ 69 * k + 1 + q) (fun _ j => 68 - (intOf j).toNat)
            case atStart => exact ⟨0, _, Nat.zero_le _, rfl, rfl, by rw [e0]; omega⟩
            case round =>
              obtain ⟨q, y, hq, rfl, rfl, hy⟩ := hrel
              have y2 : ¬ 9223372036854775807 < y.size + 1 := by omega
              have e1 : (y ++ (⟨#[113]⟩ : ByteArray)).size = y.size + 1 := by rw [ByteArray.size_append]; rfl
              by_cases hqr : q < r
              · have hqr' : (q : Int) < r := by omega
                go_wp2_with fail
                go_round
                case rel => exact ⟨q + 1, _, by omega, by go_num, rfl, by rw [e1]; omega⟩
                case measure => simp [intOf]; omega
              · have hqr' : ¬ (q : Int) < r := by omega
                go_wp2_with fail
                go_roundw
                case rel => exact ⟨k + 1, y, by omega, by omega, by go_num, rfl, by omega, by first | rfl | trivial⟩
                case measure => simp [intOf]; omega
      · have h8' : ¬ (k : Int) < 8 := by omega
        have hd2 : decide ((k : Int) < 8) = false := decide_eq_false h8'
        go_wp2_with fail
        go_ret
        exact ⟨z, rfl, by omega, Ext.refl _⟩
    · have hlt' : ¬ (k : Int) < n := by omega
      have hd1 : decide ((k : Int) < n) = false := decide_eq_false hlt'
      go_wp2_with fail
      go_ret
      exact ⟨z, rfl, by omega, Ext.refl _⟩
set_option maxRecDepth 8000 in
set_option maxHeartbeats 4000000 in
theorem HostLengthLimits_walk (a : Option Addr) (n c : Nat) (x : ByteArray) (hxn : x.size = n) (hxs : x.size ≤ 140737488351232)
    (w : World) (henv : Env w) (htabs : Tabs w) (hin : BytesIn w a n c x) :
    Calls Tryz.prog 4 #[.slice a n c] w fun e w' => e = .returned (.bool true) ∧ Ext w w' := by
  have hn : n ≤ 140737488351232 := by omega
  have KL := Lib.hid (longName_any a n c x w hn hin)
  clear hxn hxs hn hin
  go_enter Tryz.func4, Tryz.ntmps4
  go_upto_region 2 with (first | (go_at_call 14; refine KL.out.mono ?_; rintro e w1 ⟨t, rfl, hsz, hx1⟩; refine Hid.out ?_))
  refine Lib.hid ?_
  go_upto_region 2 with fail
  have henv1 := henv.ext hx1
  have htabs1 := htabs.ext hx1
  have q1 := fun (w' : World) (h : Ext w1 w') => agrees_any t (by omega) w' (henv1.ext h)
  have q2 := fun (w' : World) (h : Ext w1 w') => agrees_any (t ++ ⟨#[46]⟩) (by rw [ByteArray.size_append]; show t.size + 1 < _; omega) w' (henv1.ext h)
  have q3 := fun (w' : World) (h : Ext w1 w') => agrees_any (t ++ ⟨#[46, 46]⟩) (by rw [ByteArray.size_append]; show t.size + 2 < _; omega) w' (henv1.ext h)
  have q4 := fun (w' : World) (h : Ext w1 w') => agrees_any (⟨#[120]⟩ ++ t) (by rw [ByteArray.size_append]; show 1 + t.size < _; omega) w' (henv1.ext h)
  have q0 := fun (w' : World) (h : Ext w1 w') => awake08 w' (henv1.ext h) (htabs1.ext h)
  have y1 : ¬ 9223372036854775807 < t.size + 1 := by omega
  have y2 : ¬ 9223372036854775807 < t.size + 2 := by omega
  have y3 : ¬ 9223372036854775807 < 1 + t.size := by omega
  clear hsz KL
  refine wp_region_rgs ?_
  first
    | (apply goV_skip (by intro u; rfl))
    | (apply goV_call (by intro u; rfl) q0; · (intro u w hSw hF; go_simp; try with_reducible rfl))
  try simp only [Act.put, List.setIfInBounds_toArray, List.set_cons_zero, List.set_cons_succ]
  first
    | (apply goV_skip (by intro u; rfl))
    | (apply goV_val _ (by intro u; rfl); · (intro u w hSw hF; go_simp; try with_reducible rfl))
  try simp only [Act.put, List.setIfInBounds_toArray, List.set_cons_zero, List.set_cons_succ]
  first
    | (apply goV_skip (by intro u; rfl))
    | (apply goV_val _ (by intro u; rfl); · (intro u w hSw hF; go_simp; try with_reducible rfl))
  try simp only [Act.put, List.setIfInBounds_toArray, List.set_cons_zero, List.set_cons_succ]
  first
    | (apply goV_skip (by intro u; rfl))
    | (apply goV_call (by intro u; rfl) q1; · (intro u w hSw hF; go_simp; try with_reducible rfl))
  try simp only [Act.put, List.setIfInBounds_toArray, List.set_cons_zero, List.set_cons_succ]
  first
    | (apply goV_skip (by intro u; rfl))
    | (apply goV_val _ (by intro u; rfl); · (intro u w hSw hF; go_simp; try with_reducible rfl))
  try simp only [Act.put, List.setIfInBounds_toArray, List.set_cons_zero, List.set_cons_succ]
  first
    | (apply goV_skip (by intro u; rfl))
    | (apply goV_val _ (by intro u; rfl); · (intro u w hSw hF; go_simp; try with_reducible rfl))
  try simp only [Act.put, List.setIfInBounds_toArray, List.set_cons_zero, List.set_cons_succ]
  first
    | (apply goV_skip (by intro u; rfl))
    | (apply goV_val _ (by intro u; rfl); · (intro u w hSw hF; go_simp; try with_reducible rfl))
  try simp only [Act.put, List.setIfInBounds_toArray, List.set_cons_zero, List.set_cons_succ]
  first
    | (apply goV_skip (by intro u; rfl))
    | (apply goV_val _ (by intro u; rfl); · (intro u w hSw hF; go_simp; try with_reducible rfl))
  try simp only [Act.put, List.setIfInBounds_toArray, List.set_cons_zero, List.set_cons_succ]
  first
    | (apply goV_skip (by intro u; rfl))
    | (apply goV_call (by intro u; rfl) q2; · (intro u w hSw hF; go_simp; try with_reducible rfl))
  try simp only [Act.put, List.setIfInBounds_toArray, List.set_cons_zero, List.set_cons_succ]
  first
    | (apply goV_skip (by intro u; rfl))
    | (apply goV_val _ (by intro u; rfl); · (intro u w hSw hF; go_simp; try with_reducible rfl))
  try simp only [Act.put, List.setIfInBounds_toArray, List.set_cons_zero, List.set_cons_succ]
  first
    | (apply goV_skip (by intro u; rfl))
    | (apply goV_val _ (by intro u; rfl); · (intro u w hSw hF; go_simp; try with_reducible rfl))
  try simp only [Act.put, List.setIfInBounds_toArray, List.set_cons_zero, List.set_cons_succ]
  first
    | (apply goV_skip (by intro u; rfl))
    | (apply goV_val _ (by intro u; rfl); · (intro u w hSw hF; go_simp; try with_reducible rfl))
  try simp only [Act.put, List.setIfInBounds_toArray, List.set_cons_zero, List.set_cons_succ]
  first
    | (apply goV_skip (by intro u; rfl))
    | (apply goV_val _ (by intro u; rfl); · (intro u w hSw hF; go_simp; try with_reducible rfl))
  try simp only [Act.put, List.setIfInBounds_toArray, List.set_cons_zero, List.set_cons_succ]
  first
    | (apply goV_skip (by intro u; rfl))
    | (apply goV_call (by intro u; rfl) q3; · (intro u w hSw hF; go_simp; try with_reducible rfl))
  try simp only [Act.put, List.setIfInBounds_toArray, List.set_cons_zero, List.set_cons_succ]
  first
    | (apply goV_skip (by intro u; rfl))
    | (apply goV_val _ (by intro u; rfl); · (intro u w hSw hF; go_simp; try with_reducible rfl))
  try simp only [Act.put, List.setIfInBounds_toArray, List.set_cons_zero, List.set_cons_succ]
  first
    | (apply goV_skip (by intro u; rfl))
    | (apply goV_val _ (by intro u; rfl); · (intro u w hSw hF; go_simp; try with_reducible rfl))
  try simp only [Act.put, List.setIfInBounds_toArray, List.set_cons_zero, List.set_cons_succ]
  first
    | (apply goV_skip (by intro u; rfl))
    | (apply goV_val _ (by intro u; rfl); · (intro u w hSw hF; go_simp; try with_reducible rfl))
  try simp only [Act.put, List.setIfInBounds_toArray, List.set_cons_zero, List.set_cons_succ]
  first
    | (apply goV_skip (by intro u; rfl))
    | (apply goV_val _ (by intro u; rfl); · (intro u w hSw hF; go_simp; try with_reducible rfl))
  try simp only [Act.put, List.setIfInBounds_toArray, List.set_cons_zero, List.set_cons_succ]
  first
    | (apply goV_skip (by intro u; rfl))
    | (apply goV_call (by intro u; rfl) q4; · (intro u w hSw hF; go_simp; try with_reducible rfl))
  try simp only [Act.put, List.setIfInBounds_toArray, List.set_cons_zero, List.set_cons_succ]
  first
    | (apply goV_skip (by intro u; rfl))
    | (apply goV_val _ (by intro u; rfl); · (intro u w hSw hF; go_simp; try with_reducible rfl))
  try simp only [Act.put, List.setIfInBounds_toArray, List.set_cons_zero, List.set_cons_succ]
  first
    | (apply goV_skip (by intro u; rfl))
    | (apply goV_val _ (by intro u; rfl); · (intro u w hSw hF; go_simp; try with_reducible rfl))
  try simp only [Act.put, List.setIfInBounds_toArray, List.set_cons_zero, List.set_cons_succ]
  intro u w5 hx5 _
  go_wp2
  go_ret
  exact ⟨rfl, hx1.trans hx5⟩
end Go.Proofs.YtpdoddelnahlnaaGreatDoor
