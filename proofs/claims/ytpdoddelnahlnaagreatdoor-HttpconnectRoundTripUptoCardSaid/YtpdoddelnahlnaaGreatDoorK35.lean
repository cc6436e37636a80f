/-
  Several texts joined: HcD.
-/
import Derived.Test.YtpdoddelnahlnaaGreatDoorK34
/-
  Contracts of httpconnect.lower, equalFold, validHeaderName, validByte.
-/
set_option linter.unusedSimpArgs false
set_option linter.unusedVariables false
namespace Go.Proofs.YtpdoddelnahlnaaGreatDoor
open Go.RowKit Go.Joins
theorem u8w (n : Int) : IntKind.u8.wrap n = n % 256 := by simp [IntKind.wrap, IntKind.bits, IntKind.signed]
set_option maxRecDepth 4000 in
theorem hlower_any (c : Int) (hc : 0 ≤ c ∧ c < 256) (w : World) : Calls Tryz.prog 133 #[.int .u8 c] w fun e w' => e = .returned (.int .u8 (lowI c)) ∧ Ext w w' := by
  go_enter Tryz.func133, Tryz.ntmps133
  by_cases hu : 65 ≤ c ∧ c ≤ 90
  · have e8 : IntKind.u8.wrap (c - 65) = c - 65 := by rw [u8w]; omega
    have e9 : IntKind.u8.wrap (c - 65 + 97) = c + 32 := by rw [u8w]; omega
    have hg1 := hu.1
    have hg2 := hu.2
    have E := Lib.hid (show lowI c = c + 32 by unfold lowI; rw [if_pos hu])
    clear hu
    go_wp2_with fail
    go_ret; exact ⟨by rw [E.out]; rfl, Ext.refl _⟩
  · have E := Lib.hid (show lowI c = c by unfold lowI; rw [if_neg hu])
    by_cases hg : c < 65
    · clear hu
      go_wp2_with fail
      go_ret; exact ⟨by rw [E.out]; rfl, Ext.refl _⟩
    · have hg1 : 65 ≤ c := by omega
      have hg2 : 90 < c := by omega
      clear hu hg
      go_wp2_with fail
      go_ret; exact ⟨by rw [E.out]; rfl, Ext.refl _⟩
theorem lowB_two {s t : ByteArray} : lowB s = lowB t ↔ s.size = t.size ∧ ∀ j, j < s.size → lowI (B s j) = lowI (B t j) := by
  rw [lowB_is, lowB_size]
  constructor
  · intro ⟨h1, h2⟩
    exact ⟨h1, fun j hj => by rw [h2 j hj, B_low t (by omega)]⟩
  · intro ⟨h1, h2⟩
    exact ⟨h1, fun j hj => by rw [h2 j hj, B_low t (by omega)]⟩
set_option maxRecDepth 4000 in
set_option maxHeartbeats 1000000 in
theorem hfold_any (s t : ByteArray) (hs : s.size ≤ maxLen) (w : World) : Calls Tryz.prog 114 #[.string s, .string t] w fun e w' => e = .returned (.bool (decide (lowB s = lowB t))) ∧ Ext w w' := by
  have HI := Lib.hid (@lowB_two s t)
  replace hs := size_max hs
  go_enter Tryz.func114, Tryz.ntmps114
  by_cases hz : s.size = t.size
  · have hzb : ((s.size : Int) != t.size) = false := by rw [bne_eq_false_iff_eq]; omega
    have HZ := Lib.hid hz
    have hz1 : (s.size : Int) ≤ t.size := by omega
    clear hz
    go_wp2_with fail
    go_loopw [5, 13] (fun _ i wr => ∃ k : Nat, k ≤ s.size ∧ i = .int .i64 k ∧ (∀ j, j < k → lowI (B s j) = lowI (B t j)) ∧ Ext w wr) (fun _ i _ => s.size - (intOf i).toNat)
    case atStart => exact ⟨0, Nat.zero_le _, rfl, fun j hj => by omega, Ext.refl _⟩
    case round =>
      obtain ⟨k, hk, rfl, hj, hx⟩ := hrel
      have HJ := Lib.hid hj
      clear hj
      by_cases hlt : k < s.size
      · have hlt' : (k : Int) < s.size := by omega
        have hlt2 : (k : Int) < t.size := by omega
        have L1 := fun w' (_ : Ext wr w') => hlower_any (B s k) (B_bd s k) w'
        have L2 := fun w' (_ : Ext wr w') => hlower_any (B t k) (B_bd t k) w'
        have HBAD : Hid (lowI (B s k) ≠ lowI (B t k) → decide (lowB s = lowB t) = false) := Lib.hid (fun h => decide_eq_false (fun q => h ((HI.out.1 q).2 k hlt)))
        have HGO : Hid (lowI (B s k) = lowI (B t k) → ∀ j, j < k + 1 → lowI (B s j) = lowI (B t j)) := Lib.hid (fun h j hj => by
          by_cases q : j = k
          · subst q; exact h
          · exact HJ.out j (by omega))
        generalize lowI (B s k) = x at *
        generalize lowI (B t k) = y at *
        go_upto_region 6 with fail
        refine wp_region_rg wr (by kernel_rfl) (by kernel_rfl) (Ext.refl _) ?_
        first
          | (apply goV_skip (by intro u; rfl))
          | (apply goV_val _ (by intro u; rfl); · (intro u w hSw hF; go_simp; try with_reducible rfl))
        try simp only [Act.put, List.setIfInBounds_toArray, List.set_cons_zero, List.set_cons_succ]
        first
          | (apply goV_skip (by intro u; rfl))
          | (apply goV_val _ (by intro u; rfl); · (intro u w hSw hF; go_simp; try with_reducible rfl))
        try simp only [Act.put, List.setIfInBounds_toArray, List.set_cons_zero, List.set_cons_succ]
        first
          | (apply goV_skip (by intro u; rfl))
          | (apply goV_val _ (by intro u; rfl); · (intro u w hSw hF; go_simp; try with_reducible rfl))
        try simp only [Act.put, List.setIfInBounds_toArray, List.set_cons_zero, List.set_cons_succ]
        first
          | (apply goV_skip (by intro u; rfl))
          | (apply goV_call (by intro u; rfl) L1; · (intro u w hSw hF; go_simp; try with_reducible rfl))
        try simp only [Act.put, List.setIfInBounds_toArray, List.set_cons_zero, List.set_cons_succ]
        first
          | (apply goV_skip (by intro u; rfl))
          | (apply goV_val _ (by intro u; rfl); · (intro u w hSw hF; go_simp; try with_reducible rfl))
        try simp only [Act.put, List.setIfInBounds_toArray, List.set_cons_zero, List.set_cons_succ]
        first
          | (apply goV_skip (by intro u; rfl))
          | (apply goV_val _ (by intro u; rfl); · (intro u w hSw hF; go_simp; try with_reducible rfl))
        try simp only [Act.put, List.setIfInBounds_toArray, List.set_cons_zero, List.set_cons_succ]
        first
          | (apply goV_skip (by intro u; rfl))
          | (apply goV_val _ (by intro u; rfl); · (intro u w hSw hF; go_simp; try with_reducible rfl))
        try simp only [Act.put, List.setIfInBounds_toArray, List.set_cons_zero, List.set_cons_succ]
        first
          | (apply goV_skip (by intro u; rfl))
          | (apply goV_call (by intro u; rfl) L2; · (intro u w hSw hF; go_simp; try with_reducible rfl))
        try simp only [Act.put, List.setIfInBounds_toArray, List.set_cons_zero, List.set_cons_succ]
        first
          | (apply goV_skip (by intro u; rfl))
          | (apply goV_val _ (by intro u; rfl); · (intro u w hSw hF; go_simp; try with_reducible rfl))
        try simp only [Act.put, List.setIfInBounds_toArray, List.set_cons_zero, List.set_cons_succ]
        intro u w5 hx5 _
        by_cases he : x = y
        · have hb : (x != y) = false := by rw [bne_eq_false_iff_eq]; exact he
          have HG := Lib.hid (HGO.out he)
          clear he HGO HBAD
          go_wp2_with fail
          go_roundw
          case rel => exact ⟨k + 1, by omega, by go_num, HG.out, hx.trans hx5⟩
          case measure => simp [intOf]; omega
        · have hb : (x != y) = true := by rw [bne_iff_ne]; exact he
          have HG := Lib.hid (HBAD.out he)
          clear he HGO HBAD
          go_wp2_with fail
          go_ret; exact ⟨by rw [HG.out]; rfl, hx.trans hx5⟩
      · obtain rfl : k = s.size := by omega
        have E : Hid (decide (lowB s = lowB t) = true) := Lib.hid (decide_eq_true (HI.out.2 ⟨HZ.out, HJ.out⟩))
        have hnl : ¬ ((s.size : Nat) : Int) < s.size := by omega
        go_wp2_with fail
        go_ret; exact ⟨by rw [E.out]; rfl, hx⟩
  · have hzb : ((s.size : Int) != t.size) = true := by rw [bne_iff_ne]; omega
    have E : Hid (decide (lowB s = lowB t) = false) := Lib.hid (decide_eq_false (fun q => hz (HI.out.1 q).1))
    clear hz
    go_wp2_with fail
    go_ret; exact ⟨by rw [E.out]; rfl, Ext.refl _⟩
def nch (x : Int) : Bool := x != 45 && (decide (x < 97) || decide (122 < x)) && (decide (x < 48) || decide (57 < x))
theorem nch_lch (x : Int) : nch x = !lch x := by
  unfold nch lch
  by_cases h1 : x = 45
  · subst h1; decide
  · have e1 : (x != 45) = true := by rw [bne_iff_ne]; exact h1
    rw [e1]
    by_cases h2 : 97 ≤ x ∧ x ≤ 122
    · rw [decide_eq_true (show (97 ≤ x ∧ x ≤ 122) ∨ (48 ≤ x ∧ x ≤ 57) ∨ x = 45 from .inl h2), decide_eq_false (show ¬ x < 97 by omega), decide_eq_false (show ¬ 122 < x by omega)]; rfl
    · by_cases h3 : 48 ≤ x ∧ x ≤ 57
      · rw [decide_eq_true (show (97 ≤ x ∧ x ≤ 122) ∨ (48 ≤ x ∧ x ≤ 57) ∨ x = 45 from .inr (.inl h3)), decide_eq_false (show ¬ x < 48 by omega), decide_eq_false (show ¬ 57 < x by omega)]; simp
      · rw [decide_eq_false (show ¬ ((97 ≤ x ∧ x ≤ 122) ∨ (48 ≤ x ∧ x ≤ 57) ∨ x = 45) by omega)]
        have e2 : (decide (x < 97) || decide (122 < x)) = true := by
          rw [Bool.or_eq_true, decide_eq_true_eq, decide_eq_true_eq]; omega
        have e3 : (decide (x < 48) || decide (57 < x)) = true := by
          rw [Bool.or_eq_true, decide_eq_true_eq, decide_eq_true_eq]; omega
        rw [e2, e3]; rfl
theorem B_empty (s : ByteArray) (h : (s.size : Int) < 1) : s = ⟨#[]⟩ := by
  refine BA_ext (List.length_eq_zero_iff.1 ?_)
  rw [← size_list]; omega
set_option maxRecDepth 4000 in
set_option maxHeartbeats 2000000 in
theorem hname_any (s : ByteArray) (hs : s.size ≤ maxLen) (w : World) : Calls Tryz.prog 113 #[.string s] w fun e w' => e = .returned (.bool (vname8 s)) ∧ Ext w w' := by
  have HI := Lib.hid (@allB_iff hch s s.size)
  have HV : Hid (vname8 s = (decide (1 ≤ s.size) && allB hch s s.size)) := Lib.hid rfl
  have HE := Lib.hid (B_empty s)
  replace hs := size_max hs
  go_enter Tryz.func113, Tryz.ntmps113
  go_wp2_with fail
  go_loopw [3, 4, 7] (fun _ _ i wr => ∃ k : Nat, k ≤ s.size ∧ i = .int .i64 k ∧ (∀ j, j < k → hch (B s j) = true) ∧ Ext w wr) (fun _ _ i _ => s.size - (intOf i).toNat)
  case atStart => exact ⟨0, Nat.zero_le _, rfl, fun j hj => by omega, Ext.refl _⟩
  case round =>
    obtain ⟨k, hk, rfl, hj, hx⟩ := hrel
    have HJ := Lib.hid hj
    clear hj
    by_cases hlt : k < s.size
    · have hlt' : (k : Int) < s.size := by omega
      have L1 := Lib.hid (fun w' => hlower_any (B s k) (B_bd s k) w')
      have bl := lowI_bd (B_bd s k)
      have HBAD : Hid (lch (lowI (B s k)) = false → vname8 s = false) := Lib.hid (fun h => by
        rw [HV.out, Bool.and_eq_false_iff]; right
        cases e : allB hch s s.size with
        | false => rfl
        | true =>
          have := HI.out.1 e k hlt
          unfold hch at this
          rw [h] at this; cases this)
      have HGO : Hid (lch (lowI (B s k)) = true → ∀ j, j < k + 1 → hch (B s j) = true) := Lib.hid (fun h j hj => by
        by_cases q : j = k
        · subst q; exact h
        · exact HJ.out j (by omega))
      generalize lowI (B s k) = x at *
      have hn := nch_lch x
      go_upto_region 5 with (go_at_call 133; refine (L1.out _).mono ?_; rintro e w3 ⟨rfl, hx3⟩)
      by_cases he : lch x = true
      · have HG := Lib.hid (HGO.out he)
        rw [he] at hn
        unfold nch at hn
        clear he HGO HBAD
        have h1 : x = 45 ∨ (97 ≤ x ∧ x ≤ 122) ∨ (48 ≤ x ∧ x ≤ 57) := by
          simp at hn; omega
        clear hn
        rcases h1 with h1 | h1 | h1
        · subst h1
          go_wp2_with fail
          go_roundw
          case rel => exact ⟨k + 1, by omega, by go_num, HG.out, hx.trans hx3⟩
          case measure => simp [intOf]; omega
        · have a1 : (x != 45) = true := by rw [bne_iff_ne]; omega
          have a2 := h1.1
          have a3 := h1.2
          clear h1
          go_wp2_with fail
          go_roundw
          case rel => exact ⟨k + 1, by omega, by go_num, HG.out, hx.trans hx3⟩
          case measure => simp [intOf]; omega
        · have a1 : (x != 45) = true := by rw [bne_iff_ne]; omega
          have a2 := h1.1
          have a3 := h1.2
          have a4 : x < 97 := by omega
          clear h1
          go_wp2_with fail
          go_roundw
          case rel => exact ⟨k + 1, by omega, by go_num, HG.out, hx.trans hx3⟩
          case measure => simp [intOf]; omega
      · have he' : lch x = false := by cases q : lch x with
          | false => rfl
          | true => exact absurd q he
        have HG := Lib.hid (HBAD.out he')
        rw [he'] at hn
        unfold lch at he'
        rw [decide_eq_false_iff_not] at he'
        have a1 : (x != 45) = true := by rw [bne_iff_ne]; omega
        clear hn he HGO HBAD
        by_cases b1 : x < 97
        · by_cases b2 : x < 48
          · clear he'
            go_wp2_with fail
            go_ret; exact ⟨by rw [HG.out]; rfl, hx.trans hx3⟩
          · have b3 : 57 < x := by omega
            clear he'
            go_wp2_with fail
            go_ret; exact ⟨by rw [HG.out]; rfl, hx.trans hx3⟩
        · have b2 : 122 < x := by omega
          have b3 : 57 < x := by omega
          have b4 : ¬ x < 48 := by omega
          clear he'
          go_wp2_with fail
          go_ret; exact ⟨by rw [HG.out]; rfl, hx.trans hx3⟩
    · obtain rfl : k = s.size := by omega
      have hnl : ¬ ((s.size : Nat) : Int) < s.size := by omega
      by_cases hz : (s.size : Int) < 1
      · have E : Hid (vname8 s = false) := Lib.hid (by rw [HV.out, decide_eq_false (by omega)]; rfl)
        have e0 := HE.out hz
        subst e0
        clear hlt hk
        go_wp2_with fail
        go_ret; exact ⟨by rw [E.out]; rfl, hx⟩
      · have E : Hid (vname8 s = true) := Lib.hid (by rw [HV.out, decide_eq_true (by omega), HI.out.2 HJ.out]; rfl)
        have hq : (s.toList != []) = true := by
          rw [bne_iff_ne, ByteArray.toList_eq]
          intro e
          have := size_list s
          rw [e] at this
          change s.size = 0 at this
          omega
        go_wp2_with fail
        go_ret; exact ⟨by rw [E.out]; rfl, hx⟩
set_option maxRecDepth 4000 in
theorem hbyte_any (c : Int) (hc : 0 ≤ c ∧ c < 256) (p : Nat) (r : Bool) (w : World) : Calls Tryz.prog 53 #[.int .u8 c, .int .i64 p, .bool r] w fun e w' => e = .returned (.bool (vbyte c p r)) ∧ Ext w w' := by
  have HV : Hid (vbyte c p r = if r = true ∧ p < 8 then decide (c = B connS p) else decide ((32 ≤ c ∧ c ≤ 126) ∨ c = 9)) := Lib.hid rfl
  have HC : Hid (B ⟨#[67, 79, 78, 78, 69, 67, 84, 32]⟩ p = B connS p) := Lib.hid rfl
  go_enter Tryz.func53, Tryz.ntmps53
  cases r
  · have E := Lib.hid (HV.out.trans (if_neg (by simp)))
    clear HV
    by_cases h1 : 32 ≤ c
    · by_cases h2 : c ≤ 126
      · have E := Lib.hid (E.out.trans (decide_eq_true (.inl ⟨h1, h2⟩)))
        go_wp2_with fail
        go_ret; exact ⟨by rw [E.out]; rfl, Ext.refl _⟩
      · have E := Lib.hid (E.out.trans (decide_eq_false (by omega)))
        have h3 : (c == 9) = false := by rw [beq_eq_false_iff_ne]; omega
        have h4 : 126 < c := by omega
        go_wp2_with fail
        go_ret; exact ⟨by rw [E.out]; rfl, Ext.refl _⟩
    · by_cases h3 : c = 9
      · have E := Lib.hid (E.out.trans (decide_eq_true (.inr h3)))
        subst h3
        go_wp2_with fail
        go_ret; exact ⟨by rw [E.out]; rfl, Ext.refl _⟩
      · have E := Lib.hid (E.out.trans (decide_eq_false (by omega)))
        have h4 : (c == 9) = false := by rw [beq_eq_false_iff_ne]; omega
        have h5 : c < 32 := by omega
        clear h1 h3
        go_wp2_with fail
        go_ret; exact ⟨by rw [E.out]; rfl, Ext.refl _⟩
  · by_cases hp : p < 8
    · have E := Lib.hid ((HV.out.trans (if_pos ⟨rfl, hp⟩)).trans (by rw [← HC.out]))
      have hp' : (p : Int) < 8 := by omega
      have hp2 : ¬ (8 : Int) ≤ p := by omega
      clear HV
      go_wp2_with fail
      go_ret; exact ⟨by rw [E.out]; rfl, Ext.refl _⟩
    · have E := Lib.hid (HV.out.trans (if_neg (by omega)))
      have hp' : ¬ (p : Int) < 8 := by omega
      clear HV hp
      by_cases h1 : 32 ≤ c
      · by_cases h2 : c ≤ 126
        · have E := Lib.hid (E.out.trans (decide_eq_true (.inl ⟨h1, h2⟩)))
          go_wp2_with fail
          go_ret; exact ⟨by rw [E.out]; rfl, Ext.refl _⟩
        · have E := Lib.hid (E.out.trans (decide_eq_false (by omega)))
          have h3 : (c == 9) = false := by rw [beq_eq_false_iff_ne]; omega
          have h4 : 126 < c := by omega
          go_wp2_with fail
          go_ret; exact ⟨by rw [E.out]; rfl, Ext.refl _⟩
      · by_cases h3 : c = 9
        · have E := Lib.hid (E.out.trans (decide_eq_true (.inr h3)))
          subst h3
          go_wp2_with fail
          go_ret; exact ⟨by rw [E.out]; rfl, Ext.refl _⟩
        · have E := Lib.hid (E.out.trans (decide_eq_false (by omega)))
          have h4 : (c == 9) = false := by rw [beq_eq_false_iff_ne]; omega
          have h5 : c < 32 := by omega
          clear h1 h3
          go_wp2_with fail
          go_ret; exact ⟨by rw [E.out]; rfl, Ext.refl _⟩
end Go.Proofs.YtpdoddelnahlnaaGreatDoor
