/-
  Several texts joined: HcB.
-/
import Derived.Test.YtpdoddelnahlnaaGreatDoorK14
import Derived.Test.YtpdoddelnahlnaaGreatDoorK13
import Derived.Test.YtpdoddelnahlnaaGreatDoorK15
import Derived.Test.YtpdoddelnahlnaaGreatDoorK09
/-
  Contracts of the reference's EqualFold and ParseBasic.
-/
set_option linter.unusedSimpArgs false
set_option linter.unusedVariables false
namespace Go.Proofs.YtpdoddelnahlnaaGreatDoor
open Go.RowKit Go.Joins
theorem BA_B {a b : ByteArray} (h : a.size = b.size) (hb : ∀ j, j < a.size → B a j = B b j) : a = b := by
  refine BA_ext (List.ext_getElem (by rw [← size_list, ← size_list]; exact h) fun j h1 h2 => ?_)
  have := hb j (by rw [size_list]; exact h1)
  unfold B at this
  rw [List.getD_eq_getElem?_getD, List.getD_eq_getElem?_getD, List.getElem?_eq_getElem h1, List.getElem?_eq_getElem h2, Option.getD_some, Option.getD_some] at this
  exact UInt8.toNat_inj.1 (by omega)
theorem lowB_is {s t : ByteArray} : lowB s = t ↔ s.size = t.size ∧ ∀ j, j < s.size → lowI (B s j) = B t j := by
  constructor
  · intro h
    refine ⟨by rw [← h, lowB_size], fun j hj => by rw [← h, B_low s hj]⟩
  · intro ⟨h1, h2⟩
    exact BA_B (by rw [lowB_size]; exact h1) (fun j hj => by rw [lowB_size] at hj; rw [B_low s hj, h2 j hj])
set_option maxRecDepth 4000 in
set_option maxHeartbeats 1000000 in
theorem efold_any (s t : ByteArray) (hs : s.size ≤ maxLen) (w : World) : Calls Tryz.prog 110 #[.string s, .string t] w fun e w' => e = .returned (.bool (decide (lowB s = t))) ∧ w = w' := by
  have HI := Lib.hid (@lowB_is s t)
  replace hs := size_max hs
  go_enter Tryz.func110, Tryz.ntmps110
  by_cases hz : s.size = t.size
  · have hzb : ((s.size : Int) != t.size) = false := by rw [bne_eq_false_iff_eq]; omega
    have HZ := Lib.hid hz
    have hz1 : (s.size : Int) ≤ t.size := by omega
    clear hz
    go_wp2_with fail
    go_loop [5, 6] (fun i _ => ∃ k : Nat, k ≤ s.size ∧ i = .int .i64 k ∧ ∀ j, j < k → lowI (B s j) = B t j) (fun i _ => s.size - (intOf i).toNat)
    case atStart => exact ⟨0, Nat.zero_le _, rfl, fun j hj => by omega⟩
    case round =>
      obtain ⟨k, hk, rfl, hj⟩ := hrel
      have HJ := Lib.hid hj
      clear hj
      by_cases hlt : k < s.size
      · have hlt' : (k : Int) < s.size := by omega
        have hlt2 : (k : Int) < t.size := by omega
        have bk := B_bd s k
        have bt := B_bd t k
        have u8w : ∀ n : Int, IntKind.u8.wrap n = n % 256 := fun n => by simp [IntKind.wrap, IntKind.bits, IntKind.signed]
        have HBAD : Hid (lowI (B s k) ≠ B t k → decide (lowB s = t) = false) := Lib.hid (fun h => decide_eq_false (fun q => h ((HI.out.1 q).2 k hlt)))
        have HGO : Hid (lowI (B s k) = B t k → ∀ j, j < k + 1 → lowI (B s j) = B t j) := Lib.hid (fun h j hj => by
          by_cases q : j = k
          · subst q; exact h
          · exact HJ.out j (by omega))
        by_cases hu : 65 ≤ B s k ∧ B s k ≤ 90
        · have e9 : IntKind.u8.wrap (B s k + 32) = B s k + 32 := by rw [u8w]; omega
          have hg1 := hu.1
          have hg2 := hu.2
          have hL : lowI (B s k) = B s k + 32 := by unfold lowI; rw [if_pos hu]
          rw [hL] at HBAD HGO
          clear hu u8w hL
          by_cases he : B s k + 32 = B t k
          · have hb : (B s k + 32 != B t k) = false := by rw [bne_eq_false_iff_eq]; exact he
            have HG := Lib.hid (HGO.out he)
            clear he HGO HBAD
            go_wp2_with fail
            go_round
            case rel => exact ⟨k + 1, by omega, by go_num, HG.out⟩
            case measure => simp [intOf]; omega
          · have hb : (B s k + 32 != B t k) = true := by rw [bne_iff_ne]; exact he
            have HG := Lib.hid (HBAD.out he)
            clear he HGO HBAD
            go_wp2_with fail
            go_ret; exact ⟨by rw [HG.out]; rfl, rfl⟩
        · have hL : lowI (B s k) = B s k := by unfold lowI; rw [if_neg hu]
          rw [hL] at HBAD HGO
          clear hL u8w
          by_cases hg : B s k < 65
          · clear hu
            by_cases he : B s k = B t k
            · have hb : (B s k != B t k) = false := by rw [bne_eq_false_iff_eq]; exact he
              have HG := Lib.hid (HGO.out he)
              clear he HGO HBAD
              go_wp2_with fail
              go_round
              case rel => exact ⟨k + 1, by omega, by go_num, HG.out⟩
              case measure => simp [intOf]; omega
            · have hb : (B s k != B t k) = true := by rw [bne_iff_ne]; exact he
              have HG := Lib.hid (HBAD.out he)
              clear he HGO HBAD
              go_wp2_with fail
              go_ret; exact ⟨by rw [HG.out]; rfl, rfl⟩
          · have hg2 : ¬ B s k ≤ 90 := by omega
            have hg3 : 65 ≤ B s k := by omega
            clear hu hg
            by_cases he : B s k = B t k
            · have hb : (B s k != B t k) = false := by rw [bne_eq_false_iff_eq]; exact he
              have HG := Lib.hid (HGO.out he)
              clear he HGO HBAD
              go_wp2_with fail
              go_round
              case rel => exact ⟨k + 1, by omega, by go_num, HG.out⟩
              case measure => simp [intOf]; omega
            · have hb : (B s k != B t k) = true := by rw [bne_iff_ne]; exact he
              have HG := Lib.hid (HBAD.out he)
              clear he HGO HBAD
              go_wp2_with fail
              go_ret; exact ⟨by rw [HG.out]; rfl, rfl⟩
      · obtain rfl : k = s.size := by omega
        have E : Hid (decide (lowB s = t) = true) := Lib.hid (decide_eq_true (HI.out.2 ⟨HZ.out, HJ.out⟩))
        have hnl : ¬ ((s.size : Nat) : Int) < s.size := by omega
        go_wp2_with fail
        go_ret; exact ⟨by rw [E.out]; rfl, rfl⟩
  · have hzb : ((s.size : Int) != t.size) = true := by rw [bne_iff_ne]; omega
    have E : Hid (decide (lowB s = t) = false) := Lib.hid (decide_eq_false (fun q => hz (HI.out.1 q).1))
    clear hz
    go_wp2_with fail
    go_ret; exact ⟨by rw [E.out]; rfl, rfl⟩
/-- the head of the value, the two ways -/
theorem auth_head (s : ByteArray) : (6 ≤ s.size ∧ lowB (s.extract 0 5) = basicS ∧ B s 5 = 32) ↔ ((cutB s 32).2.2 = true ∧ lowB (cutB s 32).1 = basicS) := by
  constructor
  · intro ⟨h1, h2, h3⟩
    have hz : (s.extract 0 5).size = 5 := by rw [ByteArray.size_extract]; omega
    have hb := (lowB_is.1 h2).2
    have hi : idxB s 32 = 5 := idxB_is (by omega) h3 (fun j hj e => by
      have := hb j (by rw [hz]; exact hj)
      rw [B_extract _ _ _ _ (by omega), Nat.zero_add, e] at this
      have q : j = 0 ∨ j = 1 ∨ j = 2 ∨ j = 3 ∨ j = 4 := by omega
      rcases q with q | q | q | q | q <;> subst q <;> exact absurd this (by decide))
    unfold cutB
    rw [hi, if_pos (by omega)]
    exact ⟨rfl, h2⟩
  · intro ⟨h1, h2⟩
    unfold cutB at h1 h2
    by_cases hi : idxB s 32 < s.size
    · rw [if_pos hi] at h2
      have hz := (lowB_is.1 h2).1
      rw [ByteArray.size_extract] at hz
      have hz5 : basicS.size = 5 := rfl
      have hi5 : idxB s 32 = 5 := by omega
      have ha := idxB_at hi
      rw [hi5] at h2 ha hi
      exact ⟨by omega, h2, ha⟩
    · rw [if_neg hi] at h1; cases h1
theorem cutB_no {s : ByteArray} (hn : ∀ j, j < s.size → B s j ≠ 58) : (cutB s 58).2.2 = false := by
  unfold cutB; rw [idxB_none hn, if_neg (by omega)]
theorem cutB_hit {s : ByteArray} {k : Nat} (hk : k < s.size) (h : B s k = 58) (hn : ∀ j, j < k → B s j ≠ 58) : cutB s 58 = (s.extract 0 k, s.extract (k + 1) s.size, true) := by
  have := idxB_is (c := 58) hk h hn
  unfold cutB; rw [this, if_pos hk]
theorem authP_bad {s : ByteArray} (h : ¬ (6 ≤ s.size ∧ lowB (s.extract 0 5) = basicS ∧ B s 5 = 32)) : authP s = (⟨#[]⟩, ⟨#[]⟩, false) := by
  unfold authP; rw [if_neg (fun q => h ((auth_head s).2 q))]
theorem authP_good {s : ByteArray} (h : 6 ≤ s.size ∧ lowB (s.extract 0 5) = basicS ∧ B s 5 = 32) : authP s = if (pdec (s.extract 6 s.size)).2 = true then (if (cutB (pdec (s.extract 6 s.size)).1 58).2.2 = true then ((cutB (pdec (s.extract 6 s.size)).1 58).1, (cutB (pdec (s.extract 6 s.size)).1 58).2.1, true) else (⟨#[]⟩, ⟨#[]⟩, false)) else (⟨#[]⟩, ⟨#[]⟩, false) := by
  have h2 := (auth_head s).1 h
  have hi : idxB s 32 = 5 := by
    have hb := (lowB_is.1 h.2.1).2
    have hz : (s.extract 0 5).size = 5 := by rw [ByteArray.size_extract]; omega
    exact idxB_is (by omega) h.2.2 (fun j hj e => by
      have := hb j (by rw [hz]; exact hj)
      rw [B_extract _ _ _ _ (by omega), Nat.zero_add, e] at this
      have q : j = 0 ∨ j = 1 ∨ j = 2 ∨ j = 3 ∨ j = 4 := by omega
      rcases q with q | q | q | q | q <;> subst q <;> exact absurd this (by decide))
  have e : (cutB s 32).2.1 = s.extract 6 s.size := by unfold cutB; rw [hi, if_pos (by omega)]
  unfold authP
  rw [if_pos h2, e]
set_option maxRecDepth 4000 in
set_option maxHeartbeats 2000000 in
theorem rauth_any (s : ByteArray) (w : World) (hs : s.size ≤ 1099511627776) : Calls Tryz.prog 111 #[.string s] w fun e w' => e = .returned (.tuple #[.string (authP s).1, .string (authP s).2.1, .bool (authP s).2.2]) ∧ Ext w w' := by
  have hbad := @authP_bad s
  have hgood := @authP_good s
  have b5 := B_bd s 5
  have hez := extract_le s 0 5
  have hez6 := extract_le s 6 s.size
  have KF := Lib.hid (fun w => efold_any (s.extract 0 5) basicS (by unfold maxLen; omega) w)
  rw [show Value.string basicS = Value.string ⟨#[98, 97, 115, 105, 99]⟩ from rfl] at KF
  go_enter Tryz.func111, Tryz.ntmps111
  by_cases h1 : (s.size : Int) < 6
  · have R : Hid (authP s = (⟨#[]⟩, ⟨#[]⟩, false)) := Lib.hid (hbad (by omega))
    clear hbad hgood
    go_wp2_with fail
    refine bodyPost_ret (res3 rfl) rfl ⟨by rw [R.out]; rfl, Ext.refl _⟩
  have h5 : (5 : Int) ≤ s.size := by omega
  have h5b : (5 : Int) < s.size := by omega
  have h6 : (6 : Int) ≤ s.size := by omega
  cases hd : decide (lowB (s.extract 0 5) = basicS)
  · have R : Hid (authP s = (⟨#[]⟩, ⟨#[]⟩, false)) := Lib.hid (hbad (fun h => of_decide_eq_false hd h.2.1))
    rw [hd] at KF
    clear hbad hgood hd
    go_wp2_with (first | (go_at_call 110; refine (KF.out _).mono ?_; rintro e w1 ⟨rfl, rfl⟩))
    refine bodyPost_ret (res3 rfl) rfl ⟨by rw [R.out]; rfl, Ext.refl _⟩
  have hlow := of_decide_eq_true hd
  rw [hd] at KF
  have HLow := Lib.hid hlow
  clear hd hlow
  by_cases h32 : B s 5 = 32
  · have hb32 : (B s 5 != 32) = false := by rw [bne_eq_false_iff_eq]; exact h32
    have R0 := Lib.hid (hgood ⟨by omega, HLow.out, h32⟩)
    clear hbad hgood h32
    have KD := Lib.hid (fun w => rdec_any (s.extract 6 s.size) (by omega) w)
    have hdz := pdec_size (s.extract 6 s.size)
    generalize (pdec (s.extract 6 s.size)).1 = t at *
    generalize (pdec (s.extract 6 s.size)).2 = dok at *
    have htz : t.size ≤ 1099511627776 := by omega
    clear hdz hez hez6
    cases dok
    · have R : Hid (authP s = (⟨#[]⟩, ⟨#[]⟩, false)) := Lib.hid (by rw [R0.out]; rfl)
      clear R0
      go_wp2_with (first | (go_at_call 110; refine (KF.out _).mono ?_; rintro e w1 ⟨rfl, rfl⟩) | (go_at_call 131; refine (KD.out _).mono ?_; rintro e w2 ⟨rfl, hx2⟩))
      refine bodyPost_ret (res3 rfl) rfl ⟨by rw [R.out]; rfl, hx2⟩
    · have R1 : Hid (authP s = if (cutB t 58).2.2 = true then ((cutB t 58).1, (cutB t 58).2.1, true) else (⟨#[]⟩, ⟨#[]⟩, false)) := Lib.hid (by rw [R0.out, if_pos rfl])
      clear R0
      go_wp2_with (first | (go_at_call 110; refine (KF.out _).mono ?_; rintro e w1 ⟨rfl, rfl⟩) | (go_at_call 131; refine (KD.out _).mono ?_; rintro e w2 ⟨rfl, hx2⟩))
      go_loop [7] (fun i => ∃ k : Nat, k ≤ t.size ∧ i = .int .i64 k ∧ ∀ j, j < k → B t j ≠ 58) (fun i => t.size - (intOf i).toNat)
      case atStart => exact ⟨0, Nat.zero_le _, rfl, fun j hj => by omega⟩
      case round =>
        obtain ⟨k, hk, rfl, hj⟩ := hrel
        have HJ := Lib.hid hj
        clear hj
        by_cases hlt : k < t.size
        · have hlt' : (k : Int) < t.size := by omega
          have bk := B_bd t k
          by_cases he : B t k = 58
          · have R : Hid (authP s = (t.extract 0 k, t.extract (k + 1) t.size, true)) := Lib.hid (by rw [R1.out, cutB_hit hlt he HJ.out]; rfl)
            have hb : (B t k == 58) = true := by rw [beq_iff_eq]; exact he
            have hk1 : (k : Int) ≤ t.size := by omega
            have hk2 : (k : Int) + 1 ≤ t.size := by omega
            have hk0 : (0 : Int) ≤ (k : Int) + 1 := by omega
            have hwk : IntKind.i64.wrap ((k : Int) + 1) = (k : Int) + 1 := IntWalk.i64_in _ (by omega)
            have htn : ((k : Int) + 1).toNat = k + 1 := by omega
            clear he
            go_upto_region 10 with fail
            refine wp_region_rg w2 (by kernel_rfl) (by kernel_rfl) (Ext.refl _) ?_
            first
              | (apply goV_skip (by intro u; rfl))
              | (apply goV_val _ (by intro u; rfl); · (intro u w hSw hF; go_simp; try with_reducible rfl))
            try simp only [Act.put, List.setIfInBounds_toArray, List.set_cons_zero, List.set_cons_succ]
            first
              | (apply goV_skip (by intro u; rfl))
              | (apply goV_val _ (by intro u; rfl); · (intro u w hSw hF; go_simp; try with_reducible rfl))
            try simp only [Act.put, List.setIfInBounds_toArray, List.set_cons_zero, List.set_cons_succ]
            first
              | (apply goV_skip (by intro u; rfl))
              | (apply goV_val _ (by intro u; rfl); · (intro u w hSw hF; go_simp; try with_reducible rfl))
            try simp only [Act.put, List.setIfInBounds_toArray, List.set_cons_zero, List.set_cons_succ]
            first
              | (apply goV_skip (by intro u; rfl))
              | (apply goV_val _ (by intro u; rfl); · (intro u w hSw hF; go_simp; try with_reducible rfl))
            try simp only [Act.put, List.setIfInBounds_toArray, List.set_cons_zero, List.set_cons_succ]
            first
              | (apply goV_skip (by intro u; rfl))
              | (apply goV_val _ (by intro u; rfl); · (intro u w hSw hF; go_simp; try with_reducible rfl))
            try simp only [Act.put, List.setIfInBounds_toArray, List.set_cons_zero, List.set_cons_succ]
            first
              | (apply goV_skip (by intro u; rfl))
              | (apply goV_val _ (by intro u; rfl); · (intro u w hSw hF; go_simp; try with_reducible rfl))
            try simp only [Act.put, List.setIfInBounds_toArray, List.set_cons_zero, List.set_cons_succ]
            first
              | (apply goV_skip (by intro u; rfl))
              | (apply goV_val _ (by intro u; rfl); · (intro u w hSw hF; go_simp; try with_reducible rfl))
            try simp only [Act.put, List.setIfInBounds_toArray, List.set_cons_zero, List.set_cons_succ]
            first
              | (apply goV_skip (by intro u; rfl))
              | (apply goV_val _ (by intro u; rfl); · (intro u w hSw hF; go_simp; try with_reducible rfl))
            try simp only [Act.put, List.setIfInBounds_toArray, List.set_cons_zero, List.set_cons_succ]
            first
              | (apply goV_skip (by intro u; rfl))
              | (apply goV_val _ (by intro u; rfl); · (intro u w hSw hF; go_simp; try with_reducible rfl))
            try simp only [Act.put, List.setIfInBounds_toArray, List.set_cons_zero, List.set_cons_succ]
            first
              | (apply goV_skip (by intro u; rfl))
              | (apply goV_val _ (by intro u; rfl); · (intro u w hSw hF; go_simp; try with_reducible rfl))
            try simp only [Act.put, List.setIfInBounds_toArray, List.set_cons_zero, List.set_cons_succ]
            intro u w5 hx5 _
            go_wp2
            refine bodyPost_ret (res3 rfl) rfl ⟨by rw [R.out]; rfl, hx2.trans hx5⟩
          · have hb : (B t k == 58) = false := by rw [beq_eq_false_iff_ne]; exact he
            have HE := Lib.hid he
            clear he
            go_wp2_with fail
            go_round
            case rel => exact ⟨k + 1, by omega, by go_num, fun j hj => by
              by_cases q : j = k
              · subst q; exact HE.out
              · exact HJ.out j (by omega)⟩
            case measure => simp [intOf]; omega
        · obtain rfl : k = t.size := by omega
          have R : Hid (authP s = (⟨#[]⟩, ⟨#[]⟩, false)) := Lib.hid (by rw [R1.out, cutB_no HJ.out]; rfl)
          have hnl : ¬ ((t.size : Nat) : Int) < t.size := by omega
          go_wp2_with fail
          refine bodyPost_ret (res3 rfl) rfl ⟨by rw [R.out]; rfl, hx2⟩
  · have hb32 : (B s 5 != 32) = true := by rw [bne_iff_ne]; exact h32
    have R : Hid (authP s = (⟨#[]⟩, ⟨#[]⟩, false)) := Lib.hid (hbad (fun h => h32 h.2.2))
    clear hbad hgood h32
    go_wp2_with (first | (go_at_call 110; refine (KF.out _).mono ?_; rintro e w1 ⟨rfl, rfl⟩))
    refine bodyPost_ret (res3 rfl) rfl ⟨by rw [R.out]; rfl, Ext.refl _⟩
end Go.Proofs.YtpdoddelnahlnaaGreatDoor
