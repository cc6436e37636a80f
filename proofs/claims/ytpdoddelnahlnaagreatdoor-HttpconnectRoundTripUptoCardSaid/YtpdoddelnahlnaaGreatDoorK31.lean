/-
  Several texts joined: HoQ.
-/
import Derived.Test.YtpdoddelnahlnaaGreatDoorK29
import Derived.Test.YtpdoddelnahlnaaGreatDoorK28
/-
  Contract of the reference's ParseTarget.
-/
set_option linter.unusedSimpArgs false
set_option linter.unusedVariables false
namespace Go.Proofs.YtpdoddelnahlnaaGreatDoor
open Go.RowKit
theorem data_B (s : ByteArray) (k : Nat) : ((s.data[k]!).toNat : Int) = B s k := by
  unfold B
  rw [List.getD_eq_getElem?_getD, Array.getElem?_toList]
  rcases Nat.lt_or_ge k s.data.size with h | h
  · rw [getElem!_pos s.data k h, Array.getElem?_eq_getElem h]; rfl
  · rw [getElem!_neg s.data k (by omega), Array.getElem?_eq_none h]; rfl
theorem lastIdx_bd (s : ByteArray) (c : Int) : ∀ k, -1 ≤ Lib.lastIdx s c k ∧ Lib.lastIdx s c k < k
  | 0 => by unfold Lib.lastIdx; omega
  | k + 1 => by
    have ih := lastIdx_bd s c k
    unfold Lib.lastIdx
    split <;> omega
set_option maxRecDepth 8000 in
set_option maxHeartbeats 4000000 in
theorem rptarget_any (s : ByteArray) (w : World) (hs : s.size < 4294967281) : Calls Tryz.prog 32 #[.string s] w fun e w' => e = .returned (.tuple #[tv (tgtP s).1, .bool (tgtP s).2]) ∧ Ext w w' := by
  go_enter Tryz.func32, Tryz.ntmps32
  go_upto_region 1 with fail
  rw [← tc_zero]
  have hx := (Ext.refl w).alloc (.cells (tc ztgt) 32)
  have hr := Blk.new w (tc ztgt) 32
  generalize w.alloc (.cells (tc ztgt) 32) = w0 at *
  have hwb : w.heap.size ≤ w.heap.size := Nat.le_refl _
  go_wp2_with fail
  go_loop [4, 5] (fun a c => ∃ k : Nat, k ≤ s.size ∧ c = .int .i64 k ∧ a = .int .i64 (Lib.lastIdx s 58 k)) (fun _ c => s.size - (intOf c).toNat)
  case atStart => exact ⟨0, Nat.zero_le _, rfl, rfl⟩
  case round =>
    obtain ⟨k, hk, rfl, rfl⟩ := hrel
    by_cases hlt : k < s.size
    · have hlt' : (k : Int) < s.size := by omega
      have bk := B_bd s k
      by_cases he : B s k = 58
      · have e1 : Hid (Lib.lastIdx s 58 (k + 1) = k) := Lib.hid (Lib.lastIdx_hit s 58 k (by rw [data_B]; exact he))
        have he' : (B s k == 58) = true := by rw [beq_iff_eq]; exact he
        clear he
        go_wp2_with fail
        go_round
        case rel => exact ⟨k + 1, by omega, by go_num, by rw [e1.out]⟩
        case measure => simp [intOf]; omega
      · have e1 : Hid (Lib.lastIdx s 58 (k + 1) = Lib.lastIdx s 58 k) := Lib.hid (Lib.lastIdx_miss s 58 k (by rw [data_B]; exact he))
        have he' : (B s k == 58) = false := by rw [beq_eq_false_iff_ne]; exact he
        clear he
        go_wp2_with fail
        go_round
        case rel => exact ⟨k + 1, by omega, by go_num, by rw [e1.out]⟩
        case measure => simp [intOf]; omega
    · obtain rfl : k = s.size := by omega
      clear hlt hk
      rw [show Lib.lastIdx s 58 s.size = Lib.lastIndexByte s 58 from rfl]
      have hnlt : ¬ ((s.size : Nat) : Int) < s.size := by omega
      rcases lastIdx_get s with hl | ⟨i, hi, hl⟩
      · have R : Hid (tgtP s = (ztgt, false)) := Lib.hid (by unfold tgtP; rw [hl]; rfl)
        rw [hl]
        clear hl
        go_wp2_with (first | refine wpList_store_T rfl _ _ rfl okT_ztgt okT_ztgt hr rfl rfl ?_)
        refine bodyPost_ret (res_T2 rfl rfl okT_ztgt ((hr).row _)) rfl ⟨by rw [R.out]; rfl, (hx).setRow hwb _⟩
      have RS : tgtP s = if (portP (s.extract (i + 1) s.size)).2 = false then (ztgt, false) else hostT (s.extract 0 i) (portP (s.extract (i + 1) s.size)).1 := by
        unfold tgtP
        rw [hl, if_neg (by omega), show ((i : Nat) : Int).toNat = i from rfl]
      rw [hl]
      clear hl
      have KQ := Lib.hid (rport_any (s.extract (i + 1) s.size) (Nat.le_trans (extract_le _ _ _) (by unfold maxLen; omega)))
      have hpb := portP_bd (s.extract (i + 1) s.size)
      have hhz := extract_le s 0 i
      have hi1 : (i : Int) + 1 ≤ s.size := by omega
      have hi2 : (i : Int) ≤ s.size := by omega
      cases hpo : (portP (s.extract (i + 1) s.size)).2
      · rw [hpo] at KQ
        have R : Hid (tgtP s = (ztgt, false)) := Lib.hid (by rw [RS, hpo]; rfl)
        clear RS hpo hpb
        generalize (portP (s.extract (i + 1) s.size)).1 = p at *
        go_wp2_with (first | (go_at_call 34; refine (KQ.out _).mono ?_; rintro e w4 ⟨rfl, rfl⟩) | refine wpList_store_T rfl _ _ rfl okT_ztgt okT_ztgt hr rfl rfl ?_)
        refine bodyPost_ret (res_T2 rfl rfl okT_ztgt (hr.row _)) rfl ⟨by rw [R.out]; rfl, hx.setRow hwb _⟩
      rw [hpo] at KQ
      have R0 := Lib.hid (show tgtP s = hostT (s.extract 0 i) (portP (s.extract (i + 1) s.size)).1 by rw [RS, hpo]; rfl)
      clear RS hpo
      generalize (portP (s.extract (i + 1) s.size)).1 = p at *
      go_upto_region 13 with (first | (go_at_call 34; refine (KQ.out _).mono ?_; rintro e w4 ⟨rfl, rfl⟩))
      clear KQ
      generalize s.extract 0 i = h at *
      have hz : h.size < 4294967281 := by omega
      have b0 := B_bd h 0
      have b1 := B_bd h (h.size - 1)
      have hj : ((h.size : Int) - 1).toNat = h.size - 1 := by omega
      have KP4 := Lib.hid (fun w => rparse4_any h w hz)
      clear hi hi1 hi2 hhz hs hnlt
      by_cases c1 : (h.size : Int) < 2
      · have HB : Hid (¬ (2 ≤ h.size ∧ B h 0 = 91 ∧ B h (h.size - 1) = 93)) := Lib.hid (by omega)
        have R0 : Hid (tgtP s = if 2 ≤ h.size ∧ B h 0 = 91 ∧ B h (h.size - 1) = 93 then (if ((parseA (h.extract 1 (h.size - 1))).2 && (parseA (h.extract 1 (h.size - 1))).1.1) = true then ((⟨#[]⟩, (parseA (h.extract 1 (h.size - 1))).1, p), true) else (ztgt, false)) else if (p4A h).2 = true then ((⟨#[]⟩, (p4A h).1, p), true) else if (nameP h).2 = true then (((nameP h).1, zadr, p), true) else (ztgt, false)) := Lib.hid R0.out
        go_upto_region 18 with fail
        clear c1 b0 b1 hj
        go_wp2_with (first | (go_at_call 61; refine (KP4.out _).mono ?_; rintro e w4 ⟨rfl, hx4⟩; refine Hid.out ?_))
        refine Lib.hid ?_
        have hxx4 := hx.trans hx4
        have hr4 := hr.ext hx4
        clear hx hx4 hr KP4
        have hbf := Blk.new w4 (ac zadr) 30
        go_upto_region 19 with (refine wpList_store_A rfl _ _ rfl okA_zadr (okA_p4A h) hbf rfl rfl ?_)
        change Code.wp _ _ _ _ ((w4.alloc (.cells (ac zadr) 30)).setRow w4.heap.size (ac (p4A h).1))
        rw [World.setRow_alloc_new]
        have hA5 := Blk.new w4 (ac (p4A h).1) 30
        have hx5 := hxx4.alloc (.cells (ac (p4A h).1) 30)
        have hnx := (Ext.refl w4).alloc (.cells (ac (p4A h).1) 30)
        clear hbf
        generalize w4.alloc (.cells (ac (p4A h).1) 30) = w5 at *
        generalize w4.heap.size = b5 at *
        have hr5 := hr4.ext hnx
        have hP := okA_p4A h
        clear hnx hr4 hxx4
        have hi64 : i64ok p := by unfold i64ok; omega
        cases q4 : (p4A h).2
        · have RN : Hid (tgtP s = if (nameP h).2 = true then (((nameP h).1, zadr, p), true) else (ztgt, false)) := Lib.hid (by rw [R0.out, if_neg HB.out, q4, if_neg (by simp)])
          have KN := Lib.hid (rpname_any h w5 (by unfold maxLen; omega))
          have hnz : (nameP h).1.size ≤ maxLen := Nat.le_trans (nameP_size h) (by unfold maxLen; omega)
          clear R0 HB q4 hA5
          have hokT : okT ((nameP h).1, zadr, p) := ⟨okA_zadr, hi64, hnz⟩
          clear hnz hi64
          generalize (nameP h).1 = nm at *
          generalize (nameP h).2 = nok at *
          go_wp2_with (first | (go_at_call 31; refine KN.out.mono ?_; rintro e w6 ⟨rfl, hx6⟩; refine Hid.out ?_))
          refine Lib.hid ?_
          have hr6 := hr5.ext hx6
          have hxx6 := hx5.trans hx6
          cases nok
          · have R : Hid (tgtP s = (ztgt, false)) := Lib.hid (by rw [RN.out]; rfl)
            go_wp2_with (first | refine wpList_store_T rfl _ _ rfl okT_ztgt okT_ztgt hr6 rfl rfl ?_)
            refine bodyPost_ret (res_T2 rfl rfl okT_ztgt ((hr6).row _)) rfl ⟨by rw [R.out]; rfl, (hxx6).setRow hwb _⟩
          · have R : Hid (tgtP s = ((nm, zadr, p), true)) := Lib.hid (by rw [RN.out]; rfl)
            go_wp2_with (first | refine wpList_store_T rfl _ _ rfl okT_ztgt hokT hr6 rfl rfl ?_)
            refine bodyPost_ret (res_T2 rfl rfl hokT (hr6.row _)) rfl ⟨by rw [R.out]; rfl, hxx6.setRow hwb _⟩
        · have R : Hid (tgtP s = ((⟨#[]⟩, (p4A h).1, p), true)) := Lib.hid (by rw [R0.out, if_neg HB.out, q4, if_pos rfl])
          have hokT : okT (⟨#[]⟩, (p4A h).1, p) := ⟨hP, hi64, Nat.zero_le _⟩
          clear R0 HB q4 hi64
          generalize (p4A h).1 = P at *
          go_wp2_with (first | refine wpList_load_A rfl _ rfl hP hA5 rfl ?_ | refine wpList_build_T1 rfl _ _ rfl hP rfl rfl ?_ | refine wpList_store_T rfl _ _ rfl okT_ztgt hokT hr5 rfl rfl ?_)
          refine bodyPost_ret (res_T2 rfl rfl hokT (hr5.row _)) rfl ⟨by rw [R.out]; rfl, hx5.setRow hwb _⟩
      have c1' : (2 : Int) ≤ h.size := by omega
      clear c1
      by_cases c2 : B h 0 = 91
      · have c2' : (B h 0 == 91) = true := by rw [beq_iff_eq]; exact c2
        by_cases c3 : B h (h.size - 1) = 93
        · have c3' : (B h (h.size - 1) == 93) = true := by rw [beq_iff_eq]; exact c3
          have R1 : Hid (tgtP s = if ((parseA (h.extract 1 (h.size - 1))).2 && (parseA (h.extract 1 (h.size - 1))).1.1) = true then ((⟨#[]⟩, (parseA (h.extract 1 (h.size - 1))).1, p), true) else (ztgt, false)) := Lib.hid (by rw [R0.out]; unfold hostT; rw [if_pos ⟨by omega, c2, c3⟩])
          clear c2 c3 R0 KP4
          have hj1 : (1 : Int) ≤ (h.size : Int) - 1 := by omega
          have hj2 : (h.size : Int) - 1 ≤ h.size := by omega
          have hez := extract_le h 1 (h.size - 1)
          have KP := Lib.hid (fun w => rparse_any (h.extract 1 (h.size - 1)) w (by omega))
          have hA := okA_parse' (h.extract 1 (h.size - 1))
          generalize (parseA (h.extract 1 (h.size - 1))).1 = P at *
          generalize (parseA (h.extract 1 (h.size - 1))).2 = ok at *
          go_wp2_with (first | (go_at_call 60; refine (KP.out _).mono ?_; rintro e w4 ⟨rfl, hx4⟩; refine Hid.out ?_))
          refine Lib.hid ?_
          have hxx4 := hx.trans hx4
          have hr4 := hr.ext hx4
          clear hx hx4 hr KP
          have hbf := Blk.new w4 (ac zadr) 30
          go_upto_region 15 with (refine wpList_store_A rfl _ _ rfl okA_zadr hA hbf rfl rfl ?_)
          change Code.wp _ _ _ _ ((w4.alloc (.cells (ac zadr) 30)).setRow w4.heap.size (ac P))
          rw [World.setRow_alloc_new]
          have hA5 := Blk.new w4 (ac P) 30
          have hx5 := hxx4.alloc (.cells (ac P) 30)
          have hnx := (Ext.refl w4).alloc (.cells (ac P) 30)
          clear hbf
          generalize w4.alloc (.cells (ac P) 30) = w5 at *
          generalize w4.heap.size = b5 at *
          have hr5 := hr4.ext hnx
          have c0 : w5.cell? ⟨b5, 0, none⟩ = some (.bool P.1) := hA5.cell (i := 0) rfl
          clear hnx hr4 hxx4
          have R2 : Hid (tgtP s = if (ok && P.1) = true then ((⟨#[]⟩, P, p), true) else (ztgt, false)) := R1
          clear R1
          cases ok
          · have R : Hid (tgtP s = (ztgt, false)) := Lib.hid (by rw [R2.out]; rfl)
            clear R2
            go_wp2_with (first | refine wpList_store_T rfl _ _ rfl okT_ztgt okT_ztgt hr5 rfl rfl ?_)
            refine bodyPost_ret (res_T2 rfl rfl okT_ztgt ((hr5).row _)) rfl ⟨by rw [R.out]; rfl, (hx5).setRow hwb _⟩
          · cases hf : P.1
            · have R : Hid (tgtP s = (ztgt, false)) := Lib.hid (by rw [R2.out, hf]; rfl)
              rw [hf] at c0
              clear R2 hf
              go_wp2_with (first | refine wpList_store_T rfl _ _ rfl okT_ztgt okT_ztgt hr5 rfl rfl ?_)
              refine bodyPost_ret (res_T2 rfl rfl okT_ztgt ((hr5).row _)) rfl ⟨by rw [R.out]; rfl, (hx5).setRow hwb _⟩
            · have R : Hid (tgtP s = ((⟨#[]⟩, P, p), true)) := Lib.hid (by rw [R2.out, hf]; rfl)
              rw [hf] at c0
              clear R2 hf
              have hokT : okT (⟨#[]⟩, P, p) := ⟨hA, by unfold i64ok; simp only; omega, Nat.zero_le _⟩
              go_wp2_with (first | refine wpList_load_A rfl _ rfl hA hA5 rfl ?_ | refine wpList_build_T1 rfl _ _ rfl hA rfl rfl ?_ | refine wpList_store_T rfl _ _ rfl okT_ztgt hokT hr5 rfl rfl ?_)
              refine bodyPost_ret (res_T2 rfl rfl hokT (hr5.row _)) rfl ⟨by rw [R.out]; rfl, hx5.setRow hwb _⟩
        · have HB : Hid (¬ (2 ≤ h.size ∧ B h 0 = 91 ∧ B h (h.size - 1) = 93)) := Lib.hid (by omega)
          have R0 : Hid (tgtP s = if 2 ≤ h.size ∧ B h 0 = 91 ∧ B h (h.size - 1) = 93 then (if ((parseA (h.extract 1 (h.size - 1))).2 && (parseA (h.extract 1 (h.size - 1))).1.1) = true then ((⟨#[]⟩, (parseA (h.extract 1 (h.size - 1))).1, p), true) else (ztgt, false)) else if (p4A h).2 = true then ((⟨#[]⟩, (p4A h).1, p), true) else if (nameP h).2 = true then (((nameP h).1, zadr, p), true) else (ztgt, false)) := Lib.hid R0.out
          have c3' : (B h (h.size - 1) == 93) = false := by rw [beq_eq_false_iff_ne]; exact c3
          clear c2 c3
          go_upto_region 18 with fail
          clear c1' c2' c3' b0 b1 hj
          go_wp2_with (first | (go_at_call 61; refine (KP4.out _).mono ?_; rintro e w4 ⟨rfl, hx4⟩; refine Hid.out ?_))
          refine Lib.hid ?_
          have hxx4 := hx.trans hx4
          have hr4 := hr.ext hx4
          clear hx hx4 hr KP4
          have hbf := Blk.new w4 (ac zadr) 30
          go_upto_region 19 with (refine wpList_store_A rfl _ _ rfl okA_zadr (okA_p4A h) hbf rfl rfl ?_)
          change Code.wp _ _ _ _ ((w4.alloc (.cells (ac zadr) 30)).setRow w4.heap.size (ac (p4A h).1))
          rw [World.setRow_alloc_new]
          have hA5 := Blk.new w4 (ac (p4A h).1) 30
          have hx5 := hxx4.alloc (.cells (ac (p4A h).1) 30)
          have hnx := (Ext.refl w4).alloc (.cells (ac (p4A h).1) 30)
          clear hbf
          generalize w4.alloc (.cells (ac (p4A h).1) 30) = w5 at *
          generalize w4.heap.size = b5 at *
          have hr5 := hr4.ext hnx
          have hP := okA_p4A h
          clear hnx hr4 hxx4
          have hi64 : i64ok p := by unfold i64ok; omega
          cases q4 : (p4A h).2
          · have RN : Hid (tgtP s = if (nameP h).2 = true then (((nameP h).1, zadr, p), true) else (ztgt, false)) := Lib.hid (by rw [R0.out, if_neg HB.out, q4, if_neg (by simp)])
            have KN := Lib.hid (rpname_any h w5 (by unfold maxLen; omega))
            have hnz : (nameP h).1.size ≤ maxLen := Nat.le_trans (nameP_size h) (by unfold maxLen; omega)
            clear R0 HB q4 hA5
            have hokT : okT ((nameP h).1, zadr, p) := ⟨okA_zadr, hi64, hnz⟩
            clear hnz hi64
            generalize (nameP h).1 = nm at *
            generalize (nameP h).2 = nok at *
            go_wp2_with (first | (go_at_call 31; refine KN.out.mono ?_; rintro e w6 ⟨rfl, hx6⟩; refine Hid.out ?_))
            refine Lib.hid ?_
            have hr6 := hr5.ext hx6
            have hxx6 := hx5.trans hx6
            cases nok
            · have R : Hid (tgtP s = (ztgt, false)) := Lib.hid (by rw [RN.out]; rfl)
              go_wp2_with (first | refine wpList_store_T rfl _ _ rfl okT_ztgt okT_ztgt hr6 rfl rfl ?_)
              refine bodyPost_ret (res_T2 rfl rfl okT_ztgt ((hr6).row _)) rfl ⟨by rw [R.out]; rfl, (hxx6).setRow hwb _⟩
            · have R : Hid (tgtP s = ((nm, zadr, p), true)) := Lib.hid (by rw [RN.out]; rfl)
              go_wp2_with (first | refine wpList_store_T rfl _ _ rfl okT_ztgt hokT hr6 rfl rfl ?_)
              refine bodyPost_ret (res_T2 rfl rfl hokT (hr6.row _)) rfl ⟨by rw [R.out]; rfl, hxx6.setRow hwb _⟩
          · have R : Hid (tgtP s = ((⟨#[]⟩, (p4A h).1, p), true)) := Lib.hid (by rw [R0.out, if_neg HB.out, q4, if_pos rfl])
            have hokT : okT (⟨#[]⟩, (p4A h).1, p) := ⟨hP, hi64, Nat.zero_le _⟩
            clear R0 HB q4 hi64
            generalize (p4A h).1 = P at *
            go_wp2_with (first | refine wpList_load_A rfl _ rfl hP hA5 rfl ?_ | refine wpList_build_T1 rfl _ _ rfl hP rfl rfl ?_ | refine wpList_store_T rfl _ _ rfl okT_ztgt hokT hr5 rfl rfl ?_)
            refine bodyPost_ret (res_T2 rfl rfl hokT (hr5.row _)) rfl ⟨by rw [R.out]; rfl, hx5.setRow hwb _⟩
      · have HB : Hid (¬ (2 ≤ h.size ∧ B h 0 = 91 ∧ B h (h.size - 1) = 93)) := Lib.hid (by omega)
        have R0 : Hid (tgtP s = if 2 ≤ h.size ∧ B h 0 = 91 ∧ B h (h.size - 1) = 93 then (if ((parseA (h.extract 1 (h.size - 1))).2 && (parseA (h.extract 1 (h.size - 1))).1.1) = true then ((⟨#[]⟩, (parseA (h.extract 1 (h.size - 1))).1, p), true) else (ztgt, false)) else if (p4A h).2 = true then ((⟨#[]⟩, (p4A h).1, p), true) else if (nameP h).2 = true then (((nameP h).1, zadr, p), true) else (ztgt, false)) := Lib.hid R0.out
        have c2' : (B h 0 == 91) = false := by rw [beq_eq_false_iff_ne]; exact c2
        clear c2
        go_upto_region 18 with fail
        clear c1' c2' b0 b1 hj
        go_wp2_with (first | (go_at_call 61; refine (KP4.out _).mono ?_; rintro e w4 ⟨rfl, hx4⟩; refine Hid.out ?_))
        refine Lib.hid ?_
        have hxx4 := hx.trans hx4
        have hr4 := hr.ext hx4
        clear hx hx4 hr KP4
        have hbf := Blk.new w4 (ac zadr) 30
        go_upto_region 19 with (refine wpList_store_A rfl _ _ rfl okA_zadr (okA_p4A h) hbf rfl rfl ?_)
        change Code.wp _ _ _ _ ((w4.alloc (.cells (ac zadr) 30)).setRow w4.heap.size (ac (p4A h).1))
        rw [World.setRow_alloc_new]
        have hA5 := Blk.new w4 (ac (p4A h).1) 30
        have hx5 := hxx4.alloc (.cells (ac (p4A h).1) 30)
        have hnx := (Ext.refl w4).alloc (.cells (ac (p4A h).1) 30)
        clear hbf
        generalize w4.alloc (.cells (ac (p4A h).1) 30) = w5 at *
        generalize w4.heap.size = b5 at *
        have hr5 := hr4.ext hnx
        have hP := okA_p4A h
        clear hnx hr4 hxx4
        have hi64 : i64ok p := by unfold i64ok; omega
        cases q4 : (p4A h).2
        · have RN : Hid (tgtP s = if (nameP h).2 = true then (((nameP h).1, zadr, p), true) else (ztgt, false)) := Lib.hid (by rw [R0.out, if_neg HB.out, q4, if_neg (by simp)])
          have KN := Lib.hid (rpname_any h w5 (by unfold maxLen; omega))
          have hnz : (nameP h).1.size ≤ maxLen := Nat.le_trans (nameP_size h) (by unfold maxLen; omega)
          clear R0 HB q4 hA5
          have hokT : okT ((nameP h).1, zadr, p) := ⟨okA_zadr, hi64, hnz⟩
          clear hnz hi64
          generalize (nameP h).1 = nm at *
          generalize (nameP h).2 = nok at *
          go_wp2_with (first | (go_at_call 31; refine KN.out.mono ?_; rintro e w6 ⟨rfl, hx6⟩; refine Hid.out ?_))
          refine Lib.hid ?_
          have hr6 := hr5.ext hx6
          have hxx6 := hx5.trans hx6
          cases nok
          · have R : Hid (tgtP s = (ztgt, false)) := Lib.hid (by rw [RN.out]; rfl)
            go_wp2_with (first | refine wpList_store_T rfl _ _ rfl okT_ztgt okT_ztgt hr6 rfl rfl ?_)
            refine bodyPost_ret (res_T2 rfl rfl okT_ztgt ((hr6).row _)) rfl ⟨by rw [R.out]; rfl, (hxx6).setRow hwb _⟩
          · have R : Hid (tgtP s = ((nm, zadr, p), true)) := Lib.hid (by rw [RN.out]; rfl)
            go_wp2_with (first | refine wpList_store_T rfl _ _ rfl okT_ztgt hokT hr6 rfl rfl ?_)
            refine bodyPost_ret (res_T2 rfl rfl hokT (hr6.row _)) rfl ⟨by rw [R.out]; rfl, hxx6.setRow hwb _⟩
        · have R : Hid (tgtP s = ((⟨#[]⟩, (p4A h).1, p), true)) := Lib.hid (by rw [R0.out, if_neg HB.out, q4, if_pos rfl])
          have hokT : okT (⟨#[]⟩, (p4A h).1, p) := ⟨hP, hi64, Nat.zero_le _⟩
          clear R0 HB q4 hi64
          generalize (p4A h).1 = P at *
          go_wp2_with (first | refine wpList_load_A rfl _ rfl hP hA5 rfl ?_ | refine wpList_build_T1 rfl _ _ rfl hP rfl rfl ?_ | refine wpList_store_T rfl _ _ rfl okT_ztgt hokT hr5 rfl rfl ?_)
          refine bodyPost_ret (res_T2 rfl rfl hokT (hr5.row _)) rfl ⟨by rw [R.out]; rfl, hx5.setRow hwb _⟩
end Go.Proofs.YtpdoddelnahlnaaGreatDoor
