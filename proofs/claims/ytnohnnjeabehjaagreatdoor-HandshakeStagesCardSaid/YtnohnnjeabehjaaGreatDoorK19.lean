/-
  Several texts joined: HoV, HoQ.
-/
import Derived.Lib.ItoaLen
import Derived.Test.YtnohnnjeabehjaaGreatDoorK18
import Derived.Test.YtnohnnjeabehjaaGreatDoorK05
set_option maxHeartbeats 4000000
set_option maxRecDepth 8000
set_option linter.unusedVariables false
set_option linter.unusedSimpArgs false
namespace Go.Proofs.YtnohnnjeabehjaaGreatDoor
open Go.RowKit
def validT (t : Tgt) : Bool := if 1 <= t.2.2 /\ t.2.2 <= 65535 then (if t.1.size = 0 then validA t.2.1 else okName t.1 && decide (t.2.1 = zadr)) else false
def fmtT (t : Tgt) : ByteArray := if validT t = true then (if t.1.size = 0 then (if t.2.1.1 = true then ⟨#[91]⟩ ++ txt (fmtA t.2.1) ++ ⟨#[93]⟩ else txt (fmtA t.2.1)) else t.1) ++ (⟨#[58]⟩ ++ txt (Lib.decDigits t.2.2.toNat)) else ⟨#[]⟩
theorem ext_grow8 (w : World) (k : Nat) (os : Array Obj) : Ext w (Sort.grow (w.drewN k) os) :=
 ⟨rfl, rfl, rfl, by simp [Sort.grow, World.drewN], fun i hi => by
  show (w.heap ++ os)[i]? = w.heap[i]?
  rw [Array.getElem?_append_left hi]⟩
theorem numfmt_all (n : Int) (h : i64ok n) (w : World) (ht : Tabs w) : Calls Tryz.prog 63 #[.int .i64 n] w fun e w' => e = .returned (.string (txt (Lib.itoa n))) /\ Ext w w' := by
 have K := Lib.hid (Tryz.strconv_Itoa n h.1 h.2 w ht.p10)
 go_enter Tryz.func63, Tryz.ntmps63
 go_wp2_with (go_at_call 89; refine K.out.mono ?_; rintro e w1 ⟨rfl, k, os, rfl⟩)
 go_ret
 exact ⟨rfl, ext_grow8 w k os⟩
theorem rvtarget_any (t : Tgt) (ht : okT t) (w : World) : Calls Tryz.prog 40 #[tv t] w fun e w' => e = .returned (.bool (validT t)) /\ Ext w w' := by
 unfold tv
 go_enter Tryz.func40, Tryz.ntmps40
 go_upto_region 1 with fail
 have hx := (Ext.refl w).alloc (.cells (tc t) 43)
 have hb := Blk.new w (tc t) 43
 generalize w.alloc (.cells (tc t) 43) = w0 at *
 generalize w.heap.size = b at *
 have c18 := TBlk.port ht hb
 have c0 := TBlk.name hb
 by_cases p1 : t.2.2 < 1
 ·have R : Hid (validT t = false) := Lib.hid (by unfold validT; rw [if_neg (by omega)])
  generalize t.2.2 = p at *
  go_wp2_with fail
  go_ret; exact ⟨by rw [R.out]; rfl, hx⟩
 by_cases p2 : 65535 < t.2.2
 ·have R : Hid (validT t = false) := Lib.hid (by unfold validT; rw [if_neg (by omega)])
  have p3 : (65536 : Int) <= t.2.2 := by omega
  generalize t.2.2 = p at *
  go_wp2_with fail
  go_ret; exact ⟨by rw [R.out]; rfl, hx⟩
 have R0 : Hid (validT t = if t.1.size = 0 then validA t.2.1 else okName t.1 && decide (t.2.1 = zadr)) := Lib.hid (by unfold validT; rw [if_pos (by omega)])
 have p3 : ¬ (65536 : Int) <= t.2.2 := by omega
 generalize t.2.2 = p at *
 by_cases hn : (t.1.size : Int) < 1
 ·have R : Hid (validT t = validA t.2.1) := Lib.hid (by rw [R0.out, if_pos (by omega)])
  have K1 := Lib.hid (fun w => rValid_any t.2.1 ht.1 w)
  clear R0
  generalize t.1 = nm at *
  go_wp2_with (first | refine wpList_load_TA rfl _ rfl ht hb rfl ?_ | (go_at_call 56; refine (K1.out _).mono ?_; rintro e w1 ⟨rfl, hx1⟩))
  go_ret; exact ⟨by rw [R.out]; rfl, hx.trans hx1⟩
 have R : Hid (validT t = (okName t.1 && decide (t.2.1 = zadr))) := Lib.hid (by rw [R0.out, if_neg (by omega)])
 have K1 := (Lib.hid (fun w' (h : Ext w0 w') => rname_any t.1 w' ht.2.2))
 clear R0
 have F := fun (w' : World) (h : Ext w0 w') => TBlk.name (hb.ext h)
 have gT : ∀ w', Ext w0 w' -> TBlk w' b t := fun w' h => hb.ext h
 generalize hnm : t.1 = nm at *
 go_upto_region 5 with fail
 refine wp_region_rgs ?_
 cases hok : okName nm
 ·rw [hok] at K1 R
  clear hok
  have KC := fun (w' : World) (h : Ext w0 w') => K1.out w' h
  first
   | (apply goV_skip (by intro u; rfl))
   | (apply goV_val _ (by intro u; rfl); · (intro u w hSw hF; go_simp; try with_reducible rfl))
  try simp only [aput, List.set]
  first
   | (apply goV_skip (by intro u; rfl))
   | (apply goV_val (.string nm) (by intro u; rfl); · (intro u w hSw hF; have c0 := F w hSw; go_simp))
  try simp only [aput, List.set]
  first
   | (apply goV_skip (by intro u; rfl))
   | (apply goV_call (by intro u; rfl) KC; · (intro u w hSw hF; go_simp; try with_reducible rfl))
  try simp only [aput, List.set]
  iterate 7
   first
    | (apply goV_skip (by intro u; rfl))
    | (apply goV_val _ (by intro u; rfl); · (intro u w hSw hF; go_simp; try with_reducible rfl))
   try simp only [aput, List.set]
  intro u w2 hx2 _
  go_wp2
  go_ret; exact ⟨by rw [R.out]; rfl, hx.trans hx2⟩
 ·rw [hok] at K1 R
  clear hok
  have KC := fun (w' : World) (h : Ext w0 w') => K1.out w' h
  have hdd : decide (t.2.1 = zadr) = decide (t.2.1 = zadr) := rfl
  generalize hr : decide (t.2.1 = zadr) = r at *
  first
   | (apply goV_skip (by intro u; rfl))
   | (apply goV_val _ (by intro u; rfl); · (intro u w hSw hF; go_simp; try with_reducible rfl))
  try simp only [aput, List.set]
  first
   | (apply goV_skip (by intro u; rfl))
   | (apply goV_val (.string nm) (by intro u; rfl); · (intro u w hSw hF; have c0 := F w hSw; go_simp))
  try simp only [aput, List.set]
  first
   | (apply goV_skip (by intro u; rfl))
   | (apply goV_call (by intro u; rfl) KC; · (intro u w hSw hF; go_simp; try with_reducible rfl))
  try simp only [aput, List.set]
  iterate 2
   first
    | (apply goV_skip (by intro u; rfl))
    | (apply goV_val _ (by intro u; rfl); · (intro u w hSw hF; go_simp; try with_reducible rfl))
   try simp only [aput, List.set]
  first
   | (apply goV_skip (by intro u; rfl))
   | (apply goV_loadTA (by intro u; rfl) _ rfl ht gT (by intro u; rfl))
  try simp only [aput, List.set]
  first
   | (apply goV_skip (by intro u; rfl))
   | (apply goV_val _ (by intro u; rfl); · (intro u w hSw hF; go_simp; try with_reducible rfl))
  try simp only [aput, List.set]
  first
   | (apply goV_skip (by intro u; rfl))
   | (apply goV_eqAd (by intro u; rfl) _ _ rfl ht.1 okA_zadr hr (by intro u; rfl) (by intro u; rfl))
  try simp only [aput, List.set]
  iterate 2
   first
    | (apply goV_skip (by intro u; rfl))
    | (apply goV_val _ (by intro u; rfl); · (intro u w hSw hF; go_simp; try with_reducible rfl))
   try simp only [aput, List.set]
  intro u w2 hx2 _
  go_wp2
  go_ret; exact ⟨by rw [R.out]; rfl, hx.trans hx2⟩
theorem validT_port {t : Tgt} (h : validT t = true) : 1 <= t.2.2 /\ t.2.2 <= 65535 := by
 unfold validT at h
 split at h
 ·assumption
 ·cases h
theorem validT_name {t : Tgt} (h : validT t = true) : t.1.size <= 253 := by
 have hp := validT_port h
 unfold validT at h
 rw [if_pos hp] at h
 split at h
 ·omega
 ·rw [Bool.and_eq_true] at h; exact okName_size h.1
theorem rhformat_any (t : Tgt) (ht : okT t) (w : World) : Calls Tryz.prog 41 #[tv t] w fun e w' => e = .returned (.string (fmtT t)) /\ Ext w w' := by
 have KV := Lib.hid (fun w => rvtarget_any t ht w)
 have R0 : Hid (fmtT t = if validT t = true then (if t.1.size = 0 then (if t.2.1.1 = true then ⟨#[91]⟩ ++ txt (fmtA t.2.1) ++ ⟨#[93]⟩ else txt (fmtA t.2.1)) else t.1) ++ (⟨#[58]⟩ ++ txt (Lib.decDigits t.2.2.toNat)) else ⟨#[]⟩) := Lib.hid rfl
 have hvp := @validT_port t
 have hvn := @validT_name t
 unfold tv
 go_enter Tryz.func41, Tryz.ntmps41
 go_upto_region 1 with fail
 have hx := (Ext.refl w).alloc (.cells (tc t) 43)
 have hb := Blk.new w (tc t) 43
 generalize w.alloc (.cells (tc t) 43) = w0 at *
 generalize w.heap.size = b at *
 have hv := KV.out w0
 clear KV
 cases hva : validT t
 ·rw [hva] at hv R0
  have R : Hid (fmtT t = ⟨#[]⟩) := Lib.hid (by rw [R0.out]; rfl)
  clear hva hvp hvn R0
  go_wp2_with (first | refine wpList_load_T rfl _ rfl ht hb rfl ?_ | (go_at_call 40; refine hv.mono ?_; rintro e w2 ⟨rfl, hx2⟩))
  go_ret; exact ⟨by rw [R.out]; rfl, hx.trans hx2⟩
 have hp := hvp hva
 have hn := hvn hva
 rw [hva] at hv R0
 have R1 : Hid (fmtT t = (if t.1.size = 0 then (if t.2.1.1 = true then ⟨#[91]⟩ ++ txt (fmtA t.2.1) ++ ⟨#[93]⟩ else txt (fmtA t.2.1)) else t.1) ++ ⟨#[58]⟩ ++ txt (Lib.decDigits t.2.2.toNat)) := Lib.hid (by rw [R0.out, if_pos rfl]; exact ByteArray.append_assoc.symm)
 clear hva hvp hvn R0
 go_upto_region 3 with (first | refine wpList_load_T rfl _ rfl ht hb rfl ?_ | (go_at_call 40; refine hv.mono ?_; rintro e w2 ⟨rfl, hx2⟩; refine Hid.out ?_))
 refine Lib.hid ?_
 have hxx2 := hx.trans hx2
 have hb2 := hb.ext hx2
 have c0 := TBlk.name hb2
 have c1 := TBlk.fam hb2
 have F18 := fun (w' : World) (h : Ext w2 w') => TBlk.port ht (hb2.ext h)
 have F1 := fun (w' : World) (h : Ext w2 w') => TBlk.fam (hb2.ext h)
 have KF := Lib.hid (rFormat_any t.2.1 ht.1 w2)
 have KD := Lib.hid (fun w => fdec_any t.2.2.toNat (by omega) w)
 rw [show ((t.2.2.toNat : Nat) : Int) = t.2.2 by omega] at KD
 have l1 : (txt (fmtA t.2.1)).size <= 45 := by rw [txt_size]; exact fmtA_len ht.1
 have l0 : (txt (Lib.decDigits t.2.2.toNat)).size <= 5 := by rw [txt_size]; exact dd_len 4 _ (by omega)
 generalize txt (Lib.decDigits t.2.2.toNat) = ds at *
 generalize htx : txt (fmtA t.2.1) = fs at *
 generalize t.2.2 = p at *
 clear hx hb hx2 hv
 by_cases hne : (t.1.size : Int) < 1
 ·have R2 : Hid (fmtT t = (if t.2.1.1 = true then ⟨#[91]⟩ ++ fs ++ ⟨#[93]⟩ else fs) ++ ⟨#[58]⟩ ++ ds) := Lib.hid (by rw [R1.out, if_pos (by omega)])
  clear R1 htx
  generalize t.1 = nm at *
  have y1 : ¬ 9223372036854775807 < 1 + fs.size := by omega
  have y2 : ¬ 9223372036854775807 < 1 + fs.size + 1 := by omega
  have y3 : ¬ 9223372036854775807 < 1 + fs.size + 1 + 1 := by omega
  have y4 : ¬ 9223372036854775807 < 1 + fs.size + 1 + 1 + ds.size := by omega
  have y5 : ¬ 9223372036854775807 < fs.size + 1 := by omega
  have y6 : ¬ 9223372036854775807 < fs.size + 1 + ds.size := by omega
  cases hf : t.2.1.1
  ·have R : Hid (fmtT t = fs ++ ⟨#[58]⟩ ++ ds) := Lib.hid (by rw [R2.out, hf]; rfl)
   rw [hf] at c1 F1
   clear R2 hf
   go_wp2_with (first | refine wpList_load_TA rfl _ rfl ht hb2 rfl ?_ | (go_at_call 59; refine KF.out.mono ?_; rintro e w3 ⟨rfl, hx3⟩; have d1 := F1 w3 hx3; have d18 := F18 w3 hx3) | (go_at_call 49; refine (KD.out _).mono ?_; rintro e w4 ⟨rfl, hx4⟩))
   go_ret; exact ⟨by rw [R.out]; rfl, (hxx2.trans hx3).trans hx4⟩
  ·have R : Hid (fmtT t = ⟨#[91]⟩ ++ fs ++ ⟨#[93]⟩ ++ ⟨#[58]⟩ ++ ds) := Lib.hid (by rw [R2.out, hf]; rfl)
   rw [hf] at c1 F1
   clear R2 hf
   go_wp2_with (first | refine wpList_load_TA rfl _ rfl ht hb2 rfl ?_ | (go_at_call 59; refine KF.out.mono ?_; rintro e w3 ⟨rfl, hx3⟩; have d1 := F1 w3 hx3; have d18 := F18 w3 hx3) | (go_at_call 49; refine (KD.out _).mono ?_; rintro e w4 ⟨rfl, hx4⟩))
   go_ret; exact ⟨by rw [R.out]; rfl, (hxx2.trans hx3).trans hx4⟩
 ·have R : Hid (fmtT t = t.1 ++ ⟨#[58]⟩ ++ ds) := Lib.hid (by rw [R1.out, if_neg (by omega)])
  have d18 := F18 w2 (Ext.refl _)
  clear R1 htx KF F18 F1
  generalize t.1 = nm at *
  have y4 : ¬ 9223372036854775807 < nm.size + 1 := by omega
  have y5 : ¬ 9223372036854775807 < nm.size + 1 + ds.size := by omega
  go_wp2_with (first | (go_at_call 49; refine (KD.out _).mono ?_; rintro e w4 ⟨rfl, hx4⟩))
  go_ret; exact ⟨by rw [R.out]; rfl, hxx2.trans hx4⟩
open Go.RowKit
theorem data_B (s : ByteArray) (k : Nat) : ((s.data[k]!).toNat : Int) = B s k := by
 unfold B
 rw [List.getD_eq_getElem?_getD, Array.getElem?_toList]
 rcases Nat.lt_or_ge k s.data.size with h | h
 ·rw [getElem!_pos s.data k h, Array.getElem?_eq_getElem h]; rfl
 ·rw [getElem!_neg s.data k (by omega), Array.getElem?_eq_none h]; rfl
theorem rptarget_any (s : ByteArray) (w : World) (hs : s.size < 4294967281) : Calls Tryz.prog 180 #[.string s] w fun e w' => e = .returned (.tuple #[tv (tgtP s).1, .bool (tgtP s).2]) /\ Ext w w' := by
 go_enter Tryz.func180, Tryz.ntmps180
 go_upto_region 1 with fail
 rw [← tc_zero]
 have hx := (Ext.refl w).alloc (.cells (tc ztgt) 43)
 have hr := Blk.new w (tc ztgt) 43
 generalize w.alloc (.cells (tc ztgt) 43) = w0 at *
 have hwb : w.heap.size <= w.heap.size := Nat.le_refl _
 go_wp2_with fail
 go_loop [4, 5] (fun a c => ∃ k : Nat, k <= s.size /\ c = .int .i64 k /\ a = .int .i64 (Lib.lastIdx s 58 k)) (fun _ c => s.size - (intOf c).toNat)
 case atStart => exact ⟨0, Nat.zero_le _, rfl, rfl⟩
 case round =>
  obtain ⟨k, hk, rfl, rfl⟩ := hrel
  by_cases hlt : k < s.size
  ·have hlt' : (k : Int) < s.size := by omega
   have bk := B_bd s k
   by_cases he : B s k = 58
   ·have e1 : Hid (Lib.lastIdx s 58 (k + 1) = k) := Lib.hid (Lib.lastIdx_hit s 58 k (by rw [data_B]; exact he))
    have he' : (B s k == 58) = true := by rw [beq_iff_eq]; exact he
    clear he
    go_wp2_with fail
    go_round
    case rel => exact ⟨k + 1, by omega, by go_num, by rw [e1.out]⟩
    case measure => simp [intOf]; omega
   ·have e1 : Hid (Lib.lastIdx s 58 (k + 1) = Lib.lastIdx s 58 k) := Lib.hid (Lib.lastIdx_miss s 58 k (by rw [data_B]; exact he))
    have he' : (B s k == 58) = false := by rw [beq_eq_false_iff_ne]; exact he
    clear he
    go_wp2_with fail
    go_round
    case rel => exact ⟨k + 1, by omega, by go_num, by rw [e1.out]⟩
    case measure => simp [intOf]; omega
  ·obtain rfl : k = s.size := by omega
   clear hlt hk
   rw [show Lib.lastIdx s 58 s.size = Lib.lastIndexByte s 58 from rfl]
   have hnlt : ¬ ((s.size : Nat) : Int) < s.size := by omega
   rcases lastIdx_get s with hl | ⟨i, hi, hl⟩
   ·have R : Hid (tgtP s = (ztgt, false)) := Lib.hid (by unfold tgtP; rw [hl]; rfl)
    rw [hl]
    clear hl
    go_wp2_with (first | refine wpList_store_T rfl _ _ rfl okT_ztgt okT_ztgt hr rfl rfl ?_)
    refine bodyPost_ret (res_T2 rfl rfl okT_ztgt ((hr).row _)) rfl ⟨by rw [R.out]; rfl, (hx).setRow hwb _⟩
   have RS : tgtP s = if (portP (s.extract (i + 1) s.size)).2 = false then (ztgt, false) else hostT (s.extract 0 i) (portP (s.extract (i + 1) s.size)).1 := by
    unfold tgtP
    rw [hl, if_neg (by omega), show ((i : Nat) : Int).toNat = i from rfl]
   rw [hl]
   clear hl
   have KQ := Lib.hid (rport_any (s.extract (i + 1) s.size) (Nat.le_trans (extract_le _ _ _) (by unfold maxLen; omega)))
   have hpb := portP_bd (s.extract (i + 1) s.size)
   have hhz := extract_le s 0 i
   have hi1 : (i : Int) + 1 <= s.size := by omega
   have hi2 : (i : Int) <= s.size := by omega
   cases hpo : (portP (s.extract (i + 1) s.size)).2
   ·rw [hpo] at KQ
    have R : Hid (tgtP s = (ztgt, false)) := Lib.hid (by rw [RS, hpo]; rfl)
    clear RS hpo hpb
    generalize (portP (s.extract (i + 1) s.size)).1 = p at *
    go_wp2_with (first | (go_at_call 202; refine (KQ.out _).mono ?_; rintro e w4 ⟨rfl, rfl⟩) | refine wpList_store_T rfl _ _ rfl okT_ztgt okT_ztgt hr rfl rfl ?_)
    refine bodyPost_ret (res_T2 rfl rfl okT_ztgt (hr.row _)) rfl ⟨by rw [R.out]; rfl, hx.setRow hwb _⟩
   rw [hpo] at KQ
   have R0 := Lib.hid (show tgtP s = hostT (s.extract 0 i) (portP (s.extract (i + 1) s.size)).1 by rw [RS, hpo]; rfl)
   clear RS hpo
   generalize (portP (s.extract (i + 1) s.size)).1 = p at *
   go_upto_region 13 with (first | (go_at_call 202; refine (KQ.out _).mono ?_; rintro e w4 ⟨rfl, rfl⟩))
   clear KQ
   generalize s.extract 0 i = h at *
   have hz : h.size < 4294967281 := by omega
   have b0 := B_bd h 0
   have b1 := B_bd h (h.size - 1)
   have hj : ((h.size : Int) - 1).toNat = h.size - 1 := by omega
   have KP4 := Lib.hid (fun w => rparse4_any h w hz)
   clear hi hi1 hi2 hhz hs hnlt
   by_cases c1 : (h.size : Int) < 2
   ·have HB : Hid (¬ (2 <= h.size /\ B h 0 = 91 /\ B h (h.size - 1) = 93)) := Lib.hid (by omega)
    have R0 : Hid (tgtP s = if 2 <= h.size /\ B h 0 = 91 /\ B h (h.size - 1) = 93 then (if ((parseA (h.extract 1 (h.size - 1))).2 && (parseA (h.extract 1 (h.size - 1))).1.1) = true then ((⟨#[]⟩, (parseA (h.extract 1 (h.size - 1))).1, p), true) else (ztgt, false)) else if (p4A h).2 = true then ((⟨#[]⟩, (p4A h).1, p), true) else if (nameP h).2 = true then (((nameP h).1, zadr, p), true) else (ztgt, false)) := Lib.hid R0.out
    go_upto_region 18 with fail
    clear c1 b0 b1 hj
    go_wp2_with (first | (go_at_call 204; refine (KP4.out _).mono ?_; rintro e w4 ⟨rfl, hx4⟩; refine Hid.out ?_))
    refine Lib.hid ?_
    have hxx4 := hx.trans hx4
    have hr4 := hr.ext hx4
    clear hx hx4 hr KP4
    have hbf := Blk.new w4 (ac zadr) 41
    go_upto_region 19 with (refine wpList_store_A rfl _ _ rfl okA_zadr (okA_p4A h) hbf rfl rfl ?_)
    change Code.wp _ _ _ _ ((w4.alloc (.cells (ac zadr) 41)).setRow w4.heap.size (ac (p4A h).1))
    rw [World.setRow_alloc_new]
    have hA5 := Blk.new w4 (ac (p4A h).1) 41
    have hx5 := hxx4.alloc (.cells (ac (p4A h).1) 41)
    have hnx := (Ext.refl w4).alloc (.cells (ac (p4A h).1) 41)
    clear hbf
    generalize w4.alloc (.cells (ac (p4A h).1) 41) = w5 at *
    generalize w4.heap.size = b5 at *
    have hr5 := hr4.ext hnx
    have hP := okA_p4A h
    clear hnx hr4 hxx4
    have hi64 : i64ok p := by unfold i64ok; omega
    cases q4 : (p4A h).2
    ·have RN : Hid (tgtP s = if (nameP h).2 = true then (((nameP h).1, zadr, p), true) else (ztgt, false)) := Lib.hid (by rw [R0.out, if_neg HB.out, q4, if_neg (by simp)])
     have KN := Lib.hid (rpname_any h w5 (by unfold maxLen; omega))
     have hnz : (nameP h).1.size <= maxLen := Nat.le_trans (nameP_size h) (by unfold maxLen; omega)
     clear R0 HB q4 hA5
     have hokT : okT ((nameP h).1, zadr, p) := ⟨okA_zadr, hi64, hnz⟩
     clear hnz hi64
     generalize (nameP h).1 = nm at *
     generalize (nameP h).2 = nok at *
     go_wp2_with (first | (go_at_call 135; refine KN.out.mono ?_; rintro e w6 ⟨rfl, hx6⟩; refine Hid.out ?_))
     refine Lib.hid ?_
     have hr6 := hr5.ext hx6
     have hxx6 := hx5.trans hx6
     cases nok
     ·have R : Hid (tgtP s = (ztgt, false)) := Lib.hid (by rw [RN.out]; rfl)
      go_wp2_with (first | refine wpList_store_T rfl _ _ rfl okT_ztgt okT_ztgt hr6 rfl rfl ?_)
      refine bodyPost_ret (res_T2 rfl rfl okT_ztgt ((hr6).row _)) rfl ⟨by rw [R.out]; rfl, (hxx6).setRow hwb _⟩
     ·have R : Hid (tgtP s = ((nm, zadr, p), true)) := Lib.hid (by rw [RN.out]; rfl)
      go_wp2_with (first | refine wpList_store_T rfl _ _ rfl okT_ztgt hokT hr6 rfl rfl ?_)
      refine bodyPost_ret (res_T2 rfl rfl hokT (hr6.row _)) rfl ⟨by rw [R.out]; rfl, hxx6.setRow hwb _⟩
    ·have R : Hid (tgtP s = ((⟨#[]⟩, (p4A h).1, p), true)) := Lib.hid (by rw [R0.out, if_neg HB.out, q4, if_pos rfl])
     have hokT : okT (⟨#[]⟩, (p4A h).1, p) := ⟨hP, hi64, Nat.zero_le _⟩
     clear R0 HB q4 hi64
     generalize (p4A h).1 = P at *
     go_wp2_with (first | refine wpList_load_A rfl _ rfl hP hA5 rfl ?_ | refine wpList_build_T1 rfl _ _ rfl hP rfl rfl ?_ | refine wpList_store_T rfl _ _ rfl okT_ztgt hokT hr5 rfl rfl ?_)
     refine bodyPost_ret (res_T2 rfl rfl hokT (hr5.row _)) rfl ⟨by rw [R.out]; rfl, hx5.setRow hwb _⟩
   have c1' : (2 : Int) <= h.size := by omega
   clear c1
   by_cases c2 : B h 0 = 91
   ·have c2' : (B h 0 == 91) = true := by rw [beq_iff_eq]; exact c2
    by_cases c3 : B h (h.size - 1) = 93
    ·have c3' : (B h (h.size - 1) == 93) = true := by rw [beq_iff_eq]; exact c3
     have R1 : Hid (tgtP s = if ((parseA (h.extract 1 (h.size - 1))).2 && (parseA (h.extract 1 (h.size - 1))).1.1) = true then ((⟨#[]⟩, (parseA (h.extract 1 (h.size - 1))).1, p), true) else (ztgt, false)) := Lib.hid (by rw [R0.out]; unfold hostT; rw [if_pos ⟨by omega, c2, c3⟩])
     clear c2 c3 R0 KP4
     have hj1 : (1 : Int) <= (h.size : Int) - 1 := by omega
     have hj2 : (h.size : Int) - 1 <= h.size := by omega
     have hez := extract_le h 1 (h.size - 1)
     have KP := Lib.hid (fun w => rparse_any (h.extract 1 (h.size - 1)) w (by omega))
     have hA := okA_parse' (h.extract 1 (h.size - 1))
     generalize (parseA (h.extract 1 (h.size - 1))).1 = P at *
     generalize (parseA (h.extract 1 (h.size - 1))).2 = ok at *
     go_wp2_with (first | (go_at_call 203; refine (KP.out _).mono ?_; rintro e w4 ⟨rfl, hx4⟩; refine Hid.out ?_))
     refine Lib.hid ?_
     have hxx4 := hx.trans hx4
     have hr4 := hr.ext hx4
     clear hx hx4 hr KP
     have hbf := Blk.new w4 (ac zadr) 41
     go_upto_region 15 with (refine wpList_store_A rfl _ _ rfl okA_zadr hA hbf rfl rfl ?_)
     change Code.wp _ _ _ _ ((w4.alloc (.cells (ac zadr) 41)).setRow w4.heap.size (ac P))
     rw [World.setRow_alloc_new]
     have hA5 := Blk.new w4 (ac P) 41
     have hx5 := hxx4.alloc (.cells (ac P) 41)
     have hnx := (Ext.refl w4).alloc (.cells (ac P) 41)
     clear hbf
     generalize w4.alloc (.cells (ac P) 41) = w5 at *
     generalize w4.heap.size = b5 at *
     have hr5 := hr4.ext hnx
     have c0 : w5.cell? ⟨b5, 0, none⟩ = some (.bool P.1) := hA5.cell (i := 0) rfl
     clear hnx hr4 hxx4
     have R2 : Hid (tgtP s = if (ok && P.1) = true then ((⟨#[]⟩, P, p), true) else (ztgt, false)) := R1
     clear R1
     cases ok
     ·have R : Hid (tgtP s = (ztgt, false)) := Lib.hid (by rw [R2.out]; rfl)
      clear R2
      go_wp2_with (first | refine wpList_store_T rfl _ _ rfl okT_ztgt okT_ztgt hr5 rfl rfl ?_)
      refine bodyPost_ret (res_T2 rfl rfl okT_ztgt ((hr5).row _)) rfl ⟨by rw [R.out]; rfl, (hx5).setRow hwb _⟩
     ·cases hf : P.1
      ·have R : Hid (tgtP s = (ztgt, false)) := Lib.hid (by rw [R2.out, hf]; rfl)
       rw [hf] at c0
       clear R2 hf
       go_wp2_with (first | refine wpList_store_T rfl _ _ rfl okT_ztgt okT_ztgt hr5 rfl rfl ?_)
       refine bodyPost_ret (res_T2 rfl rfl okT_ztgt ((hr5).row _)) rfl ⟨by rw [R.out]; rfl, (hx5).setRow hwb _⟩
      ·have R : Hid (tgtP s = ((⟨#[]⟩, P, p), true)) := Lib.hid (by rw [R2.out, hf]; rfl)
       rw [hf] at c0
       clear R2 hf
       have hokT : okT (⟨#[]⟩, P, p) := ⟨hA, by unfold i64ok; simp only; omega, Nat.zero_le _⟩
       go_wp2_with (first | refine wpList_load_A rfl _ rfl hA hA5 rfl ?_ | refine wpList_build_T1 rfl _ _ rfl hA rfl rfl ?_ | refine wpList_store_T rfl _ _ rfl okT_ztgt hokT hr5 rfl rfl ?_)
       refine bodyPost_ret (res_T2 rfl rfl hokT (hr5.row _)) rfl ⟨by rw [R.out]; rfl, hx5.setRow hwb _⟩
    ·have HB : Hid (¬ (2 <= h.size /\ B h 0 = 91 /\ B h (h.size - 1) = 93)) := Lib.hid (by omega)
     have R0 : Hid (tgtP s = if 2 <= h.size /\ B h 0 = 91 /\ B h (h.size - 1) = 93 then (if ((parseA (h.extract 1 (h.size - 1))).2 && (parseA (h.extract 1 (h.size - 1))).1.1) = true then ((⟨#[]⟩, (parseA (h.extract 1 (h.size - 1))).1, p), true) else (ztgt, false)) else if (p4A h).2 = true then ((⟨#[]⟩, (p4A h).1, p), true) else if (nameP h).2 = true then (((nameP h).1, zadr, p), true) else (ztgt, false)) := Lib.hid R0.out
     have c3' : (B h (h.size - 1) == 93) = false := by rw [beq_eq_false_iff_ne]; exact c3
     clear c2 c3
     go_upto_region 18 with fail
     clear c1' c2' c3' b0 b1 hj
     go_wp2_with (first | (go_at_call 204; refine (KP4.out _).mono ?_; rintro e w4 ⟨rfl, hx4⟩; refine Hid.out ?_))
     refine Lib.hid ?_
     have hxx4 := hx.trans hx4
     have hr4 := hr.ext hx4
     clear hx hx4 hr KP4
     have hbf := Blk.new w4 (ac zadr) 41
     go_upto_region 19 with (refine wpList_store_A rfl _ _ rfl okA_zadr (okA_p4A h) hbf rfl rfl ?_)
     change Code.wp _ _ _ _ ((w4.alloc (.cells (ac zadr) 41)).setRow w4.heap.size (ac (p4A h).1))
     rw [World.setRow_alloc_new]
     have hA5 := Blk.new w4 (ac (p4A h).1) 41
     have hx5 := hxx4.alloc (.cells (ac (p4A h).1) 41)
     have hnx := (Ext.refl w4).alloc (.cells (ac (p4A h).1) 41)
     clear hbf
     generalize w4.alloc (.cells (ac (p4A h).1) 41) = w5 at *
     generalize w4.heap.size = b5 at *
     have hr5 := hr4.ext hnx
     have hP := okA_p4A h
     clear hnx hr4 hxx4
     have hi64 : i64ok p := by unfold i64ok; omega
     cases q4 : (p4A h).2
     ·have RN : Hid (tgtP s = if (nameP h).2 = true then (((nameP h).1, zadr, p), true) else (ztgt, false)) := Lib.hid (by rw [R0.out, if_neg HB.out, q4, if_neg (by simp)])
      have KN := Lib.hid (rpname_any h w5 (by unfold maxLen; omega))
      have hnz : (nameP h).1.size <= maxLen := Nat.le_trans (nameP_size h) (by unfold maxLen; omega)
      clear R0 HB q4 hA5
      have hokT : okT ((nameP h).1, zadr, p) := ⟨okA_zadr, hi64, hnz⟩
      clear hnz hi64
      generalize (nameP h).1 = nm at *
      generalize (nameP h).2 = nok at *
      go_wp2_with (first | (go_at_call 135; refine KN.out.mono ?_; rintro e w6 ⟨rfl, hx6⟩; refine Hid.out ?_))
      refine Lib.hid ?_
      have hr6 := hr5.ext hx6
      have hxx6 := hx5.trans hx6
      cases nok
      ·have R : Hid (tgtP s = (ztgt, false)) := Lib.hid (by rw [RN.out]; rfl)
       go_wp2_with (first | refine wpList_store_T rfl _ _ rfl okT_ztgt okT_ztgt hr6 rfl rfl ?_)
       refine bodyPost_ret (res_T2 rfl rfl okT_ztgt ((hr6).row _)) rfl ⟨by rw [R.out]; rfl, (hxx6).setRow hwb _⟩
      ·have R : Hid (tgtP s = ((nm, zadr, p), true)) := Lib.hid (by rw [RN.out]; rfl)
       go_wp2_with (first | refine wpList_store_T rfl _ _ rfl okT_ztgt hokT hr6 rfl rfl ?_)
       refine bodyPost_ret (res_T2 rfl rfl hokT (hr6.row _)) rfl ⟨by rw [R.out]; rfl, hxx6.setRow hwb _⟩
     ·have R : Hid (tgtP s = ((⟨#[]⟩, (p4A h).1, p), true)) := Lib.hid (by rw [R0.out, if_neg HB.out, q4, if_pos rfl])
      have hokT : okT (⟨#[]⟩, (p4A h).1, p) := ⟨hP, hi64, Nat.zero_le _⟩
      clear R0 HB q4 hi64
      generalize (p4A h).1 = P at *
      go_wp2_with (first | refine wpList_load_A rfl _ rfl hP hA5 rfl ?_ | refine wpList_build_T1 rfl _ _ rfl hP rfl rfl ?_ | refine wpList_store_T rfl _ _ rfl okT_ztgt hokT hr5 rfl rfl ?_)
      refine bodyPost_ret (res_T2 rfl rfl hokT (hr5.row _)) rfl ⟨by rw [R.out]; rfl, hx5.setRow hwb _⟩
   ·have HB : Hid (¬ (2 <= h.size /\ B h 0 = 91 /\ B h (h.size - 1) = 93)) := Lib.hid (by omega)
    have R0 : Hid (tgtP s = if 2 <= h.size /\ B h 0 = 91 /\ B h (h.size - 1) = 93 then (if ((parseA (h.extract 1 (h.size - 1))).2 && (parseA (h.extract 1 (h.size - 1))).1.1) = true then ((⟨#[]⟩, (parseA (h.extract 1 (h.size - 1))).1, p), true) else (ztgt, false)) else if (p4A h).2 = true then ((⟨#[]⟩, (p4A h).1, p), true) else if (nameP h).2 = true then (((nameP h).1, zadr, p), true) else (ztgt, false)) := Lib.hid R0.out
    have c2' : (B h 0 == 91) = false := by rw [beq_eq_false_iff_ne]; exact c2
    clear c2
    go_upto_region 18 with fail
    clear c1' c2' b0 b1 hj
    go_wp2_with (first | (go_at_call 204; refine (KP4.out _).mono ?_; rintro e w4 ⟨rfl, hx4⟩; refine Hid.out ?_))
    refine Lib.hid ?_
    have hxx4 := hx.trans hx4
    have hr4 := hr.ext hx4
    clear hx hx4 hr KP4
    have hbf := Blk.new w4 (ac zadr) 41
    go_upto_region 19 with (refine wpList_store_A rfl _ _ rfl okA_zadr (okA_p4A h) hbf rfl rfl ?_)
    change Code.wp _ _ _ _ ((w4.alloc (.cells (ac zadr) 41)).setRow w4.heap.size (ac (p4A h).1))
    rw [World.setRow_alloc_new]
    have hA5 := Blk.new w4 (ac (p4A h).1) 41
    have hx5 := hxx4.alloc (.cells (ac (p4A h).1) 41)
    have hnx := (Ext.refl w4).alloc (.cells (ac (p4A h).1) 41)
    clear hbf
    generalize w4.alloc (.cells (ac (p4A h).1) 41) = w5 at *
    generalize w4.heap.size = b5 at *
    have hr5 := hr4.ext hnx
    have hP := okA_p4A h
    clear hnx hr4 hxx4
    have hi64 : i64ok p := by unfold i64ok; omega
    cases q4 : (p4A h).2
    ·have RN : Hid (tgtP s = if (nameP h).2 = true then (((nameP h).1, zadr, p), true) else (ztgt, false)) := Lib.hid (by rw [R0.out, if_neg HB.out, q4, if_neg (by simp)])
     have KN := Lib.hid (rpname_any h w5 (by unfold maxLen; omega))
     have hnz : (nameP h).1.size <= maxLen := Nat.le_trans (nameP_size h) (by unfold maxLen; omega)
     clear R0 HB q4 hA5
     have hokT : okT ((nameP h).1, zadr, p) := ⟨okA_zadr, hi64, hnz⟩
     clear hnz hi64
     generalize (nameP h).1 = nm at *
     generalize (nameP h).2 = nok at *
     go_wp2_with (first | (go_at_call 135; refine KN.out.mono ?_; rintro e w6 ⟨rfl, hx6⟩; refine Hid.out ?_))
     refine Lib.hid ?_
     have hr6 := hr5.ext hx6
     have hxx6 := hx5.trans hx6
     cases nok
     ·have R : Hid (tgtP s = (ztgt, false)) := Lib.hid (by rw [RN.out]; rfl)
      go_wp2_with (first | refine wpList_store_T rfl _ _ rfl okT_ztgt okT_ztgt hr6 rfl rfl ?_)
      refine bodyPost_ret (res_T2 rfl rfl okT_ztgt ((hr6).row _)) rfl ⟨by rw [R.out]; rfl, (hxx6).setRow hwb _⟩
     ·have R : Hid (tgtP s = ((nm, zadr, p), true)) := Lib.hid (by rw [RN.out]; rfl)
      go_wp2_with (first | refine wpList_store_T rfl _ _ rfl okT_ztgt hokT hr6 rfl rfl ?_)
      refine bodyPost_ret (res_T2 rfl rfl hokT (hr6.row _)) rfl ⟨by rw [R.out]; rfl, hxx6.setRow hwb _⟩
    ·have R : Hid (tgtP s = ((⟨#[]⟩, (p4A h).1, p), true)) := Lib.hid (by rw [R0.out, if_neg HB.out, q4, if_pos rfl])
     have hokT : okT (⟨#[]⟩, (p4A h).1, p) := ⟨hP, hi64, Nat.zero_le _⟩
     clear R0 HB q4 hi64
     generalize (p4A h).1 = P at *
     go_wp2_with (first | refine wpList_load_A rfl _ rfl hP hA5 rfl ?_ | refine wpList_build_T1 rfl _ _ rfl hP rfl rfl ?_ | refine wpList_store_T rfl _ _ rfl okT_ztgt hokT hr5 rfl rfl ?_)
     refine bodyPost_ret (res_T2 rfl rfl hokT (hr5.row _)) rfl ⟨by rw [R.out]; rfl, hx5.setRow hwb _⟩
end Go.Proofs.YtnohnnjeabehjaaGreatDoor
