/-
  Several texts joined: HtK, HtL, HtM, HtR.
-/
import Derived.Test.YtnohnnjeabehjaaGreatDoorK30
import Derived.Test.YtnohnnjeabehjaaGreatDoorK28
import Derived.Test.YtnohnnjeabehjaaGreatDoorK34
import Derived.Test.YtnohnnjeabehjaaGreatDoorK27
import Derived.Test.YtnohnnjeabehjaaGreatDoorK24
import Derived.Test.YtnohnnjeabehjaaGreatDoorK23
import Derived.Test.YtnohnnjeabehjaaGreatDoorK25
import Derived.Test.YtnohnnjeabehjaaGreatDoorK33
set_option maxHeartbeats 4000000
set_option maxRecDepth 4000
set_option linter.unusedVariables false
set_option linter.unusedSimpArgs false
namespace Go.Proofs.YtnohnnjeabehjaaGreatDoor
open Go.RowKit Go.Joins
theorem fin_st8 (s : ByteArray) : (fin s).2.2 = 0 ∨ (fin s).2.2 = 1 ∨ (fin s).2.2 = 2 := by
 unfold fin
 generalize st s (min s.size 512) = x
 cases x with
 | mal => exact .inr (.inr rfl)
 | run n f h b => unfold fin1; simp only; split <;> simp
 | done h m => exact .inr (.inl rfl)
theorem hconn_any (z : ByteArray) (hz : z.size <= 281474976710656) (tn : Tns) (htn : tn.length <= 1000000) {w0 w : World} (henv : Env w0) (htabs : Tabs w0) (hx0 : Ext w0 w) {c g : Nat} (hc : w0.heap.size <= c) (hrg0 : RegP w0 g tn) {s : Hst} (ho : okH s) (h4 : s.1 = 4) (hb : HBlk TH w c (.pointer (some ⟨g, 0, none⟩)) s) :
  Calls Tryz.prog 79 #[.pointer (some ⟨c, 0, none⟩), .string z] w fun e w' => StepP w0 w c (.pointer (some ⟨g, 0, none⟩)) s (hstep txt3 tn s z) e w' := by
 have hcl := HBlk.lt hb
 have HS : Hid (hstep txt3 tn s z = if (fin z).2.2 = 0 then none
  else if (fin z).2.2 = 2 then some (0, st400, hfail s 10)
  else match (if (fin z).1.2.1 = true then authT (fin z).1.2.2.1 (fin z).1.2.2.2 tn 0 else none) with
   | none => some ((fin z).2.1, st407, hfail s 11)
   | some i => some ((fin z).2.1, ⟨#[]⟩, (5, 1, s.2.2.1, (i : Int), (fin z).1.1, s.2.2.2.2.2))) := Lib.hid (by unfold hstep; rw [if_neg (by omega), if_neg (by omega), if_neg (by omega), if_neg (by omega)]; rfl)
 clear h4
 have KP := Lib.hid (fun w he => hparse_any z hz w he)
 have hst := fin_st8 z
 have hC := okC_fin z
 have KA := Lib.hid (fun w hr => pauth_any (fin z).1.2.2.1 (fin z).1.2.2.2 tn htn g w hr)
 generalize fin z = Q at *
 obtain ⟨h, n, q⟩ := Q
 simp only at HS KP hst hC KA
 have KF := Lib.hid (@hfail_any)
 have KM := Lib.hid more_any
 go_enter Tryz.func79, Tryz.ntmps79
 go_upto_region 1 with fail
 rw [← scl_zero]
 have hx := (Ext.refl w).alloc (.cells (scl 0 ⟨#[]⟩ false).toArray 101)
 have hr := Blk.new w (scl 0 ⟨#[]⟩ false).toArray 101
 have hwb : (w).heap.size <= (w).heap.size := Nat.le_refl _
 generalize (w).alloc (.cells (scl 0 ⟨#[]⟩ false).toArray 101) = w1 at *
 generalize hbb : (w).heap.size = b at hr ⊢
 replace hwb := Nat.le_of_eq hbb
 clear hbb
 have hb1 := HBlk.ext hb hx
 have hcb : c ≠ b := by omega
 have hbw : w0.heap.size <= b := Nat.le_trans hx0.size hwb
 go_upto_block 0 with (first | (go_at_call 107; refine (KP.out _ (henv.ext (hx0.trans hx))).mono ?_; rintro e w2 ⟨rfl, hx2⟩; have hbt := Blk.new w2 (crc zcr) 49) | refine wpList_store_C rfl _ _ rfl okC_zcr hC hbt rfl rfl ?_)
 rw [← crc_zero, World.setRow_alloc_new]
 clear hbt
 have hxB := (hx.trans hx2).alloc (.cells (crc h) 49)
 have hr4 := Blk.ext (Blk.ext hr hx2) ((Ext.refl w2).alloc (.cells (crc h) 49))
 have hb4 := HBlk.ext (HBlk.ext hb1 hx2) ((Ext.refl w2).alloc (.cells (crc h) 49))
 have hR4 : RBlk _ w2.heap.size h := Blk.new w2 (crc h) 49
 have hcbt : c ≠ w2.heap.size := by have := hx.size; have := hx2.size; omega
 clear hx hx2 hr hb1 KP
 generalize w2.alloc (.cells (crc h) 49) = w4 at *
 generalize w2.heap.size = bt at *
 have hxA := hx0.trans hxB
 rcases hst with rfl | rfl | rfl
 ·have R : Hid (hstep txt3 tn s z = none) := Lib.hid (by rw [HS.out, if_pos rfl])
  clear HS
  go_wp2_with (first | (go_at_call 99; refine (KM.out _).mono ?_; rintro e w5 ⟨rfl, hx5⟩; have hr5 := Blk.ext hr4 hx5) | refine wpList_store_S (a := 0) (o1 := ⟨#[]⟩) (m := true) rfl _ _ rfl hr5 rfl rfl ?_)
  refine bodyPost_ret (res_S rfl rfl (Blk.row hr5 _)) rfl ?_
  unfold StepP
  rw [R.out]
  exact ⟨Left.row (Left.of_ext hx0 (hxB.trans hx5)) hwb hbw _, rfl, HBlk.row_ne (HBlk.ext hb4 hx5) hcb _⟩
 case inr.inr =>
  have R : Hid (hstep txt3 tn s z = some (0, st400, hfail s 10)) := Lib.hid (by rw [HS.out, if_neg (by decide), if_pos rfl])
  have K4 := Lib.hid (fun w ht => hst400 w ht)
  clear HS
  generalize st400 = sN at *
  go_wp2_with (first | (go_at_call 44; refine (K4.out _ (htabs.ext hxA)).mono ?_; rintro e w5 ⟨rfl, hx5⟩; have hb5 := HBlk.ext hb4 hx5; have KG := Lib.hid (KF.out 10 0 sN (hxA.trans hx5) hc ho hb5)) | (go_at_call 100; refine KG.out.mono ?_; rintro e w6 ⟨rfl, hl6, hb6⟩; have hr6 := Blk.keep (Blk.ext hr4 hx5) hl6.1 (by simp; exact fun q => hcb q.symm)) | refine wpList_store_S rfl _ _ rfl hr6 rfl rfl ?_)
  refine bodyPost_ret (res_S rfl rfl (Blk.row hr6 _)) rfl ?_
  unfold StepP
  rw [R.out]
  exact ⟨Left.row (Left.trans_ext (hxB.trans hx5) hl6) hwb hbw _, rfl, HBlk.row_ne hb6 hcb _⟩
 have HS2 : Hid (hstep txt3 tn s z = match (if h.2.1 = true then authT h.2.2.1 h.2.2.2 tn 0 else none) with
   | none => some (n, st407, hfail s 11)
   | some i => some (n, ⟨#[]⟩, (5, 1, s.2.2.1, (i : Int), h.1, s.2.2.2.2.2))) := Lib.hid (by rw [HS.out]; rfl)
 clear HS
 go_upto_region 7 with fail
 have hrg4 := hrg0.ext hxA
 have KC := fun (w' : World) (k : Ext w4 w') => (KA.out w' (hrg4.ext k)).mono (fun e w2 he => (⟨he.1, by rw [← he.2]; exact Ext.refl _⟩ : e = .returned (authV2 (authT h.2.2.1 h.2.2.2 tn 0)) /\ Ext w' w2))
 have F0 : ∀ w', Ext w4 w' -> w'.cell? ⟨c, 0, none⟩ = some (.pointer (some ⟨g, 0, none⟩)) := fun w' k => HBlk.regc (HBlk.ext hb4 k)
 have F1 : ∀ w', Ext w4 w' -> w'.cell? ⟨bt, 20, none⟩ = some (.string h.2.2.1) := fun w' k => RBlk.user hC (Blk.ext hR4 k)
 have F2 : ∀ w', Ext w4 w' -> w'.cell? ⟨bt, 21, none⟩ = some (.string h.2.2.2) := fun w' k => RBlk.pass hC (Blk.ext hR4 k)
 generalize authT h.2.2.1 h.2.2.2 tn 0 = au at *
 refine wp_region_rg w4 (by kernel_rfl) (by kernel_rfl) (Ext.refl _) ?_
 cases au with
 | none =>
  have R : Hid (hstep txt3 tn s z = some (n, st407, hfail s 11)) := Lib.hid (by rw [HS2.out]; cases h.2.1 <;> rfl)
  unfold authV2 at KC
  simp only at KC
  iterate 3
   first
    | (apply goV_skip (by intro u; rfl))
    | (apply goV_val _ (by intro u; rfl); · (intro u w hSw hF; go_simp; try with_reducible rfl))
   try simp only [aput, List.set]
  first
   | (apply goV_skip (by intro u; rfl))
   | (apply goV_val (.pointer (some ⟨g, 0, none⟩)) (by intro u; rfl); · (intro u w hSw hF; have c0 := F0 w hSw; go_simp))
  try simp only [aput, List.set]
  first
   | (apply goV_skip (by intro u; rfl))
   | (apply goV_val _ (by intro u; rfl); · (intro u w hSw hF; go_simp; try with_reducible rfl))
  try simp only [aput, List.set]
  first
   | (apply goV_skip (by intro u; rfl))
   | (apply goV_val (.string h.2.2.1) (by intro u; rfl); · (intro u w hSw hF; have c0 := F1 w hSw; go_simp))
  try simp only [aput, List.set]
  first
   | (apply goV_skip (by intro u; rfl))
   | (apply goV_val _ (by intro u; rfl); · (intro u w hSw hF; go_simp; try with_reducible rfl))
  try simp only [aput, List.set]
  first
   | (apply goV_skip (by intro u; rfl))
   | (apply goV_val (.string h.2.2.2) (by intro u; rfl); · (intro u w hSw hF; have c0 := F2 w hSw; go_simp))
  try simp only [aput, List.set]
  first
   | (apply goV_skip (by intro u; rfl))
   | (apply goV_call (by intro u; rfl) KC; · (intro u w hSw hF; go_simp; try with_reducible rfl))
  try simp only [aput, List.set]
  iterate 5
   first
    | (apply goV_skip (by intro u; rfl))
    | (apply goV_val _ (by intro u; rfl); · (intro u w hSw hF; go_simp; try with_reducible rfl))
   try simp only [aput, List.set]
  intro u w5 hx5 _
  have hh := RBlk.has hC (Blk.ext hR4 hx5)
  replace hb4 := HBlk.ext hb4 hx5
  replace hr4 := Blk.ext hr4 hx5
  replace hxA := hxA.trans hx5
  replace hxB := hxB.trans hx5
  clear F0 F1 F2 KC KA hrg4 HS2 hR4 hx5
  have K4 := Lib.hid (fun w ht => hst407 w ht)
  generalize st407 = sN at *
  cases hb19 : h.2.1 with
  | false =>
   rw [hb19] at hh
   clear hb19
   go_wp2_with (first | (go_at_call 44; refine (K4.out _ (htabs.ext hxA)).mono ?_; rintro e w5 ⟨rfl, hx5⟩; have hb5 := HBlk.ext hb4 hx5; have KG := Lib.hid (KF.out 11 n sN (hxA.trans hx5) hc ho hb5)) | (go_at_call 100; refine KG.out.mono ?_; rintro e w6 ⟨rfl, hl6, hb6⟩; have hr6 := Blk.keep (Blk.ext hr4 hx5) hl6.1 (by simp; exact fun q => hcb q.symm)) | refine wpList_store_S rfl _ _ rfl hr6 rfl rfl ?_)
   refine bodyPost_ret (res_S rfl rfl (Blk.row hr6 _)) rfl ?_
   unfold StepP
   rw [R.out]
   exact ⟨Left.row (Left.trans_ext (hxB.trans hx5) hl6) hwb hbw _, rfl, HBlk.row_ne hb6 hcb _⟩
  | true =>
   rw [hb19] at hh
   clear hb19
   go_wp2_with (first | (go_at_call 44; refine (K4.out _ (htabs.ext hxA)).mono ?_; rintro e w5 ⟨rfl, hx5⟩; have hb5 := HBlk.ext hb4 hx5; have KG := Lib.hid (KF.out 11 n sN (hxA.trans hx5) hc ho hb5)) | (go_at_call 100; refine KG.out.mono ?_; rintro e w6 ⟨rfl, hl6, hb6⟩; have hr6 := Blk.keep (Blk.ext hr4 hx5) hl6.1 (by simp; exact fun q => hcb q.symm)) | refine wpList_store_S rfl _ _ rfl hr6 rfl rfl ?_)
   refine bodyPost_ret (res_S rfl rfl (Blk.row hr6 _)) rfl ?_
   unfold StepP
   rw [R.out]
   exact ⟨Left.row (Left.trans_ext (hxB.trans hx5) hl6) hwb hbw _, rfl, HBlk.row_ne hb6 hcb _⟩
 | some i =>
  unfold authV2 at KC
  simp only at KC
  iterate 3
   first
    | (apply goV_skip (by intro u; rfl))
    | (apply goV_val _ (by intro u; rfl); · (intro u w hSw hF; go_simp; try with_reducible rfl))
   try simp only [aput, List.set]
  first
   | (apply goV_skip (by intro u; rfl))
   | (apply goV_val (.pointer (some ⟨g, 0, none⟩)) (by intro u; rfl); · (intro u w hSw hF; have c0 := F0 w hSw; go_simp))
  try simp only [aput, List.set]
  first
   | (apply goV_skip (by intro u; rfl))
   | (apply goV_val _ (by intro u; rfl); · (intro u w hSw hF; go_simp; try with_reducible rfl))
  try simp only [aput, List.set]
  first
   | (apply goV_skip (by intro u; rfl))
   | (apply goV_val (.string h.2.2.1) (by intro u; rfl); · (intro u w hSw hF; have c0 := F1 w hSw; go_simp))
  try simp only [aput, List.set]
  first
   | (apply goV_skip (by intro u; rfl))
   | (apply goV_val _ (by intro u; rfl); · (intro u w hSw hF; go_simp; try with_reducible rfl))
  try simp only [aput, List.set]
  first
   | (apply goV_skip (by intro u; rfl))
   | (apply goV_val (.string h.2.2.2) (by intro u; rfl); · (intro u w hSw hF; have c0 := F2 w hSw; go_simp))
  try simp only [aput, List.set]
  first
   | (apply goV_skip (by intro u; rfl))
   | (apply goV_call (by intro u; rfl) KC; · (intro u w hSw hF; go_simp; try with_reducible rfl))
  try simp only [aput, List.set]
  iterate 5
   first
    | (apply goV_skip (by intro u; rfl))
    | (apply goV_val _ (by intro u; rfl); · (intro u w hSw hF; go_simp; try with_reducible rfl))
   try simp only [aput, List.set]
  intro u w5 hx5 _
  have hh := RBlk.has hC (Blk.ext hR4 hx5)
  replace hb4 := HBlk.ext hb4 hx5
  replace hr4 := Blk.ext hr4 hx5
  replace hxA := hxA.trans hx5
  replace hxB := hxB.trans hx5
  replace hR4 := Blk.ext hR4 hx5
  clear F0 F1 F2 KC KA hrg4 hx5
  cases hb19 : h.2.1 with
  | false =>
   have R : Hid (hstep txt3 tn s z = some (n, st407, hfail s 11)) := Lib.hid (by rw [HS2.out, hb19]; rfl)
   rw [hb19] at hh
   clear hb19 HS2
   have K4 := Lib.hid (fun w ht => hst407 w ht)
   generalize st407 = sN at *
   go_wp2_with (first | (go_at_call 44; refine (K4.out _ (htabs.ext hxA)).mono ?_; rintro e w5 ⟨rfl, hx5⟩; have hb5 := HBlk.ext hb4 hx5; have KG := Lib.hid (KF.out 11 n sN (hxA.trans hx5) hc ho hb5)) | (go_at_call 100; refine KG.out.mono ?_; rintro e w6 ⟨rfl, hl6, hb6⟩; have hr6 := Blk.keep (Blk.ext hr4 hx5) hl6.1 (by simp; exact fun q => hcb q.symm)) | refine wpList_store_S rfl _ _ rfl hr6 rfl rfl ?_)
   refine bodyPost_ret (res_S rfl rfl (Blk.row hr6 _)) rfl ?_
   unfold StepP
   rw [R.out]
   exact ⟨Left.row (Left.trans_ext (hxB.trans hx5) hl6) hwb hbw _, rfl, HBlk.row_ne hb6 hcb _⟩
  | true =>
   have R : Hid (hstep txt3 tn s z = some (n, ⟨#[]⟩, (5, 1, s.2.2.1, (i : Int), h.1, s.2.2.2.2.2))) := Lib.hid (by rw [HS2.out, hb19]; rfl)
   rw [hb19] at hh
   clear hb19 HS2
   have c4 := HBlk.tenant hb4
   have f4 := HBlk.free hb4 4
   have K1 := HBlk.setTenant hb4 i
   have KR3 := Blk.set_ne hr4 ⟨c, 4, none⟩ hcb (.int .i64 i)
   have KT := Blk.set_ne hR4 ⟨c, 4, none⟩ hcbt (.int .i64 i)
   have KL : Left w0 w (w5.setCell ⟨c, 4, none⟩ (.int .i64 i)) [c] := ⟨Keep.setCell (hxB.keep [c]) (.inl (by simp)) _, Ext.setCell hxA hc _⟩
   clear hb4 hr4 hxA hxB hR4
   go_upto_region 11 with fail
   clear c4 f4 hh
   generalize w5.setCell ⟨c, 4, none⟩ (.int .i64 i) = w6 at *
   have KS := Lib.hid (hsucc_any h.1 hC.1 n KL.2 hc (s := (s.1, s.2.1, s.2.2.1, (i : Int), s.2.2.2.2)) ho K1)
   have hrt := RBlk.rangeT KT
   go_wp2_with (first | refine wpList_load_Tm rfl _ rfl hC.1 hrt rfl ?_ | (go_at_call 106; refine KS.out.mono ?_; rintro e w7 ⟨rfl, hl7, hb7⟩; have hr7 := Blk.keep KR3 hl7.1 (by simp; exact fun q => hcb q.symm)) | refine wpList_store_S (a := n) (o1 := ⟨#[]⟩) (m := false) rfl _ _ rfl hr7 rfl rfl ?_)
   refine bodyPost_ret (res_S rfl rfl (Blk.row hr7 _)) rfl ?_
   unfold StepP
   rw [R.out]
   exact ⟨Left.row ⟨KL.1.trans hl7.1, hl7.2⟩ hwb hbw _, rfl, HBlk.row_ne hb7 hcb _⟩
open Go.RowKit Go.Joins
theorem st400_size : st400.size <= 300 := by decide +kernel
theorem st407_size : st407.size <= 300 := by decide +kernel
theorem rep8_size (c : Int) : (rep8 c).size = 10 := by unfold rep8; rw [ByteArray.size_append]; rfl
theorem hstep_o {tn : Tns} {s : Hst} {z : ByteArray} {o : Int × ByteArray × Hst} (h : hstep txt3 tn s z = some o) : o.2.1.size <= 300 := by
 have h1 := st400_size
 have h2 := st407_size
 have h3 : ∀ a b, (str2 a b).size <= 300 := fun a b => by show 2 <= 300; omega
 have h4 : ∀ c, (rep8 c).size <= 300 := fun c => by rw [rep8_size]; omega
 have h5 : (⟨#[]⟩ : ByteArray).size <= 300 := Nat.zero_le _
 unfold hstep at h
 (repeat' split at h) <;> first | (cases h; done) | (injection h with h; rw [← h]; first | exact h1 | exact h2 | exact h3 _ _ | exact h4 _ | exact h5)
theorem StepP.cong {w0 w : World} {c : Nat} {reg : Value} {s : Hst} {r : Option (Int × ByteArray × Hst)} {e : Ending} {w' : World} (h : StepP w0 w c reg s r e w') : ∃ (a : Int) (o : ByteArray) (m : Bool) (s' : Hst), e = .returned (sv a o m) /\ Left w0 w w' [c] /\ HBlk TH w' c reg s' /\ Hid ((r = none /\ m = true /\ a = 0 /\ o = ⟨#[]⟩ /\ s' = s) ∨ (r = some (a, o, s') /\ m = false)) := by
 obtain ⟨h1, h2⟩ := h
 cases r with
 | none => exact ⟨0, ⟨#[]⟩, true, s, h2.1, h1, h2.2, Lib.hid (.inl ⟨rfl, rfl, rfl, rfl, rfl⟩)⟩
 | some x => exact ⟨x.1, x.2.1, false, x.2.2, h2.1, h1, h2.2, Lib.hid (.inr ⟨rfl, rfl⟩)⟩
theorem StepP.mk8 {w0 w : World} {c : Nat} {reg : Value} {s s' : Hst} {r : Option (Int × ByteArray × Hst)} {a : Int} {o : ByteArray} {m : Bool} {e : Ending} {w' : World} (he : e = .returned (sv a o m)) (hl : Left w0 w w' [c]) (hb : HBlk TH w' c reg s') (h : (r = none /\ m = true /\ a = 0 /\ o = ⟨#[]⟩ /\ s' = s) ∨ (r = some (a, o, s') /\ m = false)) : StepP w0 w c reg s r e w' := by
 refine ⟨hl, ?_⟩
 rcases h with ⟨rfl, rfl, rfl, rfl, rfl⟩ | ⟨rfl, rfl⟩
 ·exact ⟨he, hb⟩
 ·exact ⟨he, hb⟩
theorem hstage_any (z : ByteArray) (hz : z.size <= 281474976710656) (tn : Tns) (htn : tn.length <= 1000000) {w0 w : World} (henv : Env w0) (htabs : Tabs w0) (hx0 : Ext w0 w) {c g : Nat} (hc : w0.heap.size <= c) (hrg0 : RegP w0 g tn) {s : Hst} (hs : okS s) (h5 : s.1 ≠ 5) (hb : HBlk TH w c (.pointer (some ⟨g, 0, none⟩)) s) :
  Calls Tryz.prog 55 #[.pointer (some ⟨c, 0, none⟩), .string z] w fun e w' => StepP w0 w c (.pointer (some ⟨g, 0, none⟩)) s (hstep txt3 tn s z) e w' := by
 have hcl := HBlk.lt hb
 have ho : okH s := hs.2.1
 have hp1 : 1 <= s.1 -> s.1 <= 3 -> s.2.2.1 = 1 := hs.2.2.1
 have hs1 : s.1 = 0 ∨ s.1 = 1 ∨ s.1 = 2 ∨ s.1 = 3 ∨ s.1 = 4 := by have := hs.1; omega
 clear hs h5
 go_enter Tryz.func55, Tryz.ntmps55
 go_upto_region 1 with fail
 rw [← scl_zero]
 have hx := (Ext.refl w).alloc (.cells (scl 0 ⟨#[]⟩ false).toArray 101)
 have hr := Blk.new w (scl 0 ⟨#[]⟩ false).toArray 101
 have hwb : (w).heap.size <= (w).heap.size := Nat.le_refl _
 generalize (w).alloc (.cells (scl 0 ⟨#[]⟩ false).toArray 101) = w1 at *
 generalize hbb : (w).heap.size = b at hr ⊢
 replace hwb := Nat.le_of_eq hbb
 clear hbb
 have hb1 := HBlk.ext hb hx
 have hx1 := hx0.trans hx
 have hcb : c ≠ b := by omega
 have hbw : w0.heap.size <= b := Nat.le_trans hx0.size hwb
 have c1 := HBlk.stage hb1
 rcases hs1 with h0 | h0 | h0 | h0 | h0
 ·have KS := Lib.hid (hdet_any z tn htabs hx1 hc ho h0 hb1)
  rw [h0] at c1
  clear h0 hp1
  go_wp2_with (first | (go_at_call 75; refine KS.out.mono ?_; rintro e w2 hp2; obtain ⟨sa, so, sm, s2, rfl, hl2, hb2, HQ⟩ := hp2.cong; clear hp2; have hr2 := Blk.keep hr hl2.1 (by simp; exact fun q => hcb q.symm)) | refine wpList_store_S (a := sa) (o1 := so) (m := sm) rfl _ _ rfl hr2 rfl rfl ?_)
  refine bodyPost_ret (res_S rfl rfl (Blk.row hr2 _)) rfl (StepP.mk8 rfl (Left.row (Left.trans_ext hx hl2) hwb hbw _) (HBlk.row_ne hb2 hcb _) HQ.out)
 ·have KS := Lib.hid (hgreet_any z hz tn hx1 hc ho h0 hb1)
  rw [h0] at c1
  clear h0 hp1
  go_wp2_with (first | (go_at_call 76; refine KS.out.mono ?_; rintro e w2 hp2; obtain ⟨sa, so, sm, s2, rfl, hl2, hb2, HQ⟩ := hp2.cong; clear hp2; have hr2 := Blk.keep hr hl2.1 (by simp; exact fun q => hcb q.symm)) | refine wpList_store_S (a := sa) (o1 := so) (m := sm) rfl _ _ rfl hr2 rfl rfl ?_)
  refine bodyPost_ret (res_S rfl rfl (Blk.row hr2 _)) rfl (StepP.mk8 rfl (Left.row (Left.trans_ext hx hl2) hwb hbw _) (HBlk.row_ne hb2 hcb _) HQ.out)
 ·have KS := Lib.hid (huser_any z hz tn htn hx1 hc hrg0 ho h0 hb1)
  rw [h0] at c1
  clear h0 hp1
  go_wp2_with (first | (go_at_call 77; refine KS.out.mono ?_; rintro e w2 hp2; obtain ⟨sa, so, sm, s2, rfl, hl2, hb2, HQ⟩ := hp2.cong; clear hp2; have hr2 := Blk.keep hr hl2.1 (by simp; exact fun q => hcb q.symm)) | refine wpList_store_S (a := sa) (o1 := so) (m := sm) rfl _ _ rfl hr2 rfl rfl ?_)
  refine bodyPost_ret (res_S rfl rfl (Blk.row hr2 _)) rfl (StepP.mk8 rfl (Left.row (Left.trans_ext hx hl2) hwb hbw _) (HBlk.row_ne hb2 hcb _) HQ.out)
 ·have KS := Lib.hid (hreq_any z hz tn henv hx1 hc ho h0 (hp1 (by omega) (by omega)) hb1)
  rw [h0] at c1
  clear h0 hp1
  go_wp2_with (first | (go_at_call 78; refine KS.out.mono ?_; rintro e w2 hp2; obtain ⟨sa, so, sm, s2, rfl, hl2, hb2, HQ⟩ := hp2.cong; clear hp2; have hr2 := Blk.keep hr hl2.1 (by simp; exact fun q => hcb q.symm)) | refine wpList_store_S (a := sa) (o1 := so) (m := sm) rfl _ _ rfl hr2 rfl rfl ?_)
  refine bodyPost_ret (res_S rfl rfl (Blk.row hr2 _)) rfl (StepP.mk8 rfl (Left.row (Left.trans_ext hx hl2) hwb hbw _) (HBlk.row_ne hb2 hcb _) HQ.out)
 ·have KS := Lib.hid (hconn_any z hz tn htn henv htabs hx1 hc hrg0 ho h0 hb1)
  rw [h0] at c1
  clear h0 hp1
  go_wp2_with (first | (go_at_call 79; refine KS.out.mono ?_; rintro e w2 hp2; obtain ⟨sa, so, sm, s2, rfl, hl2, hb2, HQ⟩ := hp2.cong; clear hp2; have hr2 := Blk.keep hr hl2.1 (by simp; exact fun q => hcb q.symm)) | refine wpList_store_S (a := sa) (o1 := so) (m := sm) rfl _ _ rfl hr2 rfl rfl ?_)
  refine bodyPost_ret (res_S rfl rfl (Blk.row hr2 _)) rfl (StepP.mk8 rfl (Left.row (Left.trans_ext hx hl2) hwb hbw _) (HBlk.row_ne hb2 hcb _) HQ.out)
def FeedP (ty : TypeId) (tn : Tns) (w0 w : World) (c : Nat) (reg : Value) (s : Hst) (z : ByteArray) (e : Ending) (w' : World) : Prop :=
 ∃ (n : Nat) (o : ByteArray) (s' : Hst), Fed txt3 tn s z n o s' /\ e = .returned (.tuple #[.int .i64 n, .string o, .int .i64 s'.2.1]) /\ Left w0 w w' [c] /\ HBlk ty w' c reg s' /\ okS s' /\ o.size <= 1500
theorem FeedP.mk {ty : TypeId} {tn : Tns} {w0 w : World} {c : Nat} {reg : Value} {s : Hst} {z : ByteArray} {e : Ending} {w' : World} {n : Nat} {o : ByteArray} {s' : Hst} (h1 : Steps txt3 tn s z n o s') (h2 : Stuck txt3 tn s' (z.extract n z.size)) (he : e = .returned (.tuple #[.int .i64 n, .string o, .int .i64 s'.2.1])) (hl : Left w0 w w' [c]) (hb : HBlk ty w' c reg s') (ho : okS s') (hz : o.size <= 1500) : FeedP ty tn w0 w c reg s z e w' := ⟨n, o, s', ⟨h1, h2⟩, he, hl, hb, ho, hz⟩
def FeedRel (ty : TypeId) (tn : Tns) (w0 w : World) (c : Nat) (reg : Value) (s : Hst) (z : ByteArray) (u v : Value) (g : Nat) (wr : World) : Prop :=
 ∃ (n : Nat) (o : ByteArray) (s' : Hst), g = (5 - s'.1).toNat /\ u = .int .i64 n /\ v = .string o /\ n <= z.size /\ (o.size : Int) <= 300 * s'.1 /\ Hid (Steps txt3 tn s z n o s') /\ Left w0 w wr [c] /\ HBlk ty wr c reg s' /\ okS s'
theorem res3f {fn : Func} {t u v : Tmp} (h : fn.results = #[.tmp t, .tmp u, .tmp v]) {tmps : Array Value} {w : World} : (results fn tmps).run Tryz.prog w = .ok (.tuple #[tmps.getD t undef, tmps.getD u undef, tmps.getD v undef]) w := by
 simp [results, h, Sem.run_bind]
theorem hfeed_any (z : ByteArray) (hz : z.size <= 281474976710656) (tn : Tns) (htn : tn.length <= 1000000) {w0 w : World} (henv : Env w0) (htabs : Tabs w0) (hx0 : Ext w0 w) {c g : Nat} (hc : w0.heap.size <= c) (hrg0 : RegP w0 g tn) {s : Hst} (hs : okS s) (hb : HBlk TH w c (.pointer (some ⟨g, 0, none⟩)) s) :
  Calls Tryz.prog 35 #[.pointer (some ⟨c, 0, none⟩), .string z] w fun e w' => FeedP TH tn w0 w c (.pointer (some ⟨g, 0, none⟩)) s z e w' := by
 have hcl := HBlk.lt hb
 go_enter Tryz.func35, Tryz.ntmps35
 go_wp2_with fail
 go_loopg [7, 8] ((5 - s.1).toNat) (fun k u v wr => FeedRel TH tn w0 w c (.pointer (some ⟨g, 0, none⟩)) s z u v k wr)
 case atStart => exact ⟨0, ⟨#[]⟩, s, rfl, rfl, rfl, Nat.zero_le _, by show (0 : Int) <= _; have := hs.1; omega, Lib.hid (.refl _ _), Left.of_ext hx0 (Ext.refl _), hb, hs⟩
 case round =>
  obtain ⟨n, o, s1, hg, rfl, rfl, hn, hoz, HSt, hl1, hb1, hs1⟩ := hrel
  have HG := Lib.hid hg
  clear hg
  have c1 := HBlk.stage hb1
  have c2 := HBlk.state hb1
  have h15 := hs1.1
  by_cases h5 : s1.1 = 5
  ·have h5b : (s1.1 != 5) = false := by rw [bne_eq_false_iff_eq]; exact h5
   have H5 := Lib.hid h5
   clear h5
   go_wp2_with fail
   go_quiet (fail)
   go_wp2_with fail
   refine bodyPost_ret (res3f rfl) rfl (FeedP.mk HSt.out (.inl H5.out) rfl ⟨hl1.1.trans (((Ext.refl _).drewN _).keep _), hl1.2.trans ((Ext.refl _).drewN _)⟩ (HBlk.ext hb1 ((Ext.refl _).drewN _)) hs1 (by omega))
  ·have h5b : (s1.1 != 5) = true := by rw [bne_iff_ne]; exact h5
   have hn' : (n : Int) <= z.size := by omega
   have hz' : (z.size : Int) <= 281474976710656 := by omega
   have KS := Lib.hid (hstage_any (z.extract n z.size) (Nat.le_trans (extract_le _ _ _) hz) tn htn henv htabs hl1.2 hc hrg0 hs1 h5 hb1)
   have H5 := Lib.hid h5
   clear h5 c2
   go_upto_region 4 with (first | (go_at_call 55; refine KS.out.mono ?_; rintro e w2 hp2; obtain ⟨sa, so, sm, s2, rfl, hl2, hb2, HQ⟩ := hp2.cong; clear hp2; have hbt : SBlk _ w2.heap.size 0 ⟨#[]⟩ false := Blk.new w2 (scl 0 ⟨#[]⟩ false).toArray 101) | refine wpList_store_S (a := sa) (o1 := so) (m := sm) rfl _ _ rfl hbt rfl rfl ?_)
   rw [← scl_zero, World.setRow_alloc_new]
   clear hbt
   have hx3 := (Ext.refl w2).alloc (.cells (scl sa so sm).toArray 101)
   have hS3 : SBlk _ w2.heap.size sa so sm := Blk.new w2 (scl sa so sm).toArray 101
   have hb3 := HBlk.ext hb2 hx3
   have hl3 : Left w0 w (w2.alloc (.cells (scl sa so sm).toArray 101)) [c] := ⟨(hl1.1.trans hl2.1).trans (hx3.keep _), hl2.2.trans hx3⟩
   clear hx3 hb2 hl2 hl1 hb1 c1
   generalize w2.alloc (.cells (scl sa so sm).toArray 101) = w3 at *
   generalize w2.heap.size = bt at *
   have d0 : w3.cell? ⟨bt, 0, none⟩ = some (.int .i64 sa) := hS3.cell rfl
   have d1 : w3.cell? ⟨bt, 1, none⟩ = some (.string so) := hS3.cell rfl
   have d2 : w3.cell? ⟨bt, 2, none⟩ = some (.bool sm) := hS3.cell rfl
   have hbtl := Blk.lt hS3
   rcases HQ.out with ⟨hq, rfl, rfl, rfl, rfl⟩ | ⟨hq, rfl⟩
   ·have HQ2 := Lib.hid hq
    clear hq HQ
    have c2 := HBlk.state hb3
    go_wp2_with fail
    go_quiet (fail)
    go_wp2_with fail
    refine bodyPost_ret (res3f rfl) rfl (FeedP.mk HSt.out (.inr HQ2.out) rfl ⟨hl3.1.trans (((Ext.refl _).drewN _).keep _), hl3.2.trans ((Ext.refl _).drewN _)⟩ (HBlk.ext hb3 ((Ext.refl _).drewN _)) hs1 (by omega))
   ·have q1 : 0 <= sa /\ sa <= ((z.extract n z.size).size : Int) := hstep_n hq
    have q2 : so.size <= 300 := hstep_o hq
    have q3 : s1.1 < s2.1 /\ s2.1 <= 5 := hstep_up (by have := H5.out; omega) hq
    have q4 : okS s2 := okS_step (Nat.le_trans (extract_le _ _ _) (Nat.le_trans hz (by unfold maxLen; omega))) hs1 H5.out hq
    have q5 := Lib.hid (Steps.snoc HSt.out H5.out hq)
    have q6 := extract_le z n z.size
    rw [ByteArray.size_extract] at q1
    have v1 : IntKind.i64.wrap ((n : Int) + sa) = n + sa := IntWalk.i64_in _ (by omega)
    have v2 : ¬ 9223372036854775807 < o.size + so.size := by omega
    have V1 := Lib.hid v1
    clear hq HQ H5
    go_upto_region 5 with fail
    go_quiet (fail)
    go_wp2_with fail
    go_roundg ((5 - s2.1).toNat)
    case measure => rw [HG.out]; omega
    case rel =>
     refine ⟨n + sa.toNat, o ++ so, s2, rfl, ?_, rfl, by omega, by rw [ByteArray.size_append]; omega, q5, ⟨hl3.1.trans (((Ext.refl _).drewN _).keep _), hl3.2.trans ((Ext.refl _).drewN _)⟩, HBlk.ext hb3 ((Ext.refl _).drewN _), q4⟩
     congr 1
     omega
open Go.RowKit Go.Joins
def toR (s : Hst) : ByteArray := if s.1 = 0 ∨ s.1 = 4 then st408 else if s.1 = 1 then str2 5 255 else if s.1 = 2 then str2 1 1 else if s.1 = 3 then rep8 6 else ⟨#[]⟩
theorem hproto_any {w : World} {c : Nat} {reg : Value} {s : Hst} (hb : HBlk TH w c reg s) : Calls Tryz.prog 28 #[.pointer (some ⟨c, 0, none⟩)] w fun e w' => e = .returned (.int .i64 s.2.2.1) /\ w = w' := by
 have c1 := HBlk.proto hb
 go_enter Tryz.func28, Tryz.ntmps28
 go_wp2_with fail
 go_ret
 exact ⟨rfl, rfl⟩
theorem htenant_any {w : World} {c : Nat} {reg : Value} {s : Hst} (hb : HBlk TH w c reg s) : Calls Tryz.prog 23 #[.pointer (some ⟨c, 0, none⟩)] w fun e w' => e = .returned (.int .i64 s.2.2.2.1) /\ w = w' := by
 have c1 := HBlk.tenant hb
 go_enter Tryz.func23, Tryz.ntmps23
 go_wp2_with fail
 go_ret
 exact ⟨rfl, rfl⟩
theorem hreason_any {w : World} {c : Nat} {reg : Value} {s : Hst} (ho : okH s) (hb : HBlk TH w c reg s) : Calls Tryz.prog 24 #[.pointer (some ⟨c, 0, none⟩)] w fun e w' => e = .returned (.int .i64 s.2.2.2.2.2) /\ w = w' := by
 have c1 := HBlk.why ho hb
 go_enter Tryz.func24, Tryz.ntmps24
 go_wp2_with fail
 go_ret
 exact ⟨rfl, rfl⟩
theorem res_T1h {fn : Func} {t : Tmp} (h : fn.results = #[.cell t 43]) {tmps : Array Value} {c : Nat} (hq : tmps.getD t undef = .pointer (some ⟨c, 0, none⟩)) {w : World} {p : Tgt} (hp : okT p) (hb : TBlk w c p) :
  (results fn tmps).run Tryz.prog w = .ok (.agg (tc p)) w := by
 have := loadV_T hp hb
 have hq' : tmps[t]?.getD undef = .pointer (some ⟨c, 0, none⟩) := by simpa using hq
 simp [results, h, hq', this, Sem.run_bind, asAddr]
theorem htarget_any {w : World} {c : Nat} {reg : Value} {s : Hst} (ho : okH s) (hb : HBlk TH w c reg s) : Calls Tryz.prog 22 #[.pointer (some ⟨c, 0, none⟩)] w fun e w' => e = .returned (tv s.2.2.2.2.1) /\ Ext w w' := by
 go_enter Tryz.func22, Tryz.ntmps22
 go_upto_region 1 with fail
 rw [← tc_zero]
 have hx := (Ext.refl w).alloc (.cells (tc ztgt) 43)
 have hr := Blk.new w (tc ztgt) 43
 have hb1 := HBlk.ext hb hx
 generalize w.alloc (.cells (tc ztgt) 43) = w1 at *
 have hrt := HBlk.range hb1
 have hot : okT s.2.2.2.2.1 := ho
 go_wp2_with (first | refine wpList_load_Tm rfl _ rfl hot hrt rfl ?_ | refine wpList_store_T rfl _ _ rfl okT_ztgt hot hr rfl rfl ?_)
 exact bodyPost_ret (res_T1h rfl rfl hot (Blk.row hr _)) rfl ⟨rfl, hx.setRow (Nat.le_refl _) _⟩
theorem hcl_z (reg : Value) : (hcl reg zhst).toArray = #[reg, .int .i64 0, .int .i64 0, .int .i64 0, .int .i64 (-1), .string ⟨#[]⟩, .bool false, .int .u8 0, .int .u8 0, .int .u8 0, .int .u8 0, .int .u8 0, .int .u8 0, .int .u8 0, .int .u8 0, .int .u8 0, .int .u8 0, .int .u8 0, .int .u8 0, .int .u8 0, .int .u8 0, .int .u8 0, .int .u8 0, .int .i64 0, .int .i64 0] := rfl
theorem HBlk.new8 (ty : TypeId) (w : World) (reg : Value) : HBlk ty (w.alloc (.cells (hcl reg zhst).toArray ty)) w.heap.size reg zhst := Blk.new w (hcl reg zhst).toArray ty
theorem hnew_any (g : Nat) (w : World) : Calls Tryz.prog 31 #[.pointer (some ⟨g, 0, none⟩)] w fun e w' => e = .returned (.pointer (some ⟨w.heap.size, 0, none⟩)) /\ Ext w w' /\ HBlk TH w' w.heap.size (.pointer (some ⟨g, 0, none⟩)) zhst := by
 go_enter Tryz.func31, Tryz.ntmps31
 go_wp2_with fail
 rw [← hcl_z]
 go_ret
 exact ⟨rfl, (Ext.refl w).alloc _, HBlk.new8 _ _ _⟩
theorem hto_any {w : World} (htabs : Tabs w) {c : Nat} {reg : Value} {s : Hst} (hs : okS s) (hb : HBlk TH w c reg s) : Calls Tryz.prog 26 #[.pointer (some ⟨c, 0, none⟩)] w fun e w' => e = .returned (.string (toR s)) /\ Ext w w' := by
 have c1 := HBlk.stage hb
 have c3 := HBlk.proto hb
 have hp := hs.2.2.1
 have h5 := hs.1
 have K8 := Lib.hid (hst408 w htabs)
 have KM := Lib.hid (gmeth_any 255 w)
 have KU : Hid (∀ w, Calls Tryz.prog 46 #[.bool false] w fun e w' => e = .returned (.string (str2 1 1)) /\ w = w') := Lib.hid (fun w => by rw [str2_11]; exact ureply_any false w)
 have KY : Hid (Calls Tryz.prog 47 #[.int .i64 1, .int .i64 3] w fun e w' => e = .returned (.string (rep8 6)) /\ Ext w w') := Lib.hid (reply1_any 3 w)
 rcases (by omega : s.1 = 0 ∨ s.1 = 1 ∨ s.1 = 2 ∨ s.1 = 3 ∨ s.1 = 4 ∨ s.1 = 5) with h | h | h | h | h | h
 ·have R : Hid (toR s = st408) := Lib.hid (by unfold toR; rw [h]; rfl)
  rw [h] at c1
  clear h hp h5 c3 hs
  go_enter Tryz.func26, Tryz.ntmps26
  go_wp2_with (go_at_call 44; refine (K8.out).mono ?_; rintro e w1 ⟨rfl, hx⟩)
  go_ret
  exact ⟨by rw [R.out]; rfl, hx⟩
 ·have R : Hid (toR s = str2 5 255) := Lib.hid (by unfold toR; rw [h]; rfl)
  rw [h] at c1
  clear h hp h5 c3 hs
  go_enter Tryz.func26, Tryz.ntmps26
  go_wp2_with (go_at_call 45; refine (KM.out).mono ?_; rintro e w1 ⟨rfl, hx⟩)
  go_ret
  exact ⟨by rw [R.out]; rfl, hx⟩
 ·have R : Hid (toR s = str2 1 1) := Lib.hid (by unfold toR; rw [h]; rfl)
  rw [h] at c1
  clear h hp h5 c3 hs
  go_enter Tryz.func26, Tryz.ntmps26
  go_wp2_with (go_at_call 46; refine (KU.out _).mono ?_; rintro e w1 ⟨rfl, rfl⟩)
  go_ret
  exact ⟨by rw [R.out]; rfl, Ext.refl _⟩
 ·have R : Hid (toR s = rep8 6) := Lib.hid (by unfold toR; rw [h]; rfl)
  rw [h] at c1
  rw [hp (by omega) (by omega)] at c3
  clear h hp h5 hs
  go_enter Tryz.func26, Tryz.ntmps26
  go_wp2_with (go_at_call 47; refine (KY.out).mono ?_; rintro e w1 ⟨rfl, hx⟩)
  go_ret
  exact ⟨by rw [R.out]; rfl, hx⟩
 ·have R : Hid (toR s = st408) := Lib.hid (by unfold toR; rw [h]; rfl)
  rw [h] at c1
  clear h hp h5 c3 hs
  go_enter Tryz.func26, Tryz.ntmps26
  go_wp2_with (go_at_call 44; refine (K8.out).mono ?_; rintro e w1 ⟨rfl, hx⟩)
  go_ret
  exact ⟨by rw [R.out]; rfl, hx⟩
 ·have R : Hid (toR s = ⟨#[]⟩) := Lib.hid (by unfold toR; rw [h]; rfl)
  rw [h] at c1
  clear h hp h5 c3 hs
  go_enter Tryz.func26, Tryz.ntmps26
  go_wp2_with fail
  go_ret
  exact ⟨by rw [R.out]; rfl, Ext.refl _⟩
open Go.RowKit Go.Joins
abbrev TR : TypeId := 74
def RStepP (w0 w : World) (c : Nat) (reg : Value) (s : Hst) (r : Option (Int × ByteArray × Hst)) (e : Ending) (w' : World) : Prop := Left w0 w w' [c] /\
 match r with
 | none => e = .returned (.tuple #[.int .i64 0, .string ⟨#[]⟩]) /\ HBlk TR w' c reg s
 | some o => e = .returned (.tuple #[.int .i64 o.1, .string o.2.1]) /\ HBlk TR w' c reg o.2.2
theorem RStepP.yes {w0 w : World} {c : Nat} {reg : Value} {s : Hst} {r : Option (Int × ByteArray × Hst)} {a : Int} {o : ByteArray} {s' : Hst} {e : Ending} {w' : World} (h : r = some (a, o, s')) (he : e = .returned (.tuple #[.int .i64 a, .string o])) (hl : Left w0 w w' [c]) (hb : HBlk TR w' c reg s') : RStepP w0 w c reg s r e w' := by
 subst h; exact ⟨hl, he, hb⟩
theorem RStepP.no {w0 w : World} {c : Nat} {reg : Value} {s : Hst} {r : Option (Int × ByteArray × Hst)} {e : Ending} {w' : World} (h : r = none) (he : e = .returned (.tuple #[.int .i64 0, .string ⟨#[]⟩])) (hl : Left w0 w w' [c]) (hb : HBlk TR w' c reg s) : RStepP w0 w c reg s r e w' := by
 subst h; exact ⟨hl, he, hb⟩
theorem res2h {fn : Func} {t u : Tmp} (h : fn.results = #[.tmp t, .tmp u]) {tmps : Array Value} {w : World} : (results fn tmps).run Tryz.prog w = .ok (.tuple #[tmps.getD t undef, tmps.getD u undef]) w := by
 simp [results, h, Sem.run_bind]
theorem rureply_any (b : Bool) (w : World) :
  Calls Tryz.prog 53 #[.bool b] w fun e w' => e = .returned (.string (if b then ⟨#[1, 0]⟩ else ⟨#[1, 1]⟩)) /\ w = w' := by
 cases b
 all_goals
  go_enter Tryz.func53, Tryz.ntmps53
  go_wp2_with fail
  go_ret
  exact ⟨rfl, rfl⟩
theorem rfail_any (why : Int) (out : ByteArray) {w0 w : World} (hx0 : Ext w0 w) {c : Nat} (hc : w0.heap.size <= c) {reg : Value} {s : Hst} (ho : okH s) (hb : HBlk TR w c reg s) :
  Calls Tryz.prog 84 #[.pointer (some ⟨c, 0, none⟩), .int .i64 why, .string out] w fun e w' => e = .returned (.tuple #[.int .i64 0, .string out]) /\ Left w0 w w' [c] /\ HBlk TR w' c reg (hfail s why) := by
 have hcl := HBlk.lt hb
 have c1 := HBlk.stage hb
 have c2 := HBlk.state hb
 have c6 := HBlk.why ho hb
 have f1 := HBlk.free hb 1
 have f2 := HBlk.free hb 2
 have f6 := HBlk.free hb 24
 have K1 := Lib.hid (HBlk.setWhy (s := (5, 2, s.2.2)) ho (HBlk.setState (HBlk.setStage hb 5) 2) why)
 have KK : Hid (Keep [c] w (((w.setCell ⟨c, 1, none⟩ (.int .i64 5)).setCell ⟨c, 2, none⟩ (.int .i64 2)).setCell ⟨c, 24, none⟩ (.int .i64 why))) :=
  Lib.hid (Keep.setCell (Keep.setCell (Keep.setCell ((Ext.refl w).keep [c]) (.inl (by simp)) _) (.inl (by simp)) _) (.inl (by simp)) _)
 have KX : Hid (Ext w0 (((w.setCell ⟨c, 1, none⟩ (.int .i64 5)).setCell ⟨c, 2, none⟩ (.int .i64 2)).setCell ⟨c, 24, none⟩ (.int .i64 why))) :=
  Lib.hid (Ext.setCell (Ext.setCell (Ext.setCell hx0 hc _) hc _) hc _)
 go_enter Tryz.func84, Tryz.ntmps84
 go_wp2_with fail
 exact bodyPost_ret (res2h rfl) rfl ⟨rfl, ⟨KK.out, KX.out⟩, K1.out⟩
theorem rgreet_any (z : ByteArray) (hz : z.size <= 281474976710656) (tn : Tns) {w0 w : World} (hx0 : Ext w0 w) {c : Nat} (hc : w0.heap.size <= c) {reg : Value} {s : Hst} (ho : okH s) (h1 : s.1 = 1) (hb : HBlk TR w c reg s) :
  Calls Tryz.prog 85 #[.pointer (some ⟨c, 0, none⟩), .string z] w fun e w' => RStepP w0 w c reg s (hstep txt3 tn s z) e w' := by
 have hcl := HBlk.lt hb
 have HS : Hid (hstep txt3 tn s z = if (gparse z).2.2 = 0 then none else if (gparse z).2.2 = 2 then some (0, str2 5 255, hfail s 10) else if gsel (gparse z).1 2 = 255 then some ((gparse z).2.1, str2 5 255, hfail s 11) else some ((gparse z).2.1, str2 5 2, hgo s 2)) := Lib.hid (by unfold hstep; rw [if_neg (by omega), if_pos h1])
 clear h1
 have KP := Lib.hid (fun w => gparseR_any z w (by unfold maxLen; omega))
 have hst := gparse_st z
 have hgs := gsel_two (gparse z).1
 have KS := Lib.hid (fun w => gselR_any (gparse z).1 2 w (gparse_size hz))
 have KR1 := Lib.hid (fun w => gmethR_any 255 w)
 have KR2 := Lib.hid (fun w => gmethR_any 2 w)
 generalize (gparse z).2.2 = q at *
 generalize (gparse z).2.1 = n at *
 generalize (gparse z).1 = m at *
 go_enter Tryz.func85, Tryz.ntmps85
 go_upto_block 0 with (go_at_call 108; refine (KP.out _).mono ?_; rintro e w1 ⟨rfl, hd2⟩; have hx := Ext.of_dr hd2; clear hd2)
 have hb1 := HBlk.ext hb hx
 have hx01 := hx0.trans hx
 rcases hst with rfl | rfl | rfl
 ·have R : Hid (hstep txt3 tn s z = none) := Lib.hid (by rw [HS.out]; rfl)
  clear HS
  go_wp2_with fail
  exact bodyPost_ret (res2h rfl) rfl (RStepP.no R.out rfl (Left.of_ext hx0 hx) hb1)
 ·have HS2 : Hid (hstep txt3 tn s z = if gsel m 2 = 255 then some (n, str2 5 255, hfail s 11) else some (n, str2 5 2, hgo s 2)) := Lib.hid (by rw [HS.out]; rfl)
  clear HS
  generalize gsel m 2 = g at *
  rcases hgs with rfl | rfl
  ·have R : Hid (hstep txt3 tn s z = some (n, str2 5 2, hgo s 2)) := Lib.hid (by rw [HS2.out]; rfl)
   have c1 := HBlk.stage hb1
   have f1 := HBlk.free hb1 1
   have K1 := Lib.hid (HBlk.setStage hb1 2)
   have KL : Hid (Left w0 w (w1.setCell ⟨c, 1, none⟩ (.int .i64 2)) [c]) := Lib.hid ⟨Keep.setCell (hx.keep [c]) (.inl (by simp)) _, Ext.setCell hx01 hc _⟩
   clear HS2
   go_upto_region 7 with fail
   go_upto_region 11 with (first | (go_at_call 109; refine (KS.out _).mono ?_; rintro e w3 ⟨rfl, rfl⟩))
   generalize w1.setCell ⟨c, 1, none⟩ (.int .i64 2) = w2 at *
   go_wp2_with (first | (go_at_call 52; refine (KR2.out _).mono ?_; rintro e w4 ⟨rfl, hx4⟩))
   exact bodyPost_ret (res2h rfl) rfl (RStepP.yes R.out rfl ⟨KL.out.1.trans (hx4.keep _), KL.out.2.trans hx4⟩ (HBlk.ext K1.out hx4))
  ·have R : Hid (hstep txt3 tn s z = some (n, str2 5 255, hfail s 11)) := Lib.hid (by rw [HS2.out]; rfl)
   have KF := Lib.hid (rfail_any 11 ⟨#[]⟩ hx01 hc ho hb1)
   clear HS2
   go_wp2_with (first | (go_at_call 109; refine (KS.out _).mono ?_; rintro e w3 ⟨rfl, rfl⟩) | (go_at_call 84; refine KF.out.mono ?_; rintro e w5 ⟨rfl, hl5, hb5⟩) | (go_at_call 52; refine (KR1.out _).mono ?_; rintro e w4 ⟨rfl, hx4⟩))
   have hl6 := Left.trans_ext hx hl5
   exact bodyPost_ret (res2h rfl) rfl (RStepP.yes R.out rfl ⟨hl6.1.trans (hx4.keep _), hl6.2.trans hx4⟩ (HBlk.ext hb5 hx4))
 ·have R : Hid (hstep txt3 tn s z = some (0, str2 5 255, hfail s 10)) := Lib.hid (by rw [HS.out]; rfl)
  clear HS
  go_wp2_with (first | (go_at_call 52; refine (KR1.out _).mono ?_; rintro e w4 ⟨rfl, hx4⟩; have KF := Lib.hid (rfail_any 10 (str2 5 255) (hx01.trans hx4) hc ho (HBlk.ext hb1 hx4))) | (go_at_call 84; refine KF.out.mono ?_; rintro e w5 ⟨rfl, hl5, hb5⟩))
  exact bodyPost_ret (res2h rfl) rfl (RStepP.yes R.out rfl (Left.trans_ext (hx.trans hx4) hl5) hb5)
theorem ruser_any (z : ByteArray) (hz : z.size <= 281474976710656) (tn : Tns) (htn : tn.length <= 1000000) {w0 w : World} (hx0 : Ext w0 w) {c g : Nat} (hc : w0.heap.size <= c) (hrg0 : RegR w0 g tn) {s : Hst} (ho : okH s) (h2 : s.1 = 2) (hb : HBlk TR w c (.pointer (some ⟨g, 0, none⟩)) s) :
  Calls Tryz.prog 86 #[.pointer (some ⟨c, 0, none⟩), .string z] w fun e w' => RStepP w0 w c (.pointer (some ⟨g, 0, none⟩)) s (hstep txt3 tn s z) e w' := by
 have hcl := HBlk.lt hb
 have hrg := hrg0.ext hx0
 have HS : Hid (hstep txt3 tn s z = if (uparse z).2.2.2 = 0 then none else if (uparse z).2.2.2 = 2 then some (0, str2 1 1, hfail s 10) else match authT (uparse z).1 (uparse z).2.1 tn 0 with
   | none => some ((uparse z).2.2.1, str2 1 1, hfail s 11)
   | some i => some ((uparse z).2.2.1, str2 1 0, (3, s.2.1, s.2.2.1, (i : Int), s.2.2.2.2))) := Lib.hid (by unfold hstep; rw [if_neg (by omega), if_neg (by omega), if_pos h2]; rfl)
 clear h2
 have KP := Lib.hid (fun w => uparseR_any z w (by unfold maxLen; omega))
 have hst := uparse_st z
 have KA := Lib.hid (fun w hr => rauthT_any (uparse z).1 (uparse z).2.1 tn htn g w hr)
 have KR1 : Hid (∀ w, Calls Tryz.prog 53 #[.bool false] w fun e w' => e = .returned (.string (str2 1 1)) /\ w = w') := Lib.hid (fun w => by rw [str2_11]; exact rureply_any false w)
 have KR2 : Hid (∀ w, Calls Tryz.prog 53 #[.bool true] w fun e w' => e = .returned (.string (str2 1 0)) /\ w = w') := Lib.hid (fun w => by rw [str2_10]; exact rureply_any true w)
 generalize (uparse z).2.2.2 = q at *
 generalize (uparse z).2.2.1 = n at *
 generalize (uparse z).2.1 = ps at *
 generalize (uparse z).1 = us at *
 go_enter Tryz.func86, Tryz.ntmps86
 go_upto_block 0 with (go_at_call 110; refine (KP.out _).mono ?_; rintro e w1 ⟨rfl, hd2⟩; have hx := Ext.of_dr hd2; clear hd2)
 have hb1 := HBlk.ext hb hx
 have hx01 := hx0.trans hx
 rcases hst with rfl | rfl | rfl
 ·have R : Hid (hstep txt3 tn s z = none) := Lib.hid (by rw [HS.out]; rfl)
  clear HS
  go_wp2_with fail
  exact bodyPost_ret (res2h rfl) rfl (RStepP.no R.out rfl (Left.of_ext hx0 hx) hb1)
 ·have HS2 : Hid (hstep txt3 tn s z = match authT us ps tn 0 with
   | none => some (n, str2 1 1, hfail s 11)
   | some i => some (n, str2 1 0, (3, s.2.1, s.2.2.1, (i : Int), s.2.2.2.2))) := Lib.hid (by rw [HS.out]; rfl)
  clear HS
  have KA2 := Lib.hid (KA.out w1 (hrg.ext hx))
  have c0 := HBlk.regc hb1
  generalize authT us ps tn 0 = au at *
  cases au with
  | none =>
   have R : Hid (hstep txt3 tn s z = some (n, str2 1 1, hfail s 11)) := Lib.hid (by rw [HS2.out])
   have KF := Lib.hid (rfail_any 11 ⟨#[]⟩ hx01 hc ho hb1)
   clear HS2
   unfold authV1 at KA2
   simp only at KA2
   go_wp2_with (first | (go_at_call 111; refine KA2.out.mono ?_; rintro e w3 ⟨rfl, rfl⟩) | (go_at_call 53; refine (KR1.out _).mono ?_; rintro e w4 ⟨rfl, rfl⟩) | (go_at_call 84; refine KF.out.mono ?_; rintro e w5 ⟨rfl, hl5, hb5⟩))
   exact bodyPost_ret (res2h rfl) rfl (RStepP.yes R.out rfl (Left.trans_ext hx hl5) hb5)
  | some i =>
   have R : Hid (hstep txt3 tn s z = some (n, str2 1 0, (3, s.2.1, s.2.2.1, (i : Int), s.2.2.2.2))) := Lib.hid (by rw [HS2.out])
   clear HS2
   unfold authV1 at KA2
   simp only at KA2
   have hi0 : ¬ ((i : Int) < 0) := by omega
   have c1 := HBlk.stage hb1
   have c4 := HBlk.tenant hb1
   have f1 := HBlk.free hb1 1
   have f4 := HBlk.free hb1 4
   have K1 := Lib.hid (HBlk.setStage (HBlk.setTenant hb1 i) 3)
   have KL : Hid (Left w0 w ((w1.setCell ⟨c, 4, none⟩ (.int .i64 i)).setCell ⟨c, 1, none⟩ (.int .i64 3)) [c]) := Lib.hid ⟨Keep.setCell (Keep.setCell (hx.keep [c]) (.inl (by simp)) _) (.inl (by simp)) _, Ext.setCell (Ext.setCell hx01 hc _) hc _⟩
   go_wp2_with (first | (go_at_call 111; refine KA2.out.mono ?_; rintro e w3 ⟨rfl, rfl⟩) | (go_at_call 53; refine (KR2.out _).mono ?_; rintro e w4 ⟨rfl, rfl⟩))
   exact bodyPost_ret (res2h rfl) rfl (RStepP.yes R.out rfl KL.out K1.out)
 ·have R : Hid (hstep txt3 tn s z = some (0, str2 1 1, hfail s 10)) := Lib.hid (by rw [HS.out]; rfl)
  have KF := Lib.hid (rfail_any 10 (str2 1 1) hx01 hc ho hb1)
  clear HS
  go_wp2_with (first | (go_at_call 53; refine (KR1.out _).mono ?_; rintro e w4 ⟨rfl, rfl⟩) | (go_at_call 84; refine KF.out.mono ?_; rintro e w5 ⟨rfl, hl5, hb5⟩))
  exact bodyPost_ret (res2h rfl) rfl (RStepP.yes R.out rfl (Left.trans_ext hx hl5) hb5)
end Go.Proofs.YtnohnnjeabehjaaGreatDoor
