/-
  Several texts joined: HtS, HtU, HtV, HuH.
-/
import Derived.Test.YtnohnnjeabehjaaGreatDoorK28
import Derived.Test.YtnohnnjeabehjaaGreatDoorK35
import Derived.Test.YtnohnnjeabehjaaGreatDoorK36
import Derived.Test.YtnohnnjeabehjaaGreatDoorK37
import Derived.Test.YtnohnnjeabehjaaGreatDoorK34
import Derived.Test.YtnohnnjeabehjaaGreatDoorK33
set_option maxHeartbeats 8000000
set_option maxRecDepth 8000
set_option linter.unusedVariables false
set_option linter.unusedSimpArgs false
namespace Go.Proofs.YtnohnnjeabehjaaGreatDoor
open Go.RowKit Go.Joins
theorem rreq_any (z : ByteArray) (hz : z.size <= 281474976710656) (tn : Tns) {w0 w : World} (hx0 : Ext w0 w) {c : Nat} (hc : w0.heap.size <= c) {reg : Value} {s : Hst} (ho : okH s) (h3 : s.1 = 3) (hb : HBlk TR w c reg s) :
  Calls Tryz.prog 87 #[.pointer (some ⟨c, 0, none⟩), .string z] w fun e w' => RStepP w0 w c reg s (hstep txt3 tn s z) e w' := by
 have hcl := HBlk.lt hb
 have HS : Hid (hstep txt3 tn s z = if (rqp z).2.2.2 = 0 then none
  else if (rqp z).2.2.2 = 2 then some (0, rep8 1, hfail s 10)
  else if (rqp z).2.1 = 0 then some ((rqp z).2.2.1, ⟨#[]⟩, hdone s (rqp z).1)
  else some ((rqp z).2.2.1, rep8 (rqp z).2.1, hfail s (why8 (rqp z).2.1))) := Lib.hid (by unfold hstep; rw [if_neg (by omega), if_neg (by omega), if_neg (by omega), if_pos h3])
 clear h3
 have KP := Lib.hid (fun w => rprq_any z hz w)
 have hst := rqp_st z
 have hcd := rqp_code z
 have hT := okT_rqp z (Nat.le_trans hz (by unfold maxLen; omega))
 generalize rqp z = Q at *
 obtain ⟨t, cd, n, q⟩ := Q
 simp only at HS KP hst hcd hT
 have KE := Lib.hid (fun w => rencr_any cd (by omega) w)
 have KY := Lib.hid (fun w => rreply1_10 w)
 have KF := Lib.hid (@rfail_any)
 go_enter Tryz.func87, Tryz.ntmps87
 go_upto_block 0 with (first | (go_at_call 112; refine (KP.out _).mono ?_; rintro e w2 ⟨rfl, hx2⟩; have hbt := Blk.new w2 (tc ztgt) 43) | refine wpList_store_T rfl _ _ rfl okT_ztgt hT hbt rfl rfl ?_)
 rw [← tc_zero, World.setRow_alloc_new]
 clear hbt
 have hx3 := hx2.alloc (.cells (tc t) 43)
 have hb3 := HBlk.ext hb hx3
 have hT3 : TBlk _ w2.heap.size t := Blk.new w2 (tc t) 43
 have hcbt : c ≠ w2.heap.size := by have := hx2.size; omega
 clear hx2 KP
 generalize w2.alloc (.cells (tc t) 43) = w3 at *
 generalize w2.heap.size = bt at *
 have hx03 := hx0.trans hx3
 rcases hst with rfl | rfl | rfl
 ·have R : Hid (hstep txt3 tn s z = none) := Lib.hid (by rw [HS.out, if_pos rfl])
  clear HS
  go_wp2_with fail
  exact bodyPost_ret (res2h rfl) rfl (RStepP.no R.out rfl (Left.of_ext hx0 hx3) hb3)
 case inr.inr =>
  have R : Hid (hstep txt3 tn s z = some (0, rep8 1, hfail s 10)) := Lib.hid (by rw [HS.out, if_neg (by decide), if_pos rfl])
  clear HS
  go_wp2_with (first | (go_at_call 54; refine (KY.out _).mono ?_; rintro e w4 ⟨rfl, hx4⟩; have KG := Lib.hid (KF.out 10 (rep8 1) (hx03.trans hx4) hc ho (HBlk.ext hb3 hx4))) | (go_at_call 84; refine KG.out.mono ?_; rintro e w5 ⟨rfl, hl5, hb5⟩))
  exact bodyPost_ret (res2h rfl) rfl (RStepP.yes R.out rfl (Left.trans_ext (hx3.trans hx4) hl5) hb5)
 clear KY
 by_cases k0 : cd = 0
 ·subst k0
  have R : Hid (hstep txt3 tn s z = some (n, ⟨#[]⟩, hdone s t)) := Lib.hid (by rw [HS.out, if_neg (by decide), if_neg (by decide), if_pos rfl])
  clear HS hcd KE KF
  have hth := HBlk.thereT ho hb3
  have k1 := HBlk.setTgt ho hb3 hT
  have k2 := HBlk.setStage k1 5
  have k3 := HBlk.setState k2 1
  have d1 := HBlk.stage k1
  have f1 := HBlk.free k1 1
  have d2 := HBlk.state k2
  have f2 := HBlk.free k2 2
  have kl : Left w0 w (((w3.setCells c 5 (tc t).toList).setCell ⟨c, 1, none⟩ (.int .i64 5)).setCell ⟨c, 2, none⟩ (.int .i64 1)) [c] :=
   ⟨Keep.setCell (Keep.setCell (Keep.setCells (.inl (by simp)) _ _ _ (hx3.keep _)) (.inl (by simp)) _) (.inl (by simp)) _, Ext.setCell (Ext.setCell (Ext.setCells hc _ _ _ hx03) hc _) hc _⟩
  have K3 := Lib.hid k3
  have KL := Lib.hid kl
  clear k1 k2 k3 kl
  go_wp2_with (first | refine wpList_load_T rfl _ rfl hT hT3 rfl ?_ | refine wpList_store_Tm rfl _ _ rfl hT hth rfl rfl ?_)
  exact bodyPost_ret (res2h rfl) rfl (RStepP.yes R.out rfl KL.out K3.out)
 ·have R0 : Hid (hstep txt3 tn s z = some (n, rep8 cd, hfail s (why8 cd))) := Lib.hid (by rw [HS.out, if_neg (by decide), if_neg (by decide), if_neg k0])
  have hcd2 : cd = 7 ∨ cd = 8 ∨ cd = 1 := by omega
  unfold tv at KE
  rw [tc_zero] at KE
  clear HS hcd k0
  rcases hcd2 with rfl | rfl | rfl
  ·have R : Hid (hstep txt3 tn s z = some (n, rep8 7, hfail s 8)) := R0
   have KG := Lib.hid (KF.out 8 ⟨#[]⟩ hx03 hc ho hb3)
   clear R0
   go_wp2_with (first | (go_at_call 84; refine KG.out.mono ?_; rintro e w5 ⟨rfl, hl5, hb5⟩) | (go_at_call 72; refine (KE.out _).mono ?_; rintro e w6 ⟨rfl, hx6⟩))
   exact bodyPost_ret (res2h rfl) rfl (RStepP.yes R.out rfl ⟨((Left.trans_ext hx3 hl5).1).trans (hx6.keep _), hl5.2.trans hx6⟩ (HBlk.ext hb5 hx6))
  ·have R : Hid (hstep txt3 tn s z = some (n, rep8 8, hfail s 9)) := R0
   have KG := Lib.hid (KF.out 9 ⟨#[]⟩ hx03 hc ho hb3)
   clear R0
   go_wp2_with (first | (go_at_call 84; refine KG.out.mono ?_; rintro e w5 ⟨rfl, hl5, hb5⟩) | (go_at_call 72; refine (KE.out _).mono ?_; rintro e w6 ⟨rfl, hx6⟩))
   exact bodyPost_ret (res2h rfl) rfl (RStepP.yes R.out rfl ⟨((Left.trans_ext hx3 hl5).1).trans (hx6.keep _), hl5.2.trans hx6⟩ (HBlk.ext hb5 hx6))
  ·have R : Hid (hstep txt3 tn s z = some (n, rep8 1, hfail s 10)) := R0
   have KG := Lib.hid (KF.out 10 ⟨#[]⟩ hx03 hc ho hb3)
   clear R0
   go_wp2_with (first | (go_at_call 84; refine KG.out.mono ?_; rintro e w5 ⟨rfl, hl5, hb5⟩) | (go_at_call 72; refine (KE.out _).mono ?_; rintro e w6 ⟨rfl, hx6⟩))
   exact bodyPost_ret (res2h rfl) rfl (RStepP.yes R.out rfl ⟨((Left.trans_ext hx3 hl5).1).trans (hx6.keep _), hl5.2.trans hx6⟩ (HBlk.ext hb5 hx6))
open Go.RowKit Go.Joins
theorem goS_loadTm {Q : Exit -> Act -> World -> Prop} {W : Nat -> World} {K : Nat} {o : Oper} {rest : List Oper} {k : Nat} {a : Act} (hg : o.guard = none) (x : Operand) (ho : o.op = .load 43 x) {b i : Nat} {t : Tgt} (ht : okT t) (hx : a.eval x = .pointer (some ⟨b, i, none⟩))
  (hb : ∀ m, m <= K -> (W m).rangeAt b i (tc t).toList) (n : goS Tryz.prog Q W K rest k (a.put o.dst (tv t))) : goS Tryz.prog Q W K (o :: rest) k a :=
 goS_val (tv t) hg (by unfold isSt; rw [ho]) (fun m hm => by
  have e := run_loadAt_mid (P := Tryz.prog) (W m) b i 43 (tc t).toList _ (hb m hm) Tryz.underlying43 rfl (by rw [info_T, tc_len ht])
  unfold execOp
  rw [ho]
  simp [hx, e]) n
theorem rconn_any (z : ByteArray) (hz : z.size <= 281474976710656) (tn : Tns) (htn : tn.length <= 1000000) {w0 w : World} (hx0 : Ext w0 w) {c g : Nat} (hc : w0.heap.size <= c) (hrg0 : RegR w0 g tn) {s : Hst} (ho : okH s) (h4 : s.1 = 4) (hb : HBlk TR w c (.pointer (some ⟨g, 0, none⟩)) s) :
  Calls Tryz.prog 88 #[.pointer (some ⟨c, 0, none⟩), .string z] w fun e w' => RStepP w0 w c (.pointer (some ⟨g, 0, none⟩)) s (hstep txt3 tn s z) e w' := by
 have hcl := HBlk.lt hb
 have HS : Hid (hstep txt3 tn s z = if (fin z).2.2 = 0 then none
  else if (fin z).2.2 = 2 then some (0, st400, hfail s 10)
  else match (if (fin z).1.2.1 = true then authT (fin z).1.2.2.1 (fin z).1.2.2.2 tn 0 else none) with
   | none => some ((fin z).2.1, st407, hfail s 11)
   | some i => some ((fin z).2.1, ⟨#[]⟩, (5, 1, s.2.2.1, (i : Int), (fin z).1.1, s.2.2.2.2.2))) := Lib.hid (by unfold hstep; rw [if_neg (by omega), if_neg (by omega), if_neg (by omega), if_neg (by omega)]; rfl)
 clear h4
 have KP := Lib.hid (fun w => rparse_conn z hz w)
 have hst := fin_st8 z
 have hC := okC_fin z
 have KA := Lib.hid (fun w hr => rauthT_any (fin z).1.2.2.1 (fin z).1.2.2.2 tn htn g w hr)
 generalize fin z = Q at *
 obtain ⟨h, n, q⟩ := Q
 simp only at HS KP hst hC KA
 have KF := Lib.hid (@rfail_any)
 go_enter Tryz.func88, Tryz.ntmps88
 go_upto_block 0 with (first | (go_at_call 113; refine (KP.out _).mono ?_; rintro e w2 ⟨rfl, hx2⟩; have hbt := Blk.new w2 (crc zcr) 49) | refine wpList_store_C rfl _ _ rfl okC_zcr hC hbt rfl rfl ?_)
 rw [← crc_zero, World.setRow_alloc_new]
 clear hbt
 have hxB := hx2.alloc (.cells (crc h) 49)
 have hb4 := HBlk.ext (HBlk.ext hb hx2) ((Ext.refl w2).alloc (.cells (crc h) 49))
 have hR4 : RBlk _ w2.heap.size h := Blk.new w2 (crc h) 49
 have hcbt : c ≠ w2.heap.size := by have := hx2.size; omega
 clear hx2 KP
 generalize w2.alloc (.cells (crc h) 49) = w4 at *
 generalize w2.heap.size = bt at *
 have hxA := hx0.trans hxB
 rcases hst with rfl | rfl | rfl
 ·have R : Hid (hstep txt3 tn s z = none) := Lib.hid (by rw [HS.out, if_pos rfl])
  clear HS
  go_wp2_with fail
  exact bodyPost_ret (res2h rfl) rfl (RStepP.no R.out rfl (Left.of_ext hx0 hxB) hb4)
 case inr.inr =>
  have R : Hid (hstep txt3 tn s z = some (0, st400, hfail s 10)) := Lib.hid (by rw [HS.out, if_neg (by decide), if_pos rfl])
  have K4 := Lib.hid rst400
  clear HS
  generalize st400 = sN at *
  go_wp2_with (first | (go_at_call 27; refine (K4.out _).mono ?_; rintro e w5 ⟨rfl, hx5⟩; have KG := Lib.hid (KF.out 10 sN (hxA.trans hx5) hc ho (HBlk.ext hb4 hx5))) | (go_at_call 84; refine KG.out.mono ?_; rintro e w6 ⟨rfl, hl6, hb6⟩))
  exact bodyPost_ret (res2h rfl) rfl (RStepP.yes R.out rfl (Left.trans_ext (hxB.trans hx5) hl6) hb6)
 have HS2 : Hid (hstep txt3 tn s z = match (if h.2.1 = true then authT h.2.2.1 h.2.2.2 tn 0 else none) with
   | none => some (n, st407, hfail s 11)
   | some i => some (n, ⟨#[]⟩, (5, 1, s.2.2.1, (i : Int), h.1, s.2.2.2.2.2))) := Lib.hid (by rw [HS.out]; rfl)
 clear HS
 have hh := RBlk.has hC hR4
 cases hb19 : h.2.1 with
 | false =>
  rw [hb19] at hh
  have R : Hid (hstep txt3 tn s z = some (n, st407, hfail s 11)) := Lib.hid (by rw [HS2.out, hb19]; rfl)
  clear hb19 HS2 KA
  have KG := Lib.hid (KF.out 11 ⟨#[]⟩ hxA hc ho hb4)
  have K4 := Lib.hid rst407
  generalize st407 = sN at *
  go_wp2_with (first | (go_at_call 84; refine KG.out.mono ?_; rintro e w6 ⟨rfl, hl6, hb6⟩) | (go_at_call 27; refine (K4.out _).mono ?_; rintro e w7 ⟨rfl, hx7⟩))
  exact bodyPost_ret (res2h rfl) rfl (RStepP.yes R.out rfl ⟨((Left.trans_ext hxB hl6).1).trans (hx7.keep _), hl6.2.trans hx7⟩ (HBlk.ext hb6 hx7))
 | true =>
  rw [hb19] at hh
  have HS3 : Hid (hstep txt3 tn s z = match authT h.2.2.1 h.2.2.2 tn 0 with
   | none => some (n, st407, hfail s 11)
   | some i => some (n, ⟨#[]⟩, (5, 1, s.2.2.1, (i : Int), h.1, s.2.2.2.2.2))) := Lib.hid (by rw [HS2.out, hb19]; rfl)
  clear hb19 HS2
  go_upto_region 9 with fail
  clear hh
  have hrg4 := hrg0.ext hxA
  have KC := fun (w' : World) (k : Ext w4 w') => (KA.out w' (hrg4.ext k)).mono (fun e w2 he => (⟨he.1, by rw [← he.2]; exact Ext.refl _⟩ : e = .returned (authV1 (authT h.2.2.1 h.2.2.2 tn 0)) /\ Ext w' w2))
  have F0 : ∀ w', Ext w4 w' -> w'.cell? ⟨c, 0, none⟩ = some (.pointer (some ⟨g, 0, none⟩)) := fun w' k => HBlk.regc (HBlk.ext hb4 k)
  have F1 : ∀ w', Ext w4 w' -> w'.cell? ⟨bt, 20, none⟩ = some (.string h.2.2.1) := fun w' k => RBlk.user hC (Blk.ext hR4 k)
  have F2 : ∀ w', Ext w4 w' -> w'.cell? ⟨bt, 21, none⟩ = some (.string h.2.2.2) := fun w' k => RBlk.pass hC (Blk.ext hR4 k)
  generalize authT h.2.2.1 h.2.2.2 tn 0 = au at *
  refine wp_region_rg w4 (by kernel_rfl) (by kernel_rfl) (Ext.refl _) ?_
  cases au with
  | none =>
   have R : Hid (hstep txt3 tn s z = some (n, st407, hfail s 11)) := Lib.hid (by rw [HS3.out])
   unfold authV1 at KC
   simp only at KC
   iterate 3
    first
     | (apply goV_skip (by intro u; rfl))
     | (apply goV_val _ (by intro u; rfl); · (intro u w hSw hF; go_simp; try with_reducible rfl))
    try simp only [aput, List.set]
   first
    | (apply goV_skip (by intro u; rfl))
    | (apply goV_val (.pointer (some ⟨g, 0, none⟩)) (by intro u; rfl); · (intro u w hSw hF; have c0 := F0 w hSw; go_simp))
   try simp only [aput, List.set]
   first
    | (apply goV_skip (by intro u; rfl))
    | (apply goV_val _ (by intro u; rfl); · (intro u w hSw hF; go_simp; try with_reducible rfl))
   try simp only [aput, List.set]
   first
    | (apply goV_skip (by intro u; rfl))
    | (apply goV_val (.string h.2.2.1) (by intro u; rfl); · (intro u w hSw hF; have c0 := F1 w hSw; go_simp))
   try simp only [aput, List.set]
   first
    | (apply goV_skip (by intro u; rfl))
    | (apply goV_val _ (by intro u; rfl); · (intro u w hSw hF; go_simp; try with_reducible rfl))
   try simp only [aput, List.set]
   first
    | (apply goV_skip (by intro u; rfl))
    | (apply goV_val (.string h.2.2.2) (by intro u; rfl); · (intro u w hSw hF; have c0 := F2 w hSw; go_simp))
   try simp only [aput, List.set]
   first
    | (apply goV_skip (by intro u; rfl))
    | (apply goV_call (by intro u; rfl) KC; · (intro u w hSw hF; go_simp; try with_reducible rfl))
   try simp only [aput, List.set]
   first
    | (apply goV_skip (by intro u; rfl))
    | (apply goV_val _ (by intro u; rfl); · (intro u w hSw hF; go_simp; try with_reducible rfl))
   try simp only [aput, List.set]
   intro u w5 hx5 _
   replace hb4 := HBlk.ext hb4 hx5
   replace hxA := hxA.trans hx5
   replace hxB := hxB.trans hx5
   clear F0 F1 F2 KC KA hrg4 HS3 hR4 hx5
   have KG := Lib.hid (KF.out 11 ⟨#[]⟩ hxA hc ho hb4)
   have K4 := Lib.hid rst407
   generalize st407 = sN at *
   go_wp2_with (first | (go_at_call 84; refine KG.out.mono ?_; rintro e w6 ⟨rfl, hl6, hb6⟩) | (go_at_call 27; refine (K4.out _).mono ?_; rintro e w7 ⟨rfl, hx7⟩))
   exact bodyPost_ret (res2h rfl) rfl (RStepP.yes R.out rfl ⟨((Left.trans_ext hxB hl6).1).trans (hx7.keep _), hl6.2.trans hx7⟩ (HBlk.ext hb6 hx7))
  | some i =>
   have R : Hid (hstep txt3 tn s z = some (n, ⟨#[]⟩, (5, 1, s.2.2.1, (i : Int), h.1, s.2.2.2.2.2))) := Lib.hid (by rw [HS3.out])
   unfold authV1 at KC
   simp only at KC
   iterate 3
    first
     | (apply goV_skip (by intro u; rfl))
     | (apply goV_val _ (by intro u; rfl); · (intro u w hSw hF; go_simp; try with_reducible rfl))
    try simp only [aput, List.set]
   first
    | (apply goV_skip (by intro u; rfl))
    | (apply goV_val (.pointer (some ⟨g, 0, none⟩)) (by intro u; rfl); · (intro u w hSw hF; have c0 := F0 w hSw; go_simp))
   try simp only [aput, List.set]
   first
    | (apply goV_skip (by intro u; rfl))
    | (apply goV_val _ (by intro u; rfl); · (intro u w hSw hF; go_simp; try with_reducible rfl))
   try simp only [aput, List.set]
   first
    | (apply goV_skip (by intro u; rfl))
    | (apply goV_val (.string h.2.2.1) (by intro u; rfl); · (intro u w hSw hF; have c0 := F1 w hSw; go_simp))
   try simp only [aput, List.set]
   first
    | (apply goV_skip (by intro u; rfl))
    | (apply goV_val _ (by intro u; rfl); · (intro u w hSw hF; go_simp; try with_reducible rfl))
   try simp only [aput, List.set]
   first
    | (apply goV_skip (by intro u; rfl))
    | (apply goV_val (.string h.2.2.2) (by intro u; rfl); · (intro u w hSw hF; have c0 := F2 w hSw; go_simp))
   try simp only [aput, List.set]
   first
    | (apply goV_skip (by intro u; rfl))
    | (apply goV_call (by intro u; rfl) KC; · (intro u w hSw hF; go_simp; try with_reducible rfl))
   try simp only [aput, List.set]
   first
    | (apply goV_skip (by intro u; rfl))
    | (apply goV_val _ (by intro u; rfl); · (intro u w hSw hF; go_simp; try with_reducible rfl))
   try simp only [aput, List.set]
   intro u w5 hx5 _
   replace hb4 := HBlk.ext hb4 hx5
   replace hxA := hxA.trans hx5
   replace hxB := hxB.trans hx5
   replace hR4 := Blk.ext hR4 hx5
   clear F0 F1 F2 KC KA hrg4 hx5 HS3 KF
   have hi0 : ¬ ((i : Int) < 0) := by omega
   go_upto_region 13 with fail
   have d0 : Ext w5 w5.drew := (Ext.refl w5).drew
   have k0 := HBlk.ext hb4 d0
   have k1 := HBlk.setTenant k0 i
   have k2 := HBlk.setTgt (s := (s.1, s.2.1, s.2.2.1, (i : Int), s.2.2.2.2)) ho k1 hC.1
   have k3 := HBlk.setStage k2 5
   have k4 := HBlk.setState k3 1
   have t0 : RBlk w5.drew bt h := Blk.ext hR4 d0
   have t1 : RBlk (w5.drew.setCell ⟨c, 4, none⟩ (.int .i64 i)) bt h := Blk.set_ne t0 ⟨c, 4, none⟩ hcbt _
   have t2 : RBlk ((w5.drew.setCell ⟨c, 4, none⟩ (.int .i64 i)).setCells c 5 (tc h.1).toList) bt h := Blk.setCells_ne hcbt _ _ _ t1
   have t3 : RBlk (((w5.drew.setCell ⟨c, 4, none⟩ (.int .i64 i)).setCells c 5 (tc h.1).toList).setCell ⟨c, 1, none⟩ (.int .i64 5)) bt h := Blk.set_ne t2 ⟨c, 1, none⟩ hcbt _
   have t4 : RBlk ((((w5.drew.setCell ⟨c, 4, none⟩ (.int .i64 i)).setCells c 5 (tc h.1).toList).setCell ⟨c, 1, none⟩ (.int .i64 5)).setCell ⟨c, 2, none⟩ (.int .i64 1)) bt h := Blk.set_ne t3 ⟨c, 2, none⟩ hcbt _
   have e4 : Keep [c] w ((((w5.drew.setCell ⟨c, 4, none⟩ (.int .i64 i)).setCells c 5 (tc h.1).toList).setCell ⟨c, 1, none⟩ (.int .i64 5)).setCell ⟨c, 2, none⟩ (.int .i64 1)) :=
    Keep.setCell (Keep.setCell (Keep.setCells (.inl (by simp)) _ _ _ (Keep.setCell ((hxB.trans d0).keep [c]) (.inl (by simp)) _)) (.inl (by simp)) _) (.inl (by simp)) _
   have x4 : Ext w0 ((((w5.drew.setCell ⟨c, 4, none⟩ (.int .i64 i)).setCells c 5 (tc h.1).toList).setCell ⟨c, 1, none⟩ (.int .i64 5)).setCell ⟨c, 2, none⟩ (.int .i64 1)) :=
    Ext.setCell (Ext.setCell (Ext.setCells hc _ _ _ (Ext.setCell (hxA.trans d0) hc _)) hc _) hc _
   refine wp_region_rst (fun m => match m with
    | 0 => w5.drew
    | 1 => w5.drew.setCell ⟨c, 4, none⟩ (.int .i64 i)
    | 2 => (w5.drew.setCell ⟨c, 4, none⟩ (.int .i64 i)).setCells c 5 (tc h.1).toList
    | 3 => ((w5.drew.setCell ⟨c, 4, none⟩ (.int .i64 i)).setCells c 5 (tc h.1).toList).setCell ⟨c, 1, none⟩ (.int .i64 5)
    | _ => (((w5.drew.setCell ⟨c, 4, none⟩ (.int .i64 i)).setCells c 5 (tc h.1).toList).setCell ⟨c, 1, none⟩ (.int .i64 5)).setCell ⟨c, 2, none⟩ (.int .i64 1)) 4 w5 rfl (by kernel_rfl) (by kernel_rfl) ?_
   apply goS_val _ rfl rfl
   ·(intro m hm; go_simp; try with_reducible rfl)
   try simp only [aput, List.set]
   apply goS_val _ rfl rfl
   ·(intro m hm; go_simp; try with_reducible rfl)
   try simp only [aput, List.set]
   apply goS_val _ rfl rfl
   ·(intro m hm; go_simp; try with_reducible rfl)
   try simp only [aput, List.set]
   apply goS_val _ rfl rfl
   ·(intro m hm; go_simp; try with_reducible rfl)
   try simp only [aput, List.set]
   apply goS_val _ rfl rfl
   ·(intro m hm; go_simp; try with_reducible rfl)
   try simp only [aput, List.set]
   apply goS_val _ rfl rfl
   ·(intro m hm; go_simp; try with_reducible rfl)
   try simp only [aput, List.set]
   apply goS_loadTm rfl _ rfl hC.1 rfl
   ·intro m _
    match m with
    | 0 => exact RBlk.rangeT t0
    | 1 => exact RBlk.rangeT t1
    | 2 => exact RBlk.rangeT t2
    | 3 => exact RBlk.rangeT t3
    | m + 4 => exact RBlk.rangeT t4
   try simp only [aput, List.set]
   apply goS_val _ rfl rfl
   ·(intro m hm; go_simp; try with_reducible rfl)
   try simp only [aput, List.set]
   apply goS_val _ rfl rfl
   ·(intro m hm; go_simp; try with_reducible rfl)
   try simp only [aput, List.set]
   refine goS_storeI rfl _ _ rfl rfl rfl (HBlk.tenant k0) (HBlk.free k0 4) rfl ?_
   try simp only [aput, List.set]
   apply goS_val _ rfl rfl
   ·(intro m hm; go_simp; try with_reducible rfl)
   try simp only [aput, List.set]
   apply goS_val _ rfl rfl
   ·(intro m hm; go_simp; try with_reducible rfl)
   try simp only [aput, List.set]
   refine goS_storeT rfl _ _ rfl hC.1 rfl rfl (HBlk.thereT (s := (s.1, s.2.1, s.2.2.1, (i : Int), s.2.2.2.2)) ho k1) rfl ?_
   try simp only [aput, List.set]
   apply goS_val _ rfl rfl
   ·(intro m hm; go_simp; try with_reducible rfl)
   try simp only [aput, List.set]
   apply goS_val _ rfl rfl
   ·(intro m hm; go_simp; try with_reducible rfl)
   try simp only [aput, List.set]
   refine goS_storeI rfl _ _ rfl rfl rfl (HBlk.stage k2) (HBlk.free k2 1) rfl ?_
   try simp only [aput, List.set]
   apply goS_val _ rfl rfl
   ·(intro m hm; go_simp; try with_reducible rfl)
   try simp only [aput, List.set]
   apply goS_val _ rfl rfl
   ·(intro m hm; go_simp; try with_reducible rfl)
   try simp only [aput, List.set]
   refine goS_storeI rfl _ _ rfl rfl rfl (HBlk.state k3) (HBlk.free k3 2) rfl ?_
   try simp only [aput, List.set]
   refine ⟨rfl, ?_⟩
   have K4 := Lib.hid k4
   have E4 := Lib.hid e4
   have X4 := Lib.hid x4
   clear k0 k1 k2 k3 k4 e4 x4 t0 t1 t2 t3 t4
   generalize ((((w5.drew.setCell ⟨c, 4, none⟩ (.int .i64 i)).setCells c 5 (tc h.1).toList).setCell ⟨c, 1, none⟩ (.int .i64 5)).setCell ⟨c, 2, none⟩ (.int .i64 1)) = w6 at *
   go_wp2_with fail
   exact bodyPost_ret (res2h rfl) rfl (RStepP.yes R.out rfl ⟨E4.out, X4.out⟩ K4.out)
open Go.RowKit Go.Joins
theorem RStepP.cong {w0 w : World} {c : Nat} {reg : Value} {s : Hst} {r : Option (Int × ByteArray × Hst)} {e : Ending} {w' : World} (h : RStepP w0 w c reg s r e w') : ∃ (a : Int) (o : ByteArray) (s' : Hst), e = .returned (.tuple #[.int .i64 a, .string o]) /\ Left w0 w w' [c] /\ HBlk TR w' c reg s' /\ Hid ((r = none /\ a = 0 /\ o = ⟨#[]⟩ /\ s' = s) ∨ r = some (a, o, s')) := by
 obtain ⟨h1, h2⟩ := h
 cases r with
 | none => exact ⟨0, ⟨#[]⟩, s, h2.1, h1, h2.2, Lib.hid (.inl ⟨rfl, rfl, rfl, rfl⟩)⟩
 | some x => exact ⟨x.1, x.2.1, x.2.2, h2.1, h1, h2.2, Lib.hid (.inr rfl)⟩
theorem RStepP.mk8 {w0 w : World} {c : Nat} {reg : Value} {s s' : Hst} {r : Option (Int × ByteArray × Hst)} {a : Int} {o : ByteArray} {e : Ending} {w' : World} (he : e = .returned (.tuple #[.int .i64 a, .string o])) (hl : Left w0 w w' [c]) (hb : HBlk TR w' c reg s') (h : (r = none /\ a = 0 /\ o = ⟨#[]⟩ /\ s' = s) ∨ r = some (a, o, s')) : RStepP w0 w c reg s r e w' := by
 refine ⟨hl, ?_⟩
 rcases h with ⟨rfl, rfl, rfl, rfl⟩ | rfl
 ·exact ⟨he, hb⟩
 ·exact ⟨he, hb⟩
theorem rstep_any (z : ByteArray) (hz : z.size <= 281474976710656) (tn : Tns) (htn : tn.length <= 1000000) {w0 w : World} (hx0 : Ext w0 w) {c g : Nat} (hc : w0.heap.size <= c) (hrg0 : RegR w0 g tn) {s : Hst} (hs : okS s) (h5 : s.1 ≠ 5) (hb : HBlk TR w c (.pointer (some ⟨g, 0, none⟩)) s) :
  Calls Tryz.prog 61 #[.pointer (some ⟨c, 0, none⟩), .string z] w fun e w' => RStepP w0 w c (.pointer (some ⟨g, 0, none⟩)) s (hstep txt3 tn s z) e w' := by
 have hcl := HBlk.lt hb
 have ho : okH s := hs.2.1
 have hs1 : s.1 = 0 ∨ s.1 = 1 ∨ s.1 = 2 ∨ s.1 = 3 ∨ s.1 = 4 := by have := hs.1; omega
 clear hs h5
 have c1 := HBlk.stage hb
 have hb0 := B_bd z 0
 go_enter Tryz.func61, Tryz.ntmps61
 rcases hs1 with h0 | h0 | h0 | h0 | h0
 ·have HS : Hid (hstep txt3 tn s z = if z.size = 0 then none else if B z 0 = 5 then some (0, ⟨#[]⟩, (1, s.2.1, 1, s.2.2.2)) else if B z 0 = 67 then some (0, ⟨#[]⟩, (4, s.2.1, 2, s.2.2.2)) else some (0, st400, hfail s 10)) := Lib.hid (by unfold hstep; rw [if_pos h0]; rfl)
  rw [h0] at c1
  clear h0
  by_cases hz0 : (z.size : Int) < 1
  ·have R : Hid (hstep txt3 tn s z = none) := Lib.hid (by rw [HS.out, if_pos (by omega)])
   have hq : (z.toList == []) = true := by rw [B_empty z hz0, ByteArray.toList_eq]; rfl
   clear hz0 HS
   go_wp2_with fail
   exact bodyPost_ret (res2h rfl) rfl (RStepP.no R.out rfl (Left.of_ext hx0 (Ext.refl _)) hb)
  ·have hq : (z.toList == []) = false := nil_no (by omega)
   have hz1 : (0 : Int) < z.size := by omega
   have HS2 : Hid (hstep txt3 tn s z = if B z 0 = 5 then some (0, ⟨#[]⟩, (1, s.2.1, 1, s.2.2.2)) else if B z 0 = 67 then some (0, ⟨#[]⟩, (4, s.2.1, 2, s.2.2.2)) else some (0, st400, hfail s 10)) := Lib.hid (by rw [HS.out, if_neg (by omega)])
   have c3 := HBlk.proto hb
   have f1 := HBlk.free hb 1
   have f3 := HBlk.free hb 3
   clear HS hz0
   by_cases h5 : B z 0 = 5
   ·have R : Hid (hstep txt3 tn s z = some (0, ⟨#[]⟩, (1, s.2.1, 1, s.2.2.2))) := Lib.hid (by rw [HS2.out, if_pos h5])
    have h5b : (B z 0 == 5) = true := by rw [beq_iff_eq]; exact h5
    have K1 := Lib.hid (HBlk.setStage (HBlk.setProto hb 1) 1)
    have KL : Hid (Left w0 w ((w.setCell ⟨c, 3, none⟩ (.int .i64 1)).setCell ⟨c, 1, none⟩ (.int .i64 1)) [c]) := Lib.hid ⟨Keep.setCell (Keep.setCell ((Ext.refl w).keep [c]) (.inl (by simp)) _) (.inl (by simp)) _, Ext.setCell (Ext.setCell hx0 hc _) hc _⟩
    clear h5 HS2
    go_wp2_with fail
    exact bodyPost_ret (res2h rfl) rfl (RStepP.yes R.out rfl KL.out K1.out)
   ·have h5b : (B z 0 == 5) = false := by rw [beq_eq_false_iff_ne]; exact h5
    by_cases h6 : B z 0 = 67
    ·have R : Hid (hstep txt3 tn s z = some (0, ⟨#[]⟩, (4, s.2.1, 2, s.2.2.2))) := Lib.hid (by rw [HS2.out, if_neg h5, if_pos h6])
     have h6b : (B z 0 == 67) = true := by rw [beq_iff_eq]; exact h6
     have K1 := Lib.hid (HBlk.setStage (HBlk.setProto hb 2) 4)
     have KL : Hid (Left w0 w ((w.setCell ⟨c, 3, none⟩ (.int .i64 2)).setCell ⟨c, 1, none⟩ (.int .i64 4)) [c]) := Lib.hid ⟨Keep.setCell (Keep.setCell ((Ext.refl w).keep [c]) (.inl (by simp)) _) (.inl (by simp)) _, Ext.setCell (Ext.setCell hx0 hc _) hc _⟩
     clear h5 h6 HS2
     go_wp2_with fail
     exact bodyPost_ret (res2h rfl) rfl (RStepP.yes R.out rfl KL.out K1.out)
    ·have R : Hid (hstep txt3 tn s z = some (0, st400, hfail s 10)) := Lib.hid (by rw [HS2.out, if_neg h5, if_neg h6])
     have h6b : (B z 0 == 67) = false := by rw [beq_eq_false_iff_ne]; exact h6
     have K4 := Lib.hid rst400
     have KF := Lib.hid (@rfail_any)
     clear h5 h6 HS2 c3 f1 f3
     generalize st400 = s4 at *
     go_wp2_with (first | (go_at_call 27; refine (K4.out _).mono ?_; rintro e w2 ⟨rfl, hx2⟩; have KG := Lib.hid (KF.out 10 s4 (hx0.trans hx2) hc ho (HBlk.ext hb hx2))) | (go_at_call 84; refine KG.out.mono ?_; rintro e w3 ⟨rfl, hl3, hb3⟩))
     exact bodyPost_ret (res2h rfl) rfl (RStepP.yes R.out rfl (Left.trans_ext hx2 hl3) hb3)
 ·have KS := Lib.hid (rgreet_any z hz tn hx0 hc ho h0 hb)
  rw [h0] at c1
  clear h0
  go_wp2_with (first | (go_at_call 85; refine KS.out.mono ?_; rintro e w2 hp2; obtain ⟨sa, so, s2, rfl, hl2, hb2, HQ⟩ := hp2.cong; clear hp2))
  exact bodyPost_ret (res2h rfl) rfl (RStepP.mk8 rfl hl2 hb2 HQ.out)
 ·have KS := Lib.hid (ruser_any z hz tn htn hx0 hc hrg0 ho h0 hb)
  rw [h0] at c1
  clear h0
  go_wp2_with (first | (go_at_call 86; refine KS.out.mono ?_; rintro e w2 hp2; obtain ⟨sa, so, s2, rfl, hl2, hb2, HQ⟩ := hp2.cong; clear hp2))
  exact bodyPost_ret (res2h rfl) rfl (RStepP.mk8 rfl hl2 hb2 HQ.out)
 ·have KS := Lib.hid (rreq_any z hz tn hx0 hc ho h0 hb)
  rw [h0] at c1
  clear h0
  go_wp2_with (first | (go_at_call 87; refine KS.out.mono ?_; rintro e w2 hp2; obtain ⟨sa, so, s2, rfl, hl2, hb2, HQ⟩ := hp2.cong; clear hp2))
  exact bodyPost_ret (res2h rfl) rfl (RStepP.mk8 rfl hl2 hb2 HQ.out)
 ·have KS := Lib.hid (rconn_any z hz tn htn hx0 hc hrg0 ho h0 hb)
  rw [h0] at c1
  clear h0
  go_wp2_with (first | (go_at_call 88; refine KS.out.mono ?_; rintro e w2 hp2; obtain ⟨sa, so, s2, rfl, hl2, hb2, HQ⟩ := hp2.cong; clear hp2))
  exact bodyPost_ret (res2h rfl) rfl (RStepP.mk8 rfl hl2 hb2 HQ.out)
theorem rfeed_any (z : ByteArray) (hz : z.size <= 281474976710656) (tn : Tns) (htn : tn.length <= 1000000) {w0 w : World} (hx0 : Ext w0 w) {c g : Nat} (hc : w0.heap.size <= c) (hrg0 : RegR w0 g tn) {s : Hst} (hs : okS s) (hb : HBlk TR w c (.pointer (some ⟨g, 0, none⟩)) s) :
  Calls Tryz.prog 43 #[.pointer (some ⟨c, 0, none⟩), .string z] w fun e w' => FeedP TR tn w0 w c (.pointer (some ⟨g, 0, none⟩)) s z e w' := by
 have hcl := HBlk.lt hb
 go_enter Tryz.func43, Tryz.ntmps43
 go_wp2_with fail
 go_loopg [7, 8] ((5 - s.1).toNat) (fun k u v wr => FeedRel TR tn w0 w c (.pointer (some ⟨g, 0, none⟩)) s z u v k wr)
 case atStart => exact ⟨0, ⟨#[]⟩, s, rfl, rfl, rfl, Nat.zero_le _, by show (0 : Int) <= _; have := hs.1; omega, Lib.hid (.refl _ _), Left.of_ext hx0 (Ext.refl _), hb, hs⟩
 case round =>
  obtain ⟨n, o, s1, hg, rfl, rfl, hn, hoz, HSt, hl1, hb1, hs1⟩ := hrel
  have HG := Lib.hid hg
  clear hg
  have c1 := HBlk.stage hb1
  have c2 := HBlk.state hb1
  have h15 := hs1.1
  by_cases h5 : s1.1 = 5
  ·have h5b : (s1.1 != 5) = false := by rw [bne_eq_false_iff_eq]; exact h5
   have H5 := Lib.hid h5
   clear h5
   go_wp2_with fail
   go_quiet (fail)
   go_wp2_with fail
   refine bodyPost_ret (res3f rfl) rfl (FeedP.mk HSt.out (.inl H5.out) rfl ⟨hl1.1.trans (((Ext.refl _).drewN _).keep _), hl1.2.trans ((Ext.refl _).drewN _)⟩ (HBlk.ext hb1 ((Ext.refl _).drewN _)) hs1 (by omega))
  ·have h5b : (s1.1 != 5) = true := by rw [bne_iff_ne]; exact h5
   have hn' : (n : Int) <= z.size := by omega
   have hz' : (z.size : Int) <= 281474976710656 := by omega
   have KS := Lib.hid (rstep_any (z.extract n z.size) (Nat.le_trans (extract_le _ _ _) hz) tn htn hl1.2 hc hrg0 hs1 h5 hb1)
   have H5 := Lib.hid h5
   clear h5 c2
   go_upto_region 5 with (first | (go_at_call 61; refine KS.out.mono ?_; rintro e w2 hp2; obtain ⟨sa, so, s2, rfl, hl2, hb2, HQ⟩ := hp2.cong; clear hp2))
   have hl3 : Left w0 w w2 [c] := ⟨hl1.1.trans hl2.1, hl2.2⟩
   clear hl2 hl1 hb1 c1
   have d1 := HBlk.stage hb2
   have d2 := HBlk.state hb2
   rcases HQ.out with ⟨hq, rfl, rfl, rfl⟩ | hq
   ·have HQ2 := Lib.hid hq
    have hoo : ¬ 9223372036854775807 < o.size + (⟨#[]⟩ : ByteArray).size := by show ¬ 9223372036854775807 < o.size + 0; omega
    have hoe : Hid (o ++ (⟨#[]⟩ : ByteArray) = o) := Lib.hid ByteArray.append_empty
    have hbe : (s2.1 == s2.1) = true := by rw [beq_iff_eq]
    clear hq HQ
    go_wp2_with fail
    go_quiet (fail)
    go_wp2_with fail
    refine bodyPost_ret (res3f rfl) rfl (FeedP.mk HSt.out (.inr HQ2.out) ?_ ⟨hl3.1.trans (((Ext.refl _).drewN _).keep _), hl3.2.trans ((Ext.refl _).drewN _)⟩ (HBlk.ext hb2 ((Ext.refl _).drewN _)) hs1 (by omega))
    show Ending.returned (.tuple #[.int .i64 n, .string (o ++ ⟨#[]⟩), .int .i64 s2.2.1]) = _
    rw [hoe.out]
   ·have q1 : 0 <= sa /\ sa <= ((z.extract n z.size).size : Int) := hstep_n hq
    have q2 : so.size <= 300 := hstep_o hq
    have q3 : s1.1 < s2.1 /\ s2.1 <= 5 := hstep_up (by have := H5.out; omega) hq
    have q4 : okS s2 := okS_step (Nat.le_trans (extract_le _ _ _) (Nat.le_trans hz (by unfold maxLen; omega))) hs1 H5.out hq
    have q5 := Lib.hid (Steps.snoc HSt.out H5.out hq)
    have q6 := extract_le z n z.size
    rw [ByteArray.size_extract] at q1
    have v2 : ¬ 9223372036854775807 < o.size + so.size := by omega
    have hbe : (s2.1 == s1.1) = false := by rw [beq_eq_false_iff_ne]; omega
    clear hq HQ H5
    go_wp2_with fail
    go_roundg ((5 - s2.1).toNat)
    case measure => rw [HG.out]; omega
    case rel =>
     refine ⟨n + sa.toNat, o ++ so, s2, rfl, ?_, rfl, by omega, by rw [ByteArray.size_append]; omega, q5, hl3, hb2, q4⟩
     congr 1
     omega
theorem rto_any {w : World} {c : Nat} {reg : Value} {s : Hst} (hs : okS s) (hb : HBlk TR w c reg s) : Calls Tryz.prog 34 #[.pointer (some ⟨c, 0, none⟩)] w fun e w' => e = .returned (.string (toR s)) /\ Ext w w' := by
 have c1 := HBlk.stage hb
 have h5 := hs.1
 have K8 := Lib.hid rst408
 have KM := Lib.hid (gmethR_any 255 w)
 have KU : Hid (∀ w, Calls Tryz.prog 53 #[.bool false] w fun e w' => e = .returned (.string (str2 1 1)) /\ w = w') := Lib.hid (fun w => by rw [str2_11]; exact rureply_any false w)
 have KY := Lib.hid (rreply1_3 w)
 rcases (by omega : s.1 = 0 ∨ s.1 = 1 ∨ s.1 = 2 ∨ s.1 = 3 ∨ s.1 = 4 ∨ s.1 = 5) with h | h | h | h | h | h
 ·have R : Hid (toR s = st408) := Lib.hid (by unfold toR; rw [h]; rfl)
  rw [h] at c1
  clear h h5 hs
  go_enter Tryz.func34, Tryz.ntmps34
  go_wp2_with (go_at_call 27; refine (K8.out _).mono ?_; rintro e w1 ⟨rfl, hx⟩)
  go_ret
  exact ⟨by rw [R.out]; rfl, hx⟩
 ·have R : Hid (toR s = str2 5 255) := Lib.hid (by unfold toR; rw [h]; rfl)
  rw [h] at c1
  clear h h5 hs
  go_enter Tryz.func34, Tryz.ntmps34
  go_wp2_with (go_at_call 52; refine (KM.out).mono ?_; rintro e w1 ⟨rfl, hx⟩)
  go_ret
  exact ⟨by rw [R.out]; rfl, hx⟩
 ·have R : Hid (toR s = str2 1 1) := Lib.hid (by unfold toR; rw [h]; rfl)
  rw [h] at c1
  clear h h5 hs
  go_enter Tryz.func34, Tryz.ntmps34
  go_wp2_with (go_at_call 53; refine (KU.out _).mono ?_; rintro e w1 ⟨rfl, rfl⟩)
  go_ret
  exact ⟨by rw [R.out]; rfl, Ext.refl _⟩
 ·have R : Hid (toR s = rep8 6) := Lib.hid (by unfold toR; rw [h]; rfl)
  rw [h] at c1
  clear h h5 hs
  go_enter Tryz.func34, Tryz.ntmps34
  go_wp2_with (go_at_call 54; refine (KY.out).mono ?_; rintro e w1 ⟨rfl, hx⟩)
  go_ret
  exact ⟨by rw [R.out]; rfl, hx⟩
 ·have R : Hid (toR s = st408) := Lib.hid (by unfold toR; rw [h]; rfl)
  rw [h] at c1
  clear h h5 hs
  go_enter Tryz.func34, Tryz.ntmps34
  go_wp2_with (go_at_call 27; refine (K8.out _).mono ?_; rintro e w1 ⟨rfl, hx⟩)
  go_ret
  exact ⟨by rw [R.out]; rfl, hx⟩
 ·have R : Hid (toR s = ⟨#[]⟩) := Lib.hid (by unfold toR; rw [h]; rfl)
  rw [h] at c1
  clear h h5 hs
  go_enter Tryz.func34, Tryz.ntmps34
  go_wp2_with fail
  go_ret
  exact ⟨by rw [R.out]; rfl, Ext.refl _⟩
theorem rnew_any (g : Nat) (w : World) : Calls Tryz.prog 32 #[.pointer (some ⟨g, 0, none⟩)] w fun e w' => e = .returned (.pointer (some ⟨w.heap.size, 0, none⟩)) /\ Ext w w' /\ HBlk TR w' w.heap.size (.pointer (some ⟨g, 0, none⟩)) zhst := by
 go_enter Tryz.func32, Tryz.ntmps32
 go_wp2_with fail
 rw [← hcl_z]
 go_ret
 exact ⟨rfl, (Ext.refl w).alloc _, HBlk.new8 _ _ _⟩
open Go.RowKit Go.Joins
theorem infoTz : (Tryz.prog.info? 63).map (fun i => (i.zero, i.size, i.bytes)) = some (some (.agg tnZ.toArray), 6, 80) := by kernel_rfl
theorem tenant_parts : ∃ i : TypeInfo, Tryz.prog.info? 63 = some i /\ i.zero = some (.agg tnZ.toArray) /\ i.size = 6 /\ i.bytes = 80 := info_parts infoTz
theorem tnL_ones (i : Nat) {w : World} {base : Nat} {v : Value} (h : RlV w base v) : ∀ u ∈ tnL i v, u.oneCell' = true := by
 have := tnL_one i h
 rw [← Array.all_toList, List.all_eq_true] at this
 exact this
theorem tn_fold (k : Nat) (v : Value) : List.foldl (fun (cs : Array Value) (x : Value × Nat) => cs.setIfInBounds x.snd x.fst) #[.string ⟨#[]⟩, .string ⟨#[]⟩, .slice none 0 0, .int .i64 0, .int .u64 0, .int .i64 0] (tnL k v).zipIdx = (tnL k v).toArray := rfl
theorem cell_keepq {w w' : World} {q b i : Nat} {u : Value} {T : TypeId} (hB : Blk w q [.pointer none, .pointer none] T) (k : Keep [q] w w') (h : w.cell? ⟨b, i, none⟩ = some u) (hu : u ≠ .pointer none) : w'.cell? ⟨b, i, none⟩ = some u := by
 by_cases hb : b = q
 ·subst hb
  exfalso
  unfold Blk at hB
  unfold World.cell? at h
  simp only [hB] at h
  match i with
  | 0 => simp at h; exact hu h.symm
  | 1 => simp at h; exact hu h.symm
  | i + 2 => simp at h
 ·rw [k.cell (World.block_lt_of_cell? _ _ h) (by rw [List.mem_singleton]; exact hb)]; exact h
theorem info_Hs : (Tryz.prog.info? 26).map (·.size) = some 2 := by kernel_rfl
theorem res_Hs {fn : Func} {t u : Tmp} (h : fn.results = #[.cell t 26, .tmp u]) {tmps : Array Value} {c : Nat} (hq : tmps.getD t undef = .pointer (some ⟨c, 0, none⟩)) {w : World} {cs : List Value} (hcs : cs.length = 2) (hb : Blk w c cs 26) :
  (results fn tmps).run Tryz.prog w = .ok (.tuple #[.agg cs.toArray, tmps.getD u undef]) w := by
 have := run_loadVar_mid (P := Tryz.prog) w c 0 26 cs _ (Blk.all hb) Tryz.underlying26 rfl (by rw [info_Hs, hcs])
 have hq' : tmps[t]?.getD undef = .pointer (some ⟨c, 0, none⟩) := by simpa using hq
 simp [results, h, hq', this, Sem.run_bind, asAddr]
def NewHsRel (w : World) (q : Nat) (l : Value) (k : Nat) (wr : World) : Prop :=
 ∃ vs : List Value, vs.length = k /\ TnRow wr w.heap.size l vs /\ Blk wr q [.pointer none, .pointer none] 26 /\ Ext w wr
theorem RegP.cut8 {wa wf : World} {x c : Nat} {tn : Tns} (h : RegP wa x tn) (hc : wa.heap.size <= c) (k : ∀ (b i : Nat) (u : Value), wa.cell? ⟨b, i, none⟩ = some u -> u ≠ .pointer none -> wf.cell? ⟨b, i, none⟩ = some u) : RegP (upTo wf c) x tn := by
 have key : ∀ (b i : Nat) (u : Value), wa.cell? ⟨b, i, none⟩ = some u -> u ≠ .pointer none -> (upTo wf c).cell? ⟨b, i, none⟩ = some u := fun b i u h1 h2 => by
  rw [upTo_cell wf (Nat.lt_of_lt_of_le (World.block_lt_of_cell? _ _ h1) hc)]; exact k b i u h1 h2
 obtain ⟨g2, cap, es, h1, h2, h3⟩ := h
 exact ⟨g2, cap, es, h1, key _ _ _ h2 (by intro e; cases e), fun i y hy => ⟨key _ _ _ (h3 i y hy).1 (by intro e; cases e), key _ _ _ (h3 i y hy).2.1 (by intro e; cases e), key _ _ _ (h3 i y hy).2.2 (by intro e; cases e)⟩⟩
def HsB (w0 w : World) (c d x g : Nat) : Prop := ∃ (lv s1 s2 : Value) (vs : List Value) (base : Nat), Ext w0 w /\ w0.heap.size <= c /\ RegP (upTo w c) x tn3 /\ c < d /\ d < w.heap.size /\ g < d /\ Blk w g [lv, s1, s2] 97 /\ vs.length = 3 /\ TnRow w base lv vs /\ ∀ k, lv.ownBlock = some k -> k < d
def HsV (w0 w : World) (v : Value) : Prop := ∃ x g c d : Nat, v = .agg #[.pointer (some ⟨c, 0, none⟩), .pointer (some ⟨d, 0, none⟩)] /\ HsB w0 w c d x g /\ HBlk TH w c (.pointer (some ⟨x, 0, none⟩)) zhst /\ HBlk TR w d (.pointer (some ⟨g, 0, none⟩)) zhst
def NewHsP (w : World) (e : Ending) (w' : World) : Prop := ∃ v, e = .returned (.tuple #[v, .bool true]) /\ Ext w w' /\ HsV w w' v
theorem newhs_any (w : World) : Calls Tryz.prog 8 #[] w fun e w' => NewHsP w e w' := by
 go_enter Tryz.func8, Tryz.ntmps8
 go_upto_region 2 with fail
 have hx1 := (Ext.refl w).alloc (.cells #[.pointer none, .pointer none] 26)
 have hB := Blk.new w #[.pointer none, .pointer none] 26
 generalize w.alloc (.cells #[.pointer none, .pointer none] 26) = w1 at *
 generalize hxx : w.heap.size = q at hB ⊢
 go_wp2_with fail
 go_loopw [2, 3] (fun l i wr => ∃ k : Nat, k <= 3 /\ i = .int .i64 k /\ NewHsRel w q l k wr) (fun _ i _ => 3 - (intOf i).toNat)
 case atStart => exact ⟨0, Nat.zero_le _, rfl, [], rfl, ⟨World.ownsRow_nil _ _ _ _, fun v h => by cases h⟩, hB, hx1⟩
 case round =>
  clear hx1 hB
  obtain ⟨k, hk, rfl, vs, hvs, hl, hB, hx⟩ := hrel
  have HVS := Lib.hid hvs
  clear hvs
  by_cases hlt : k < 3
  ·have hlt' : (k : Int) < 3 := by omega
   have KG := Lib.hid (fun w => gtn_any k (by omega) w)
   go_upto_region 5 with fail
   obtain ⟨i0, hi, hz0, hz1, hz2⟩ := tenant_parts
   go_wp2_with (first | (go_at_call 29; refine (KG.out _).mono ?_; rintro e wa ⟨v, rfl, hv, hxa⟩; have hB1 := Blk.ext hB hxa; have hl1 := hl.ext hxa; have hx1 := hx.trans hxa; have hv1 := hv.mono hx.size; have hone := tnL_ones k hv1; have hn6 : (tnL k v).length = 6 := tnL_len k v; have hxL := (Ext.refl wa).alloc (.cells (tnL k v).toArray 63); have hsz := (hx1.trans hxL).size; have hL := Blk.new wa (tnL k v).toArray 63) | (at_builtin; rw [tn_fold]; refine wpList_append_own _ rfl _ _ 59 rfl w.heap.size 63 i0 (.agg tnZ.toArray) 6 80 Tryz.underlying59 hi hz0 hz1 hz2 rfl (by decide) _ vs.length (tnCells vs 0) rfl (own_ext hl1.1 hxL) ⟨wa.heap.size, 0, none⟩ 1 1 (tnL k v) rfl rfl (fun j u hj => by rw [add_off, Nat.zero_add]; exact hL.cell hj) hone (by have := HVS.out; unfold maxLen; omega) (by have := HVS.out; omega) hsz ?_; intro v' wb hown9 hg9 _))
   have hlL := own_ext hl1.1 hxL
   have K9 := Keep.of_grown hg9
   have hxe := Ext.grown (hx1.trans hxL) hg9 (fun g hg => (hlL.lt g hg).1)
   have hBe := Blk.grown hlL (Blk.ext hB1 hxL) (by decide) hg9
   have hR : ∀ u, RlV wa w.heap.size u -> RlV wb w.heap.size u := fun u hu => by
    obtain ⟨g, cap, e, ho⟩ := hu.ext hxL
    exact ⟨g, cap, e, own_keepS ho K9 (fun g hg => own_own_ne ho hlL (by decide) g hg)⟩
   have hle : TnRow wb w.heap.size v' (vs ++ [v]) := by
    refine ⟨?_, fun u hu => ?_⟩
    ·rw [List.length_append, tnCells_snoc, Nat.zero_add, HVS.out]
     have := hown9
     rw [HVS.out] at this
     exact this
    ·rcases List.mem_append.1 hu with h | h
     ·exact hR u (hl1.2 u h)
     ·rw [List.mem_singleton] at h; subst h; exact hR u hv1
   refine ⟨⟨k + 1, by omega, by go_num, vs ++ [v], by rw [List.length_append, HVS.out]; rfl, hle, hBe, hxe⟩, ?_⟩
   simp [intOf]; omega
  ·obtain rfl : k = 3 := by omega
   have KN := Lib.hid (tnew2_any _ vs HVS.out hl (Nat.le_trans (Nat.le_refl _) hx.size))
   go_upto_region 7 with (go_at_call 30; refine KN.out.mono ?_; rintro e wa ⟨x, rfl, hxa, hxl, hRP⟩)
   go_upto_region 9 with fail
   have KH := Lib.hid (fun w => hnew_any x w)
   replace hl := hl.ext hxa
   replace hB := Blk.ext hB hxa
   replace hx := hx.trans hxa
   have hx0 := hx
   clear hxa KN hxl
   go_upto_region 10 with (go_at_call 31; refine (KH.out _).mono ?_; rintro e wb ⟨rfl, hxb, hH⟩)
   replace hl := hl.ext hxb
   replace hB := Blk.ext hB hxb
   replace hx := hx.trans hxb
   have hwc : w.heap.size <= wa.heap.size := hx0.size
   have hca : wa.heap.size <= wa.heap.size := Nat.le_refl _
   have HRP : ∀ c, wa.heap.size <= c -> ∀ wf, (∀ (b i : Nat) (u : Value), wa.cell? ⟨b, i, none⟩ = some u -> u ≠ .pointer none -> wf.cell? ⟨b, i, none⟩ = some u) -> RegP (upTo wf c) x tn3 := fun c hc wf k => hRP.cut8 hc k
   have hcl : ∀ p u, wa.cell? p = some u -> wb.cell? p = some u := fun p u h => cell_ext hxb h
   replace HRP := HRP _ hca
   generalize wa.heap.size = c at *
   clear hxb KH hRP hca
   have KR := Lib.hid (rtnew_any _ vs HVS.out hl hx.size)
   go_wp2_with (first | (go_at_call 33; refine KR.out.mono ?_; rintro e wc ⟨g, s1, s2, rfl, hxc, hgl, hGB, hRR⟩) | (go_at_call 32; refine (rnew_any _ _).mono ?_; rintro e wd ⟨rfl, hxd, hD⟩; have hB4 := Blk.ext (Blk.ext hB hxc) hxd; have c40 := Blk.cell hB4 (i := 0) rfl; have c41 := Blk.cell hB4 (i := 1) rfl; have f40 := Blk.free hB4 0; have f41 := Blk.free hB4 1))
   have hcb : c < wc.heap.size := Nat.lt_of_lt_of_le (Blk.lt hH) hxc.size
   have hgd := Blk.lt hGB
   have hlc := hl.ext hxc
   have hkd : ∀ k, Value.ownBlock _ = some k -> k < wc.heap.size := fun k hk => (hlc.1.lt k hk).2
   have hdl := Blk.lt hD
   generalize wc.heap.size = d at *
   have K0 : Keep [q] wd ((wd.setCell ⟨q, 0, none⟩ (.pointer (some ⟨c, 0, none⟩))).setCell ⟨q, 1, none⟩ (.pointer (some ⟨d, 0, none⟩))) := ((Keep.refl [q] wd).setCell (.inl (by simp)) _).setCell (.inl (by simp)) _
   have hBf := Blk.set (Blk.set hB4 0 (.pointer (some ⟨c, 0, none⟩))) 1 (.pointer (some ⟨d, 0, none⟩))
   have hxd0 : Ext wb wd := hxc.trans hxd
   have hxf := Keep.ext (((hx.trans hxd0).keep [q]).trans K0) (fun y hy => by rw [List.mem_singleton] at hy; subst hy; exact Nat.le_of_eq hxx)
   have hHf : HBlk TH _ c _ _ := Blk.keep (Blk.ext hH hxd0) K0 (by rw [List.mem_singleton]; exact Blk.ne_type (Blk.ext hH hxd0) hB4 (by decide))
   have hDf : HBlk TR _ d _ _ := Blk.keep hD K0 (by rw [List.mem_singleton]; exact Blk.ne_type hD hB4 (by decide))
   have hGBd := Blk.keep (Blk.ext hGB hxd) K0 (by rw [List.mem_singleton]; exact Blk.ne_type (Blk.ext hGB hxd) hB4 (by decide))
   have hld := TnRow.keepS (hlc.ext hxd) K0 (fun y hy => by rw [List.mem_singleton] at hy; subst hy; exact ⟨fun ho => own_ne ho hB4 (by decide), fun ho => own_ne ho hB4 (by decide)⟩)
   have hRPf := HRP _ (fun b i u h1 h2 => cell_keepq hB4 K0 (cell_ext hxd0 (hcl _ _ h1)) h2)
   have cf0 := Blk.cell hBf (i := 0) rfl
   have cf1 := Blk.cell hBf (i := 1) rfl
   have hV : HsV w _ _ := ⟨x, g, c, d, rfl, ⟨_, s1, s2, vs, _, hxf, hwc, hRPf, hcb, Nat.lt_of_lt_of_le hdl K0.size, hgd, hGBd, HVS.out, hld, hkd⟩, hHf, hDf⟩
   generalize (wd.setCell ⟨q, 0, none⟩ (.pointer (some ⟨c, 0, none⟩))).setCell ⟨q, 1, none⟩ (.pointer (some ⟨d, 0, none⟩)) = wf at *
   exact bodyPost_ret (res_Hs rfl rfl (cs := [.pointer (some ⟨c, 0, none⟩), .pointer (some ⟨d, 0, none⟩)]) rfl hBf) rfl ⟨_, rfl, hxf, hV⟩
end Go.Proofs.YtnohnnjeabehjaaGreatDoor
