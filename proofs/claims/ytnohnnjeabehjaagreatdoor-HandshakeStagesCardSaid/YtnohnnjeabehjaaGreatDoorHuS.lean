/-
 HandshakeStages.
-/
import Derived.Test.YtnohnnjeabehjaaGreatDoorK39
import Derived.Test.YtnohnnjeabehjaaGreatDoorK40
set_option maxHeartbeats 16000000
set_option maxRecDepth 8000
set_option linter.unusedVariables false
set_option linter.unusedSimpArgs false
namespace Go.Proofs.YtnohnnjeabehjaaGreatDoor
open Go.RowKit Go.Joins
theorem gencode_size {s : ByteArray} (h : s.size <= 255) : (gencode s).1.size <= 257 := by
 unfold gencode
 split
 ·exact Nat.zero_le _
 ·show (str2 _ _ ++ s).size <= _; rw [size_app]; show 2 + _ <= _; omega
theorem uencode_size9 {u p : ByteArray} (hu : u.size <= 255) (hp : p.size <= 255) : (uencode u p).1.size <= 600 := by
 unfold uencode
 split
 ·exact Nat.zero_le _
 ·show (str2 _ _ ++ u ++ str1 _ ++ p).size <= _; simp only [size_app]; show 2 + _ + 1 + _ <= _; omega
theorem toList_ne9 {z : ByteArray} (h : (z.toList == []) = false) : 1 <= z.size := by
 rcases Nat.lt_or_ge 0 z.size with q | q
 ·exact q
 ·exfalso
  have : z = ⟨#[]⟩ := BA_ext (by have := size_list z; exact List.eq_nil_of_length_eq_zero (by omega))
  rw [this] at h
  exact absurd h (by decide +kernel)
theorem build_C2 {t : Tgt} (ht : okT t) (b : Bool) (w : World) : (Instr.build 49 #[(0, .agg (tc t)), (1, .bool b)]).run Tryz.prog w = .ok (.agg (crc (t, b, ⟨#[]⟩, ⟨#[]⟩))) w := by
 obtain ⟨nm, ⟨f, l⟩, k⟩ := t
 match l, ht.1.1 with
 | [a0, a1, a2, a3, a4, a5, a6, a7, a8, a9, a10, a11, a12, a13, a14, a15], _ => exact run_build w 49 _ _ (by kernel_rfl)
theorem wpList_build_C2 {ops : Array Oper} {rest : List Oper} {o : Oper} {f : Act} {w : World} {Q : Exit -> Act -> World -> Prop} (hgd : o.guard = none) (x y : Operand) (ho : o.op = .build 49 #[(0, x), (1, y)]) {t : Tgt} (ht : okT t) {b : Bool}
  (hx : f.eval x = .agg (tc t)) (hy : f.eval y = .bool b) (h : wpList Tryz.prog ops Q rest (f.put o.dst (.agg (crc (t, b, ⟨#[]⟩, ⟨#[]⟩)))) w) : wpList Tryz.prog ops Q (o :: rest) f w :=
 wpList_plain hgd fun _ hK => by
  unfold Oper.wp
  have e : (execOp f.eval o).run Tryz.prog w = .ok (.value (.agg (crc (t, b, ⟨#[]⟩, ⟨#[]⟩)))) w := by
   unfold execOp
   rw [ho]
   have e1 := build_C2 ht b w
   simp only [List.map_toArray, List.map_cons, List.map_nil, hx, hy, Sem.run_bind, e1, Result.andThen_ok, Sem.run_pure]
  rw [e]
  exact hK _ _ h
theorem HandshakeStages_walk (ma : Option Addr) (mn mc : Nat) (z : ByteArray) (user pass n : Int) (command : Int) (raw : ByteArray) (kinds : Int) (la : Option Addr) (ln lc : Nat) (zs : List Int)
  (hzn : z.size = mn) (hzs : z.size <= 140737488351232) (_ : (Lit.int .i64 user).wf = true) (_ : (Lit.int .i64 pass).wf = true) (_ : (Lit.int .i64 n).wf = true) (hwc : (Lit.int .u8 command).wf = true) (hraw : raw.size <= 140737488351232) (wk : (Lit.int .u8 kinds).wf = true) (hln : ln <= 140737488351232)
  (w : World) (henv : Env w) (htabs : Tabs w) (hin : OctsIn w ma mn mc z) (hcv : ∀ w', Ext w w' -> (convert 33 9 (.slice ma mn mc)).run Tryz.prog w' = .ok (.string z) w') (hl : IntsIn w la ln lc zs) :
  Calls Tryz.prog 4 #[.slice ma mn mc, .int .i64 user, .int .i64 pass, .int .i64 n, .int .u8 command, .string raw, .int .u8 kinds, .slice la ln lc] w fun e w' => e = .returned (.bool true) /\ Ext w w' := by
 have K8 := Lib.hid (fun w => newhs_any w)
 have KA := Lib.hid (fun w' (h : Ext w w') => awake_any (henv.ext h) (htabs.ext h))
 have HL := Lib.hid hl
 have HCV := Lib.hid hcv
 clear hl hcv hin
 have hzl : z.size <= 140737488351232 := hzs
 have HZ := Lib.hid hzl
 clear hzs hzn hzl
 go_enter Tryz.func4, Tryz.ntmps4
 go_upto_region 2 with (go_at_call 8; refine (K8.out _).mono ?_; rintro e w1 ⟨v1, rfl, hx1, x, g, c, d, rfl, hH, hP, hR⟩)
 have hxa := (Ext.refl w1).alloc (.cells #[.pointer (some ⟨c, 0, none⟩), .pointer (some ⟨d, 0, none⟩)] 26)
 have hB := Blk.new w1 #[.pointer (some ⟨c, 0, none⟩), .pointer (some ⟨d, 0, none⟩)] 26
 replace hH := (hH).ext hP hR hxa
 replace hP : HBlk TH _ c _ _ := Blk.ext hP hxa
 replace hR : HBlk TR _ d _ _ := Blk.ext hR hxa
 replace hx1 := (hx1).trans hxa
 clear hxa
 generalize (w1).alloc (.cells #[.pointer (some ⟨c, 0, none⟩), .pointer (some ⟨d, 0, none⟩)] 26) = w2 at *
 generalize (w1).heap.size = b at *
 clear K8
 have hcv2 := HCV.out w2 hx1
 go_upto_region 5 with fail
 go_cut [45] from 39 to 44 (fun cc wc => ∃ br : Bool, cc = .bool br /\ (br = false -> 1 <= z.size) /\ wc = w2)
 case first =>
  by_cases hb : bits BinOp.and IntKind.u8 kinds 1 = 0
  ·go_wp2_with fail
   go_meet
   exact ⟨true, rfl, fun h => (by cases h), rfl⟩
  ·have hb' : (bits BinOp.and IntKind.u8 kinds 1 == 0) = false := by rw [beq_eq_false_iff_ne]; exact hb
   cases hz0 : (z.toList == [])
   ·have hz1 := Lib.hid (toList_ne9 hz0)
    go_wp2_with fail
    go_meet
    exact ⟨false, rfl, fun _ => hz1.out, rfl⟩
   ·go_wp2_with fail
    go_meet
    exact ⟨true, rfl, fun h => (by cases h), rfl⟩
 case rest =>
  obtain ⟨br, rfl, hbr, hwe⟩ := hcut
  replace hwe := hwe.symm
  subst hwe
  have HBR := Lib.hid hbr
  clear hbr
  go_upto_if 45 with fail
  go_cut [19] from 46 to 47 (fun v wc => ∃ m : ByteArray, v = .string m /\ Hid (1 <= m.size) /\ Hid (m.size <= 140737488351300) /\ wc = w2)
  case first =>
   have y1 : ¬ 9223372036854775807 < z.size + 1 := by have := HZ.out; omega
   cases br with
   | true =>
    go_wp2_with fail
    go_meet
    exact ⟨_, rfl, Lib.hid (by rw [size_app]; show 1 <= z.size + 1; omega), Lib.hid (by have := HZ.out; rw [size_app]; show z.size + 1 <= _; omega), rfl⟩
   | false =>
    have hz1 := Lib.hid (HBR.out rfl)
    go_wp2_with fail
    go_meet
    exact ⟨z, rfl, hz1, Lib.hid (by have := HZ.out; omega), rfl⟩
  case rest =>
   obtain ⟨m, rfl, HM1, HM2, hwe⟩ := hcut
   replace hwe := hwe.symm
   subst hwe
   clear HBR
   go_upto_if 50 with fail
   go_cut [19, 50] from 51 to 52 (fun v _ wc => ∃ m2 : ByteArray, v = .string m2 /\ m2.size <= 255 /\ wc = w2)
   case first =>
    by_cases h255 : (255 : Int) < m.size
    ·have q1 : (255 : Int) <= m.size := by omega
     go_wp2_with fail
     go_meet
     exact ⟨_, rfl, by rw [ByteArray.size_extract]; omega, rfl⟩
    ·go_wp2_with fail
     go_meet
     exact ⟨m, rfl, by omega, rfl⟩
   case rest =>
    obtain ⟨m2, rfl, hm2, hwe⟩ := hcut
    replace hwe := hwe.symm
    subst hwe
    clear HM1 HM2
    have KE := Lib.hid (fun w => gencodeR_any m2 w (Nat.le_trans hm2 (by decide)))
    have hga := gencode_size hm2
    generalize (gencode m2).1 = ga at *
    generalize (gencode m2).2 = gb at *
    have KU1 := Lib.hid (fun w => guser_any user w)
    have KP1 := Lib.hid (fun w => gpwd_all pass w)
    have KP2 := Lib.hid (fun w => gpwd_all user w)
    have KU2 : Hid (∀ (u p : ByteArray) (w : World), u.size <= 255 -> p.size <= 255 -> Calls Tryz.prog 13 #[.string u, .string p] w fun e w' => ∃ (y : ByteArray) (ok : Bool), y.size <= 600 /\ e = .returned (.tuple #[.string y, .bool ok]) /\ Ext w w') := Lib.hid (fun u p w hu hp => (uencodeR_any u p w (Nat.le_trans hu (by decide)) (Nat.le_trans hp (by decide))).mono (fun e w' h => ⟨_, _, uencode_size9 hu hp, h.1, h.2⟩))
    go_upto_if 68 with (first | (go_at_call 12; refine (KE.out _).mono ?_; rintro e w3 ⟨rfl, hx3⟩) | (go_at_call 14; refine (KU1.out _).mono ?_; rintro e w4 ⟨us, hus, rfl, hx4⟩) | (go_at_call 15; refine (KP1.out _).mono ?_; rintro e w5 ⟨kp, hkp, rfl, hx5⟩) | (go_at_call 13; refine (KU2.out _ _ _ (by omega) (by rw [pwd_size]; decide)).mono ?_; rintro e w6 ⟨y6, ok6, hy6, rfl, hx6⟩))
    have hx26 := ((hx3.trans hx4).trans hx5).trans hx6
    clear hx3 hx4 hx5 hx6 KE KP1 hus hkp hm2
    go_cut [22, 67, 68] from 69 to 76 (fun v _ _ w7 => ∃ y7 : ByteArray, v = .string y7 /\ y7.size <= 600 /\ Ext w2 w7)
    case first =>
     by_cases hb : bits BinOp.and IntKind.u8 kinds 2 = 0
     ·go_wp2_with (first | (go_at_call 14; refine (KU1.out _).mono ?_; rintro e w7 ⟨us7, hus7, rfl, hx7⟩) | (go_at_call 15; refine (KP2.out _).mono ?_; rintro e w8 ⟨kp8, hkp8, rfl, hx8⟩) | (go_at_call 13; refine (KU2.out _ _ _ (by omega) (by rw [pwd_size]; decide)).mono ?_; rintro e w9 ⟨y9, ok9, hy9, rfl, hx9⟩))
      go_meet
      exact ⟨y9, rfl, hy9, ((hx26.trans hx7).trans hx8).trans hx9⟩
     ·have hb' : (bits BinOp.and IntKind.u8 kinds 2 == 0) = false := by rw [beq_eq_false_iff_ne]; exact hb
      go_wp2_with fail
      go_meet
      exact ⟨y6, rfl, hy6, hx26⟩
    case rest =>
     clear hx26 hy6
     obtain ⟨y7, rfl, hy7, hx27⟩ := hcut
     rename World => w7
     go_upto_if 79 with fail
     go_cut [4, 79] from 77 to 78 (fun v _ wc => ∃ cm : Int, v = .int .u8 cm /\ (0 <= cm /\ cm < 256) /\ wc = w7)
     case first =>
      have hcb : 0 <= command /\ command < 256 := by
       simp [Lit.wf, IntKind.min, IntKind.max, IntKind.bits, IntKind.signed] at hwc
       omega
      by_cases hb : bits BinOp.and IntKind.u8 kinds 4 = 0
      ·go_wp2_with fail
       go_meet
       exact ⟨1, rfl, by omega, rfl⟩
      ·go_wp2_with fail
       go_meet
       exact ⟨command, rfl, hcb, rfl⟩
     case rest =>
      obtain ⟨cm, rfl, hcm, hwe⟩ := hcut
      replace hwe := hwe.symm
      subst hwe
      clear hwc
      have KT := Lib.hid (fun w => gtarget_any n w)
      have KR := Lib.hid (fun (t : Tgt) ht hv w => renrq_any cm hcm t ht hv w)
      go_upto_block 0 with (first | (go_at_call 17; refine (KT.out _).mono ?_; rintro e w8 ⟨t, ht, hv, rfl, hx8⟩) | (go_at_call 16; refine (KR.out t ht hv _).mono ?_; rintro e w9 ⟨rfl, hx9⟩; have hec : (str3 5 cm 0 ++ (encTg t).1).size <= 403 := (by rw [size_app]; have := encTg_size ht hv; show 3 + _ <= _; omega); generalize (str3 5 cm 0 ++ (encTg t).1) = ec at *; have y1 : ¬ 9223372036854775807 < ga.size + y7.size := (by omega); have y2 : ¬ 9223372036854775807 < ga.size + y7.size + ec.size := (by omega); have y3 : ¬ 9223372036854775807 < ga.size + y7.size + ec.size + raw.size := (by omega)))
      have hx29 := (hx27.trans hx8).trans hx9
      clear hx27 hx8 hx9 KR
      have hs0 : (ga ++ y7 ++ ec ++ raw).size <= 140737488352532 := by simp only [size_app]; omega
      generalize (ga ++ y7 ++ ec ++ raw) = s0 at *
      clear y1 y2 y3
      generalize bits BinOp.and IntKind.u8 (kinds / 16) 7 = kx
      go_cut [26] from 97 to 141 (fun v wc => ∃ s : ByteArray, v = .string s /\ s.size <= 281474976710656 /\ Ext w2 wc)
      case first =>
       cases q1 : (kx == 1)
       case true =>
        have y1 : ¬ 9223372036854775807 < ga.size + raw.size := by omega
        have y2 : ¬ 9223372036854775807 < ga.size + raw.size + y7.size := by omega
        have y3 : ¬ 9223372036854775807 < ga.size + raw.size + y7.size + ec.size := by omega
        go_wp2_with fail
        go_meet
        exact ⟨_, rfl, by simp only [size_app]; omega, hx29⟩
       cases q2 : (kx == 2)
       case true =>
        have y1 : ¬ 9223372036854775807 < ga.size + y7.size := by omega
        have y2 : ¬ 9223372036854775807 < ga.size + y7.size + raw.size := by omega
        go_wp2_with fail
        go_meet
        exact ⟨_, rfl, by simp only [size_app]; omega, hx29⟩
       cases q3 : (kx == 3)
       case true =>
        have KC := Lib.hid (fun (t : Tgt) ht hv w => gconn_all user t ht hv w)
        go_wp2_with (first | (go_at_call 17; refine (KT.out _).mono ?_; rintro e w10 ⟨t2, ht2, hv2, rfl, hx10⟩) | (go_at_call 18; refine (KC.out t2 ht2 hv2 _).mono ?_; rintro e w11 ⟨cb, hcb, rfl, hx11⟩; have y1 : ¬ 9223372036854775807 < cb.size + raw.size := (by omega)))
        go_meet
        exact ⟨_, rfl, by simp only [size_app]; omega, (hx29.trans hx10).trans hx11⟩
       cases q4 : (kx == 4)
       case true =>
        have KF : Hid (∀ (h : Cr) (w : World), okC h -> h.2.2.1.size <= 0 -> h.2.2.2.size <= 0 -> Calls Tryz.prog 19 #[.agg (crc h)] w fun e w' => ∃ (y : ByteArray) (ok : Bool), y.size <= 512 /\ e = .returned (.tuple #[.string y, .bool ok]) /\ Ext w w') := Lib.hid (fun h w ho h1 h2 => (rfmtc_any h ho (by omega) (by omega) w).mono (fun e w' k => ⟨_, _, fmtC_le8 h, k.1, k.2⟩))
        go_wp2_with (first | (go_at_call 17; refine (KT.out _).mono ?_; rintro e w10 ⟨t2, ht2, hv2, rfl, hx10⟩) | refine wpList_build_C2 rfl _ _ rfl ht2 rfl rfl ?_ | (go_at_call 19; refine (KF.out _ _ ⟨ht2, Nat.zero_le _, Nat.zero_le _⟩ (Nat.le_refl _) (Nat.le_refl _)).mono ?_; rintro e w11 ⟨cb, ok8, hcb, rfl, hx11⟩; have y1 : ¬ 9223372036854775807 < cb.size + raw.size := (by omega)))
        go_meet
        exact ⟨_, rfl, by simp only [size_app]; omega, (hx29.trans hx10).trans hx11⟩
       cases q5 : (kx == 5)
       case true =>
        have y1 : ¬ 9223372036854775807 < 1 + raw.size := by omega
        have y2 : ¬ 9223372036854775807 < 1 + raw.size + s0.size := by omega
        go_wp2_with fail
        go_meet
        exact ⟨_, rfl, by simp only [size_app]; show 1 + _ + _ <= _; omega, hx29⟩
       go_wp2_with fail
       go_meet
       exact ⟨s0, rfl, by omega, hx29⟩
      case rest =>
       clear hs0 hx29 hec
       obtain ⟨s, rfl, hsz, hx10⟩ := hcut
       rename World => w10
       replace hH := hH.ext hP hR hx10
       replace hP : HBlk TH _ c _ _ := Blk.ext hP hx10
       replace hR : HBlk TR _ d _ _ := Blk.ext hR hx10
       replace hB := Blk.ext hB hx10
       replace hx1 := hx1.trans hx10
       clear hx10
       have KF := Lib.hid (pieces_any s (by omega) henv htabs hln HL.out hH hP hR)
       go_upto_region 30 with (first | refine wpList_load_Hs rfl _ rfl rfl hB ?_ | (go_at_call 10; refine KF.out.mono ?_; rintro e w4 ⟨n4, o, s1, hF, rfl, hk4, hH4, hP4, hR4, hs4⟩))
       have hcw : w.heap.size <= c := by obtain ⟨_, _, _, _, _, _, hc, _⟩ := id hH; exact hc
       have hcd : c < d := by obtain ⟨_, _, _, _, _, _, _, _, hc, _⟩ := id hH; exact hc
       have hx4 := Keep.ext ((hx1.keep [c, d]).trans hk4) (fun y hy => by simp only [List.mem_cons, List.not_mem_nil, or_false] at hy; omega)
       have c0 := fun (w' : World) (h : Ext w4 w') => KA.out w' (hx4.trans h)
       clear KF hH hP hR hB hk4 hH4 hP4 hR4 hs4 hF hsz
       refine wp_region_rgs ?_
       (apply goV_call (by intro u; rfl) c0; · (intro u w hSw hF; go_simp; try with_reducible rfl))
       try simp only [aput, List.set]
       iterate 4
        (apply goV_val _ (by intro u; rfl); · (intro u w hSw hF; go_simp; try with_reducible rfl))
        try simp only [aput, List.set]
       intro u w7 hx7 _
       go_wp2
       go_ret; exact ⟨rfl, hx4.trans hx7⟩
end Go.Proofs.YtnohnnjeabehjaaGreatDoor
