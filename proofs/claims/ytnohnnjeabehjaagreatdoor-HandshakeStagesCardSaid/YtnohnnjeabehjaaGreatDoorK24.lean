/-
  Several texts joined: HcE, HtD.
-/
import Derived.Test.YtnohnnjeabehjaaGreatDoorK23
set_option maxHeartbeats 2000000
set_option maxRecDepth 8000
set_option linter.unusedVariables false
set_option linter.unusedSimpArgs false
namespace Go.Proofs.YtnohnnjeabehjaaGreatDoor
open Go.RowKit Go.Joins
theorem trimPrefix_len (l p : List UInt8) : (Lib.trimPrefix l p).length <= l.length := by
 unfold Lib.trimPrefix
 split
 ·rw [List.length_drop]; omega
 ·exact Nat.le_refl _
theorem toList_is {v : ByteArray} {l : List UInt8} (c : ByteArray) (hc : c.data.toList = l) : (v.toList == l) = decide (v = c) := by
 rw [← hc, ← ByteArray.toList_eq, toList_beq]
def Left (w0 w w' : World) (S : List Nat) : Prop := Keep S w w' /\ Ext w0 w'
theorem Left.of_ext {w0 w w' : World} {S : List Nat} (h0 : Ext w0 w) (h : Ext w w') : Left w0 w w' S := ⟨h.keep S, h0.trans h⟩
theorem hrq_any (s : ByteArray) (hs : s.size <= 1000000) {w0 w : World} (henv : Env w0) (hx0 : Ext w0 w) {c : Nat} (hc : w0.heap.size <= c) {n : Int} {h : Cr} {b : Bool} (ho : okC h) (hb : PBlk w c n h b) :
  Calls Tryz.prog 150 #[.pointer (some ⟨c, 0, none⟩), .string s] w fun e w' => e = .returned (.bool (rqP s).isSome) /\ Left w0 w w' [c] /\ ∀ t, rqP s = some t -> PBlk w' c n (t, h.2) b := by
 obtain ⟨r0, hr0⟩ : ∃ r0 : ByteArray, r0 = ⟨(Lib.trimPrefix s.data.toList connS.data.toList).toArray⟩ := ⟨_, rfl⟩
 obtain ⟨ok, hok⟩ : ∃ ok, ok = Lib.hasPrefix s.data.toList connS.data.toList := ⟨_, rfl⟩
 have KC : Hid (Calls Tryz.prog 174 #[.string s, .string ⟨#[67, 79, 78, 78, 69, 67, 84, 32]⟩] w fun e w' => e = .returned (.tuple #[.string r0, .bool ok]) /\ w' = w) :=
  Lib.hid (by rw [hr0, hok]; exact Tryz.strings_CutPrefix s ⟨#[67, 79, 78, 78, 69, 67, 84, 32]⟩ w)
 have hrz : r0.size <= s.size := by
  rw [hr0, size_list, size_list]; exact trimPrefix_len _ _
 have henv1 := henv.ext hx0
 have K2 := Lib.hid (cutc_any r0 32 w henv1 (by omega))
 have hz2 := cutB_size r0 32
 have R0 : rqP s = if okRq s = true then some (tgtP (cutB (tl32 s) 32).1).1 else none := rfl
 have R1 : okRq s = (ok && (cutB (tl32 s) 32).2.2 && (decide ((cutB (tl32 s) 32).2.1 = v11) || decide ((cutB (tl32 s) 32).2.1 = v10)) && (tgtP (cutB (tl32 s) 32).1).2) := by
  rw [hok, pre_cut]; rfl
 cases ok
 ·have R : Hid (rqP s = none) := Lib.hid (by rw [R0, R1]; rfl)
  clear R0 R1 hok hr0 hz2
  generalize (cutB r0 32).1 = tg at *
  generalize (cutB r0 32).2.1 = ve at *
  generalize (cutB r0 32).2.2 = is at *
  go_enter Tryz.func150, Tryz.ntmps150
  go_wp2_with (first | (go_at_call 174; refine KC.out.mono ?_; rintro e w1 ⟨rfl, rfl⟩) | (go_at_call 175; refine K2.out.mono ?_; rintro e w2 ⟨rfl, hx2⟩))
  go_ret
  exact ⟨by rw [R.out]; rfl, .of_ext hx0 hx2, fun t q => by rw [R.out] at q; cases q⟩
 ·have e0 : tl32 s = r0 := by rw [hr0]; exact (pre_tl hok.symm).symm
  rw [e0] at R0 R1
  clear hok hr0 e0
  generalize (cutB r0 32).1 = tg at *
  generalize (cutB r0 32).2.1 = ve at *
  generalize (cutB r0 32).2.2 = is at *
  cases is
  ·have R : Hid (rqP s = none) := Lib.hid (by rw [R0, R1]; rfl)
   clear R0 R1 hz2
   go_enter Tryz.func150, Tryz.ntmps150
   go_wp2_with (first | (go_at_call 174; refine KC.out.mono ?_; rintro e w1 ⟨rfl, rfl⟩) | (go_at_call 175; refine K2.out.mono ?_; rintro e w2 ⟨rfl, hx2⟩))
   go_ret
   exact ⟨by rw [R.out]; rfl, .of_ext hx0 hx2, fun t q => by rw [R.out] at q; cases q⟩
  ·have b1 : (ve.toList == [72, 84, 84, 80, 47, 49, 46, 49]) = decide (ve = v11) := toList_is v11 rfl
   have b0 : (ve.toList == [72, 84, 84, 80, 47, 49, 46, 48]) = decide (ve = v10) := toList_is v10 rfl
   by_cases hv : ve = v11 ∨ ve = v10
   ·have R1' : okRq s = (tgtP tg).2 := by
     rw [R1]
     have : (decide (ve = v11) || decide (ve = v10)) = true := by rw [Bool.or_eq_true, decide_eq_true_eq, decide_eq_true_eq]; exact hv
     rw [this]; rfl
    rw [R1'] at R0
    have RR := Lib.hid R0
    clear R0 R1 R1'
    have hT : okT (tgtP tg).1 := okT_tgtP tg (by unfold maxLen; omega)
    have KP := Lib.hid (fun w1 he => ptarget_any tg w1 he (by omega))
    generalize (tgtP tg).1 = t at *
    generalize (tgtP tg).2 = tok at *
    go_enter Tryz.func150, Tryz.ntmps150
    rcases hv with hv | hv
    ·have c1 : decide (ve = v11) = true := decide_eq_true hv
     rw [c1] at b1
     clear hv c1 b0
     go_wp2_with (first | (go_at_call 174; refine KC.out.mono ?_; rintro e w1 ⟨rfl, rfl⟩) | (go_at_call 175; refine K2.out.mono ?_; rintro e w2 ⟨rfl, hx2⟩; have KPw := Lib.hid (KP.out w2 (henv1.ext hx2))) | (go_at_call 176; refine KPw.out.mono ?_; rintro e w3 ⟨rfl, hx3⟩; have hb3 := (hb.ext hx2).ext hx3; have HB3 := Lib.hid hb3; have hth := PBlk.thereT ho hb3) | refine wpList_store_Tm rfl _ _ rfl hT hth rfl rfl ?_)
     go_ret
     refine ⟨?_, ⟨Keep.setCells (.inl (by simp)) _ _ _ ((hx2.trans hx3).keep _), Ext.setCells hc _ _ _ ((hx0.trans hx2).trans hx3)⟩, fun t' q => ?_⟩
     ·rw [RR.out]; cases tok <;> rfl
     ·rw [RR.out] at q
      split at q
      ·injection q with q
       subst q
       exact PBlk.setTgt ho HB3.out hT
      ·cases q
    ·have c1 : decide (ve = v11) = false := by rw [hv]; decide +kernel
     have c0 : decide (ve = v10) = true := decide_eq_true hv
     rw [c1] at b1
     rw [c0] at b0
     clear hv c1 c0
     go_wp2_with (first | (go_at_call 174; refine KC.out.mono ?_; rintro e w1 ⟨rfl, rfl⟩) | (go_at_call 175; refine K2.out.mono ?_; rintro e w2 ⟨rfl, hx2⟩; have KPw := Lib.hid (KP.out w2 (henv1.ext hx2))) | (go_at_call 176; refine KPw.out.mono ?_; rintro e w3 ⟨rfl, hx3⟩; have hb3 := (hb.ext hx2).ext hx3; have HB3 := Lib.hid hb3; have hth := PBlk.thereT ho hb3) | refine wpList_store_Tm rfl _ _ rfl hT hth rfl rfl ?_)
     go_ret
     refine ⟨?_, ⟨Keep.setCells (.inl (by simp)) _ _ _ ((hx2.trans hx3).keep _), Ext.setCells hc _ _ _ ((hx0.trans hx2).trans hx3)⟩, fun t' q => ?_⟩
     ·rw [RR.out]; cases tok <;> rfl
     ·rw [RR.out] at q
      split at q
      ·injection q with q
       subst q
       exact PBlk.setTgt ho HB3.out hT
      ·cases q
   ·have c1 : decide (ve = v11) = false := decide_eq_false (fun q => hv (.inl q))
    have c0 : decide (ve = v10) = false := decide_eq_false (fun q => hv (.inr q))
    have R : Hid (rqP s = none) := Lib.hid (by rw [R0, R1, c1, c0]; rfl)
    rw [c1] at b1
    rw [c0] at b0
    clear hv R0 R1 hz2 c1 c0
    go_enter Tryz.func150, Tryz.ntmps150
    go_wp2_with (first | (go_at_call 174; refine KC.out.mono ?_; rintro e w1 ⟨rfl, rfl⟩) | (go_at_call 175; refine K2.out.mono ?_; rintro e w2 ⟨rfl, hx2⟩))
    go_ret
    exact ⟨by rw [R.out]; rfl, .of_ext hx0 hx2, fun t q => by rw [R.out] at q; cases q⟩
def lineH (s : ByteArray) (h : Cr) (seen : Bool) : Option (Cr × Bool) :=
 match hdP s with
 | none => none
 | some (k, v) => if lowB k = authS then (if seen = true then none else some ((h.1, (authP v).2.2, (authP v).1, (authP v).2.1), true)) else some (h, seen)
theorem lineH_cut (s : ByteArray) (h : Cr) (seen : Bool) : lineH s h seen = if (cutB s 58).2.2 = true /\ vname8 (cutB s 58).1 = true then
  (if lowB (cutB s 58).1 = authS then (if seen = true then none else some ((h.1, (authP (trimB (cutB s 58).2.1)).2.2, (authP (trimB (cutB s 58).2.1)).1, (authP (trimB (cutB s 58).2.1)).2.1), true)) else some (h, seen)) else none := by
 unfold lineH
 rw [hdP_cut]
 by_cases hh : (cutB s 58).2.2 = true /\ vname8 (cutB s 58).1 = true
 ·rw [if_pos hh, if_pos hh]
 ·rw [if_neg hh, if_neg hh]
theorem hhl_any (s : ByteArray) (hs : s.size <= 1000000) {w0 w : World} (henv : Env w0) (hx0 : Ext w0 w) {c : Nat} (hc : w0.heap.size <= c) {n : Int} {h : Cr} {b : Bool} (ho : okC h) (hb : PBlk w c n h b) :
  Calls Tryz.prog 151 #[.pointer (some ⟨c, 0, none⟩), .string s] w fun e w' => e = .returned (.bool (lineH s h b).isSome) /\ Left w0 w w' [c] /\ ∀ g b', lineH s h b = some (g, b') -> PBlk w' c n g b' := by
 have henv1 := henv.ext hx0
 have K2 := Lib.hid (cutc_any s 58 w henv1 (by omega))
 have hz2 := cutB_size s 58
 have R0 := lineH_cut s h b
 generalize (cutB s 58).1 = key at *
 generalize (cutB s 58).2.1 = val at *
 generalize (cutB s 58).2.2 = ok at *
 have KN := Lib.hid (fun w => hname_any key (by unfold maxLen; omega) w)
 have KF : Hid (∀ w, Calls Tryz.prog 178 #[.string key, .string ⟨#[80, 114, 111, 120, 121, 45, 65, 117, 116, 104, 111, 114, 105, 122, 97, 116, 105, 111, 110]⟩] w fun e w' => e = .returned (.bool (decide (lowB key = authS))) /\ Ext w w') :=
  Lib.hid (fun w => by rw [← low_authN]; exact hfold_any key authN (by unfold maxLen; omega) w)
 have hcc : w.heap.size <= w.heap.size := Nat.le_refl _
 have hcw : c < w.heap.size := Blk.lt hb
 generalize vname8 key = nm at *
 cases ok
 ·have R : Hid (lineH s h b = none) := Lib.hid (by rw [R0, if_neg (by simp)])
  clear R0
  go_enter Tryz.func151, Tryz.ntmps151
  go_wp2_with (first | (go_at_call 175; refine K2.out.mono ?_; rintro e w2 ⟨rfl, hx2⟩))
  go_ret
  exact ⟨by rw [R.out]; rfl, .of_ext hx0 hx2, fun g b' q => by rw [R.out] at q; cases q⟩
 cases nm
 ·have R : Hid (lineH s h b = none) := Lib.hid (by rw [R0, if_neg (by simp)])
  clear R0
  go_enter Tryz.func151, Tryz.ntmps151
  go_wp2_with (first | (go_at_call 175; refine K2.out.mono ?_; rintro e w2 ⟨rfl, hx2⟩) | (go_at_call 177; refine (KN.out _).mono ?_; rintro e w3 ⟨rfl, hx3⟩))
  go_ret
  exact ⟨by rw [R.out]; rfl, .of_ext hx0 (hx2.trans hx3), fun g b' q => by rw [R.out] at q; cases q⟩
 rw [if_pos ⟨rfl, rfl⟩] at R0
 have hkd : (lowB key = authS) ↔ decide (lowB key = authS) = true := decide_eq_true_iff.symm
 cases hd : decide (lowB key = authS)
 ·have R : Hid (lineH s h b = some (h, b)) := Lib.hid (by rw [R0, if_neg (of_decide_eq_false hd)])
  rw [hd] at KF
  clear R0 hkd hd
  go_enter Tryz.func151, Tryz.ntmps151
  go_wp2_with (first | (go_at_call 175; refine K2.out.mono ?_; rintro e w2 ⟨rfl, hx2⟩) | (go_at_call 177; refine (KN.out _).mono ?_; rintro e w3 ⟨rfl, hx3⟩) | (go_at_call 178; refine (KF.out _).mono ?_; rintro e w4 ⟨rfl, hx4⟩; have hb4 := Blk.ext (Blk.ext (Blk.ext hb hx2) hx3) hx4; have cs := PBlk.seen ho hb4; have fs := Blk.free hb4 23; have HB4 := Lib.hid hb4; clear hb4))
  go_ret
  refine ⟨by rw [R.out]; rfl, .of_ext hx0 ((hx2.trans hx3).trans hx4), fun g b' q => ?_⟩
  rw [R.out] at q
  injection q with q
  injection q with q1 q2
  subst q1 q2
  exact HB4.out
 rw [if_pos (of_decide_eq_true hd)] at R0
 rw [hd] at KF
 clear hkd hd
 cases b
 ·rw [if_neg (by simp)] at R0
  have hzt := trimB_size val
  have KT := Lib.hid (fun w => trim_ws_any val (by unfold maxLen; omega) w)
  generalize trimB val = tv8 at *
  have KA := Lib.hid (fun w he => auth_any tv8 w he (by omega))
  have R := Lib.hid R0
  have hza := authP_size tv8
  clear R0
  generalize (authP tv8).1 = us at *
  generalize (authP tv8).2.1 = ps at *
  generalize (authP tv8).2.2 = hs8 at *
  go_enter Tryz.func151, Tryz.ntmps151
  go_upto_region 9 with (first | (go_at_call 175; refine K2.out.mono ?_; rintro e w2 ⟨rfl, hx2⟩) | (go_at_call 177; refine (KN.out _).mono ?_; rintro e w3 ⟨rfl, hx3⟩) | (go_at_call 178; refine (KF.out _).mono ?_; rintro e w4 ⟨rfl, hx4⟩; have hb4 := Blk.ext (Blk.ext (Blk.ext hb hx2) hx3) hx4; have cs := PBlk.seen ho hb4; have fs := Blk.free hb4 23; have HB4 := Lib.hid hb4; clear hb4))
  have hb5 := PBlk.setSeen ho HB4.out true
  have hxx := (hx2.trans hx3).trans hx4
  have hk5 : Keep [c] w (w4.setCell ⟨c, 23, none⟩ (.bool true)) := Keep.setCell (hxx.keep [c]) (.inl (by simp)) _
  have hx5 : Ext w0 (w4.setCell ⟨c, 23, none⟩ (.bool true)) := Ext.setCell (hx0.trans hxx) hc _
  clear cs fs HB4 hxx hx2 hx3 hx4
  generalize w4.setCell ⟨c, 23, none⟩ (.bool true) = w5 at *
  go_upto_region 9 with fail
  go_wp2_with (first | (go_at_call 138; refine (KT.out _).mono ?_; rintro e w6 ⟨rfl, hx6⟩) | (go_at_call 179; refine (KA.out _ (henv.ext (hx5.trans hx6))).mono ?_; rintro e w7 ⟨rfl, hx7⟩; have hb7 := Blk.ext (Blk.ext hb5 hx6) hx7; have f20 := Blk.free hb7 20; have f21 := Blk.free hb7 21; have f22 := Blk.free hb7 22; have c20 := PBlk.has8 ho hb7; have c21 := PBlk.user8 ho hb7; have c22 := PBlk.pass8 ho hb7; have HB7 := Lib.hid hb7))
  go_ret
  refine ⟨by rw [R.out]; rfl, ⟨?_, ?_⟩, fun g b' q => ?_⟩
  ·exact Keep.setCell (Keep.setCell (Keep.setCell (hk5.trans ((hx6.trans hx7).keep _)) (.inl (by simp)) _) (.inl (by simp)) _) (.inl (by simp)) _
  ·exact Ext.setCell (Ext.setCell (Ext.setCell ((hx5.trans hx6).trans hx7) hc _) hc _) hc _
  ·rw [R.out] at q
   injection q with q
   injection q with q1 q2
   subst q1 q2
   have h1 := PBlk.setUser ho HB7.out us
   have o1 : okC (h.1, h.2.1, us, h.2.2.2) := ⟨ho.1, by show us.size <= _; unfold maxLen; omega, ho.2.2⟩
   have h2 := PBlk.setPass o1 h1 ps
   have o2 : okC (h.1, h.2.1, us, ps) := ⟨ho.1, by show us.size <= _; unfold maxLen; omega, by show ps.size <= _; unfold maxLen; omega⟩
   exact PBlk.setHas o2 h2 hs8
 ·have R : Hid (lineH s h true = none) := Lib.hid (by rw [R0, if_pos rfl])
  clear R0
  go_enter Tryz.func151, Tryz.ntmps151
  go_wp2_with (first | (go_at_call 175; refine K2.out.mono ?_; rintro e w2 ⟨rfl, hx2⟩) | (go_at_call 177; refine (KN.out _).mono ?_; rintro e w3 ⟨rfl, hx3⟩) | (go_at_call 178; refine (KF.out _).mono ?_; rintro e w4 ⟨rfl, hx4⟩; have hb4 := Blk.ext (Blk.ext (Blk.ext hb hx2) hx3) hx4; have cs := PBlk.seen ho hb4; have fs := Blk.free hb4 23; have HB4 := Lib.hid hb4; clear hb4))
  go_ret
  exact ⟨by rw [R.out]; rfl, .of_ext hx0 ((hx2.trans hx3).trans hx4), fun g b' q => by rw [R.out] at q; cases q⟩
theorem hpl_any (s : ByteArray) (hs : s.size <= 1000000) {w0 w : World} (henv : Env w0) (hx0 : Ext w0 w) {c : Nat} (hc : w0.heap.size <= c) {n : Nat} (hn : n <= 1000000) {h : Cr} {b : Bool} (ho : okC h) (hb : PBlk w c n h b) :
  Calls Tryz.prog 132 #[.pointer (some ⟨c, 0, none⟩), .string s] w fun e w' => e = .returned (.bool (lineP s n h b).isSome) /\ Left w0 w w' [c] /\ ∀ g b', lineP s n h b = some (g, b') -> PBlk w' c (n + 1 : Nat) g b' := by
 have c0 := PBlk.num hb
 have f0 := Blk.free hb 0
 have hcw : c < w.heap.size := Blk.lt hb
 have hb1 := PBlk.setN hb ((n : Int) + 1)
 have hk1 : Keep [c] w (w.setCell ⟨c, 0, none⟩ (.int .i64 ((n : Int) + 1))) := Keep.setCell (Keep.refl _ _) (.inl (by simp)) _
 have hx1 : Ext w0 (w.setCell ⟨c, 0, none⟩ (.int .i64 ((n : Int) + 1))) := Ext.setCell hx0 hc _
 have e1 : IntKind.i64.wrap ((n : Int) + 1) = (n : Int) + 1 := IntWalk.i64_in _ (by omega)
 go_enter Tryz.func132, Tryz.ntmps132
 go_upto_region 2 with fail
 generalize w.setCell ⟨c, 0, none⟩ (.int .i64 ((n : Int) + 1)) = w1 at *
 have c1 := PBlk.num hb1
 by_cases h0 : n = 0
 ·subst h0
  have R : Hid (lineP s 0 h b = (rqP s).map fun t => ((t, h.2), b)) := Lib.hid rfl
  have K := Lib.hid (hrq_any s hs henv hx1 hc ho hb1)
  go_wp2_with (first | (go_at_call 150; refine K.out.mono ?_; rintro e w2 ⟨rfl, hl, hp⟩))
  go_ret
  refine ⟨by rw [R.out, Option.isSome_map]; rfl, ⟨hk1.trans hl.1, hl.2⟩, fun g b' q => ?_⟩
  rw [R.out] at q
  cases hr : rqP s with
  | none => rw [hr] at q; cases q
  | some t =>
   rw [hr] at q
   injection q with q
   injection q with q1 q2
   subst q1 q2
   exact hp t hr
 ·have R : Hid (lineP s n h b = lineH s h b) := Lib.hid (by unfold lineP lineH; rw [if_neg h0]; cases hdP s <;> rfl)
  have h1 : ((n : Int) + 1 == 1) = false := by rw [beq_eq_false_iff_ne]; omega
  have K := Lib.hid (hhl_any s hs henv hx1 hc ho hb1)
  clear h0
  go_wp2_with (first | (go_at_call 151; refine K.out.mono ?_; rintro e w2 ⟨rfl, hl, hp⟩))
  go_ret
  exact ⟨by rw [R.out]; rfl, ⟨hk1.trans hl.1, hl.2⟩, fun g b' q => by rw [R.out] at q; exact hp g b' q⟩
open Go.RowKit Go.Joins
def scl (a : Int) (o : ByteArray) (m : Bool) : List Value := [.int .i64 a, .string o, .bool m]
abbrev sv (a : Int) (o : ByteArray) (m : Bool) : Value := .agg (scl a o m).toArray
abbrev SBlk (w : World) (b : Nat) (a : Int) (o : ByteArray) (m : Bool) : Prop := Blk w b (scl a o m) 101
theorem info_S : (Tryz.prog.info? 101).map (·.size) = some 3 := by kernel_rfl
theorem scl_one (a : Int) (o : ByteArray) (m : Bool) : (scl a o m).toArray.all (·.oneCell') = true := all_oneCell_toArray fun v hv => by
 unfold scl at hv
 simp only [List.mem_cons, List.not_mem_nil, or_false] at hv
 rcases hv with rfl | rfl | rfl <;> rfl
theorem wpList_store_S {ops : Array Oper} {rest : List Oper} {o : Oper} {f : Act} {w : World} {Q : Exit -> Act -> World -> Prop} (hgd : o.guard = none) (x y : Operand) (ho : o.op = .store 101 x y)
  {c : Nat} {a0 a : Int} {o0 o1 : ByteArray} {m0 m : Bool} (hb : SBlk w c a0 o0 m0) (hx : f.eval x = .pointer (some ⟨c, 0, none⟩)) (hy : f.eval y = sv a o1 m) (h : wpList Tryz.prog ops Q rest (f.put o.dst undef) (w.setRow c (scl a o1 m).toArray)) : wpList Tryz.prog ops Q (o :: rest) f w :=
 wpList_plain hgd fun _ hK => wp_store_row 101 x y ho c (scl a o1 m).toArray hx hy 101 (scl a0 o0 m0).toArray hb (by rw [info_S]; rfl) rfl (scl_one a o1 m) (hK _ _ h)
theorem loadV_S {w : World} {b : Nat} {a : Int} {o : ByteArray} {m : Bool} (hb : SBlk w b a o m) : (loadVar 101 ⟨b, 0, none⟩).run Tryz.prog w = .ok (sv a o m) w := by
 have := run_loadVar_mid (P := Tryz.prog) w b 0 101 (scl a o m) _ (Blk.mid (pre := []) (mid := scl a o m) (post := []) (by simpa using hb) rfl) Tryz.underlying101 rfl (by rw [info_S]; rfl)
 simpa using this
theorem res_S {fn : Func} {t : Tmp} (h : fn.results = #[.cell t 101]) {tmps : Array Value} {c : Nat} (hq : tmps.getD t undef = .pointer (some ⟨c, 0, none⟩)) {w : World} {a : Int} {o : ByteArray} {m : Bool} (hb : SBlk w c a o m) :
  (results fn tmps).run Tryz.prog w = .ok (sv a o m) w := by
 have := loadV_S hb
 have hq' : tmps[t]?.getD undef = .pointer (some ⟨c, 0, none⟩) := by simpa using hq
 simp [results, h, hq', this, Sem.run_bind, asAddr]
theorem scl_zero : (scl 0 ⟨#[]⟩ false).toArray = #[.int .i64 0, .string ⟨#[]⟩, .bool false] := rfl
theorem Keep.setRow {S : List Nat} {a w : World} (h : Keep S a w) {c : Nat} (hc : c ∈ S ∨ a.heap.size <= c) (ds : Array Value) : Keep S a (w.setRow c ds) :=
 ⟨h.os, h.tape, h.output, by simpa [World.setRow] using h.size, fun i hi hn => by
  have hne : i ≠ c := fun e => by rcases hc with q | q; exact hn (e ▸ q); omega
  rw [setRow_other w c i ds hne]; exact h.block i hi hn⟩
theorem HBlk.row_ne {ty : TypeId} {w : World} {b c : Nat} {reg : Value} {s : Hst} (h : HBlk ty w b reg s) (hne : b ≠ c) (ds : Array Value) : HBlk ty (w.setRow c ds) b reg s := Blk.row_ne h hne ds
theorem more_any (w : World) : Calls Tryz.prog 99 #[] w fun e w' => e = .returned (sv 0 ⟨#[]⟩ true) /\ Ext w w' := by
 go_enter Tryz.func99, Tryz.ntmps99
 go_upto_region 1 with fail
 rw [← scl_zero]
 have hx := (Ext.refl w).alloc (.cells (scl 0 ⟨#[]⟩ false).toArray 101)
 have hb := Blk.new w (scl 0 ⟨#[]⟩ false).toArray 101
 have hwb : (w).heap.size <= (w).heap.size := Nat.le_refl _
 generalize (w).alloc (.cells (scl 0 ⟨#[]⟩ false).toArray 101) = w1 at *
 generalize hbb : (w).heap.size = b at hb ⊢
 replace hwb := Nat.le_of_eq hbb
 clear hbb
 go_wp2_with (refine wpList_store_S (a := 0) (o1 := ⟨#[]⟩) (m := true) rfl _ _ rfl hb rfl rfl ?_)
 refine bodyPost_ret (res_S rfl rfl (Blk.row hb _)) rfl ⟨rfl, hx.setRow hwb _⟩
abbrev TH : TypeId := 84
theorem hfail_any (why used : Int) (out : ByteArray) {w0 w : World} (hx0 : Ext w0 w) {c : Nat} (hc : w0.heap.size <= c) {reg : Value} {s : Hst} (ho : okH s) (hb : HBlk TH w c reg s) :
  Calls Tryz.prog 100 #[.pointer (some ⟨c, 0, none⟩), .int .i64 why, .int .i64 used, .string out] w fun e w' => e = .returned (sv used out false) /\ Left w0 w w' [c] /\ HBlk TH w' c reg (hfail s why) := by
 have hcl := HBlk.lt hb
 go_enter Tryz.func100, Tryz.ntmps100
 go_upto_region 1 with fail
 rw [← scl_zero]
 have hx := (Ext.refl w).alloc (.cells (scl 0 ⟨#[]⟩ false).toArray 101)
 have hr := Blk.new w (scl 0 ⟨#[]⟩ false).toArray 101
 have hwb : (w).heap.size <= (w).heap.size := Nat.le_refl _
 generalize (w).alloc (.cells (scl 0 ⟨#[]⟩ false).toArray 101) = w1 at *
 generalize hbb : (w).heap.size = b at hr ⊢
 replace hwb := Nat.le_of_eq hbb
 clear hbb
 have hb1 := HBlk.ext hb hx
 have c1 := HBlk.stage hb1
 have c2 := HBlk.state hb1
 have c6 := HBlk.why ho hb1
 have f1 := HBlk.free hb1 1
 have f2 := HBlk.free hb1 2
 have f6 := HBlk.free hb1 24
 have hcb : c ≠ b := by omega
 have k1 := HBlk.setWhy (s := (5, 2, s.2.2)) ho (HBlk.setState (HBlk.setStage hb1 5) 2) why
 have kr := Blk.set_ne (Blk.set_ne (Blk.set_ne hr ⟨c, 1, none⟩ hcb (.int .i64 5)) ⟨c, 2, none⟩ hcb (.int .i64 2)) ⟨c, 24, none⟩ hcb (.int .i64 why)
 have kk : Keep [c] w (((w1.setCell ⟨c, 1, none⟩ (.int .i64 5)).setCell ⟨c, 2, none⟩ (.int .i64 2)).setCell ⟨c, 24, none⟩ (.int .i64 why)) :=
  Keep.setCell (Keep.setCell (Keep.setCell (hx.keep [c]) (.inl (by simp)) _) (.inl (by simp)) _) (.inl (by simp)) _
 have kx : Ext w0 (((w1.setCell ⟨c, 1, none⟩ (.int .i64 5)).setCell ⟨c, 2, none⟩ (.int .i64 2)).setCell ⟨c, 24, none⟩ (.int .i64 why)) :=
  Ext.setCell (Ext.setCell (Ext.setCell (hx0.trans hx) hc _) hc _) hc _
 have K1 := Lib.hid k1
 have KK := Lib.hid kk
 have KX := Lib.hid kx
 clear k1 kk kx hr hx
 go_upto_region 2 with fail
 generalize ((w1.setCell ⟨c, 1, none⟩ (.int .i64 5)).setCell ⟨c, 2, none⟩ (.int .i64 2)).setCell ⟨c, 24, none⟩ (.int .i64 why) = w2 at *
 go_wp2_with (refine wpList_store_S (a := used) (o1 := out) (m := false) rfl _ _ rfl kr rfl rfl ?_)
 have hbw : w0.heap.size <= b := Nat.le_trans hx0.size hwb
 refine bodyPost_ret (res_S rfl rfl (Blk.row kr _)) rfl ⟨rfl, ⟨?_, Ext.setRow KX.out hbw _⟩, ?_⟩
 ·exact Keep.setRow KK.out (.inr hwb) _
 ·exact HBlk.row_ne K1.out hcb _
def StepP (w0 w : World) (c : Nat) (reg : Value) (s : Hst) (r : Option (Int × ByteArray × Hst)) (e : Ending) (w' : World) : Prop := Left w0 w w' [c] /\
 match r with
 | none => e = .returned (sv 0 ⟨#[]⟩ true) /\ HBlk TH w' c reg s
 | some o => e = .returned (sv o.1 o.2.1 false) /\ HBlk TH w' c reg o.2.2
theorem Left.trans_ext {w0 w w1 w' : World} {S : List Nat} (h : Ext w w1) (k : Left w0 w1 w' S) : Left w0 w w' S := ⟨(h.keep S).trans k.1, k.2⟩
theorem Left.row {w0 w w' : World} {S : List Nat} (h : Left w0 w w' S) {b : Nat} (hb : w.heap.size <= b) (h0 : w0.heap.size <= b) (ds : Array Value) : Left w0 w (w'.setRow b ds) S := ⟨Keep.setRow h.1 (.inr hb) _, Ext.setRow h.2 h0 _⟩
theorem hdet_any (z : ByteArray) (tn : Tns) {w0 w : World} (htabs : Tabs w0) (hx0 : Ext w0 w) {c : Nat} (hc : w0.heap.size <= c) {reg : Value} {s : Hst} (ho : okH s) (h0 : s.1 = 0) (hb : HBlk TH w c reg s) :
  Calls Tryz.prog 75 #[.pointer (some ⟨c, 0, none⟩), .string z] w fun e w' => StepP w0 w c reg s (hstep txt3 tn s z) e w' := by
 have hcl := HBlk.lt hb
 have HS : Hid (hstep txt3 tn s z = if z.size = 0 then none else if B z 0 = 5 then some (0, ⟨#[]⟩, (1, s.2.1, 1, s.2.2.2)) else if B z 0 = 67 then some (0, ⟨#[]⟩, (4, s.2.1, 2, s.2.2.2)) else some (0, st400, hfail s 10)) := Lib.hid (by unfold hstep; rw [if_pos h0]; rfl)
 clear h0
 go_enter Tryz.func75, Tryz.ntmps75
 go_upto_block 0 with fail
 rw [← scl_zero]
 have hx := (Ext.refl w).alloc (.cells (scl 0 ⟨#[]⟩ false).toArray 101)
 have hr := Blk.new w (scl 0 ⟨#[]⟩ false).toArray 101
 have hwb : (w).heap.size <= (w).heap.size := Nat.le_refl _
 generalize (w).alloc (.cells (scl 0 ⟨#[]⟩ false).toArray 101) = w1 at *
 generalize hbb : (w).heap.size = b at hr ⊢
 replace hwb := Nat.le_of_eq hbb
 clear hbb
 have hb1 := HBlk.ext hb hx
 have hcb : c ≠ b := by omega
 have hbw : w0.heap.size <= b := Nat.le_trans hx0.size hwb
 by_cases hz : (z.size : Int) < 1
 ·have R : Hid (hstep txt3 tn s z = none) := Lib.hid (by rw [HS.out, if_pos (by omega)])
  have hq : (z.toList == []) = true := by rw [B_empty z hz, ByteArray.toList_eq]; rfl
  have KM := Lib.hid more_any
  clear hz
  go_wp2_with (first | (go_at_call 99; refine (KM.out _).mono ?_; rintro e w2 ⟨rfl, hx2⟩; have hr2 := Blk.ext hr hx2) | refine wpList_store_S (a := 0) (o1 := ⟨#[]⟩) (m := true) rfl _ _ rfl hr2 rfl rfl ?_)
  refine bodyPost_ret (res_S rfl rfl (Blk.row hr2 _)) rfl ?_
  unfold StepP
  rw [R.out]
  exact ⟨Left.row (Left.of_ext hx0 (hx.trans hx2)) hwb hbw _, rfl, HBlk.row_ne (HBlk.ext hb1 hx2) hcb _⟩
 ·have hq : (z.toList == []) = false := by
   rw [beq_eq_false_iff_ne, ByteArray.toList_eq]
   intro e
   have := size_list z
   rw [e] at this
   change z.size = 0 at this
   omega
  have hz1 : (0 : Int) < z.size := by omega
  have HS2 : Hid (hstep txt3 tn s z = if B z 0 = 5 then some (0, ⟨#[]⟩, (1, s.2.1, 1, s.2.2.2)) else if B z 0 = 67 then some (0, ⟨#[]⟩, (4, s.2.1, 2, s.2.2.2)) else some (0, st400, hfail s 10)) := Lib.hid (by rw [HS.out, if_neg (by omega)])
  have c1 := HBlk.stage hb1
  have c3 := HBlk.proto hb1
  have f1 := HBlk.free hb1 1
  have f3 := HBlk.free hb1 3
  clear HS hz
  by_cases h5 : B z 0 = 5
  ·have R : Hid (hstep txt3 tn s z = some (0, ⟨#[]⟩, (1, s.2.1, 1, s.2.2.2))) := Lib.hid (by rw [HS2.out, if_pos h5])
   have h5b : (B z 0 == 5) = true := by rw [beq_iff_eq]; exact h5
   have K1 := Lib.hid (HBlk.setProto (HBlk.setStage hb1 1) 1)
   have KR := Lib.hid (Blk.set_ne (Blk.set_ne hr ⟨c, 1, none⟩ hcb (.int .i64 1)) ⟨c, 3, none⟩ hcb (.int .i64 1))
   have KL : Hid (Left w0 w ((w1.setCell ⟨c, 1, none⟩ (.int .i64 1)).setCell ⟨c, 3, none⟩ (.int .i64 1)) [c]) := Lib.hid ⟨Keep.setCell (Keep.setCell (hx.keep [c]) (.inl (by simp)) _) (.inl (by simp)) _, Ext.setCell (Ext.setCell (hx0.trans hx) hc _) hc _⟩
   clear h5 HS2 hr
   go_upto_region 8 with fail
   generalize (w1.setCell ⟨c, 1, none⟩ (.int .i64 1)).setCell ⟨c, 3, none⟩ (.int .i64 1) = w2 at *
   have hr2 := KR.out
   go_wp2_with (refine wpList_store_S (a := 0) (o1 := ⟨#[]⟩) (m := false) rfl _ _ rfl hr2 rfl rfl ?_)
   refine bodyPost_ret (res_S rfl rfl (Blk.row hr2 _)) rfl ?_
   unfold StepP
   rw [R.out]
   exact ⟨Left.row KL.out hwb hbw _, rfl, HBlk.row_ne K1.out hcb _⟩
  ·have h5b : (B z 0 == 5) = false := by rw [beq_eq_false_iff_ne]; exact h5
   by_cases h6 : B z 0 = 67
   ·have R : Hid (hstep txt3 tn s z = some (0, ⟨#[]⟩, (4, s.2.1, 2, s.2.2.2))) := Lib.hid (by rw [HS2.out, if_neg h5, if_pos h6])
    have h6b : (B z 0 == 67) = true := by rw [beq_iff_eq]; exact h6
    have K1 := Lib.hid (HBlk.setProto (HBlk.setStage hb1 4) 2)
    have KR := Lib.hid (Blk.set_ne (Blk.set_ne hr ⟨c, 1, none⟩ hcb (.int .i64 4)) ⟨c, 3, none⟩ hcb (.int .i64 2))
    have KL : Hid (Left w0 w ((w1.setCell ⟨c, 1, none⟩ (.int .i64 4)).setCell ⟨c, 3, none⟩ (.int .i64 2)) [c]) := Lib.hid ⟨Keep.setCell (Keep.setCell (hx.keep [c]) (.inl (by simp)) _) (.inl (by simp)) _, Ext.setCell (Ext.setCell (hx0.trans hx) hc _) hc _⟩
    clear h5 h6 HS2 hr
    go_upto_region 8 with fail
    generalize (w1.setCell ⟨c, 1, none⟩ (.int .i64 4)).setCell ⟨c, 3, none⟩ (.int .i64 2) = w2 at *
    have hr2 := KR.out
    go_wp2_with (refine wpList_store_S (a := 0) (o1 := ⟨#[]⟩) (m := false) rfl _ _ rfl hr2 rfl rfl ?_)
    refine bodyPost_ret (res_S rfl rfl (Blk.row hr2 _)) rfl ?_
    unfold StepP
    rw [R.out]
    exact ⟨Left.row KL.out hwb hbw _, rfl, HBlk.row_ne K1.out hcb _⟩
   ·have R : Hid (hstep txt3 tn s z = some (0, st400, hfail s 10)) := Lib.hid (by rw [HS2.out, if_neg h5, if_neg h6])
    have h6b : (B z 0 == 67) = false := by rw [beq_eq_false_iff_ne]; exact h6
    have K4 := Lib.hid (hst400 w1 (htabs.ext (hx0.trans hx)))
    clear h5 h6 HS2 c1 c3 f1 f3
    generalize st400 = s4 at *
    go_wp2_with (first | (go_at_call 44; refine K4.out.mono ?_; rintro e w2 ⟨rfl, hx2⟩; have hb2 := HBlk.ext hb1 hx2; have hxx2 := hx0.trans (hx.trans hx2); have KF := Lib.hid (hfail_any 10 0 s4 hxx2 hc ho hb2)) | (go_at_call 100; refine KF.out.mono ?_; rintro e w3 ⟨rfl, hl3, hb3⟩; have hr3 := Blk.keep (Blk.ext hr hx2) hl3.1 (by simp; exact fun q => hcb q.symm)) | refine wpList_store_S (a := 0) (o1 := s4) (m := false) rfl _ _ rfl hr3 rfl rfl ?_)
    refine bodyPost_ret (res_S rfl rfl (Blk.row hr3 _)) rfl ?_
    unfold StepP
    rw [R.out]
    exact ⟨Left.row (Left.trans_ext (hx.trans hx2) hl3) hwb hbw _, rfl, HBlk.row_ne hb3 hcb _⟩
end Go.Proofs.YtnohnnjeabehjaaGreatDoor
