/-
  Several texts joined: HcE.
-/
import Derived.Test.YtpdoddelnahlnaaGreatDoorK35
import Derived.Test.YtpdoddelnahlnaaGreatDoorK34
/-
  Contracts of the parser's requestLine, headerLine, parseLine.
-/
set_option linter.unusedSimpArgs false
set_option linter.unusedVariables false
namespace Go.Proofs.YtpdoddelnahlnaaGreatDoor
open Go.RowKit Go.Joins
theorem trimPrefix_len (l p : List UInt8) : (Lib.trimPrefix l p).length ≤ l.length := by
  unfold Lib.trimPrefix
  split
  · rw [List.length_drop]; omega
  · exact Nat.le_refl _
theorem toList_is {v : ByteArray} {l : List UInt8} (c : ByteArray) (hc : c.data.toList = l) : (v.toList == l) = decide (v = c) := by
  rw [← hc, ← ByteArray.toList_eq, toList_beq]
theorem toList_ne {v : ByteArray} {l : List UInt8} (c : ByteArray) (hc : c.data.toList = l) : (v.toList != l) = !decide (v = c) := by
  rw [bne, toList_is c hc]
/-- what a method on a parser or a request leaves -/
def Left (w0 w w' : World) (S : List Nat) : Prop := Keep S w w' ∧ Ext w0 w'
theorem Left.of_ext {w0 w w' : World} {S : List Nat} (h0 : Ext w0 w) (h : Ext w w') : Left w0 w w' S := ⟨h.keep S, h0.trans h⟩
set_option maxRecDepth 8000 in
set_option maxHeartbeats 2000000 in
theorem hrq_any (s : ByteArray) (hs : s.size ≤ 1000000) {w0 w : World} (henv : Env w0) (hx0 : Ext w0 w) {c : Nat} (hc : w0.heap.size ≤ c) {n : Int} {h : Cr} {b : Bool} (ho : okC h) (hb : PBlk w c n h b) :
    Calls Tryz.prog 84 #[.pointer (some ⟨c, 0, none⟩), .string s] w fun e w' => e = .returned (.bool (rqP s).isSome) ∧ Left w0 w w' [c] ∧ ∀ t, rqP s = some t → PBlk w' c n (t, h.2) b := by
  obtain ⟨r0, hr0⟩ : ∃ r0 : ByteArray, r0 = ⟨(Lib.trimPrefix s.data.toList connS.data.toList).toArray⟩ := ⟨_, rfl⟩
  obtain ⟨ok, hok⟩ : ∃ ok, ok = Lib.hasPrefix s.data.toList connS.data.toList := ⟨_, rfl⟩
  have KC : Hid (Calls Tryz.prog 112 #[.string s, .string ⟨#[67, 79, 78, 78, 69, 67, 84, 32]⟩] w fun e w' => e = .returned (.tuple #[.string r0, .bool ok]) ∧ w' = w) :=
    Lib.hid (by rw [hr0, hok]; exact Tryz.strings_CutPrefix s ⟨#[67, 79, 78, 78, 69, 67, 84, 32]⟩ w)
  have hrz : r0.size ≤ s.size := by
    rw [hr0, size_list, size_list]; exact trimPrefix_len _ _
  have henv1 := henv.ext hx0
  have K2 := Lib.hid (cutc_any r0 32 w henv1 (by omega))
  have hz2 := cutB_size r0 32
  have R0 : rqP s = if okRq s = true then some (tgtP (cutB (tl32 s) 32).1).1 else none := rfl
  have R1 : okRq s = (ok && (cutB (tl32 s) 32).2.2 && (decide ((cutB (tl32 s) 32).2.1 = v11) || decide ((cutB (tl32 s) 32).2.1 = v10)) && (tgtP (cutB (tl32 s) 32).1).2) := by
    rw [hok, pre_cut]; rfl
  cases ok
  · have R : Hid (rqP s = none) := Lib.hid (by rw [R0, R1]; rfl)
    clear R0 R1 hok hr0 hz2
    generalize (cutB r0 32).1 = tg at *
    generalize (cutB r0 32).2.1 = ve at *
    generalize (cutB r0 32).2.2 = is at *
    go_enter Tryz.func84, Tryz.ntmps84
    go_wp2_with (first | (go_at_call 112; refine KC.out.mono ?_; rintro e w1 ⟨rfl, rfl⟩) | (go_at_call 79; refine K2.out.mono ?_; rintro e w2 ⟨rfl, hx2⟩))
    go_ret
    exact ⟨by rw [R.out]; rfl, .of_ext hx0 hx2, fun t q => by rw [R.out] at q; cases q⟩
  · have e0 : tl32 s = r0 := by rw [hr0]; exact (pre_tl hok.symm).symm
    rw [e0] at R0 R1
    clear hok hr0 e0
    generalize (cutB r0 32).1 = tg at *
    generalize (cutB r0 32).2.1 = ve at *
    generalize (cutB r0 32).2.2 = is at *
    cases is
    · have R : Hid (rqP s = none) := Lib.hid (by rw [R0, R1]; rfl)
      clear R0 R1 hz2
      go_enter Tryz.func84, Tryz.ntmps84
      go_wp2_with (first | (go_at_call 112; refine KC.out.mono ?_; rintro e w1 ⟨rfl, rfl⟩) | (go_at_call 79; refine K2.out.mono ?_; rintro e w2 ⟨rfl, hx2⟩))
      go_ret
      exact ⟨by rw [R.out]; rfl, .of_ext hx0 hx2, fun t q => by rw [R.out] at q; cases q⟩
    · have b1 : (ve.toList == [72, 84, 84, 80, 47, 49, 46, 49]) = decide (ve = v11) := toList_is v11 rfl
      have b0 : (ve.toList == [72, 84, 84, 80, 47, 49, 46, 48]) = decide (ve = v10) := toList_is v10 rfl
      by_cases hv : ve = v11 ∨ ve = v10
      · have R1' : okRq s = (tgtP tg).2 := by
          rw [R1]
          have : (decide (ve = v11) || decide (ve = v10)) = true := by rw [Bool.or_eq_true, decide_eq_true_eq, decide_eq_true_eq]; exact hv
          rw [this]; rfl
        rw [R1'] at R0
        have RR := Lib.hid R0
        clear R0 R1 R1'
        have hT : okT (tgtP tg).1 := okT_tgtP tg (by unfold maxLen; omega)
        have KP := Lib.hid (fun w1 he => ptarget_any tg w1 he (by omega))
        generalize (tgtP tg).1 = t at *
        generalize (tgtP tg).2 = tok at *
        go_enter Tryz.func84, Tryz.ntmps84
        rcases hv with hv | hv
        · have c1 : decide (ve = v11) = true := decide_eq_true hv
          rw [c1] at b1
          clear hv c1 b0
          go_wp2_with (first | (go_at_call 112; refine KC.out.mono ?_; rintro e w1 ⟨rfl, rfl⟩) | (go_at_call 79; refine K2.out.mono ?_; rintro e w2 ⟨rfl, hx2⟩; have KPw := Lib.hid (KP.out w2 (henv1.ext hx2))) | (go_at_call 20; refine KPw.out.mono ?_; rintro e w3 ⟨rfl, hx3⟩; have hb3 := (hb.ext hx2).ext hx3; have HB3 := Lib.hid hb3; have hth := PBlk.thereT ho hb3) | refine wpList_store_Tm rfl _ _ rfl hT hth rfl rfl ?_)
          go_ret
          refine ⟨?_, ⟨Keep.setCells (.inl (by simp)) _ _ _ ((hx2.trans hx3).keep _), Ext.setCells hc _ _ _ ((hx0.trans hx2).trans hx3)⟩, fun t' q => ?_⟩
          · rw [RR.out]; cases tok <;> rfl
          · rw [RR.out] at q
            split at q
            · injection q with q
              subst q
              exact PBlk.setTgt ho HB3.out hT
            · cases q
        · have c1 : decide (ve = v11) = false := by rw [hv]; decide +kernel
          have c0 : decide (ve = v10) = true := decide_eq_true hv
          rw [c1] at b1
          rw [c0] at b0
          clear hv c1 c0
          go_wp2_with (first | (go_at_call 112; refine KC.out.mono ?_; rintro e w1 ⟨rfl, rfl⟩) | (go_at_call 79; refine K2.out.mono ?_; rintro e w2 ⟨rfl, hx2⟩; have KPw := Lib.hid (KP.out w2 (henv1.ext hx2))) | (go_at_call 20; refine KPw.out.mono ?_; rintro e w3 ⟨rfl, hx3⟩; have hb3 := (hb.ext hx2).ext hx3; have HB3 := Lib.hid hb3; have hth := PBlk.thereT ho hb3) | refine wpList_store_Tm rfl _ _ rfl hT hth rfl rfl ?_)
          go_ret
          refine ⟨?_, ⟨Keep.setCells (.inl (by simp)) _ _ _ ((hx2.trans hx3).keep _), Ext.setCells hc _ _ _ ((hx0.trans hx2).trans hx3)⟩, fun t' q => ?_⟩
          · rw [RR.out]; cases tok <;> rfl
          · rw [RR.out] at q
            split at q
            · injection q with q
              subst q
              exact PBlk.setTgt ho HB3.out hT
            · cases q
      · have c1 : decide (ve = v11) = false := decide_eq_false (fun q => hv (.inl q))
        have c0 : decide (ve = v10) = false := decide_eq_false (fun q => hv (.inr q))
        have R : Hid (rqP s = none) := Lib.hid (by rw [R0, R1, c1, c0]; rfl)
        rw [c1] at b1
        rw [c0] at b0
        clear hv R0 R1 hz2 c1 c0
        go_enter Tryz.func84, Tryz.ntmps84
        go_wp2_with (first | (go_at_call 112; refine KC.out.mono ?_; rintro e w1 ⟨rfl, rfl⟩) | (go_at_call 79; refine K2.out.mono ?_; rintro e w2 ⟨rfl, hx2⟩))
        go_ret
        exact ⟨by rw [R.out]; rfl, .of_ext hx0 hx2, fun t q => by rw [R.out] at q; cases q⟩
def lineH (s : ByteArray) (h : Cr) (seen : Bool) : Option (Cr × Bool) :=
  match hdP s with
  | none => none
  | some (k, v) => if lowB k = authS then (if seen = true then none else some ((h.1, (authP v).2.2, (authP v).1, (authP v).2.1), true)) else some (h, seen)
theorem lineH_cut (s : ByteArray) (h : Cr) (seen : Bool) : lineH s h seen = if (cutB s 58).2.2 = true ∧ vname8 (cutB s 58).1 = true then
    (if lowB (cutB s 58).1 = authS then (if seen = true then none else some ((h.1, (authP (trimB (cutB s 58).2.1)).2.2, (authP (trimB (cutB s 58).2.1)).1, (authP (trimB (cutB s 58).2.1)).2.1), true)) else some (h, seen)) else none := by
  unfold lineH
  rw [hdP_cut]
  by_cases hh : (cutB s 58).2.2 = true ∧ vname8 (cutB s 58).1 = true
  · rw [if_pos hh, if_pos hh]
  · rw [if_neg hh, if_neg hh]
set_option maxRecDepth 8000 in
set_option maxHeartbeats 2000000 in
theorem hhl_any (s : ByteArray) (hs : s.size ≤ 1000000) {w0 w : World} (henv : Env w0) (hx0 : Ext w0 w) {c : Nat} (hc : w0.heap.size ≤ c) {n : Int} {h : Cr} {b : Bool} (ho : okC h) (hb : PBlk w c n h b) :
    Calls Tryz.prog 85 #[.pointer (some ⟨c, 0, none⟩), .string s] w fun e w' => e = .returned (.bool (lineH s h b).isSome) ∧ Left w0 w w' [c] ∧ ∀ g b', lineH s h b = some (g, b') → PBlk w' c n g b' := by
  have henv1 := henv.ext hx0
  have K2 := Lib.hid (cutc_any s 58 w henv1 (by omega))
  have hz2 := cutB_size s 58
  have R0 := lineH_cut s h b
  generalize (cutB s 58).1 = key at *
  generalize (cutB s 58).2.1 = val at *
  generalize (cutB s 58).2.2 = ok at *
  have KN := Lib.hid (fun w => hname_any key (by unfold maxLen; omega) w)
  have KF : Hid (∀ w, Calls Tryz.prog 114 #[.string key, .string ⟨#[80, 114, 111, 120, 121, 45, 65, 117, 116, 104, 111, 114, 105, 122, 97, 116, 105, 111, 110]⟩] w fun e w' => e = .returned (.bool (decide (lowB key = authS))) ∧ Ext w w') :=
    Lib.hid (fun w => by rw [← low_authN]; exact hfold_any key authN (by unfold maxLen; omega) w)
  have hcc : w.heap.size ≤ w.heap.size := Nat.le_refl _
  have hcw : c < w.heap.size := Blk.lt hb
  generalize vname8 key = nm at *
  cases ok
  · have R : Hid (lineH s h b = none) := Lib.hid (by rw [R0, if_neg (by simp)])
    clear R0
    go_enter Tryz.func85, Tryz.ntmps85
    go_wp2_with (first | (go_at_call 79; refine K2.out.mono ?_; rintro e w2 ⟨rfl, hx2⟩))
    go_ret
    exact ⟨by rw [R.out]; rfl, .of_ext hx0 hx2, fun g b' q => by rw [R.out] at q; cases q⟩
  cases nm
  · have R : Hid (lineH s h b = none) := Lib.hid (by rw [R0, if_neg (by simp)])
    clear R0
    go_enter Tryz.func85, Tryz.ntmps85
    go_wp2_with (first | (go_at_call 79; refine K2.out.mono ?_; rintro e w2 ⟨rfl, hx2⟩) | (go_at_call 113; refine (KN.out _).mono ?_; rintro e w3 ⟨rfl, hx3⟩))
    go_ret
    exact ⟨by rw [R.out]; rfl, .of_ext hx0 (hx2.trans hx3), fun g b' q => by rw [R.out] at q; cases q⟩
  rw [if_pos ⟨rfl, rfl⟩] at R0
  have hkd : (lowB key = authS) ↔ decide (lowB key = authS) = true := decide_eq_true_iff.symm
  cases hd : decide (lowB key = authS)
  · have R : Hid (lineH s h b = some (h, b)) := Lib.hid (by rw [R0, if_neg (of_decide_eq_false hd)])
    rw [hd] at KF
    clear R0 hkd hd
    go_enter Tryz.func85, Tryz.ntmps85
    go_wp2_with (first | (go_at_call 79; refine K2.out.mono ?_; rintro e w2 ⟨rfl, hx2⟩) | (go_at_call 113; refine (KN.out _).mono ?_; rintro e w3 ⟨rfl, hx3⟩) | (go_at_call 114; refine (KF.out _).mono ?_; rintro e w4 ⟨rfl, hx4⟩; have hb4 := Blk.ext (Blk.ext (Blk.ext hb hx2) hx3) hx4; have cs := PBlk.seen ho hb4; have fs := Blk.free hb4 23; have HB4 := Lib.hid hb4; clear hb4))
    go_ret
    refine ⟨by rw [R.out]; rfl, .of_ext hx0 ((hx2.trans hx3).trans hx4), fun g b' q => ?_⟩
    rw [R.out] at q
    injection q with q
    injection q with q1 q2
    subst q1 q2
    exact HB4.out
  rw [if_pos (of_decide_eq_true hd)] at R0
  rw [hd] at KF
  clear hkd hd
  cases b
  · rw [if_neg (by simp)] at R0
    have hzt := trimB_size val
    have KT := Lib.hid (fun w => trim_ws_any val (by unfold maxLen; omega) w)
    generalize trimB val = tv8 at *
    have KA := Lib.hid (fun w he => auth_any tv8 w he (by omega))
    have R := Lib.hid R0
    have hza := authP_size tv8
    clear R0
    generalize (authP tv8).1 = us at *
    generalize (authP tv8).2.1 = ps at *
    generalize (authP tv8).2.2 = hs8 at *
    go_enter Tryz.func85, Tryz.ntmps85
    go_upto_region 9 with (first | (go_at_call 79; refine K2.out.mono ?_; rintro e w2 ⟨rfl, hx2⟩) | (go_at_call 113; refine (KN.out _).mono ?_; rintro e w3 ⟨rfl, hx3⟩) | (go_at_call 114; refine (KF.out _).mono ?_; rintro e w4 ⟨rfl, hx4⟩; have hb4 := Blk.ext (Blk.ext (Blk.ext hb hx2) hx3) hx4; have cs := PBlk.seen ho hb4; have fs := Blk.free hb4 23; have HB4 := Lib.hid hb4; clear hb4))
    have hb5 := PBlk.setSeen ho HB4.out true
    have hxx := (hx2.trans hx3).trans hx4
    have hk5 : Keep [c] w (w4.setCell ⟨c, 23, none⟩ (.bool true)) := Keep.setCell (hxx.keep [c]) (.inl (by simp)) _
    have hx5 : Ext w0 (w4.setCell ⟨c, 23, none⟩ (.bool true)) := Ext.setCell (hx0.trans hxx) hc _
    clear cs fs HB4 hxx hx2 hx3 hx4
    generalize w4.setCell ⟨c, 23, none⟩ (.bool true) = w5 at *
    go_upto_region 9 with fail
    go_wp2_with (first | (go_at_call 65; refine (KT.out _).mono ?_; rintro e w6 ⟨rfl, hx6⟩) | (go_at_call 115; refine (KA.out _ (henv.ext (hx5.trans hx6))).mono ?_; rintro e w7 ⟨rfl, hx7⟩; have hb7 := Blk.ext (Blk.ext hb5 hx6) hx7; have f20 := Blk.free hb7 20; have f21 := Blk.free hb7 21; have f22 := Blk.free hb7 22; have c20 := PBlk.has8 ho hb7; have c21 := PBlk.user8 ho hb7; have c22 := PBlk.pass8 ho hb7; have HB7 := Lib.hid hb7))
    go_ret
    refine ⟨by rw [R.out]; rfl, ⟨?_, ?_⟩, fun g b' q => ?_⟩
    · exact Keep.setCell (Keep.setCell (Keep.setCell (hk5.trans ((hx6.trans hx7).keep _)) (.inl (by simp)) _) (.inl (by simp)) _) (.inl (by simp)) _
    · exact Ext.setCell (Ext.setCell (Ext.setCell ((hx5.trans hx6).trans hx7) hc _) hc _) hc _
    · rw [R.out] at q
      injection q with q
      injection q with q1 q2
      subst q1 q2
      have h1 := PBlk.setUser ho HB7.out us
      have o1 : okC (h.1, h.2.1, us, h.2.2.2) := ⟨ho.1, by show us.size ≤ _; unfold maxLen; omega, ho.2.2⟩
      have h2 := PBlk.setPass o1 h1 ps
      have o2 : okC (h.1, h.2.1, us, ps) := ⟨ho.1, by show us.size ≤ _; unfold maxLen; omega, by show ps.size ≤ _; unfold maxLen; omega⟩
      exact PBlk.setHas o2 h2 hs8
  · have R : Hid (lineH s h true = none) := Lib.hid (by rw [R0, if_pos rfl])
    clear R0
    go_enter Tryz.func85, Tryz.ntmps85
    go_wp2_with (first | (go_at_call 79; refine K2.out.mono ?_; rintro e w2 ⟨rfl, hx2⟩) | (go_at_call 113; refine (KN.out _).mono ?_; rintro e w3 ⟨rfl, hx3⟩) | (go_at_call 114; refine (KF.out _).mono ?_; rintro e w4 ⟨rfl, hx4⟩; have hb4 := Blk.ext (Blk.ext (Blk.ext hb hx2) hx3) hx4; have cs := PBlk.seen ho hb4; have fs := Blk.free hb4 23; have HB4 := Lib.hid hb4; clear hb4))
    go_ret
    exact ⟨by rw [R.out]; rfl, .of_ext hx0 ((hx2.trans hx3).trans hx4), fun g b' q => by rw [R.out] at q; cases q⟩
set_option maxRecDepth 8000 in
set_option maxHeartbeats 2000000 in
theorem hpl_any (s : ByteArray) (hs : s.size ≤ 1000000) {w0 w : World} (henv : Env w0) (hx0 : Ext w0 w) {c : Nat} (hc : w0.heap.size ≤ c) {n : Nat} (hn : n ≤ 1000000) {h : Cr} {b : Bool} (ho : okC h) (hb : PBlk w c n h b) :
    Calls Tryz.prog 52 #[.pointer (some ⟨c, 0, none⟩), .string s] w fun e w' => e = .returned (.bool (lineP s n h b).isSome) ∧ Left w0 w w' [c] ∧ ∀ g b', lineP s n h b = some (g, b') → PBlk w' c (n + 1 : Nat) g b' := by
  have c0 := PBlk.num hb
  have f0 := Blk.free hb 0
  have hcw : c < w.heap.size := Blk.lt hb
  have hb1 := PBlk.setN hb ((n : Int) + 1)
  have hk1 : Keep [c] w (w.setCell ⟨c, 0, none⟩ (.int .i64 ((n : Int) + 1))) := Keep.setCell (Keep.refl _ _) (.inl (by simp)) _
  have hx1 : Ext w0 (w.setCell ⟨c, 0, none⟩ (.int .i64 ((n : Int) + 1))) := Ext.setCell hx0 hc _
  have e1 : IntKind.i64.wrap ((n : Int) + 1) = (n : Int) + 1 := IntWalk.i64_in _ (by omega)
  go_enter Tryz.func52, Tryz.ntmps52
  go_upto_region 2 with fail
  generalize w.setCell ⟨c, 0, none⟩ (.int .i64 ((n : Int) + 1)) = w1 at *
  have c1 := PBlk.num hb1
  by_cases h0 : n = 0
  · subst h0
    have R : Hid (lineP s 0 h b = (rqP s).map fun t => ((t, h.2), b)) := Lib.hid rfl
    have K := Lib.hid (hrq_any s hs henv hx1 hc ho hb1)
    go_wp2_with (first | (go_at_call 84; refine K.out.mono ?_; rintro e w2 ⟨rfl, hl, hp⟩))
    go_ret
    refine ⟨by rw [R.out, Option.isSome_map]; rfl, ⟨hk1.trans hl.1, hl.2⟩, fun g b' q => ?_⟩
    rw [R.out] at q
    cases hr : rqP s with
    | none => rw [hr] at q; cases q
    | some t =>
      rw [hr] at q
      injection q with q
      injection q with q1 q2
      subst q1 q2
      exact hp t hr
  · have R : Hid (lineP s n h b = lineH s h b) := Lib.hid (by unfold lineP lineH; rw [if_neg h0]; cases hdP s <;> rfl)
    have h1 : ((n : Int) + 1 == 1) = false := by rw [beq_eq_false_iff_ne]; omega
    have K := Lib.hid (hhl_any s hs henv hx1 hc ho hb1)
    clear h0
    go_wp2_with (first | (go_at_call 85; refine K.out.mono ?_; rintro e w2 ⟨rfl, hl, hp⟩))
    go_ret
    exact ⟨by rw [R.out]; rfl, ⟨hk1.trans hl.1, hl.2⟩, fun g b' q => by rw [R.out] at q; exact hp g b' q⟩
end Go.Proofs.YtpdoddelnahlnaaGreatDoor
