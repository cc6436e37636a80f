/-
  Several texts joined: HcK, HcF.
-/
import Derived.Test.YtpdoddelnahlnaaGreatDoorK37
import Derived.WalkMore
import Derived.Test.YtpdoddelnahlnaaGreatDoorK36
/-
  Contract of the reference's acceptLine.
-/
set_option linter.unusedSimpArgs false
set_option linter.unusedVariables false
namespace Go.Proofs.YtpdoddelnahlnaaGreatDoor
open Go.RowKit Go.Joins
theorem lineP_n {s : ByteArray} {n : Nat} {h : Cr} {b : Bool} (h0 : n ≠ 0) : lineP s n h b = lineH s h b := by
  unfold lineP lineH; rw [if_neg h0]; cases hdP s <;> rfl
set_option maxRecDepth 8000 in
set_option maxHeartbeats 4000000 in
theorem racc_any (s : ByteArray) (hs : s.size ≤ 1000000) {w0 w : World} (hx0 : Ext w0 w) {b c : Nat} (hwb : w0.heap.size ≤ b) (hwc : w0.heap.size ≤ c) (hbc : b ≠ c) {n : Nat} (hn : n ≤ 1000000) {h : Cr} {sn : Bool} (ho : okC h) (hb : RBlk w b h) (hc : Blk w c [.bool sn] 4) :
    Calls Tryz.prog 83 #[.pointer (some ⟨b, 0, none⟩), .pointer (some ⟨c, 0, none⟩), .string s, .int .i64 n] w fun e w' => e = .returned (.bool (lineP s n h sn).isSome) ∧ Left w0 w w' [b, c] ∧
      ∀ g b', lineP s n h sn = some (g, b') → RBlk w' b g ∧ Blk w' c [.bool b'] 4 := by
  have hlb : b < w.heap.size := Blk.lt hb
  have hlc : c < w.heap.size := Blk.lt hc
  by_cases h0 : n = 0
  · subst h0
    have R : Hid (lineP s 0 h sn = (rqP s).map fun t => ((t, h.2), sn)) := Lib.hid rfl
    have KR := Lib.hid (rrq_any s w hs)
    go_enter Tryz.func83, Tryz.ntmps83
    go_wp2_with (first | (go_at_call 108; refine KR.out.mono ?_; rintro e w1 ⟨t, hT, rfl, hu, hx1⟩; refine Hid.out ?_))
    refine Lib.hid ?_
    have HU := Lib.hid hu
    clear hu
    have hbf := Blk.new w1 (tc ztgt) 32
    go_upto_region 3 with (refine wpList_store_T rfl _ _ rfl okT_ztgt hT hbf rfl rfl ?_)
    change Code.wp _ _ _ _ ((w1.alloc (.cells (tc ztgt) 32)).setRow w1.heap.size (tc t))
    rw [World.setRow_alloc_new]
    have hT4 := Blk.new w1 (tc t) 32
    have hx2 := hx1.alloc (.cells (tc t) 32)
    have hnx := (Ext.refl w1).alloc (.cells (tc t) 32)
    clear hbf
    generalize w1.alloc (.cells (tc t) 32) = w2 at *
    generalize w1.heap.size = b4 at *
    clear hnx
    have hb2 := Blk.ext hb hx2
    have hc2 := Blk.ext hc hx2
    have hth := RBlk.thereT ho hb2
    have HB2 := Lib.hid hb2
    have HC2 := Lib.hid hc2
    clear hb2 hc2
    go_wp2_with (first | refine wpList_load_T rfl _ rfl hT hT4 rfl ?_ | refine wpList_store_Tm rfl _ _ rfl hT hth rfl rfl ?_)
    go_ret
    refine ⟨by rw [R.out, Option.isSome_map]; rfl, ⟨Keep.setCells (.inl (by simp)) _ _ _ (hx2.keep _), Ext.setCells hwb _ _ _ (hx0.trans hx2)⟩, fun g b' q => ?_⟩
    rw [R.out] at q
    cases hr : rqP s with
    | none => rw [hr] at q; cases q
    | some u =>
      rw [hr] at q
      injection q with q
      injection q with q1 q2
      subst q1 q2
      have := HU.out u hr
      subst this
      exact ⟨RBlk.setTgt ho HB2.out hT, HC2.out.of_heap (heap_setCells _ _ _ (fun e => hbc e.symm) _)⟩
  · have R0 : lineP s n h sn = lineH s h sn := lineP_n h0
    have h0' : ((n : Int) == 0) = false := by rw [beq_eq_false_iff_ne]; omega
    clear h0
    have KH := Lib.hid (fun w => rhd_any s w hs)
    rw [lineH] at R0
    cases hh : hdP s with
    | none =>
      have R : Hid (lineP s n h sn = none) := Lib.hid (by rw [R0, hh])
      rw [hh] at KH
      clear hh R0
      unfold hdR at KH
      go_enter Tryz.func83, Tryz.ntmps83
      go_wp2_with (first | (go_at_call 109; refine (KH.out _).mono ?_; rintro e w1 ⟨rfl, hx1⟩; have hb1 := Blk.ext hb hx1; have hc1 := Blk.ext hc hx1; have hxx1 := hx0.trans hx1; have cs := Blk.cell hc1 (i := 0) rfl; have fs := Blk.free hc1 0; have HB1 := Lib.hid hb1; have HC1 := Lib.hid hc1; clear hb1 hc1))
      go_ret
      exact ⟨by rw [R.out]; rfl, .of_ext hx0 hx1, fun g b' q => by rw [R.out] at q; cases q⟩
    | some kv =>
      obtain ⟨key, val⟩ := kv
      have hz := hdP_size hh
      have R1 : lineP s n h sn = if lowB key = authS then (if sn = true then none else some ((h.1, (authP val).2.2, (authP val).1, (authP val).2.1), true)) else some (h, sn) := by rw [R0, hh]
      rw [hh] at KH
      clear hh R0
      unfold hdR at KH
      simp only at KH
      have KE : Hid (∀ w, Calls Tryz.prog 110 #[.string key, .string ⟨#[112, 114, 111, 120, 121, 45, 97, 117, 116, 104, 111, 114, 105, 122, 97, 116, 105, 111, 110]⟩] w fun e w' => e = .returned (.bool (decide (lowB key = authS))) ∧ w = w') :=
        Lib.hid (fun w => efold_any key authS (by unfold maxLen; omega) w)
      cases hd : decide (lowB key = authS)
      · have R : Hid (lineP s n h sn = some (h, sn)) := Lib.hid (by rw [R1, if_neg (of_decide_eq_false hd)])
        rw [hd] at KE
        clear R1 hd
        go_enter Tryz.func83, Tryz.ntmps83
        go_wp2_with (first | (go_at_call 109; refine (KH.out _).mono ?_; rintro e w1 ⟨rfl, hx1⟩; have hb1 := Blk.ext hb hx1; have hc1 := Blk.ext hc hx1; have hxx1 := hx0.trans hx1; have cs := Blk.cell hc1 (i := 0) rfl; have fs := Blk.free hc1 0; have HB1 := Lib.hid hb1; have HC1 := Lib.hid hc1; clear hb1 hc1) | (go_at_call 110; refine (KE.out _).mono ?_; rintro e w2 ⟨rfl, rfl⟩))
        go_ret
        refine ⟨by rw [R.out]; rfl, .of_ext hx0 hx1, fun g b' q => ?_⟩
        rw [R.out] at q
        injection q with q
        injection q with q1 q2
        subst q1 q2
        exact ⟨HB1.out, HC1.out⟩
      rw [if_pos (of_decide_eq_true hd)] at R1
      rw [hd] at KE
      clear hd
      cases sn
      · rw [if_neg (by simp)] at R1
        have KA := Lib.hid (fun w => rauth_any val w (by omega))
        have R := Lib.hid R1
        have hza := authP_size val
        clear R1
        generalize (authP val).1 = us at *
        generalize (authP val).2.1 = ps at *
        generalize (authP val).2.2 = hs8 at *
        go_enter Tryz.func83, Tryz.ntmps83
        go_upto_region 12 with (first | (go_at_call 109; refine (KH.out _).mono ?_; rintro e w1 ⟨rfl, hx1⟩; have hb1 := Blk.ext hb hx1; have hc1 := Blk.ext hc hx1; have hxx1 := hx0.trans hx1; have cs := Blk.cell hc1 (i := 0) rfl; have fs := Blk.free hc1 0; have HB1 := Lib.hid hb1; have HC1 := Lib.hid hc1; clear hb1 hc1) | (go_at_call 110; refine (KE.out _).mono ?_; rintro e w2 ⟨rfl, rfl⟩))
        have hc5 := Blk.set HC1.out 0 (.bool true)
        have hb5 := Blk.set_ne HB1.out ⟨c, 0, none⟩ (fun e => hbc e.symm) (.bool true)
        have hk5 : Keep [b, c] w (w1.setCell ⟨c, 0, none⟩ (.bool true)) := Keep.setCell (hx1.keep [b, c]) (.inl (by simp)) _
        have hx5 : Ext w0 (w1.setCell ⟨c, 0, none⟩ (.bool true)) := Ext.setCell hxx1 hwc _
        clear cs fs HB1 HC1 hxx1 hx1
        generalize w1.setCell ⟨c, 0, none⟩ (.bool true) = w5 at *
        go_wp2_with (first | (go_at_call 111; refine (KA.out _).mono ?_; rintro e w7 ⟨rfl, hx7⟩; have hb7 := Blk.ext hb5 hx7; have hc7 := Blk.ext hc5 hx7; have f19 := Blk.free hb7 19; have f20 := Blk.free hb7 20; have f21 := Blk.free hb7 21; have c19 := RBlk.has ho hb7; have c20 := RBlk.user ho hb7; have c21 := RBlk.pass ho hb7; have HB7 := Lib.hid hb7; have HC7 := Lib.hid hc7; clear hc7))
        go_ret
        refine ⟨by rw [R.out]; rfl, ⟨?_, ?_⟩, fun g b' q => ?_⟩
        · exact Keep.setCell (Keep.setCell (Keep.setCell (hk5.trans (hx7.keep _)) (.inl (by simp)) _) (.inl (by simp)) _) (.inl (by simp)) _
        · exact Ext.setCell (Ext.setCell (Ext.setCell (hx5.trans hx7) hwb _) hwb _) hwb _
        · rw [R.out] at q
          injection q with q
          injection q with q1 q2
          subst q1 q2
          have h1 := RBlk.setUser ho HB7.out us
          have o1 : okC (h.1, h.2.1, us, h.2.2.2) := ⟨ho.1, by show us.size ≤ _; unfold maxLen; omega, ho.2.2⟩
          have h2 := RBlk.setPass o1 h1 ps
          have o2 : okC (h.1, h.2.1, us, ps) := ⟨ho.1, by show us.size ≤ _; unfold maxLen; omega, by show ps.size ≤ _; unfold maxLen; omega⟩
          exact ⟨RBlk.setHas o2 h2 hs8, Blk.set_ne (Blk.set_ne (Blk.set_ne HC7.out ⟨b, 20, none⟩ hbc _) ⟨b, 21, none⟩ hbc _) ⟨b, 19, none⟩ hbc _⟩
      · have R : Hid (lineP s n h true = none) := Lib.hid (by rw [R1, if_pos rfl])
        clear R1
        go_enter Tryz.func83, Tryz.ntmps83
        go_wp2_with (first | (go_at_call 109; refine (KH.out _).mono ?_; rintro e w1 ⟨rfl, hx1⟩; have hb1 := Blk.ext hb hx1; have hc1 := Blk.ext hc hx1; have hxx1 := hx0.trans hx1; have cs := Blk.cell hc1 (i := 0) rfl; have fs := Blk.free hc1 0; have HB1 := Lib.hid hb1; have HC1 := Lib.hid hc1; clear hb1 hc1) | (go_at_call 110; refine (KE.out _).mono ?_; rintro e w2 ⟨rfl, rfl⟩))
        go_ret
        exact ⟨by rw [R.out]; rfl, .of_ext hx0 hx1, fun g b' q => by rw [R.out] at q; cases q⟩
end Go.Proofs.YtpdoddelnahlnaaGreatDoor
/-
  Contract of httpconnect.Parse.
-/
set_option linter.unusedSimpArgs false
set_option linter.unusedVariables false
namespace Go.Proofs.YtpdoddelnahlnaaGreatDoor
open Go.RowKit Go.Joins
theorem st_next (s : ByteArray) (k : Nat) : st s (k + 1) = step s k (st s k) := rfl
theorem fin_mal {s : ByteArray} {k : Nat} (h : st s (k + 1) = .mal) (hk : k < min s.size 512) : fin s = (zcr, 0, 2) := by
  unfold fin
  rw [st_mal h (min s.size 512) (by omega)]; rfl
theorem fin_dn {s : ByteArray} {k m : Nat} {h : Cr} (e : st s (k + 1) = .done h m) (hk : k < min s.size 512) : fin s = (h, (m : Int), 1) := fin_done (k := k + 1) (by omega) (by omega) e
theorem fin_run {s : ByteArray} {n f : Nat} {h : Cr} {b : Bool} (e : st s (min s.size 512) = .run n f h b) : fin s = if 512 ≤ s.size then (zcr, 0, 2) else (zcr, 0, 0) := by
  unfold fin; rw [e]; rfl
/-- what a round of the parser does -/
theorem step_cr {s : ByteArray} {k n f : Nat} {h : Cr} {b : Bool} (e : acr s k ≠ decide (B s k = 10)) : step s k (.run n f h b) = .mal := by
  unfold step; simp only; rw [if_pos e]
theorem step_dn {s : ByteArray} {k n f : Nat} {h : Cr} {b : Bool} (ha : acr s k = true) (hc : B s k = 10) (h0 : 0 < n) (hl : k - 1 - f = 0) : step s k (.run n f h b) = .done h (k + 1) := by
  unfold step; simp only; rw [if_neg (by rw [ha, decide_eq_true hc]; simp), if_pos ha, if_pos ⟨h0, hl⟩]
theorem step_ln {s : ByteArray} {k n f : Nat} {h : Cr} {b : Bool} (ha : acr s k = true) (hc : B s k = 10) (hl : ¬ (0 < n ∧ k - 1 - f = 0)) :
    step s k (.run n f h b) = match lineP (s.extract f (k - 1)) n h b with | none => .mal | some (g, b) => .run (n + 1) (k + 1) g b := by
  unfold step; simp only; rw [if_neg (by rw [ha, decide_eq_true hc]; simp), if_pos ha, if_neg hl]; rfl
theorem step_bad {s : ByteArray} {k n f : Nat} {h : Cr} {b : Bool} (ha : acr s k = false) (hc : B s k ≠ 10) (hr : B s k ≠ 13) (hv : vbyte (B s k) (k - f) (decide (n = 0)) = false) : step s k (.run n f h b) = .mal := by
  unfold step; simp only; rw [if_neg (by rw [ha, decide_eq_false hc]; simp), if_neg (by rw [ha]; simp), if_pos ⟨hr, hv⟩]
theorem step_go {s : ByteArray} {k n f : Nat} {h : Cr} {b : Bool} (ha : acr s k = false) (hc : B s k ≠ 10) (hv : B s k = 13 ∨ vbyte (B s k) (k - f) (decide (n = 0)) = true) : step s k (.run n f h b) = .run n f h b := by
  unfold step; simp only; rw [if_neg (by rw [ha, decide_eq_false hc]; simp), if_neg (by rw [ha]; simp), if_neg (fun q => by
    rcases hv with hv | hv
    · exact q.1 hv
    · rw [hv] at q; exact absurd q.2 (by simp))]
theorem crc_zero : crc zcr = #[.string ⟨#[]⟩, .bool false, .int .u8 0, .int .u8 0, .int .u8 0, .int .u8 0, .int .u8 0, .int .u8 0, .int .u8 0, .int .u8 0, .int .u8 0, .int .u8 0, .int .u8 0, .int .u8 0, .int .u8 0, .int .u8 0, .int .u8 0, .int .u8 0, .int .i64 0, .bool false, .string ⟨#[]⟩, .string ⟨#[]⟩] := rfl
theorem pcc_zero : pcc 0 zcr false = #[.int .i64 0, .string ⟨#[]⟩, .bool false, .int .u8 0, .int .u8 0, .int .u8 0, .int .u8 0, .int .u8 0, .int .u8 0, .int .u8 0, .int .u8 0, .int .u8 0, .int .u8 0, .int .u8 0, .int .u8 0, .int .u8 0, .int .u8 0, .int .u8 0, .int .u8 0, .int .i64 0, .bool false, .string ⟨#[]⟩, .string ⟨#[]⟩, .bool false] := rfl
set_option maxRecDepth 8000 in
set_option maxHeartbeats 20000000 in
theorem hparse_any (s : ByteArray) (hs : s.size ≤ 281474976710656) (w : World) (henv : Env w) : Calls Tryz.prog 25 #[.string s] w fun e w' => e = .returned (.tuple #[cv (fin s).1, .int .i64 (fin s).2.1, .int .i64 (fin s).2.2]) ∧ Ext w w' := by
  go_enter Tryz.func25, Tryz.ntmps25
  go_upto_region 1 with fail
  rw [← crc_zero]
  apply wp_scope_straight
  go_upto_region 2 with fail
  rw [← pcc_zero]
  go_wp2_with fail
  go_step3
  go_wp2_with fail
  have hx := ((Ext.refl w).alloc (.cells (crc zcr) 46)).alloc (.cells (pcc 0 zcr false) 69)
  have hb1 := (Blk.new w (crc zcr) 46).ext ((Ext.refl _).alloc (.cells (pcc 0 zcr false) 69))
  have hb2 := Blk.new (w.alloc (.cells (crc zcr) 46)) (pcc 0 zcr false) 69
  rw [World.size_alloc] at hb2
  generalize (w.alloc (.cells (crc zcr) 46)).alloc (.cells (pcc 0 zcr false) 69) = w0 at *
  generalize hbw : w.heap.size = b at *
  replace hbw := Nat.le_of_eq hbw
  have hwb := hbw
  have hwc : w.heap.size ≤ b + 1 := by omega
  have hbc : b ∉ [b + 1] := by simp
  clear hbw
  generalize b + 1 = c at *
  obtain ⟨M, hMd⟩ : ∃ M : Nat, M = min s.size 512 := ⟨_, rfl⟩
  have hM : min (s.size : Int) 512 = (M : Int) := by omega
  rw [hM]
  clear hM
  have HM := Lib.hid hMd
  have hM1 : M ≤ s.size := by omega
  have hM2 : M ≤ 512 := by omega
  clear hMd
  go_loopw [6, 7, 8, 9, 10, 11, 15] (fun start state _ _ _ _ ctr wr => ∃ (k n f : Nat) (h : Cr) (sn : Bool), k ≤ M ∧ ctr = .int .i64 k ∧ start = .int .i64 f ∧ state = .int .i64 0 ∧ Hid (st s k = .run n f h sn) ∧ PBlk wr c n h sn ∧ RBlk wr b zcr ∧ Ext w wr) (fun _ _ _ _ _ _ ctr _ => M - (intOf ctr).toNat)
  case atStart => exact ⟨0, 0, 0, zcr, false, Nat.zero_le _, rfl, rfl, rfl, Lib.hid rfl, hb2, hb1, hx⟩
  case round =>
    clear hb1 hb2 hx
    obtain ⟨k, n, f, h, bs, hk, rfl, rfl, rfl, HST, hp, hr, hx⟩ := hrel
    have hcw : c < wr.heap.size := Blk.lt hp
    have hinv := inv_st s k (by unfold maxLen; omega)
    rw [HST.out] at hinv
    obtain ⟨i1, i2, i3, i4, ho⟩ := hinv
    by_cases hlt : k < M
    · have hlt' : (k : Int) < M := by omega
      have hks : (k : Int) < s.size := by omega
      have hkM : k < min s.size 512 := by rw [← HM.out]; exact hlt
      go_upto_region 8 with fail
      go_cut [10] from 21 to 30 (fun v wc => v = .bool (acr s k) ∧ wc = wr)
      case first =>
        have HA : Hid (acr s k = decide (0 < k ∧ B s (k - 1) = 13)) := Lib.hid rfl
        by_cases h0 : (0 : Int) < k
        · have e1 : ((k : Int) - 1).toNat = k - 1 := by omega
          have e2 : (k : Int) - 1 < s.size := by omega
          have HQ : Hid ((B s (k - 1) == 13) = acr s k) := Lib.hid (by
            rw [HA.out]
            by_cases q : B s (k - 1) = 13
            · rw [decide_eq_true ⟨by omega, q⟩, beq_iff_eq]; exact q
            · rw [decide_eq_false (fun z => q z.2), beq_eq_false_iff_ne]; exact q)
          go_wp2_with fail
          go_meet
          exact ⟨by rw [← HQ.out], rfl⟩
        · have HQ : Hid (acr s k = false) := Lib.hid (by rw [HA.out, decide_eq_false (by omega)])
          go_wp2_with fail
          go_meet
          exact ⟨by rw [HQ.out], rfl⟩
      case rest =>
        obtain ⟨rfl, rfl⟩ := hcut
        have hvb := Lib.hid (fun (r : Bool) w => hbyte_any (B s k) (B_bd s k) (k - f) r w)
        cases ha : acr s k
        · by_cases hc : B s k = 10
          · have hc' : (B s k == 10) = true := by rw [beq_iff_eq]; exact hc
            have E := Lib.hid (fin_mal (show st s (k + 1) = .mal by rw [st_next, HST.out]; exact step_cr (by rw [ha, decide_eq_true hc]; simp)) hkM)
            clear ha hc
            go_upto_region 21 with fail
            by_cases hbig : (512 : Int) ≤ s.size
            · go_wp2_with (first | refine wpList_store_C rfl _ _ rfl okC_zcr okC_zcr hr rfl rfl ?_)
              try rw [Exit.noGoto_ret]
              refine bodyPost_ret (res_C3 rfl rfl okC_zcr ((hr).row _)) rfl ⟨by rw [E.out]; rfl, (hx).setRow hwb _⟩
            · go_wp2_with (first | refine wpList_store_C rfl _ _ rfl okC_zcr okC_zcr hr rfl rfl ?_)
              try rw [Exit.noGoto_ret]
              refine bodyPost_ret (res_C3 rfl rfl okC_zcr ((hr).row _)) rfl ⟨by rw [E.out]; rfl, (hx).setRow hwb _⟩
          · have hc' : (B s k == 10) = false := by rw [beq_eq_false_iff_ne]; exact hc
            by_cases hd : B s k = 13
            · have HN := Lib.hid (show st s (k + 1) = .run n f h bs by rw [st_next, HST.out]; exact step_go ha hc (.inl hd))
              have hd' : (B s k == 13) = true := by rw [beq_iff_eq]; exact hd
              have hd2 : (B s k != 13) = false := by rw [bne_eq_false_iff_eq]; exact hd
              clear ha hc hd
              go_wp2_with fail
              go_roundw
              case rel => exact ⟨k + 1, n, f, h, bs, by omega, by go_num, rfl, rfl, HN, hp, hr, hx⟩
              case measure => simp [intOf]; omega
            · have hd' : (B s k == 13) = false := by rw [beq_eq_false_iff_ne]; exact hd
              have hd2 : (B s k != 13) = true := by rw [bne_iff_ne]; exact hd
              have cn := PBlk.num hp
              have hkf : ((k : Int) - f) = ((k - f : Nat) : Int) := by omega
              cases hv : vbyte (B s k) (k - f) (decide (n = 0))
              · have E := Lib.hid (fin_mal (show st s (k + 1) = .mal by rw [st_next, HST.out]; exact step_bad ha hc hd hv) hkM)
                have K : Hid (∀ w, Calls Tryz.prog 53 #[.int .u8 (B s k), .int .i64 (k - f : Nat), .bool (decide (n = 0))] w fun e w' => e = .returned (.bool false) ∧ Ext w w') := Lib.hid (fun w => by rw [← hv]; exact hvb.out _ w)
                clear ha hc hd hv hvb
                have hn0 : ((n : Int) == 0) = decide (n = 0) := by
                  by_cases q : n = 0
                  · subst q; rfl
                  · rw [decide_eq_false q, beq_eq_false_iff_ne]; omega
                generalize decide (n = 0) = n0 at *
                go_upto_region 21 with (first | (go_at_call 53; refine (K.out _).mono ?_; rintro e w2 ⟨rfl, hx2⟩; have hr2 := Blk.ext hr hx2; have hxx2 := hx.trans hx2))
                by_cases hbig : (512 : Int) ≤ s.size
                · go_wp2_with (first | refine wpList_store_C rfl _ _ rfl okC_zcr okC_zcr hr2 rfl rfl ?_)
                  try rw [Exit.noGoto_ret]
                  refine bodyPost_ret (res_C3 rfl rfl okC_zcr ((hr2).row _)) rfl ⟨by rw [E.out]; rfl, (hxx2).setRow hwb _⟩
                · go_wp2_with (first | refine wpList_store_C rfl _ _ rfl okC_zcr okC_zcr hr2 rfl rfl ?_)
                  try rw [Exit.noGoto_ret]
                  refine bodyPost_ret (res_C3 rfl rfl okC_zcr ((hr2).row _)) rfl ⟨by rw [E.out]; rfl, (hxx2).setRow hwb _⟩
              · have HN := Lib.hid (show st s (k + 1) = .run n f h bs by rw [st_next, HST.out]; exact step_go ha hc (.inr hv))
                have K : Hid (∀ w, Calls Tryz.prog 53 #[.int .u8 (B s k), .int .i64 (k - f : Nat), .bool (decide (n = 0))] w fun e w' => e = .returned (.bool true) ∧ Ext w w') := Lib.hid (fun w => by rw [← hv]; exact hvb.out _ w)
                clear ha hc hd hv hvb
                have hn0 : ((n : Int) == 0) = decide (n = 0) := by
                  by_cases q : n = 0
                  · subst q; rfl
                  · rw [decide_eq_false q, beq_eq_false_iff_ne]; omega
                generalize decide (n = 0) = n0 at *
                go_wp2_with (first | (go_at_call 53; refine (K.out _).mono ?_; rintro e w2 ⟨rfl, hx2⟩; have hr2 := Blk.ext hr hx2; have hxx2 := hx.trans hx2; have hp2 := Blk.ext hp hx2))
                go_roundw
                case rel => exact ⟨k + 1, n, f, h, bs, by omega, by go_num, rfl, rfl, HN, hp2, hr2, hxx2⟩
                case measure => simp [intOf]; omega
        · have hA := acr_iff.1 ha
          by_cases hc : B s k = 10
          · have hc' : (B s k == 10) = true := by rw [beq_iff_eq]; exact hc
            have hf1 := line_le i1 i2 ha
            have e1 : ((k : Int) - 1).toNat = k - 1 := by omega
            have q1 : (f : Int) ≤ (k : Int) - 1 := by omega
            have q2 : (k : Int) - 1 ≤ s.size := by omega
            have cn := PBlk.num hp
            have hlz : (s.extract f (k - 1)).size = k - 1 - f := by rw [ByteArray.size_extract]; omega
            have HLN : Hid (¬ (0 < n ∧ k - 1 - f = 0) → step s k (.run n f h bs) = match lineP (s.extract f (k - 1)) n h bs with | none => .mal | some (g, b) => .run (n + 1) (k + 1) g b) := Lib.hid (step_ln ha hc)
            have HDN : Hid (0 < n → k - 1 - f = 0 → step s k (.run n f h bs) = .done h (k + 1)) := Lib.hid (step_dn ha hc)
            have HI4 := Lib.hid i4
            clear i2 i4 ha
            have hA0 := hA.1
            clear hA
            go_upto_region 14 with fail
            generalize s.extract f (k - 1) = ln at *
            have HLZ := Lib.hid hlz
            have hlb : ln.size ≤ 1000000 := by omega
            have hn6 : n ≤ 1000000 := by omega
            have HKM := Lib.hid hkM
            clear hc hlz i1 i3 hf1 hkM
            by_cases h0 : n = 0
            · have hnd : Hid (¬ (0 < n ∧ k - 1 - f = 0)) := Lib.hid (by omega)
              have h0' : ¬ (0 : Int) < n := by omega
              clear h0
              have K := hpl_any ln hlb henv hx hwc hn6 ho hp
              cases hL : lineP ln n h bs with
              | none =>
                have E := Lib.hid (fin_mal (show st s (k + 1) = .mal by rw [st_next, HST.out, HLN.out hnd.out, hL]) HKM.out)
                rw [hL, Option.isSome_none] at K
                have K := Lib.hid K
                clear hL
                go_upto_region 21 with (first | (go_at_call 52; refine K.out.mono ?_; rintro e w2 ⟨rfl, hl, _⟩; have hr2 := Blk.keep hr hl.1 hbc; have hx2 := hl.2))
                by_cases hbig : (512 : Int) ≤ s.size
                · go_wp2_with (first | refine wpList_store_C rfl _ _ rfl okC_zcr okC_zcr hr2 rfl rfl ?_)
                  try rw [Exit.noGoto_ret]
                  refine bodyPost_ret (res_C3 rfl rfl okC_zcr ((hr2).row _)) rfl ⟨by rw [E.out]; rfl, (hx2).setRow hwb _⟩
                · go_wp2_with (first | refine wpList_store_C rfl _ _ rfl okC_zcr okC_zcr hr2 rfl rfl ?_)
                  try rw [Exit.noGoto_ret]
                  refine bodyPost_ret (res_C3 rfl rfl okC_zcr ((hr2).row _)) rfl ⟨by rw [E.out]; rfl, (hx2).setRow hwb _⟩
              | some gb =>
                obtain ⟨g, b'⟩ := gb
                have HN := Lib.hid (show st s (k + 1) = .run (n + 1) (k + 1) g b' by rw [st_next, HST.out, HLN.out hnd.out, hL])
                rw [hL, Option.isSome_some] at K
                have K := Lib.hid K
                clear hL
                go_wp2_with (first | (go_at_call 52; refine K.out.mono ?_; rintro e w2 ⟨rfl, hl, hp2⟩; have hr2 := Blk.keep hr hl.1 hbc; have hx2 := hl.2))
                go_roundw
                case rel => exact ⟨k + 1, n + 1, k + 1, g, b', by omega, by go_num, by go_num, rfl, HN, hp2 g b' rfl, hr2, hx2⟩
                case measure => simp [intOf]; omega
            · have h0' : (0 : Int) < n := by omega
              by_cases hz : (ln.size : Int) < 1
              · have E := Lib.hid (fin_dn (show st s (k + 1) = .done h (k + 1) by rw [st_next, HST.out, HDN.out (by omega) (by have := HLZ.out; omega)]) HKM.out)
                have hq := B_empty ln hz
                subst hq
                clear hz
                have hrg := PBlk.range hp
                go_wp2_with (first | refine wpList_load_C rfl _ rfl ho hrg rfl ?_ | refine wpList_store_C rfl _ _ rfl okC_zcr ho hr rfl rfl ?_)
                try rw [Exit.noGoto_ret]
                refine bodyPost_ret (res_C3 rfl rfl ho (hr.row _)) rfl ⟨by rw [E.out]; rfl, hx.setRow hwb _⟩
              · have hnd : Hid (¬ (0 < n ∧ k - 1 - f = 0)) := Lib.hid (fun q => by have := HLZ.out; have := q.2; omega)
                have hq : (ln.toList == []) = false := by
                  rw [beq_eq_false_iff_ne, ByteArray.toList_eq]
                  intro e
                  have := size_list ln
                  rw [e] at this
                  change ln.size = 0 at this
                  omega
                clear h0
                have K := hpl_any ln hlb henv hx hwc hn6 ho hp
                cases hL : lineP ln n h bs with
                | none =>
                  have E := Lib.hid (fin_mal (show st s (k + 1) = .mal by rw [st_next, HST.out, HLN.out hnd.out, hL]) HKM.out)
                  rw [hL, Option.isSome_none] at K
                  have K := Lib.hid K
                  clear hL
                  go_upto_region 21 with (first | (go_at_call 52; refine K.out.mono ?_; rintro e w2 ⟨rfl, hl, _⟩; have hr2 := Blk.keep hr hl.1 hbc; have hx2 := hl.2))
                  by_cases hbig : (512 : Int) ≤ s.size
                  · go_wp2_with (first | refine wpList_store_C rfl _ _ rfl okC_zcr okC_zcr hr2 rfl rfl ?_)
                    try rw [Exit.noGoto_ret]
                    refine bodyPost_ret (res_C3 rfl rfl okC_zcr ((hr2).row _)) rfl ⟨by rw [E.out]; rfl, (hx2).setRow hwb _⟩
                  · go_wp2_with (first | refine wpList_store_C rfl _ _ rfl okC_zcr okC_zcr hr2 rfl rfl ?_)
                    try rw [Exit.noGoto_ret]
                    refine bodyPost_ret (res_C3 rfl rfl okC_zcr ((hr2).row _)) rfl ⟨by rw [E.out]; rfl, (hx2).setRow hwb _⟩
                | some gb =>
                  obtain ⟨g, b'⟩ := gb
                  have HN := Lib.hid (show st s (k + 1) = .run (n + 1) (k + 1) g b' by rw [st_next, HST.out, HLN.out hnd.out, hL])
                  rw [hL, Option.isSome_some] at K
                  have K := Lib.hid K
                  clear hL
                  go_wp2_with (first | (go_at_call 52; refine K.out.mono ?_; rintro e w2 ⟨rfl, hl, hp2⟩; have hr2 := Blk.keep hr hl.1 hbc; have hx2 := hl.2))
                  go_roundw
                  case rel => exact ⟨k + 1, n + 1, k + 1, g, b', by omega, by go_num, by go_num, rfl, HN, hp2 g b' rfl, hr2, hx2⟩
                  case measure => simp [intOf]; omega
          · have hc' : (B s k == 10) = false := by rw [beq_eq_false_iff_ne]; exact hc
            have E := Lib.hid (fin_mal (show st s (k + 1) = .mal by rw [st_next, HST.out]; exact step_cr (by rw [ha, decide_eq_false hc]; simp)) hkM)
            clear ha hc hA
            go_upto_region 21 with fail
            by_cases hbig : (512 : Int) ≤ s.size
            · go_wp2_with (first | refine wpList_store_C rfl _ _ rfl okC_zcr okC_zcr hr rfl rfl ?_)
              try rw [Exit.noGoto_ret]
              refine bodyPost_ret (res_C3 rfl rfl okC_zcr ((hr).row _)) rfl ⟨by rw [E.out]; rfl, (hx).setRow hwb _⟩
            · go_wp2_with (first | refine wpList_store_C rfl _ _ rfl okC_zcr okC_zcr hr rfl rfl ?_)
              try rw [Exit.noGoto_ret]
              refine bodyPost_ret (res_C3 rfl rfl okC_zcr ((hr).row _)) rfl ⟨by rw [E.out]; rfl, (hx).setRow hwb _⟩
    · obtain rfl : k = M := by omega
      have E0 := HST.out
      rw [HM.out] at E0
      have E0 := fin_run E0
      have hnl : ¬ ((k : Nat) : Int) < k := by omega
      by_cases hbig : (512 : Int) ≤ s.size
      · rw [if_pos (by omega)] at E0
        have E := Lib.hid E0
        clear E0
        go_wp2_with (first | refine wpList_store_C rfl _ _ rfl okC_zcr okC_zcr hr rfl rfl ?_)
        try rw [Exit.noGoto_ret]
        refine bodyPost_ret (res_C3 rfl rfl okC_zcr (hr.row _)) rfl ⟨by rw [E.out]; rfl, hx.setRow hwb _⟩
      · rw [if_neg (by omega)] at E0
        have E := Lib.hid E0
        clear E0
        go_wp2_with (first | refine wpList_store_C rfl _ _ rfl okC_zcr okC_zcr hr rfl rfl ?_)
        try rw [Exit.noGoto_ret]
        refine bodyPost_ret (res_C3 rfl rfl okC_zcr (hr.row _)) rfl ⟨by rw [E.out]; rfl, hx.setRow hwb _⟩
end Go.Proofs.YtpdoddelnahlnaaGreatDoor
