/-
  Several texts joined: HcF, HcL, HcV, HsQ.
-/
import Derived.WalkMore
import Derived.Test.YtnohnnjeabehjaaGreatDoorK24
import Derived.Test.YtnohnnjeabehjaaGreatDoorK27
import Derived.Test.YtnohnnjeabehjaaGreatDoorK21
set_option maxHeartbeats 20000000
set_option maxRecDepth 8000
set_option linter.unusedVariables false
set_option linter.unusedSimpArgs false
namespace Go.Proofs.YtnohnnjeabehjaaGreatDoor
open Go.RowKit Go.Joins
theorem st_next (s : ByteArray) (k : Nat) : st s (k + 1) = step s k (st s k) := rfl
theorem fin_mal {s : ByteArray} {k : Nat} (h : st s (k + 1) = .mal) (hk : k < min s.size 512) : fin s = (zcr, 0, 2) := by
 unfold fin
 rw [st_mal h (min s.size 512) (by omega)]; rfl
theorem fin_dn {s : ByteArray} {k m : Nat} {h : Cr} (e : st s (k + 1) = .done h m) (hk : k < min s.size 512) : fin s = (h, (m : Int), 1) := fin_done (k := k + 1) (by omega) (by omega) e
theorem fin_run {s : ByteArray} {n f : Nat} {h : Cr} {b : Bool} (e : st s (min s.size 512) = .run n f h b) : fin s = if 512 <= s.size then (zcr, 0, 2) else (zcr, 0, 0) := by
 unfold fin; rw [e]; rfl
theorem step_cr {s : ByteArray} {k n f : Nat} {h : Cr} {b : Bool} (e : acr s k ≠ decide (B s k = 10)) : step s k (.run n f h b) = .mal := by
 unfold step; simp only; rw [if_pos e]
theorem step_dn {s : ByteArray} {k n f : Nat} {h : Cr} {b : Bool} (ha : acr s k = true) (hc : B s k = 10) (h0 : 0 < n) (hl : k - 1 - f = 0) : step s k (.run n f h b) = .done h (k + 1) := by
 unfold step; simp only; rw [if_neg (by rw [ha, decide_eq_true hc]; simp), if_pos ha, if_pos ⟨h0, hl⟩]
theorem step_ln {s : ByteArray} {k n f : Nat} {h : Cr} {b : Bool} (ha : acr s k = true) (hc : B s k = 10) (hl : ¬ (0 < n /\ k - 1 - f = 0)) :
  step s k (.run n f h b) = match lineP (s.extract f (k - 1)) n h b with | none => .mal | some (g, b) => .run (n + 1) (k + 1) g b := by
 unfold step; simp only; rw [if_neg (by rw [ha, decide_eq_true hc]; simp), if_pos ha, if_neg hl]; rfl
theorem step_bad {s : ByteArray} {k n f : Nat} {h : Cr} {b : Bool} (ha : acr s k = false) (hc : B s k ≠ 10) (hr : B s k ≠ 13) (hv : vbyte (B s k) (k - f) (decide (n = 0)) = false) : step s k (.run n f h b) = .mal := by
 unfold step; simp only; rw [if_neg (by rw [ha, decide_eq_false hc]; simp), if_neg (by rw [ha]; simp), if_pos ⟨hr, hv⟩]
theorem step_go {s : ByteArray} {k n f : Nat} {h : Cr} {b : Bool} (ha : acr s k = false) (hc : B s k ≠ 10) (hv : B s k = 13 ∨ vbyte (B s k) (k - f) (decide (n = 0)) = true) : step s k (.run n f h b) = .run n f h b := by
 unfold step; simp only; rw [if_neg (by rw [ha, decide_eq_false hc]; simp), if_neg (by rw [ha]; simp), if_neg (fun q => by
  rcases hv with hv | hv
  ·exact q.1 hv
  ·rw [hv] at q; exact absurd q.2 (by simp))]
theorem crc_zero : crc zcr = #[.string ⟨#[]⟩, .bool false, .int .u8 0, .int .u8 0, .int .u8 0, .int .u8 0, .int .u8 0, .int .u8 0, .int .u8 0, .int .u8 0, .int .u8 0, .int .u8 0, .int .u8 0, .int .u8 0, .int .u8 0, .int .u8 0, .int .u8 0, .int .u8 0, .int .i64 0, .bool false, .string ⟨#[]⟩, .string ⟨#[]⟩] := rfl
theorem pcc_zero : pcc 0 zcr false = #[.int .i64 0, .string ⟨#[]⟩, .bool false, .int .u8 0, .int .u8 0, .int .u8 0, .int .u8 0, .int .u8 0, .int .u8 0, .int .u8 0, .int .u8 0, .int .u8 0, .int .u8 0, .int .u8 0, .int .u8 0, .int .u8 0, .int .u8 0, .int .u8 0, .int .u8 0, .int .i64 0, .bool false, .string ⟨#[]⟩, .string ⟨#[]⟩, .bool false] := rfl
theorem hparse_any (s : ByteArray) (hs : s.size <= 281474976710656) (w : World) (henv : Env w) : Calls Tryz.prog 107 #[.string s] w fun e w' => e = .returned (.tuple #[cv (fin s).1, .int .i64 (fin s).2.1, .int .i64 (fin s).2.2]) /\ Ext w w' := by
 go_enter Tryz.func107, Tryz.ntmps107
 go_upto_region 1 with fail
 rw [← crc_zero]
 apply wp_scope_straight
 go_upto_region 2 with fail
 rw [← pcc_zero]
 go_wp2_with fail
 go_step3
 go_wp2_with fail
 have hx := ((Ext.refl w).alloc (.cells (crc zcr) 49)).alloc (.cells (pcc 0 zcr false) 181)
 have hb1 := (Blk.new w (crc zcr) 49).ext ((Ext.refl _).alloc (.cells (pcc 0 zcr false) 181))
 have hb2 := Blk.new (w.alloc (.cells (crc zcr) 49)) (pcc 0 zcr false) 181
 rw [World.size_alloc] at hb2
 generalize (w.alloc (.cells (crc zcr) 49)).alloc (.cells (pcc 0 zcr false) 181) = w0 at *
 generalize hbw : w.heap.size = b at *
 replace hbw := Nat.le_of_eq hbw
 have hwb := hbw
 have hwc : w.heap.size <= b + 1 := by omega
 have hbc : b ∉ [b + 1] := by simp
 clear hbw
 generalize b + 1 = c at *
 obtain ⟨M, hMd⟩ : ∃ M : Nat, M = min s.size 512 := ⟨_, rfl⟩
 have hM : min (s.size : Int) 512 = (M : Int) := by omega
 rw [hM]
 clear hM
 have HM := Lib.hid hMd
 have hM1 : M <= s.size := by omega
 have hM2 : M <= 512 := by omega
 clear hMd
 go_loopw [6, 7, 8, 9, 10, 11, 15] (fun start state _ _ _ _ ctr wr => ∃ (k n f : Nat) (h : Cr) (sn : Bool), k <= M /\ ctr = .int .i64 k /\ start = .int .i64 f /\ state = .int .i64 0 /\ Hid (st s k = .run n f h sn) /\ PBlk wr c n h sn /\ RBlk wr b zcr /\ Ext w wr) (fun _ _ _ _ _ _ ctr _ => M - (intOf ctr).toNat)
 case atStart => exact ⟨0, 0, 0, zcr, false, Nat.zero_le _, rfl, rfl, rfl, Lib.hid rfl, hb2, hb1, hx⟩
 case round =>
  clear hb1 hb2 hx
  obtain ⟨k, n, f, h, bs, hk, rfl, rfl, rfl, HST, hp, hr, hx⟩ := hrel
  have hcw : c < wr.heap.size := Blk.lt hp
  have hinv := inv_st s k (by unfold maxLen; omega)
  rw [HST.out] at hinv
  obtain ⟨i1, i2, i3, i4, ho⟩ := hinv
  by_cases hlt : k < M
  ·have hlt' : (k : Int) < M := by omega
   have hks : (k : Int) < s.size := by omega
   have hkM : k < min s.size 512 := by rw [← HM.out]; exact hlt
   go_upto_region 8 with fail
   go_cut [10] from 21 to 30 (fun v wc => v = .bool (acr s k) /\ wc = wr)
   case first =>
    have HA : Hid (acr s k = decide (0 < k /\ B s (k - 1) = 13)) := Lib.hid rfl
    by_cases h0 : (0 : Int) < k
    ·have e1 : ((k : Int) - 1).toNat = k - 1 := by omega
     have e2 : (k : Int) - 1 < s.size := by omega
     have HQ : Hid ((B s (k - 1) == 13) = acr s k) := Lib.hid (by
      rw [HA.out]
      by_cases q : B s (k - 1) = 13
      ·rw [decide_eq_true ⟨by omega, q⟩, beq_iff_eq]; exact q
      ·rw [decide_eq_false (fun z => q z.2), beq_eq_false_iff_ne]; exact q)
     go_wp2_with fail
     go_meet
     exact ⟨by rw [← HQ.out], rfl⟩
    ·have HQ : Hid (acr s k = false) := Lib.hid (by rw [HA.out, decide_eq_false (by omega)])
     go_wp2_with fail
     go_meet
     exact ⟨by rw [HQ.out], rfl⟩
   case rest =>
    obtain ⟨rfl, rfl⟩ := hcut
    have hvb := Lib.hid (fun (r : Bool) w => hbyte_any (B s k) (B_bd s k) (k - f) r w)
    cases ha : acr s k
    ·by_cases hc : B s k = 10
     ·have hc' : (B s k == 10) = true := by rw [beq_iff_eq]; exact hc
      have E := Lib.hid (fin_mal (show st s (k + 1) = .mal by rw [st_next, HST.out]; exact step_cr (by rw [ha, decide_eq_true hc]; simp)) hkM)
      clear ha hc
      go_upto_region 21 with fail
      by_cases hbig : (512 : Int) <= s.size
      ·go_wp2_with (first | refine wpList_store_C rfl _ _ rfl okC_zcr okC_zcr hr rfl rfl ?_)
       try rw [Exit.noGoto_ret]
       refine bodyPost_ret (res_C3 rfl rfl okC_zcr ((hr).row _)) rfl ⟨by rw [E.out]; rfl, (hx).setRow hwb _⟩
      ·go_wp2_with (first | refine wpList_store_C rfl _ _ rfl okC_zcr okC_zcr hr rfl rfl ?_)
       try rw [Exit.noGoto_ret]
       refine bodyPost_ret (res_C3 rfl rfl okC_zcr ((hr).row _)) rfl ⟨by rw [E.out]; rfl, (hx).setRow hwb _⟩
     ·have hc' : (B s k == 10) = false := by rw [beq_eq_false_iff_ne]; exact hc
      by_cases hd : B s k = 13
      ·have HN := Lib.hid (show st s (k + 1) = .run n f h bs by rw [st_next, HST.out]; exact step_go ha hc (.inl hd))
       have hd' : (B s k == 13) = true := by rw [beq_iff_eq]; exact hd
       have hd2 : (B s k != 13) = false := by rw [bne_eq_false_iff_eq]; exact hd
       clear ha hc hd
       go_wp2_with fail
       go_roundw
       case rel => exact ⟨k + 1, n, f, h, bs, by omega, by go_num, rfl, rfl, HN, hp, hr, hx⟩
       case measure => simp [intOf]; omega
      ·have hd' : (B s k == 13) = false := by rw [beq_eq_false_iff_ne]; exact hd
       have hd2 : (B s k != 13) = true := by rw [bne_iff_ne]; exact hd
       have cn := PBlk.num hp
       have hkf : ((k : Int) - f) = ((k - f : Nat) : Int) := by omega
       cases hv : vbyte (B s k) (k - f) (decide (n = 0))
       ·have E := Lib.hid (fin_mal (show st s (k + 1) = .mal by rw [st_next, HST.out]; exact step_bad ha hc hd hv) hkM)
        have K : Hid (∀ w, Calls Tryz.prog 133 #[.int .u8 (B s k), .int .i64 (k - f : Nat), .bool (decide (n = 0))] w fun e w' => e = .returned (.bool false) /\ Ext w w') := Lib.hid (fun w => by rw [← hv]; exact hvb.out _ w)
        clear ha hc hd hv hvb
        have hn0 : ((n : Int) == 0) = decide (n = 0) := by
         by_cases q : n = 0
         ·subst q; rfl
         ·rw [decide_eq_false q, beq_eq_false_iff_ne]; omega
        generalize decide (n = 0) = n0 at *
        go_upto_region 21 with (first | (go_at_call 133; refine (K.out _).mono ?_; rintro e w2 ⟨rfl, hx2⟩; have hr2 := Blk.ext hr hx2; have hxx2 := hx.trans hx2))
        by_cases hbig : (512 : Int) <= s.size
        ·go_wp2_with (first | refine wpList_store_C rfl _ _ rfl okC_zcr okC_zcr hr2 rfl rfl ?_)
         try rw [Exit.noGoto_ret]
         refine bodyPost_ret (res_C3 rfl rfl okC_zcr ((hr2).row _)) rfl ⟨by rw [E.out]; rfl, (hxx2).setRow hwb _⟩
        ·go_wp2_with (first | refine wpList_store_C rfl _ _ rfl okC_zcr okC_zcr hr2 rfl rfl ?_)
         try rw [Exit.noGoto_ret]
         refine bodyPost_ret (res_C3 rfl rfl okC_zcr ((hr2).row _)) rfl ⟨by rw [E.out]; rfl, (hxx2).setRow hwb _⟩
       ·have HN := Lib.hid (show st s (k + 1) = .run n f h bs by rw [st_next, HST.out]; exact step_go ha hc (.inr hv))
        have K : Hid (∀ w, Calls Tryz.prog 133 #[.int .u8 (B s k), .int .i64 (k - f : Nat), .bool (decide (n = 0))] w fun e w' => e = .returned (.bool true) /\ Ext w w') := Lib.hid (fun w => by rw [← hv]; exact hvb.out _ w)
        clear ha hc hd hv hvb
        have hn0 : ((n : Int) == 0) = decide (n = 0) := by
         by_cases q : n = 0
         ·subst q; rfl
         ·rw [decide_eq_false q, beq_eq_false_iff_ne]; omega
        generalize decide (n = 0) = n0 at *
        go_wp2_with (first | (go_at_call 133; refine (K.out _).mono ?_; rintro e w2 ⟨rfl, hx2⟩; have hr2 := Blk.ext hr hx2; have hxx2 := hx.trans hx2; have hp2 := Blk.ext hp hx2))
        go_roundw
        case rel => exact ⟨k + 1, n, f, h, bs, by omega, by go_num, rfl, rfl, HN, hp2, hr2, hxx2⟩
        case measure => simp [intOf]; omega
    ·have hA := acr_iff.1 ha
     by_cases hc : B s k = 10
     ·have hc' : (B s k == 10) = true := by rw [beq_iff_eq]; exact hc
      have hf1 := line_le i1 i2 ha
      have e1 : ((k : Int) - 1).toNat = k - 1 := by omega
      have q1 : (f : Int) <= (k : Int) - 1 := by omega
      have q2 : (k : Int) - 1 <= s.size := by omega
      have cn := PBlk.num hp
      have hlz : (s.extract f (k - 1)).size = k - 1 - f := by rw [ByteArray.size_extract]; omega
      have HLN : Hid (¬ (0 < n /\ k - 1 - f = 0) -> step s k (.run n f h bs) = match lineP (s.extract f (k - 1)) n h bs with | none => .mal | some (g, b) => .run (n + 1) (k + 1) g b) := Lib.hid (step_ln ha hc)
      have HDN : Hid (0 < n -> k - 1 - f = 0 -> step s k (.run n f h bs) = .done h (k + 1)) := Lib.hid (step_dn ha hc)
      have HI4 := Lib.hid i4
      clear i2 i4 ha
      have hA0 := hA.1
      clear hA
      go_upto_region 14 with fail
      generalize s.extract f (k - 1) = ln at *
      have HLZ := Lib.hid hlz
      have hlb : ln.size <= 1000000 := by omega
      have hn6 : n <= 1000000 := by omega
      have HKM := Lib.hid hkM
      clear hc hlz i1 i3 hf1 hkM
      by_cases h0 : n = 0
      ·have hnd : Hid (¬ (0 < n /\ k - 1 - f = 0)) := Lib.hid (by omega)
       have h0' : ¬ (0 : Int) < n := by omega
       clear h0
       have K := hpl_any ln hlb henv hx hwc hn6 ho hp
       cases hL : lineP ln n h bs with
       | none =>
        have E := Lib.hid (fin_mal (show st s (k + 1) = .mal by rw [st_next, HST.out, HLN.out hnd.out, hL]) HKM.out)
        rw [hL, Option.isSome_none] at K
        have K := Lib.hid K
        clear hL
        go_upto_region 21 with (first | (go_at_call 132; refine K.out.mono ?_; rintro e w2 ⟨rfl, hl, _⟩; have hr2 := Blk.keep hr hl.1 hbc; have hx2 := hl.2))
        by_cases hbig : (512 : Int) <= s.size
        ·go_wp2_with (first | refine wpList_store_C rfl _ _ rfl okC_zcr okC_zcr hr2 rfl rfl ?_)
         try rw [Exit.noGoto_ret]
         refine bodyPost_ret (res_C3 rfl rfl okC_zcr ((hr2).row _)) rfl ⟨by rw [E.out]; rfl, (hx2).setRow hwb _⟩
        ·go_wp2_with (first | refine wpList_store_C rfl _ _ rfl okC_zcr okC_zcr hr2 rfl rfl ?_)
         try rw [Exit.noGoto_ret]
         refine bodyPost_ret (res_C3 rfl rfl okC_zcr ((hr2).row _)) rfl ⟨by rw [E.out]; rfl, (hx2).setRow hwb _⟩
       | some gb =>
        obtain ⟨g, b'⟩ := gb
        have HN := Lib.hid (show st s (k + 1) = .run (n + 1) (k + 1) g b' by rw [st_next, HST.out, HLN.out hnd.out, hL])
        rw [hL, Option.isSome_some] at K
        have K := Lib.hid K
        clear hL
        go_wp2_with (first | (go_at_call 132; refine K.out.mono ?_; rintro e w2 ⟨rfl, hl, hp2⟩; have hr2 := Blk.keep hr hl.1 hbc; have hx2 := hl.2))
        go_roundw
        case rel => exact ⟨k + 1, n + 1, k + 1, g, b', by omega, by go_num, by go_num, rfl, HN, hp2 g b' rfl, hr2, hx2⟩
        case measure => simp [intOf]; omega
      ·have h0' : (0 : Int) < n := by omega
       by_cases hz : (ln.size : Int) < 1
       ·have E := Lib.hid (fin_dn (show st s (k + 1) = .done h (k + 1) by rw [st_next, HST.out, HDN.out (by omega) (by have := HLZ.out; omega)]) HKM.out)
        have hq := B_empty ln hz
        subst hq
        clear hz
        have hrg := PBlk.range hp
        go_wp2_with (first | refine wpList_load_C rfl _ rfl ho hrg rfl ?_ | refine wpList_store_C rfl _ _ rfl okC_zcr ho hr rfl rfl ?_)
        try rw [Exit.noGoto_ret]
        refine bodyPost_ret (res_C3 rfl rfl ho (hr.row _)) rfl ⟨by rw [E.out]; rfl, hx.setRow hwb _⟩
       ·have hnd : Hid (¬ (0 < n /\ k - 1 - f = 0)) := Lib.hid (fun q => by have := HLZ.out; have := q.2; omega)
        have hq : (ln.toList == []) = false := by
         rw [beq_eq_false_iff_ne, ByteArray.toList_eq]
         intro e
         have := size_list ln
         rw [e] at this
         change ln.size = 0 at this
         omega
        clear h0
        have K := hpl_any ln hlb henv hx hwc hn6 ho hp
        cases hL : lineP ln n h bs with
        | none =>
         have E := Lib.hid (fin_mal (show st s (k + 1) = .mal by rw [st_next, HST.out, HLN.out hnd.out, hL]) HKM.out)
         rw [hL, Option.isSome_none] at K
         have K := Lib.hid K
         clear hL
         go_upto_region 21 with (first | (go_at_call 132; refine K.out.mono ?_; rintro e w2 ⟨rfl, hl, _⟩; have hr2 := Blk.keep hr hl.1 hbc; have hx2 := hl.2))
         by_cases hbig : (512 : Int) <= s.size
         ·go_wp2_with (first | refine wpList_store_C rfl _ _ rfl okC_zcr okC_zcr hr2 rfl rfl ?_)
          try rw [Exit.noGoto_ret]
          refine bodyPost_ret (res_C3 rfl rfl okC_zcr ((hr2).row _)) rfl ⟨by rw [E.out]; rfl, (hx2).setRow hwb _⟩
         ·go_wp2_with (first | refine wpList_store_C rfl _ _ rfl okC_zcr okC_zcr hr2 rfl rfl ?_)
          try rw [Exit.noGoto_ret]
          refine bodyPost_ret (res_C3 rfl rfl okC_zcr ((hr2).row _)) rfl ⟨by rw [E.out]; rfl, (hx2).setRow hwb _⟩
        | some gb =>
         obtain ⟨g, b'⟩ := gb
         have HN := Lib.hid (show st s (k + 1) = .run (n + 1) (k + 1) g b' by rw [st_next, HST.out, HLN.out hnd.out, hL])
         rw [hL, Option.isSome_some] at K
         have K := Lib.hid K
         clear hL
         go_wp2_with (first | (go_at_call 132; refine K.out.mono ?_; rintro e w2 ⟨rfl, hl, hp2⟩; have hr2 := Blk.keep hr hl.1 hbc; have hx2 := hl.2))
         go_roundw
         case rel => exact ⟨k + 1, n + 1, k + 1, g, b', by omega, by go_num, by go_num, rfl, HN, hp2 g b' rfl, hr2, hx2⟩
         case measure => simp [intOf]; omega
     ·have hc' : (B s k == 10) = false := by rw [beq_eq_false_iff_ne]; exact hc
      have E := Lib.hid (fin_mal (show st s (k + 1) = .mal by rw [st_next, HST.out]; exact step_cr (by rw [ha, decide_eq_false hc]; simp)) hkM)
      clear ha hc hA
      go_upto_region 21 with fail
      by_cases hbig : (512 : Int) <= s.size
      ·go_wp2_with (first | refine wpList_store_C rfl _ _ rfl okC_zcr okC_zcr hr rfl rfl ?_)
       try rw [Exit.noGoto_ret]
       refine bodyPost_ret (res_C3 rfl rfl okC_zcr ((hr).row _)) rfl ⟨by rw [E.out]; rfl, (hx).setRow hwb _⟩
      ·go_wp2_with (first | refine wpList_store_C rfl _ _ rfl okC_zcr okC_zcr hr rfl rfl ?_)
       try rw [Exit.noGoto_ret]
       refine bodyPost_ret (res_C3 rfl rfl okC_zcr ((hr).row _)) rfl ⟨by rw [E.out]; rfl, (hx).setRow hwb _⟩
  ·obtain rfl : k = M := by omega
   have E0 := HST.out
   rw [HM.out] at E0
   have E0 := fin_run E0
   have hnl : ¬ ((k : Nat) : Int) < k := by omega
   by_cases hbig : (512 : Int) <= s.size
   ·rw [if_pos (by omega)] at E0
    have E := Lib.hid E0
    clear E0
    go_wp2_with (first | refine wpList_store_C rfl _ _ rfl okC_zcr okC_zcr hr rfl rfl ?_)
    try rw [Exit.noGoto_ret]
    refine bodyPost_ret (res_C3 rfl rfl okC_zcr (hr.row _)) rfl ⟨by rw [E.out]; rfl, hx.setRow hwb _⟩
   ·rw [if_neg (by omega)] at E0
    have E := Lib.hid E0
    clear E0
    go_wp2_with (first | refine wpList_store_C rfl _ _ rfl okC_zcr okC_zcr hr rfl rfl ?_)
    try rw [Exit.noGoto_ret]
    refine bodyPost_ret (res_C3 rfl rfl okC_zcr (hr.row _)) rfl ⟨by rw [E.out]; rfl, hx.setRow hwb _⟩
open Go.RowKit Go.Joins
def prt (x : Int) : Bool := decide ((32 <= x /\ x <= 126) ∨ x = 9)
def badB (s : ByteArray) (k : Nat) : Bool := (acr s k != decide (B s k = 10)) || (!decide (B s k = 10) && (!decide (B s k = 13) && !prt (B s k)))
theorem vbyte_np {c : Int} {p : Nat} {r : Bool} (h : prt c = false) : vbyte c p r = false := by
 unfold prt at h
 rw [decide_eq_false_iff_not] at h
 unfold vbyte
 split
 ·rename_i q
  have key : ∀ j : Fin 8, 32 <= B connS j.1 /\ B connS j.1 <= 126 := by decide +kernel
  have := key ⟨p, q.2⟩
  rw [decide_eq_false_iff_not]
  intro e
  rw [← e] at this
  exact h (.inl this)
 ·rw [decide_eq_false_iff_not]; exact h
theorem step_badB {s : ByteArray} {k n f : Nat} {h : Cr} {b : Bool} (e : badB s k = true) : step s k (.run n f h b) = .mal := by
 by_cases ha : acr s k ≠ decide (B s k = 10)
 ·exact step_cr ha
 ·have ha' := Decidable.not_not.1 ha
  unfold badB at e
  rw [ha'] at e
  simp only [bne_self_eq_false, Bool.false_or, Bool.and_eq_true, Bool.not_eq_true', decide_eq_false_iff_not] at e
  exact step_bad (by rw [ha', decide_eq_false e.1]) e.1 e.2.1 (vbyte_np e.2.2)
theorem badB_no {s : ByteArray} {k : Nat} (e : badB s k = false) : acr s k = decide (B s k = 10) /\ (B s k = 10 ∨ B s k = 13 ∨ prt (B s k) = true) := by
 unfold badB at e
 rw [Bool.or_eq_false_iff, bne_eq_false_iff_eq] at e
 refine ⟨e.1, ?_⟩
 by_cases h1 : B s k = 10
 ·exact .inl h1
 ·by_cases h2 : B s k = 13
  ·exact .inr (.inl h2)
  ·right; right
   have := e.2
   rw [decide_eq_false h1, decide_eq_false h2] at this
   simpa using this
theorem vbyte_in {c : Int} {p : Nat} (h : prt c = true) (q : ¬ p < 8 ∨ c = B connS p) {r : Bool} : vbyte c p r = true := by
 unfold prt at h
 unfold vbyte
 split
 ·rename_i z
  rcases q with q | q
  ·exact absurd z.2 q
  ·exact decide_eq_true q
 ·exact h
theorem vbyte_req {c : Int} {p : Nat} (h : prt c = true) : vbyte c p false = true := by
 unfold vbyte; rw [if_neg (by simp)]; exact h
theorem vbyte_bad {c : Int} {p : Nat} (hp : p < 8) (q : c ≠ B connS p) : vbyte c p true = false := by
 unfold vbyte; rw [if_pos ⟨rfl, hp⟩, decide_eq_false q]
theorem rparse_conn (s : ByteArray) (hs : s.size <= 281474976710656) (w : World) : Calls Tryz.prog 113 #[.string s] w fun e w' => e = .returned (.tuple #[cv (fin s).1, .int .i64 (fin s).2.1, .int .i64 (fin s).2.2]) /\ Ext w w' := by
 go_enter Tryz.func113, Tryz.ntmps113
 go_upto_region 2 with fail
 rw [← crc_zero]
 have hx := ((Ext.refl w).alloc (.cells (crc zcr) 49)).alloc (.cells (crc zcr) 49)
 have hb1 := (Blk.new w (crc zcr) 49).ext ((Ext.refl _).alloc (.cells (crc zcr) 49))
 have hb2 := Blk.new (w.alloc (.cells (crc zcr) 49)) (crc zcr) 49
 rw [World.size_alloc] at hb2
 generalize (w.alloc (.cells (crc zcr) 49)).alloc (.cells (crc zcr) 49) = w0 at *
 generalize hbw : w.heap.size = b at *
 replace hbw := Nat.le_of_eq hbw
 go_upto_region 3 with fail
 have hx2 := hx.alloc (.cells #[Value.bool false] 4)
 have hr := hb1.alloc (.cells #[Value.bool false] 4)
 have hh := hb2.alloc (.cells #[Value.bool false] 4)
 have hd := Blk.new w0 #[Value.bool false] 4
 have hl1 := hb2.lt
 have hwb := hbw
 have hwc : w.heap.size <= b + 1 := by omega
 have hwd : w.heap.size <= w0.heap.size := by omega
 have hcd : b + 1 ≠ w0.heap.size := by omega
 have hbn : b ∉ [b + 1, w0.heap.size] := by simp; omega
 clear hb1 hb2 hbw hx hl1
 generalize b + 1 = c at *
 generalize w0.heap.size = d at *
 generalize w0.alloc (.cells #[Value.bool false] 4) = wA at *
 obtain ⟨M, hMd⟩ : ∃ M : Nat, M = min s.size 512 := ⟨_, rfl⟩
 have HM := Lib.hid hMd
 have hM1 : M <= s.size := by omega
 have hM2 : M <= 512 := by omega
 clear hMd
 go_wp2_with fail
 go_loopw [7, 8, 9, 10, 11] (fun lines start ctr _ _ wr => ∃ (k n f : Nat) (h : Cr) (sn : Bool), k <= M /\ ctr = .int .i64 k /\ start = .int .i64 f /\ lines = .int .i64 n /\ Hid (st s k = .run n f h sn) /\ RBlk wr c h /\ Blk wr d [.bool sn] 4 /\ RBlk wr b zcr /\ Ext w wr) (fun _ _ ctr _ _ _ => M - (intOf ctr).toNat)
 case atStart => exact ⟨0, 0, 0, zcr, false, Nat.zero_le _, rfl, rfl, rfl, Lib.hid rfl, hh, hd, hr, hx2⟩
 case round =>
  clear hh hd hr hx2
  obtain ⟨k, n, f, h, sn, hk, rfl, rfl, rfl, HST, hh, hd, hr, hx⟩ := hrel
  have hinv := inv_st s k (by unfold maxLen; omega)
  rw [HST.out] at hinv
  obtain ⟨i1, i2, i3, i4, ho⟩ := hinv
  by_cases hlt : k < M
  ·have hlt' : (k : Int) < 512 := by omega
   have hks : (k : Int) < s.size := by omega
   have HKM : Hid (k < min s.size 512) := Lib.hid (by rw [← HM.out]; exact hlt)
   have HI2 := Lib.hid i2
   have HI4 := Lib.hid i4
   clear i2 i4
   go_upto_block 2 with fail
   go_step
   go_step
   go_cut [25] from 26 to 69 (fun v wc => v = .bool (badB s k) /\ wc = wr)
   case first =>
    have HA : Hid (acr s k = decide (0 < k /\ B s (k - 1) = 13)) := Lib.hid rfl
    have HBB : Hid (badB s k = ((acr s k != decide (B s k = 10)) || (!decide (B s k = 10) && (!decide (B s k = 13) && !prt (B s k))))) := Lib.hid rfl
    have HP : Hid (prt (B s k) = decide ((32 <= B s k /\ B s k <= 126) ∨ B s k = 9)) := Lib.hid rfl
    by_cases h0 : (0 : Int) < k
    ·have e1 : ((k : Int) - 1).toNat = k - 1 := by omega
     have e2 : (k : Int) - 1 < s.size := by omega
     have h00 : ((k : Int) == 0) = false := by rw [beq_eq_false_iff_ne]; omega
     have HA2 : Hid (acr s k = decide (B s (k - 1) = 13)) := Lib.hid (by
      rw [HA.out]
      by_cases q : B s (k - 1) = 13
      ·rw [decide_eq_true q, decide_eq_true ⟨by omega, q⟩]
      ·rw [decide_eq_false q, decide_eq_false (fun z => q z.2)])
     by_cases hp : B s (k - 1) = 13
     ·have HA3 : Hid (acr s k = true) := Lib.hid (by rw [HA2.out, decide_eq_true hp])
      have hp1 : (B s (k - 1) == 13) = true := by rw [beq_iff_eq]; exact hp
      have hp2 : (B s (k - 1) != 13) = false := by rw [bne_eq_false_iff_eq]; exact hp
      clear hp
      by_cases hc : B s k = 10
      ·have E : Hid (badB s k = false) := Lib.hid (by rw [HBB.out, HA3.out, decide_eq_true hc]; rfl)
       have c1 : (B s k == 10) = true := by rw [beq_iff_eq]; exact hc
       have c2 : (B s k != 10) = false := by rw [bne_eq_false_iff_eq]; exact hc
       clear hc
       go_wp2_with fail
       go_meet
       exact ⟨by first | (rw [E.out]; done) | (rw [E.out]; rfl), rfl⟩
      ·have E : Hid (badB s k = true) := Lib.hid (by rw [HBB.out, HA3.out, decide_eq_false hc]; rfl)
       have c1 : (B s k == 10) = false := by rw [beq_eq_false_iff_ne]; exact hc
       have c2 : (B s k != 10) = true := by rw [bne_iff_ne]; exact hc
       clear hc
       go_wp2_with fail
       go_meet
       exact ⟨by first | (rw [E.out]; done) | (rw [E.out]; rfl), rfl⟩
     ·have HA3 : Hid (acr s k = false) := Lib.hid (by rw [HA2.out, decide_eq_false hp])
      have hp1 : (B s (k - 1) == 13) = false := by rw [beq_eq_false_iff_ne]; exact hp
      have hp2 : (B s (k - 1) != 13) = true := by rw [bne_iff_ne]; exact hp
      clear hp
      by_cases hc : B s k = 10
      ·have E : Hid (badB s k = true) := Lib.hid (by rw [HBB.out, HA3.out, decide_eq_true hc]; rfl)
       have c1 : (B s k == 10) = true := by rw [beq_iff_eq]; exact hc
       have c2 : (B s k != 10) = false := by rw [bne_eq_false_iff_eq]; exact hc
       clear hc
       go_wp2_with fail
       go_meet
       exact ⟨by first | (rw [E.out]; done) | (rw [E.out]; rfl), rfl⟩
      ·have c1 : (B s k == 10) = false := by rw [beq_eq_false_iff_ne]; exact hc
       have c2 : (B s k != 10) = true := by rw [bne_iff_ne]; exact hc
       have E1 : Hid (badB s k = (!decide (B s k = 13) && !prt (B s k))) := Lib.hid (by rw [HBB.out, HA3.out, decide_eq_false hc]; rfl)
       clear hc
       by_cases hd13 : B s k = 13
       ·have E : Hid (badB s k = false) := Lib.hid (by rw [E1.out, decide_eq_true hd13]; rfl)
        have d1 : (B s k == 13) = true := by rw [beq_iff_eq]; exact hd13
        have d2 : (B s k != 13) = false := by rw [bne_eq_false_iff_eq]; exact hd13
        clear hd13
        go_wp2_with fail
        go_meet
        exact ⟨by first | (rw [E.out]; done) | (rw [E.out]; rfl), rfl⟩
       ·have d1 : (B s k == 13) = false := by rw [beq_eq_false_iff_ne]; exact hd13
        have d2 : (B s k != 13) = true := by rw [bne_iff_ne]; exact hd13
        have E2 : Hid (badB s k = !prt (B s k)) := Lib.hid (by rw [E1.out, decide_eq_false hd13]; rfl)
        clear hd13
        by_cases h9 : B s k = 9
        ·have E : Hid (badB s k = false) := Lib.hid (by rw [E2.out, HP.out, decide_eq_true (.inr h9)]; rfl)
         have d3 : (B s k != 9) = false := by rw [bne_eq_false_iff_eq]; exact h9
         clear h9
         go_wp2_with fail
         go_meet
         exact ⟨by first | (rw [E.out]; done) | (rw [E.out]; rfl), rfl⟩
        ·have d3 : (B s k != 9) = true := by rw [bne_iff_ne]; exact h9
         by_cases r1 : 32 <= B s k
         ·have r1' : decide (B s k < 32) = false := decide_eq_false (by omega)
          by_cases r2 : B s k <= 126
          ·have E : Hid (badB s k = false) := Lib.hid (by rw [E2.out, HP.out, decide_eq_true (.inl ⟨r1, r2⟩)]; rfl)
           have r2' : decide (126 < B s k) = false := decide_eq_false (by omega)
           clear h9
           go_wp2_with fail
           go_meet
           exact ⟨by first | (rw [E.out]; done) | (rw [E.out]; rfl), rfl⟩
          ·have E : Hid (badB s k = true) := Lib.hid (by rw [E2.out, HP.out, decide_eq_false (by omega)]; rfl)
           have r2' : decide (126 < B s k) = true := decide_eq_true (by omega)
           have r3' : 126 < B s k := by omega
           clear h9 r2
           go_wp2_with fail
           go_meet
           exact ⟨by first | (rw [E.out]; done) | (rw [E.out]; rfl), rfl⟩
         ·have E : Hid (badB s k = true) := Lib.hid (by rw [E2.out, HP.out, decide_eq_false (by omega)]; rfl)
          have r3' : B s k < 32 := by omega
          clear h9 r1
          go_wp2_with fail
          go_meet
          exact ⟨by first | (rw [E.out]; done) | (rw [E.out]; rfl), rfl⟩
    ·have h00 : ((k : Int) == 0) = true := by rw [beq_iff_eq]; omega
     have HA3 : Hid (acr s k = false) := Lib.hid (by rw [HA.out, decide_eq_false (by omega)])
     by_cases hc : B s k = 10
     ·have E : Hid (badB s k = true) := Lib.hid (by rw [HBB.out, HA3.out, decide_eq_true hc]; rfl)
      have c1 : (B s k == 10) = true := by rw [beq_iff_eq]; exact hc
      have c2 : (B s k != 10) = false := by rw [bne_eq_false_iff_eq]; exact hc
      clear hc
      go_wp2_with fail
      go_meet
      exact ⟨by first | (rw [E.out]; done) | (rw [E.out]; rfl), rfl⟩
     ·have c1 : (B s k == 10) = false := by rw [beq_eq_false_iff_ne]; exact hc
      have c2 : (B s k != 10) = true := by rw [bne_iff_ne]; exact hc
      have E1 : Hid (badB s k = (!decide (B s k = 13) && !prt (B s k))) := Lib.hid (by rw [HBB.out, HA3.out, decide_eq_false hc]; rfl)
      clear hc
      by_cases hd13 : B s k = 13
      ·have E : Hid (badB s k = false) := Lib.hid (by rw [E1.out, decide_eq_true hd13]; rfl)
       have d1 : (B s k == 13) = true := by rw [beq_iff_eq]; exact hd13
       have d2 : (B s k != 13) = false := by rw [bne_eq_false_iff_eq]; exact hd13
       clear hd13
       go_wp2_with fail
       go_meet
       exact ⟨by first | (rw [E.out]; done) | (rw [E.out]; rfl), rfl⟩
      ·have d1 : (B s k == 13) = false := by rw [beq_eq_false_iff_ne]; exact hd13
       have d2 : (B s k != 13) = true := by rw [bne_iff_ne]; exact hd13
       have E2 : Hid (badB s k = !prt (B s k)) := Lib.hid (by rw [E1.out, decide_eq_false hd13]; rfl)
       clear hd13
       by_cases h9 : B s k = 9
       ·have E : Hid (badB s k = false) := Lib.hid (by rw [E2.out, HP.out, decide_eq_true (.inr h9)]; rfl)
        have d3 : (B s k != 9) = false := by rw [bne_eq_false_iff_eq]; exact h9
        clear h9
        go_wp2_with fail
        go_meet
        exact ⟨by first | (rw [E.out]; done) | (rw [E.out]; rfl), rfl⟩
       ·have d3 : (B s k != 9) = true := by rw [bne_iff_ne]; exact h9
        by_cases r1 : 32 <= B s k
        ·have r1' : decide (B s k < 32) = false := decide_eq_false (by omega)
         by_cases r2 : B s k <= 126
         ·have E : Hid (badB s k = false) := Lib.hid (by rw [E2.out, HP.out, decide_eq_true (.inl ⟨r1, r2⟩)]; rfl)
          have r2' : decide (126 < B s k) = false := decide_eq_false (by omega)
          clear h9
          go_wp2_with fail
          go_meet
          exact ⟨by first | (rw [E.out]; done) | (rw [E.out]; rfl), rfl⟩
         ·have E : Hid (badB s k = true) := Lib.hid (by rw [E2.out, HP.out, decide_eq_false (by omega)]; rfl)
          have r2' : decide (126 < B s k) = true := decide_eq_true (by omega)
          have r3' : 126 < B s k := by omega
          clear h9 r2
          go_wp2_with fail
          go_meet
          exact ⟨by first | (rw [E.out]; done) | (rw [E.out]; rfl), rfl⟩
        ·have E : Hid (badB s k = true) := Lib.hid (by rw [E2.out, HP.out, decide_eq_false (by omega)]; rfl)
         have r3' : B s k < 32 := by omega
         clear h9 r1
         go_wp2_with fail
         go_meet
         exact ⟨by first | (rw [E.out]; done) | (rw [E.out]; rfl), rfl⟩
   case rest =>
    obtain ⟨rfl, hwe⟩ := hcut
    subst hwe
    cases hbad : badB s k
    ·obtain ⟨hac, hok⟩ := badB_no hbad
     clear hbad
     by_cases hc : B s k = 10
     ·have ha : acr s k = true := by rw [hac, decide_eq_true hc]
      have hc' : (B s k == 10) = true := by rw [beq_iff_eq]; exact hc
      have hf1 := line_le i1 HI2.out ha
      have hA0 := (acr_iff.1 ha).1
      have e1 : ((k : Int) - 1).toNat = k - 1 := by omega
      have q1 : (f : Int) <= (k : Int) - 1 := by omega
      have q2 : (k : Int) - 1 <= s.size := by omega
      have hlz : (s.extract f (k - 1)).size = k - 1 - f := by rw [ByteArray.size_extract]; omega
      have HLN : Hid (¬ (0 < n /\ k - 1 - f = 0) -> step s k (.run n f h sn) = match lineP (s.extract f (k - 1)) n h sn with | none => .mal | some (g, b) => .run (n + 1) (k + 1) g b) := Lib.hid (step_ln ha hc)
      have HDN : Hid (0 < n -> k - 1 - f = 0 -> step s k (.run n f h sn) = .done h (k + 1)) := Lib.hid (step_dn ha hc)
      clear ha hac hok hc
      go_upto_region 14 with fail
      generalize s.extract f (k - 1) = ln at *
      have HLZ := Lib.hid hlz
      have hlb : ln.size <= 1000000 := by omega
      have hn6 : n <= 1000000 := by omega
      clear hlz i1 i3 hf1
      by_cases hz : (ln.size : Int) < 1
      ·have hq := B_empty ln hz
       by_cases h0 : n = 0
       ·have hnd : Hid (¬ (0 < n /\ k - 1 - f = 0)) := Lib.hid (by omega)
        have h0' : ¬ (0 : Int) < n := by omega
        have hqb : (ln.toList == []) = true := by rw [hq, ByteArray.toList_eq]; rfl
        clear h0 hz hq
        have K := racc_any ln hlb hx hwc hwd hcd hn6 ho hh hd
        cases hL : lineP ln n h sn with
        | none =>
         have E := Lib.hid (fin_mal (show st s (k + 1) = .mal by rw [st_next, HST.out, HLN.out hnd.out, hL]) HKM.out)
         rw [hL, Option.isSome_none] at K
         have K := Lib.hid K
         clear hL
         go_wp2_with (first | (go_at_call 136; refine K.out.mono ?_; rintro e w2 ⟨rfl, hl, _⟩; have hr2 := Blk.keep hr hl.1 hbn; have hx2 := hl.2) | refine wpList_store_C rfl _ _ rfl okC_zcr okC_zcr hr2 rfl rfl ?_)
         refine bodyPost_ret (res_C3 rfl rfl okC_zcr ((hr2).row _)) rfl ⟨by rw [E.out]; rfl, (hx2).setRow hwb _⟩
        | some gb =>
         obtain ⟨g, b'⟩ := gb
         have HN := Lib.hid (show st s (k + 1) = .run (n + 1) (k + 1) g b' by rw [st_next, HST.out, HLN.out hnd.out, hL])
         rw [hL, Option.isSome_some] at K
         have K := Lib.hid K
         clear hL
         go_wp2_with (first | (go_at_call 136; refine K.out.mono ?_; rintro e w2 ⟨rfl, hl, hp2⟩; have hr2 := Blk.keep hr hl.1 hbn; have hx2 := hl.2))
         go_roundw
         case rel => exact ⟨k + 1, n + 1, k + 1, g, b', by omega, by go_num, by go_num, by go_num, HN, (hp2 g b' rfl).1, (hp2 g b' rfl).2, hr2, hx2⟩
         case measure => simp [intOf]; omega
       ·have h0' : (0 : Int) < n := by omega
        have E := Lib.hid (fin_dn (show st s (k + 1) = .done h (k + 1) by rw [st_next, HST.out, HDN.out (by omega) (by have := HLZ.out; omega)]) HKM.out)
        subst hq
        clear h0 hz
        have hrg := RBlk.range hh
        go_wp2_with (first | refine wpList_load_C rfl _ rfl ho hrg rfl ?_ | refine wpList_store_C rfl _ _ rfl okC_zcr ho hr rfl rfl ?_)
        refine bodyPost_ret (res_C3 rfl rfl ho (hr.row _)) rfl ⟨by rw [E.out]; rfl, hx.setRow hwb _⟩
      ·have hnd : Hid (¬ (0 < n /\ k - 1 - f = 0)) := Lib.hid (fun q => by have := HLZ.out; have := q.2; omega)
       have hq : (ln.toList == []) = false := by
        rw [beq_eq_false_iff_ne, ByteArray.toList_eq]
        intro e
        have := size_list ln
        rw [e] at this
        change ln.size = 0 at this
        omega
       have K := racc_any ln hlb hx hwc hwd hcd hn6 ho hh hd
       cases hL : lineP ln n h sn with
       | none =>
        have E := Lib.hid (fin_mal (show st s (k + 1) = .mal by rw [st_next, HST.out, HLN.out hnd.out, hL]) HKM.out)
        rw [hL, Option.isSome_none] at K
        have K := Lib.hid K
        clear hL
        go_wp2_with (first | (go_at_call 136; refine K.out.mono ?_; rintro e w2 ⟨rfl, hl, _⟩; have hr2 := Blk.keep hr hl.1 hbn; have hx2 := hl.2) | refine wpList_store_C rfl _ _ rfl okC_zcr okC_zcr hr2 rfl rfl ?_)
        refine bodyPost_ret (res_C3 rfl rfl okC_zcr ((hr2).row _)) rfl ⟨by rw [E.out]; rfl, (hx2).setRow hwb _⟩
       | some gb =>
        obtain ⟨g, b'⟩ := gb
        have HN := Lib.hid (show st s (k + 1) = .run (n + 1) (k + 1) g b' by rw [st_next, HST.out, HLN.out hnd.out, hL])
        rw [hL, Option.isSome_some] at K
        have K := Lib.hid K
        clear hL
        go_wp2_with (first | (go_at_call 136; refine K.out.mono ?_; rintro e w2 ⟨rfl, hl, hp2⟩; have hr2 := Blk.keep hr hl.1 hbn; have hx2 := hl.2))
        go_roundw
        case rel => exact ⟨k + 1, n + 1, k + 1, g, b', by omega, by go_num, by go_num, by go_num, HN, (hp2 g b' rfl).1, (hp2 g b' rfl).2, hr2, hx2⟩
        case measure => simp [intOf]; omega
     ·have ha : acr s k = false := by rw [hac, decide_eq_false hc]
      have hc' : (B s k == 10) = false := by rw [beq_eq_false_iff_ne]; exact hc
      by_cases hd13 : B s k = 13
      ·have HN := Lib.hid (show st s (k + 1) = .run n f h sn by rw [st_next, HST.out]; exact step_go ha hc (.inl hd13))
       have d1 : (B s k == 13) = true := by rw [beq_iff_eq]; exact hd13
       have d2 : (B s k != 13) = false := by rw [bne_eq_false_iff_eq]; exact hd13
       clear ha hc hd13 hac hok
       by_cases h0 : n = 0
       ·have h0' : ((n : Int) == 0) = true := by rw [beq_iff_eq]; omega
        clear h0
        go_wp2_with fail
        go_roundw
        case rel => exact ⟨k + 1, n, f, h, sn, by omega, by go_num, rfl, rfl, HN, hh, hd, hr, hx⟩
        case measure => simp [intOf]; omega
       ·have h0' : ((n : Int) == 0) = false := by rw [beq_eq_false_iff_ne]; omega
        clear h0
        go_wp2_with fail
        go_roundw
        case rel => exact ⟨k + 1, n, f, h, sn, by omega, by go_num, rfl, rfl, HN, hh, hd, hr, hx⟩
        case measure => simp [intOf]; omega
      ·have hpr : prt (B s k) = true := by
        rcases hok with q | q | q
        ·exact absurd q hc
        ·exact absurd q hd13
        ·exact q
       have d1 : (B s k == 13) = false := by rw [beq_eq_false_iff_ne]; exact hd13
       have d2 : (B s k != 13) = true := by rw [bne_iff_ne]; exact hd13
       by_cases h0 : n = 0
       ·have h0' : ((n : Int) == 0) = true := by rw [beq_iff_eq]; omega
        have hf0 := HI4.out h0
        have hkf : k - f = k := by omega
        by_cases h8 : k < 8
        ·have h8' : (k : Int) < 8 := by omega
         by_cases hw : B s k = B connS k
         ·have HN := Lib.hid (show st s (k + 1) = .run n f h sn by rw [st_next, HST.out]; exact step_go ha hc (.inr (vbyte_in hpr (.inr (by rw [hkf]; exact hw)))))
          have w1 : (B s k != B ⟨#[67, 79, 78, 78, 69, 67, 84, 32]⟩ k) = false := by rw [bne_eq_false_iff_eq]; exact hw
          clear ha hc hd13 hac hok hw h0 hf0 hkf hpr
          go_wp2_with fail
          go_roundw
          case rel => exact ⟨k + 1, n, f, h, sn, by omega, by go_num, rfl, rfl, HN, hh, hd, hr, hx⟩
          case measure => simp [intOf]; omega
         ·have E := Lib.hid (fin_mal (show st s (k + 1) = .mal by rw [st_next, HST.out]; exact step_bad ha hc hd13 (by rw [hkf, decide_eq_true h0]; exact vbyte_bad h8 hw)) HKM.out)
          have w1 : (B s k != B ⟨#[67, 79, 78, 78, 69, 67, 84, 32]⟩ k) = true := by rw [bne_iff_ne]; exact hw
          clear ha hc hd13 hac hok hw h0 hf0 hkf hpr
          go_wp2_with (first | refine wpList_store_C rfl _ _ rfl okC_zcr okC_zcr hr rfl rfl ?_)
          refine bodyPost_ret (res_C3 rfl rfl okC_zcr ((hr).row _)) rfl ⟨by rw [E.out]; rfl, (hx).setRow hwb _⟩
        ·have HN := Lib.hid (show st s (k + 1) = .run n f h sn by rw [st_next, HST.out]; exact step_go ha hc (.inr (vbyte_in hpr (.inl (by rw [hkf]; exact h8)))))
         have h8' : ¬ (k : Int) < 8 := by omega
         have h8d : decide ((k : Int) < 8) = false := decide_eq_false h8'
         clear ha hc hd13 hac hok h0 hf0 hkf hpr
         go_wp2_with fail
         go_roundw
         case rel => exact ⟨k + 1, n, f, h, sn, by omega, by go_num, rfl, rfl, HN, hh, hd, hr, hx⟩
         case measure => simp [intOf]; omega
       ·have h0' : ((n : Int) == 0) = false := by rw [beq_eq_false_iff_ne]; omega
        have HN := Lib.hid (show st s (k + 1) = .run n f h sn by rw [st_next, HST.out]; exact step_go ha hc (.inr (by rw [decide_eq_false h0]; exact vbyte_req hpr)))
        clear ha hc hd13 hac hok h0 hpr
        go_wp2_with fail
        go_roundw
        case rel => exact ⟨k + 1, n, f, h, sn, by omega, by go_num, rfl, rfl, HN, hh, hd, hr, hx⟩
        case measure => simp [intOf]; omega
    ·have E := Lib.hid (fin_mal (show st s (k + 1) = .mal by rw [st_next, HST.out]; exact step_badB hbad) HKM.out)
     clear hbad
     go_wp2_with (first | refine wpList_store_C rfl _ _ rfl okC_zcr okC_zcr hr rfl rfl ?_)
     refine bodyPost_ret (res_C3 rfl rfl okC_zcr ((hr).row _)) rfl ⟨by rw [E.out]; rfl, (hx).setRow hwb _⟩
  ·obtain rfl : k = M := by omega
   have E0 := HST.out
   rw [HM.out] at E0
   have E0 := fin_run E0
   have HKk := HM.out
   by_cases hbig : (512 : Int) <= s.size
   ·rw [if_pos (by omega)] at E0
    have E := Lib.hid E0
    obtain rfl : k = 512 := by omega
    have HQ := Lib.hid HKk
    clear E0 HKk hlt
    by_cases hs5 : ((512 : Nat) : Int) < s.size
    ·skip
     go_wp2_with (first | refine wpList_store_C rfl _ _ rfl okC_zcr okC_zcr hr rfl rfl ?_)
     refine bodyPost_ret (res_C3 rfl rfl okC_zcr ((hr).row _)) rfl ⟨by rw [E.out]; rfl, (hx).setRow hwb _⟩
    ·skip
     go_wp2_with (first | refine wpList_store_C rfl _ _ rfl okC_zcr okC_zcr hr rfl rfl ?_)
     refine bodyPost_ret (res_C3 rfl rfl okC_zcr ((hr).row _)) rfl ⟨by rw [E.out]; rfl, (hx).setRow hwb _⟩
   ·rw [if_neg (by omega)] at E0
    have E := Lib.hid E0
    have hnl : ¬ (k : Int) < s.size := by omega
    have hnld : decide ((k : Int) < s.size) = false := decide_eq_false hnl
    clear E0 HKk hlt
    go_wp2_with (first | refine wpList_store_C rfl _ _ rfl okC_zcr okC_zcr hr rfl rfl ?_)
    refine bodyPost_ret (res_C3 rfl rfl okC_zcr ((hr).row _)) rfl ⟨by rw [E.out]; rfl, (hx).setRow hwb _⟩
open Go.RowKit Go.Joins
theorem okC_fin (s : ByteArray) : okC (fin s).1 := by
 unfold fin
 have hi := inv_st s (min s.size 512) (by unfold maxLen; omega)
 generalize st s (min s.size 512) = x at *
 cases x with
 | mal => exact okC_zcr
 | run n f h b => unfold fin1; simp only; split <;> exact okC_zcr
 | done h m => exact hi.2.2
def awS : ByteArray := ⟨#[67, 79, 78, 78, 69, 67, 84, 32, 97, 46, 98, 58, 56, 48, 32, 72, 84, 84, 80, 47, 49, 46, 49, 13, 10, 112, 114, 111, 120, 121, 45, 97, 117, 116, 104, 111, 114, 105, 122, 97, 116, 105, 111, 110, 58, 32, 66, 97, 115, 105, 99, 32, 89, 84, 112, 105, 32, 13, 10, 13, 10, 120]⟩
def awC : Cr := ((⟨#[97, 46, 98]⟩, zadr, 80), true, ⟨#[97]⟩, ⟨#[98]⟩)
theorem hv1 : fin awS = (awC, 61, 1) := by decide +kernel
theorem hv2 : (fin ⟨#[71, 69, 84]⟩).2.2 = 2 := by decide +kernel
open Go.RowKit
theorem okA_pad (s : ByteArray) (f : Bool) (a n : Nat) : okA (f, pad16 s a n) := by
 refine ⟨by unfold pad16; rw [List.length_map, List.length_range], fun x hx => ?_⟩
 unfold pad16 at hx
 obtain ⟨j, _, rfl⟩ := List.mem_map.1 hx
 split
 ·exact B_bd s _
 ·omega
theorem okT_tgp (s : ByteArray) (hz : s.size <= maxLen) : okT (tgp s).1 := by
 have e : ∀ a b : Nat, i64ok (B s a * 256 + B s b) := fun a b => by
  have h1 := B_bd s a
  have h2 := B_bd s b
  unfold i64ok; omega
 unfold tgp
 split
 ·exact okT_ztgt
 ·split
  ·split
   ·exact okT_ztgt
   ·exact ⟨okA_pad _ _ _ _, e _ _, Nat.zero_le _⟩
  ·split
   ·split
    ·exact okT_ztgt
    ·exact ⟨okA_pad _ _ _ _, e _ _, Nat.zero_le _⟩
   ·split
    ·split
     ·exact okT_ztgt
     ·split
      ·exact okT_ztgt
      ·split
       ·exact okT_ztgt
       ·exact ⟨okA_zadr, e _ _, Nat.le_trans (extract_le _ _ _) hz⟩
    ·exact okT_ztgt
theorem okT_reqTail {t : Tgt} (ht : okT t) (n c : Int) : okT (reqTail t n c).1 := by
 unfold reqTail
 split
 ·exact okT_ztgt
 ·split
  ·exact okT_ztgt
  ·split
   ·exact okT_ztgt
   ·refine ⟨ht.1, ht.2.1, ?_⟩
    show (if t.1.size = 0 then t.1 else (nameP t.1).1).size <= _
    split
    ·exact ht.2.2
    ·exact Nat.le_trans (nameP_size _) ht.2.2
theorem okT_rqp (s : ByteArray) (hz : s.size <= maxLen) : okT (rqp s).1 := by
 unfold rqp
 split
 ·exact okT_ztgt
 ·split
  ·exact okT_ztgt
  ·split
   ·exact okT_ztgt
   ·split
    ·exact okT_ztgt
    ·exact okT_reqTail (okT_tgp _ (Nat.le_trans (extract_le _ _ _) hz)) _ _
def okS (s : Hst) : Prop := (0 <= s.1 /\ s.1 <= 5) /\ okT s.2.2.2.2.1 /\ (1 <= s.1 -> s.1 <= 3 -> s.2.2.1 = 1) /\ (s.2.1 = 0 ∨ s.2.1 = 1 ∨ s.2.1 = 2)
theorem okS_zhst : okS zhst := ⟨by unfold zhst; simp only; omega, okT_ztgt, fun h => by unfold zhst at h; simp only at h; omega, .inl rfl⟩
theorem okS_fail {s : Hst} (h : okS s) (w : Int) : okS (hfail s w) := ⟨by unfold hfail; simp only; omega, h.2.1, fun _ q => by unfold hfail at q; simp only at q; omega, .inr (.inr rfl)⟩
theorem okS_step {x : Txt} {tn : Tns} {s : Hst} {z : ByteArray} {o : Int × ByteArray × Hst} (hz : z.size <= maxLen) (h : okS s) (h5 : s.1 ≠ 5) (e : hstep x tn s z = some o) : okS o.2.2 := by
 have hr := okT_rqp z hz
 have hf := okC_fin z
 obtain ⟨h1, h2, h3, h4⟩ := h
 have hok : okS s := ⟨h1, h2, h3, h4⟩
 unfold hstep at e
 split at e
 ·split at e
  ·cases e
  ·split at e
   ·injection e with e; rw [← e]
    exact ⟨by simp only; omega, h2, fun _ _ => rfl, h4⟩
   ·split at e
    ·injection e with e; rw [← e]
     exact ⟨by simp only; omega, h2, fun _ q => by simp only at q; omega, h4⟩
    ·injection e with e; rw [← e]; exact okS_fail hok _
 ·split at e
  ·split at e
   ·cases e
   ·split at e
    ·injection e with e; rw [← e]; exact okS_fail hok _
    ·split at e
     ·injection e with e; rw [← e]; exact okS_fail hok _
     ·injection e with e; rw [← e]
      exact ⟨by unfold hgo; simp only; omega, h2, fun _ _ => h3 (by omega) (by omega), h4⟩
  ·split at e
   ·split at e
    ·cases e
    ·split at e
     ·injection e with e; rw [← e]; exact okS_fail hok _
     ·split at e
      ·injection e with e; rw [← e]; exact okS_fail hok _
      ·injection e with e; rw [← e]
       exact ⟨by simp only; omega, h2, fun _ _ => h3 (by omega) (by omega), h4⟩
   ·split at e
    ·split at e
     ·cases e
     ·split at e
      ·injection e with e; rw [← e]; exact okS_fail hok _
      ·split at e
       ·injection e with e; rw [← e]
        exact ⟨by unfold hdone; simp only; omega, hr, fun _ q => by unfold hdone at q; simp only at q; omega, .inr (.inl rfl)⟩
       ·injection e with e; rw [← e]; exact okS_fail hok _
    ·split at e
     ·cases e
     ·split at e
      ·injection e with e; rw [← e]; exact okS_fail hok _
      ·split at e
       ·injection e with e; rw [← e]; exact okS_fail hok _
       ·injection e with e; rw [← e]
        exact ⟨by simp only; omega, hf.1, fun _ q => by simp only at q; omega, .inr (.inl rfl)⟩
theorem Steps.snoc {x : Txt} {tn : Tns} {s s' : Hst} {z o : ByteArray} {n : Nat} (k : Steps x tn s z n o s') (h5 : s'.1 ≠ 5) {a : Int × ByteArray × Hst} (e : hstep x tn s' (z.extract n z.size) = some a) : Steps x tn s z (n + a.1.toNat) (o ++ a.2.1) a.2.2 := by
 have e1 : a.1.toNat = a.1.toNat + 0 := rfl
 have e2 : a.2.1 = a.2.1 ++ ⟨#[]⟩ := ByteArray.append_empty.symm
 have := k.trans (.step h5 e (.refl _ _))
 rw [← e2] at this
 exact this
end Go.Proofs.YtnohnnjeabehjaaGreatDoor
