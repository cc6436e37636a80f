/-
  Several texts joined: ScX1.
-/
import Derived.Test.YtmdlgfnibjcgmaaGreatDoorK20
set_option maxHeartbeats 8000000
set_option maxRecDepth 10000
set_option linter.unusedVariables false
set_option linter.unusedSimpArgs false
namespace Go.Proofs.YtmdlgfnibjcgmaaGreatDoor
open Go.RowKit
theorem raddr_e {c : Int} {b : Nat} {x : St} {w : World} (hq : rn 4 6 x = (0, .error c)) (hr : Rb 114 w b x) :
  Calls Tryz.prog 71 #[.pointer (some ⟨b, 0, none⟩)] w fun e w' => e = .returned (av (rra x).1) /\ Rb 114 w' b (rra x).2 /\ Keep [b] w w' := by
 have hbl := hr.lt
 go_enter Tryz.func71, Tryz.ntmps71
 go_upto_region 1 with fail
 change Code.wp _ _ _ _ (w.alloc (.cells (ac zadr) 72))
 have hx := (Ext.refl w).alloc (.cells (ac zadr) 72)
 have hres := Blk.new w (ac zadr) 72
 replace hr := hr.ext hx
 have hk := hx.keep [b]
 generalize w.alloc (.cells (ac zadr) 72) = w2 at *
 obtain ⟨cr, hcr⟩ : ∃ n, n = w.heap.size := ⟨_, rfl⟩
 rw [← hcr] at hres hbl ⊢
 have hcw : w.heap.size <= cr := Nat.le_of_eq hcr.symm
 clear hcr hx
 have hbc : b ≠ cr := by omega
 have KN := Lib.hid (runum_i 4 6 (by decide) (by decide) (by decide) (by decide) hr)
 rw [hq] at KN
 have hra := rra_eq hq
 simp only at KN
 have HRA : Hid (rra x = (zadr, .error c)) := Lib.hid hra
 have HT : Hid (rt 4 (.error c) = (⟨#[]⟩, .error c)) := Lib.hid rfl
 clear hra hq hr
 go_upto_region 2 with (go_at_call 55; refine KN.out.mono ?_; rintro e w3 ⟨rfl, hr, hk3⟩)
 replace hres := Blk.keep hres hk3 (by simp; omega)
 replace hk := hk.trans hk3
 have hr4 := hr
 obtain ⟨hc0, s3, hb3⟩ := hr4
 have c1 := hb3.cell (i := 1) rfl
 have q1 : (c == 0) = false := by simp [hc0]
 clear KN hk3 hc0 hb3
 go_upto_region 5 with fail
 change Code.wp _ _ _ _ ((w3).alloc (.cells (ac (false, zeros)) 72))
 have hxa := (Ext.refl w3).alloc (.cells (ac (false, zeros)) 72)
 have ha := Blk.new w3 (ac (false, zeros)) 72
 have hal : cr < (w3).heap.size := Blk.lt hres
 replace hres := Blk.ext hres hxa
 replace hr := Rb.ext hr hxa
 replace hk := hk.trans (hxa.keep [b])
 clear hxa
 generalize (w3).alloc (.cells (ac (false, zeros)) 72) = wa at *
 generalize (w3).heap.size = ab at ha hal ⊢
 have ca := Blk.cell ha (i := 0) (v := .bool false) rfl
 clear c1
 go_upto_region 8 with fail
 have KT := Lib.hid (rtxt_any 4 (by decide) hr)
 rw [show rt 4 (.error c) = (⟨#[]⟩, .error c) from HT.out] at KT
 generalize (⟨#[]⟩ : ByteArray) = t0 at KT
 simp only at KT
 go_upto_region 9 with (go_at_call 70; refine KT.out.mono ?_; rintro e w6 ⟨rfl, hr6, hk6⟩)
 replace hres := Blk.keep hres hk6 (by simp; omega)
 replace hk := hk.trans hk6
 obtain ⟨hc0, s6, hb6⟩ := hr6
 have c6 := hb6.cell (i := 1) rfl
 have q6 : (c == 0) = false := by simp [hc0]
 have HB6 := Lib.hid (show Rb 114 w6 b (.error c) from ⟨hc0, s6, hb6⟩)
 clear hb6 hc0 hr KT ca ha
 go_wp2_with (first | refine wpList_store_A rfl _ _ rfl okA_zadr okA_zadr hres rfl rfl ?_)
 refine bodyPost_ret (res_A rfl rfl okA_zadr (hres.row _)) rfl ⟨by rw [HRA.out], by rw [HRA.out]; exact HB6.out.row hbc _, hk.set1 hcw _⟩
theorem raddr_5 {s1 : ByteArray} {b : Nat} {x : St} {w : World} (hq : rn 4 6 x = (5, .ok s1)) (hr : Rb 114 w b x) :
  Calls Tryz.prog 71 #[.pointer (some ⟨b, 0, none⟩)] w fun e w' => e = .returned (av (rra x).1) /\ Rb 114 w' b (rra x).2 /\ Keep [b] w w' := by
 have hbl := hr.lt
 go_enter Tryz.func71, Tryz.ntmps71
 go_upto_region 1 with fail
 change Code.wp _ _ _ _ (w.alloc (.cells (ac zadr) 72))
 have hx := (Ext.refl w).alloc (.cells (ac zadr) 72)
 have hres := Blk.new w (ac zadr) 72
 replace hr := hr.ext hx
 have hk := hx.keep [b]
 generalize w.alloc (.cells (ac zadr) 72) = w2 at *
 obtain ⟨cr, hcr⟩ : ∃ n, n = w.heap.size := ⟨_, rfl⟩
 rw [← hcr] at hres hbl ⊢
 have hcw : w.heap.size <= cr := Nat.le_of_eq hcr.symm
 clear hcr hx
 have hbc : b ≠ cr := by omega
 have KN := Lib.hid (runum_i 4 6 (by decide) (by decide) (by decide) (by decide) hr)
 rw [hq] at KN
 have hra := rra_eq hq
 simp only at KN
 have HRA : Hid (rra x = (zadr, .error 2)) := Lib.hid hra
 have HT : Hid (rt 4 (.error 2) = (⟨#[]⟩, .error 2)) := Lib.hid rfl
 clear hra hq hr
 go_upto_region 2 with (go_at_call 55; refine KN.out.mono ?_; rintro e w3 ⟨rfl, hr, hk3⟩)
 replace hres := Blk.keep hres hk3 (by simp; omega)
 replace hk := hk.trans hk3
 have hb3 : Blk w3 b [.string s1, .int .i64 0] 114 := hr
 have c1 := hb3.cell (i := 1) rfl
 have g1 := hb3.free 1
 clear KN hk3 hr
 go_upto_region 4 with fail
 have hr := rerr hb3 2 (by decide)
 replace hres := Blk.set_ne hres ⟨b, 1, none⟩ hbc (.int .i64 2)
 replace hk := hk.trans (kset w3 b 1 (.int .i64 2))
 clear c1 g1 hb3
 generalize w3.setCell ⟨b, 1, none⟩ (.int .i64 2) = w4 at *
 go_upto_region 5 with fail
 change Code.wp _ _ _ _ ((w4).alloc (.cells (ac (false, zeros)) 72))
 have hxa := (Ext.refl w4).alloc (.cells (ac (false, zeros)) 72)
 have ha := Blk.new w4 (ac (false, zeros)) 72
 have hal : cr < (w4).heap.size := Blk.lt hres
 replace hres := Blk.ext hres hxa
 replace hr := Rb.ext hr hxa
 replace hk := hk.trans (hxa.keep [b])
 clear hxa
 generalize (w4).alloc (.cells (ac (false, zeros)) 72) = wa at *
 generalize (w4).heap.size = ab at ha hal ⊢
 have ca := Blk.cell ha (i := 0) (v := .bool false) rfl
 go_upto_region 8 with fail
 obtain ⟨c, hc⟩ : ∃ c : Int, c = 2 := ⟨_, rfl⟩
 rw [← hc] at hr HT HRA
 clear hc
 have KT := Lib.hid (rtxt_any 4 (by decide) hr)
 rw [show rt 4 (.error c) = (⟨#[]⟩, .error c) from HT.out] at KT
 generalize (⟨#[]⟩ : ByteArray) = t0 at KT
 simp only at KT
 go_upto_region 9 with (go_at_call 70; refine KT.out.mono ?_; rintro e w6 ⟨rfl, hr6, hk6⟩)
 replace hres := Blk.keep hres hk6 (by simp; omega)
 replace hk := hk.trans hk6
 obtain ⟨hc0, s6, hb6⟩ := hr6
 have c6 := hb6.cell (i := 1) rfl
 have q6 : (c == 0) = false := by simp [hc0]
 have HB6 := Lib.hid (show Rb 114 w6 b (.error c) from ⟨hc0, s6, hb6⟩)
 clear hb6 hc0 hr KT ca ha
 go_wp2_with (first | refine wpList_store_A rfl _ _ rfl okA_zadr okA_zadr hres rfl rfl ?_)
 refine bodyPost_ret (res_A rfl rfl okA_zadr (hres.row _)) rfl ⟨by rw [HRA.out], by rw [HRA.out]; exact HB6.out.row hbc _, hk.set1 hcw _⟩
theorem raddr_4 {s1 : ByteArray} {b : Nat} {x : St} {w : World} (hq : rn 4 6 x = (4, .ok s1)) (hr : Rb 114 w b x) :
  Calls Tryz.prog 71 #[.pointer (some ⟨b, 0, none⟩)] w fun e w' => e = .returned (av (rra x).1) /\ Rb 114 w' b (rra x).2 /\ Keep [b] w w' := by
 have hbl := hr.lt
 go_enter Tryz.func71, Tryz.ntmps71
 go_upto_region 1 with fail
 change Code.wp _ _ _ _ (w.alloc (.cells (ac zadr) 72))
 have hx := (Ext.refl w).alloc (.cells (ac zadr) 72)
 have hres := Blk.new w (ac zadr) 72
 replace hr := hr.ext hx
 have hk := hx.keep [b]
 generalize w.alloc (.cells (ac zadr) 72) = w2 at *
 obtain ⟨cr, hcr⟩ : ∃ n, n = w.heap.size := ⟨_, rfl⟩
 rw [← hcr] at hres hbl ⊢
 have hcw : w.heap.size <= cr := Nat.le_of_eq hcr.symm
 clear hcr hx
 have hbc : b ≠ cr := by omega
 have KN := Lib.hid (runum_i 4 6 (by decide) (by decide) (by decide) (by decide) hr)
 rw [hq] at KN
 have hra := rra_eq hq
 simp only at KN
 have q5 : ((4 : Int) == 5) = false := rfl
 have HRA0 : Hid (rra x = rra2 4 (rt 4 (.ok s1))) := Lib.hid hra
 clear hra hq hr
 go_upto_region 2 with (go_at_call 55; refine KN.out.mono ?_; rintro e w3 ⟨rfl, hr, hk3⟩)
 replace hres := Blk.keep hres hk3 (by simp; omega)
 replace hk := hk.trans hk3
 have c1 := Blk.cell (show Blk w3 b [.string s1, .int .i64 0] 114 from hr) (i := 1) rfl
 clear KN hk3
 go_upto_region 5 with fail
 change Code.wp _ _ _ _ ((w3).alloc (.cells (ac (false, zeros)) 72))
 have hxa := (Ext.refl w3).alloc (.cells (ac (false, zeros)) 72)
 have ha := Blk.new w3 (ac (false, zeros)) 72
 have hal : cr < (w3).heap.size := Blk.lt hres
 replace hres := Blk.ext hres hxa
 replace hr := Rb.ext hr hxa
 replace hk := hk.trans (hxa.keep [b])
 clear hxa
 generalize (w3).alloc (.cells (ac (false, zeros)) 72) = wa at *
 generalize (w3).heap.size = ab at ha hal ⊢
 have ca := Blk.cell ha (i := 0) (v := .bool false) rfl
 clear c1
 go_upto_region 8 with fail
 obtain ⟨t, x5, ht⟩ : ∃ t x5, rt 4 (.ok s1) = (t, x5) := ⟨_, _, rfl⟩
 cases x5 with
 | error c =>
  have ht0 : t = ⟨#[]⟩ := rt_err ht
  subst ht0
  have HRA : Hid (rra x = (zadr, .error c)) := Lib.hid (by rw [HRA0.out, ht]; rfl)
  have HT := Lib.hid ht
  clear ht HRA0
  have KT := Lib.hid (rtxt_any 4 (by decide) hr)
  rw [show rt 4 (.ok s1) = (⟨#[]⟩, .error c) from HT.out] at KT
  generalize (⟨#[]⟩ : ByteArray) = t0 at KT
  simp only at KT
  go_upto_region 9 with (go_at_call 70; refine KT.out.mono ?_; rintro e w6 ⟨rfl, hr6, hk6⟩)
  replace hres := Blk.keep hres hk6 (by simp; omega)
  replace hk := hk.trans hk6
  obtain ⟨hc0, s6, hb6⟩ := hr6
  have c6 := hb6.cell (i := 1) rfl
  have q6 : (c == 0) = false := by simp [hc0]
  have HB6 := Lib.hid (show Rb 114 w6 b (.error c) from ⟨hc0, s6, hb6⟩)
  clear hb6 hc0 hr KT ca ha
  go_wp2_with (first | refine wpList_store_A rfl _ _ rfl okA_zadr okA_zadr hres rfl rfl ?_)
  refine bodyPost_ret (res_A rfl rfl okA_zadr (hres.row _)) rfl ⟨by rw [HRA.out], by rw [HRA.out]; exact HB6.out.row hbc _, hk.set1 hcw _⟩
 | ok s5 =>
  have HRA : Hid (rra x = ((false, octs t), .ok s5)) := Lib.hid (by rw [HRA0.out, ht]; rfl)
  have HT := Lib.hid ht
  clear ht HRA0
  have KT := Lib.hid (rtxt_any 4 (by decide) hr)
  rw [show rt 4 (.ok s1) = (t, .ok s5) from HT.out] at KT
  simp only at KT
  have hts : t.size = 4 := rt_ok HT.out
  go_upto_region 9 with (go_at_call 70; refine KT.out.mono ?_; rintro e w6 ⟨rfl, hr6, hk6⟩)
  replace hres := Blk.keep hres hk6 (by simp; omega)
  replace ha := Blk.keep ha hk6 (by simp; omega)
  replace hk := hk.trans hk6
  have c6 := Blk.cell (show Blk w6 b [.string s5, .int .i64 0] 114 from hr6) (i := 1) rfl
  have HTS := Lib.hid hts
  have HA6 := Lib.hid ha
  have HR6 := Lib.hid hres
  have HB6 := Lib.hid hr6
  have HK6 := Lib.hid hk
  clear hr KT ca ha hres hr6 hk hts hk6
  go_wp2_with fail
  go_loopw [7] (fun i wr => ∃ j : Nat, i = .int .i64 j /\ j <= 4 /\ Blk wr ab (ac (false, octk t j)).toList 72 /\ Blk wr cr (ac zadr).toList 72 /\ Rb 114 wr b (.ok s5) /\ Keep [b] w wr) (fun i _ => 4 - (intOf i).toNat)
  case atStart => exact ⟨0, rfl, Nat.zero_le _, by rw [octk_zero]; exact HA6.out, HR6.out, HB6.out, HK6.out⟩
  case round =>
   obtain ⟨j, rfl, hj, ha, hres, hr, hk⟩ := hrel
   by_cases hlt : j < 4
   ·have hlt' : (j : Int) < 4 := by omega
    have hlt2 : (j : Int) < t.size := by rw [HTS.out]; omega
    have hj1 : IntKind.i64.wrap ((j : Int) + 1) = ((j + 1 : Nat) : Int) := by rw [IntWalk.i64_in _ (by omega)]; omega
    have hj16 : (j : Int) < 16 := by omega
    have hat := ABox.of_blk (okA_octk false t j) ha
    have cj := hat.at' j (by omega)
    have gj := Blk.free ha (1 + j)
    have HA := Lib.hid ha
    clear ha hat
    go_wp2_with fail
    refine ⟨⟨j + 1, by go_num, by omega, by rw [← octk_set false t j (by omega)]; exact Blk.set HA.out (1 + j) _, Blk.set_ne hres ⟨ab, 1 + j, none⟩ (by simp; omega) _, Rb.setc hr (by omega) _ _, hk.setCell (p := ⟨ab, 1 + j, none⟩) (.inr (by simp; omega)) _⟩, ?_⟩
    simp [intOf]; omega
   ·obtain rfl : j = 4 := by omega
    have hok := okA_octk false t 4
    have HEQ : Hid (octk t 4 = octs t) := Lib.hid (by rw [← HTS.out]; exact octk_all t)
    go_wp2_with (first | refine wpList_load_A rfl _ rfl hok ha rfl ?_ | refine wpList_store_A rfl _ _ rfl okA_zadr hok hres rfl rfl ?_)
    refine bodyPost_ret (res_A rfl rfl hok (hres.row _)) rfl ⟨by rw [HRA.out, HEQ.out], by rw [HRA.out]; exact hr.row hbc _, hk.set1 hcw _⟩
theorem raddr_6 {s1 : ByteArray} {b : Nat} {x : St} {w : World} (hq : rn 4 6 x = (6, .ok s1)) (hr : Rb 114 w b x) :
  Calls Tryz.prog 71 #[.pointer (some ⟨b, 0, none⟩)] w fun e w' => e = .returned (av (rra x).1) /\ Rb 114 w' b (rra x).2 /\ Keep [b] w w' := by
 have hbl := hr.lt
 go_enter Tryz.func71, Tryz.ntmps71
 go_upto_region 1 with fail
 change Code.wp _ _ _ _ (w.alloc (.cells (ac zadr) 72))
 have hx := (Ext.refl w).alloc (.cells (ac zadr) 72)
 have hres := Blk.new w (ac zadr) 72
 replace hr := hr.ext hx
 have hk := hx.keep [b]
 generalize w.alloc (.cells (ac zadr) 72) = w2 at *
 obtain ⟨cr, hcr⟩ : ∃ n, n = w.heap.size := ⟨_, rfl⟩
 rw [← hcr] at hres hbl ⊢
 have hcw : w.heap.size <= cr := Nat.le_of_eq hcr.symm
 clear hcr hx
 have hbc : b ≠ cr := by omega
 have KN := Lib.hid (runum_i 4 6 (by decide) (by decide) (by decide) (by decide) hr)
 rw [hq] at KN
 have hra := rra_eq hq
 simp only at KN
 have q5 : ((6 : Int) == 5) = false := rfl
 have HRA0 : Hid (rra x = rra2 6 (rt 16 (.ok s1))) := Lib.hid hra
 clear hra hq hr
 go_upto_region 2 with (go_at_call 55; refine KN.out.mono ?_; rintro e w3 ⟨rfl, hr, hk3⟩)
 replace hres := Blk.keep hres hk3 (by simp; omega)
 replace hk := hk.trans hk3
 have c1 := Blk.cell (show Blk w3 b [.string s1, .int .i64 0] 114 from hr) (i := 1) rfl
 clear KN hk3
 go_upto_region 5 with fail
 change Code.wp _ _ _ _ ((w3).alloc (.cells (ac (true, zeros)) 72))
 have hxa := (Ext.refl w3).alloc (.cells (ac (true, zeros)) 72)
 have ha := Blk.new w3 (ac (true, zeros)) 72
 have hal : cr < (w3).heap.size := Blk.lt hres
 replace hres := Blk.ext hres hxa
 replace hr := Rb.ext hr hxa
 replace hk := hk.trans (hxa.keep [b])
 clear hxa
 generalize (w3).alloc (.cells (ac (true, zeros)) 72) = wa at *
 generalize (w3).heap.size = ab at ha hal ⊢
 have ca := Blk.cell ha (i := 0) (v := .bool true) rfl
 clear c1
 go_upto_region 8 with fail
 obtain ⟨t, x5, ht⟩ : ∃ t x5, rt 16 (.ok s1) = (t, x5) := ⟨_, _, rfl⟩
 cases x5 with
 | error c =>
  have ht0 : t = ⟨#[]⟩ := rt_err ht
  subst ht0
  have HRA : Hid (rra x = (zadr, .error c)) := Lib.hid (by rw [HRA0.out, ht]; rfl)
  have HT := Lib.hid ht
  clear ht HRA0
  have KT := Lib.hid (rtxt_any 16 (by decide) hr)
  rw [show rt 16 (.ok s1) = (⟨#[]⟩, .error c) from HT.out] at KT
  generalize (⟨#[]⟩ : ByteArray) = t0 at KT
  simp only at KT
  go_upto_region 9 with (go_at_call 70; refine KT.out.mono ?_; rintro e w6 ⟨rfl, hr6, hk6⟩)
  replace hres := Blk.keep hres hk6 (by simp; omega)
  replace hk := hk.trans hk6
  obtain ⟨hc0, s6, hb6⟩ := hr6
  have c6 := hb6.cell (i := 1) rfl
  have q6 : (c == 0) = false := by simp [hc0]
  have HB6 := Lib.hid (show Rb 114 w6 b (.error c) from ⟨hc0, s6, hb6⟩)
  clear hb6 hc0 hr KT ca ha
  go_wp2_with (first | refine wpList_store_A rfl _ _ rfl okA_zadr okA_zadr hres rfl rfl ?_)
  refine bodyPost_ret (res_A rfl rfl okA_zadr (hres.row _)) rfl ⟨by rw [HRA.out], by rw [HRA.out]; exact HB6.out.row hbc _, hk.set1 hcw _⟩
 | ok s5 =>
  have HRA : Hid (rra x = ((true, octs t), .ok s5)) := Lib.hid (by rw [HRA0.out, ht]; rfl)
  have HT := Lib.hid ht
  clear ht HRA0
  have KT := Lib.hid (rtxt_any 16 (by decide) hr)
  rw [show rt 16 (.ok s1) = (t, .ok s5) from HT.out] at KT
  simp only at KT
  have hts : t.size = 16 := rt_ok HT.out
  go_upto_region 9 with (go_at_call 70; refine KT.out.mono ?_; rintro e w6 ⟨rfl, hr6, hk6⟩)
  replace hres := Blk.keep hres hk6 (by simp; omega)
  replace ha := Blk.keep ha hk6 (by simp; omega)
  replace hk := hk.trans hk6
  have c6 := Blk.cell (show Blk w6 b [.string s5, .int .i64 0] 114 from hr6) (i := 1) rfl
  have HTS := Lib.hid hts
  have HA6 := Lib.hid ha
  have HR6 := Lib.hid hres
  have HB6 := Lib.hid hr6
  have HK6 := Lib.hid hk
  clear hr KT ca ha hres hr6 hk hts hk6
  go_wp2_with fail
  go_loopw [7] (fun i wr => ∃ j : Nat, i = .int .i64 j /\ j <= 16 /\ Blk wr ab (ac (true, octk t j)).toList 72 /\ Blk wr cr (ac zadr).toList 72 /\ Rb 114 wr b (.ok s5) /\ Keep [b] w wr) (fun i _ => 16 - (intOf i).toNat)
  case atStart => exact ⟨0, rfl, Nat.zero_le _, by rw [octk_zero]; exact HA6.out, HR6.out, HB6.out, HK6.out⟩
  case round =>
   obtain ⟨j, rfl, hj, ha, hres, hr, hk⟩ := hrel
   by_cases hlt : j < 16
   ·have hlt' : (j : Int) < 16 := by omega
    have hlt2 : (j : Int) < t.size := by rw [HTS.out]; omega
    have hj1 : IntKind.i64.wrap ((j : Int) + 1) = ((j + 1 : Nat) : Int) := by rw [IntWalk.i64_in _ (by omega)]; omega
    have hj16 : (j : Int) < 16 := by omega
    have hat := ABox.of_blk (okA_octk true t j) ha
    have cj := hat.at' j (by omega)
    have gj := Blk.free ha (1 + j)
    have HA := Lib.hid ha
    clear ha hat
    go_wp2_with fail
    refine ⟨⟨j + 1, by go_num, by omega, by rw [← octk_set true t j (by omega)]; exact Blk.set HA.out (1 + j) _, Blk.set_ne hres ⟨ab, 1 + j, none⟩ (by simp; omega) _, Rb.setc hr (by omega) _ _, hk.setCell (p := ⟨ab, 1 + j, none⟩) (.inr (by simp; omega)) _⟩, ?_⟩
    simp [intOf]; omega
   ·obtain rfl : j = 16 := by omega
    have hok := okA_octk true t 16
    have HEQ : Hid (octk t 16 = octs t) := Lib.hid (by rw [← HTS.out]; exact octk_all t)
    go_wp2_with (first | refine wpList_load_A rfl _ rfl hok ha rfl ?_ | refine wpList_store_A rfl _ _ rfl okA_zadr hok hres rfl rfl ?_)
    refine bodyPost_ret (res_A rfl rfl hok (hres.row _)) rfl ⟨by rw [HRA.out, HEQ.out], by rw [HRA.out]; exact hr.row hbc _, hk.set1 hcw _⟩
theorem raddr_any {b : Nat} {x : St} {w : World} (hr : Rb 114 w b x) :
  Calls Tryz.prog 71 #[.pointer (some ⟨b, 0, none⟩)] w fun e w' => e = .returned (av (rra x).1) /\ Rb 114 w' b (rra x).2 /\ Keep [b] w w' := by
 obtain ⟨n, x1, hq⟩ : ∃ n x1, rn 4 6 x = (n, x1) := ⟨_, _, rfl⟩
 cases x1 with
 | error c =>
  have hn0 := rn_e hq
  subst hn0
  exact raddr_e hq hr
 | ok s1 =>
  have hnb := rn_o hq
  by_cases h5 : n = 5
  ·subst h5; exact raddr_5 hq hr
  ·have hn : n = 4 ∨ n = 6 := by omega
   rcases hn with rfl | rfl
   ·exact raddr_4 hq hr
   ·exact raddr_6 hq hr
end Go.Proofs.YtmdlgfnibjcgmaaGreatDoor
