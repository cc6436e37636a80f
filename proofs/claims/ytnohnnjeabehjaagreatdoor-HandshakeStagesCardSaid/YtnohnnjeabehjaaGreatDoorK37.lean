/-
  Several texts joined: HtN, HtQ.
-/
import Derived.Test.YtnohnnjeabehjaaGreatDoorK29
import Derived.Test.YtnohnnjeabehjaaGreatDoorK15
set_option maxHeartbeats 4000000
set_option maxRecDepth 8000
set_option linter.unusedVariables false
set_option linter.unusedSimpArgs false
namespace Go.Proofs.YtnohnnjeabehjaaGreatDoor
open Go.RowKit Go.Joins
theorem tc_step (s : ByteArray) (f : Bool) (p : Int) {k : Nat} (hk : k < 16) : (tc (⟨#[]⟩, (f, pad16 s 1 k), p)).toList.set (2 + k) (.int .u8 (B s (1 + k))) = (tc (⟨#[]⟩, (f, pad16 s 1 (k + 1)), p)).toList := by
 match k, hk with
 | 0, _ => rfl
 | 1, _ => rfl
 | 2, _ => rfl
 | 3, _ => rfl
 | 4, _ => rfl
 | 5, _ => rfl
 | 6, _ => rfl
 | 7, _ => rfl
 | 8, _ => rfl
 | 9, _ => rfl
 | 10, _ => rfl
 | 11, _ => rfl
 | 12, _ => rfl
 | 13, _ => rfl
 | 14, _ => rfl
 | 15, _ => rfl
 | k + 16, h => omega
theorem tc_at (s : ByteArray) (f : Bool) (p : Int) {k : Nat} (hk : k < 16) : (tc (⟨#[]⟩, (f, pad16 s 1 k), p)).toList[2 + k]? = some (.int .u8 0) := by
 match k, hk with
 | 0, _ => rfl
 | 1, _ => rfl
 | 2, _ => rfl
 | 3, _ => rfl
 | 4, _ => rfl
 | 5, _ => rfl
 | 6, _ => rfl
 | 7, _ => rfl
 | 8, _ => rfl
 | 9, _ => rfl
 | 10, _ => rfl
 | 11, _ => rfl
 | 12, _ => rfl
 | 13, _ => rfl
 | 14, _ => rfl
 | 15, _ => rfl
 | k + 16, h => omega
theorem rptgt_any (s : ByteArray) (hs : s.size <= 281474976710656) (w : World) : Calls Tryz.prog 134 #[.string s] w fun e w' => e = .returned (.tuple #[tv (tgp s).1, .int .i64 (tgp s).2.1, .int .i64 (tgp s).2.2]) /\ Ext w w' := by
 have b0 := B_bd s 0
 have b1 := B_bd s 1
 go_enter Tryz.func134, Tryz.ntmps134
 go_upto_region 1 with fail
 rw [← tc_zero]
 have hx := (Ext.refl w).alloc (.cells (tc ztgt) 43)
 have hr := Blk.new w (tc ztgt) 43
 generalize w.alloc (.cells (tc ztgt) 43) = w0 at *
 have hwb : w.heap.size <= w.heap.size := Nat.le_refl _
 by_cases h0 : (s.size : Int) < 1
 ·have R : Hid (tgp s = (ztgt, 0, 0)) := Lib.hid (by unfold tgp; rw [if_pos (by omega)])
  have hq : (s.toList == []) = true := by rw [B_empty s h0, ByteArray.toList_eq]; rfl
  clear h0
  go_wp2_with (first | refine wpList_store_T rfl _ _ rfl okT_ztgt okT_ztgt hr rfl rfl ?_)
  refine bodyPost_ret (res_T3 rfl rfl okT_ztgt ((hr).row _)) rfl ⟨by rw [R.out]; rfl, (hx).setRow hwb _⟩
 have hq : (s.toList == []) = false := by
  rw [beq_eq_false_iff_ne, ByteArray.toList_eq]
  intro e
  have := size_list s
  rw [e] at this
  change s.size = 0 at this
  omega
 have hz1 : (0 : Int) < s.size := by omega
 have R0 : Hid (tgp s = if B s 0 = 1 then (if s.size < 7 then (ztgt, 0, 0) else ((⟨#[]⟩, (false, pad16 s 1 4), B s 5 * 256 + B s 6), 7, 1))
   else if B s 0 = 4 then (if s.size < 19 then (ztgt, 0, 0) else ((⟨#[]⟩, (true, pad16 s 1 16), B s 17 * 256 + B s 18), 19, 1))
   else if B s 0 = 3 then
    (if s.size < 2 then (ztgt, 0, 0)
    else if B s 1 = 0 then (ztgt, 0, 2)
    else if (s.size : Int) < 4 + B s 1 then (ztgt, 0, 0)
    else ((s.extract 2 (2 + B s 1).toNat, zadr, B s (2 + B s 1).toNat * 256 + B s (3 + B s 1).toNat), 4 + B s 1, 1))
   else (ztgt, 0, 2)) := Lib.hid (by unfold tgp; rw [if_neg (by omega)])
 clear h0
 by_cases c1 : B s 0 = 1
 ·have e1 : (B s 0 == 1) = true := by rw [beq_iff_eq]; exact c1
  have e3 : (B s 0 == 3) = false := by rw [beq_eq_false_iff_ne]; omega
  have e4 : (B s 0 == 4) = false := by rw [beq_eq_false_iff_ne]; omega
  by_cases h7 : (s.size : Int) < 7
  ·have R : Hid (tgp s = (ztgt, 0, 0)) := Lib.hid (by rw [R0.out, if_pos c1, if_pos (by omega)])
   clear R0 c1
   go_wp2_with (first | refine wpList_store_T rfl _ _ rfl okT_ztgt okT_ztgt hr rfl rfl ?_)
   refine bodyPost_ret (res_T3 rfl rfl okT_ztgt ((hr).row _)) rfl ⟨by rw [R.out]; rfl, (hx).setRow hwb _⟩
  ·have R : Hid (tgp s = ((⟨#[]⟩, (false, pad16 s 1 4), B s 5 * 256 + B s 6), 7, 1)) := Lib.hid (by rw [R0.out, if_pos c1, if_neg (by omega)])
   have h7' : (7 : Int) <= s.size := by omega
   clear R0 c1 h7
   have bp := B_bd s 5
   have bq := B_bd s 6
   have eor := or_i64 bp.1 bp.2 bq.1 bq.2
   have v5 : IntKind.i64.wrap (B s 5) = B s 5 := IntWalk.i64_in _ (by omega)
   have v6 : IntKind.i64.wrap (B s 6) = B s 6 := IntWalk.i64_in _ (by omega)
   have l2 : IntKind.i64.wrap (B s 5 * 256) = B s 5 * 256 := IntWalk.i64_in _ (by omega)
   have l3 : wrap64 (B s 5 * 256) = B s 5 * 256 := IntWalk.wrap64_in _ (by omega)
   have q5 : (5 : Int) < s.size := by omega
   have q3 : (5 : Int) <= s.size := by omega
   have q6 : (6 : Int) < s.size := by omega
   have w6 : IntKind.i64.wrap 6 = 6 := IntWalk.i64_in _ (by omega)
   have w5 : IntKind.i64.wrap 5 = 5 := IntWalk.i64_in _ (by omega)
   have w17 : IntKind.i64.wrap 17 = 17 := IntWalk.i64_in _ (by omega)
   have w18 : IntKind.i64.wrap 18 = 18 := IntWalk.i64_in _ (by omega)
   go_upto_region 19 with fail
   refine wp_region_rgu 14 w0 (by kernel_rfl) (by kernel_rfl) (Ext.refl _) ?_
   simp only [List.take_succ_cons, List.take_zero]
   apply goV_val _ (by intro u; rfl)
   ·(intro u w hSw hF; go_simp; try with_reducible rfl)
   try simp only [aput, List.set]
   apply goV_val _ (by intro u; rfl)
   ·(intro u w hSw hF; go_simp; try with_reducible rfl)
   try simp only [aput, List.set]
   apply goV_val _ (by intro u; rfl)
   ·(intro u w hSw hF; go_simp; try with_reducible rfl)
   try simp only [aput, List.set]
   apply goV_val _ (by intro u; rfl)
   ·(intro u w hSw hF; go_simp; try with_reducible rfl)
   try simp only [aput, List.set]
   apply goV_val _ (by intro u; rfl)
   ·(intro u w hSw hF; go_simp; try with_reducible rfl)
   try simp only [aput, List.set]
   apply goV_val _ (by intro u; rfl)
   ·(intro u w hSw hF; go_simp; try with_reducible rfl)
   try simp only [aput, List.set]
   apply goV_val _ (by intro u; rfl)
   ·(intro u w hSw hF; go_simp; try with_reducible rfl)
   try simp only [aput, List.set]
   apply goV_val _ (by intro u; rfl)
   ·(intro u w hSw hF; go_simp; try with_reducible rfl)
   try simp only [aput, List.set]
   apply goV_val _ (by intro u; rfl)
   ·(intro u w hSw hF; go_simp; try with_reducible rfl)
   try simp only [aput, List.set]
   apply goV_val _ (by intro u; rfl)
   ·(intro u w hSw hF; go_simp; try with_reducible rfl)
   try simp only [aput, List.set]
   apply goV_val _ (by intro u; rfl)
   ·(intro u w hSw hF; go_simp; try with_reducible rfl)
   try simp only [aput, List.set]
   apply goV_val _ (by intro u; rfl)
   ·(intro u w hSw hF; go_simp; try with_reducible rfl)
   try simp only [aput, List.set]
   apply goV_val _ (by intro u; rfl)
   ·(intro u w hSw hF; go_simp; try with_reducible rfl)
   try simp only [aput, List.set]
   apply goV_rel (VNewT w0.heap.size) (fun u w w' h k => by obtain ⟨g, h0, h1, h2⟩ := h; exact ⟨g, h0, h1, h2.ext k⟩) (by intro u; rfl)
   ·intro u w' hSw hF
    go_simp
    exact ⟨(Ext.refl _).alloc _, w'.heap.size, rfl, hSw.size, Blk.new _ _ _⟩
   try simp only [aput, List.set]
   intro u w1 hx1 hh
   obtain ⟨bt, et, hbt, hT0⟩ := holdsAt_get8 (V := VNewT w0.heap.size) (j := 13) hh (by simp) rfl
   clear hh
   dsimp only
   rw [et]
   clear et
   simp only [List.drop_succ_cons, List.drop_zero]
   have hokP : okT (⟨#[]⟩, zadr, (B s 5 * 256 + B s 6)) := ⟨okA_zadr, by unfold i64ok; simp only; omega, Nat.zero_le _⟩
   refine wpList_store_T (t := (⟨#[]⟩, zadr, (B s 5 * 256 + B s 6))) rfl _ _ rfl okT_ztgt hokP hT0 rfl rfl ?_
   have hT1 : TBlk _ bt (⟨#[]⟩, zadr, (B s 5 * 256 + B s 6)) := Blk.row hT0 (tc (⟨#[]⟩, zadr, (B s 5 * 256 + B s 6)))
   have hbt0 := Nat.le_trans (Nat.le_of_lt (Blk.lt hr)) hbt
   have hrb : w.heap.size ≠ bt := by have := Blk.lt hr; omega
   have hr1 := Blk.row_ne (Blk.ext hr hx1) hrb (tc (⟨#[]⟩, zadr, (B s 5 * 256 + B s 6)))
   have hx2 : Ext w _ := (hx.trans hx1).setRow (c := bt) (by have := Blk.lt hr; omega) (tc (⟨#[]⟩, zadr, (B s 5 * 256 + B s 6)))
   clear hx hx1 hr hT0
   generalize w1.setRow bt (tc (⟨#[]⟩, zadr, (B s 5 * 256 + B s 6))) = w2 at *
   have hbtw : w.heap.size <= bt := by have := hbt0; omega
   have f1 := TBlk.fam hT1
   have g1 := Blk.free hT1 1
   have hT2 : TBlk (w2.setCell ⟨bt, 1, none⟩ (.bool false)) bt (⟨#[]⟩, (false, zadr.2), (B s 5 * 256 + B s 6)) := Blk.setOne (pre := [.string ⟨#[]⟩]) hT1 rfl _
   have hr2 := Blk.set_ne hr1 ⟨bt, 1, none⟩ (Ne.symm hrb) (.bool false)
   have hx3 : Ext w (w2.setCell ⟨bt, 1, none⟩ (.bool false)) := Ext.setCell hx2 hbtw _
   clear hx2 hr1 hT1
   go_upto_region 24 with fail
   clear f1 g1
   generalize w2.setCell ⟨bt, 1, none⟩ (.bool false) = w3 at *
   go_wp2_with fail
   go_loopw [9] (fun i wr => ∃ k : Nat, k <= 4 /\ i = .int .i64 k /\ TBlk wr bt (⟨#[]⟩, (false, pad16 s 1 k), (B s 5 * 256 + B s 6)) /\ TBlk wr w.heap.size ztgt /\ Ext w wr) (fun i _ => 4 - (intOf i).toNat)
   case atStart => exact ⟨0, Nat.zero_le _, rfl, hT2, hr2, hx3⟩
   case round =>
    clear hT2 hr2 hx3
    obtain ⟨k, hk, rfl, hT2, hr2, hx3⟩ := hrel
    by_cases hlt : k < 4
    ·have hlt' : (k : Int) < 4 := by omega
     have c1 := Blk.cell hT2 (tc_at s false (B s 5 * 256 + B s 6) (k := k) (by omega))
     have f1 := Blk.free hT2 (2 + k)
     have j1 : (0 : Int) <= 1 + (k : Int) := by omega
     have j2 : (1 : Int) + (k : Int) < s.size := by omega
     have j3 : (1 + (k : Int)).toNat = 1 + k := by omega
     have j4 : (k : Int) < 16 := by omega
     have hT3 := Blk.set hT2 (2 + k) (.int .u8 (B s (1 + k)))
     rw [tc_step s false (B s 5 * 256 + B s 6) (by omega)] at hT3
     have hr3 := Blk.set_ne hr2 ⟨bt, 2 + k, none⟩ (Ne.symm hrb) (.int .u8 (B s (1 + k)))
     have hx4 : Ext w (wr.setCell ⟨bt, 2 + k, none⟩ (.int .u8 (B s (1 + k)))) := Ext.setCell hx3 hbtw _
     have HT3 := Lib.hid hT3
     have HR3 := Lib.hid hr3
     have HX4 := Lib.hid hx4
     clear hT3 hr3 hx4 hT2 hr2 hx3
     go_wp2_with fail
     go_roundw
     case rel => exact ⟨k + 1, by omega, by go_num, HT3.out, HR3.out, HX4.out⟩
     case measure => simp [intOf]; omega
    ·obtain rfl : k = 4 := by omega
     have hlt' : ¬ ((4 : Nat) : Int) < 4 := by omega
     have hokT : okT (⟨#[]⟩, (false, pad16 s 1 4), (B s 5 * 256 + B s 6)) := ⟨okA_pad _ _ _ _, by unfold i64ok; simp only; omega, Nat.zero_le _⟩
     go_wp2_with (first | refine wpList_load_T rfl _ rfl hokT hT2 rfl ?_ | refine wpList_store_T rfl _ _ rfl okT_ztgt hokT hr2 rfl rfl ?_)
     refine bodyPost_ret (res_T3 rfl rfl hokT (Blk.row hr2 _)) rfl ⟨by rw [R.out]; rfl, hx3.setRow hwb _⟩
 ·have e1 : (B s 0 == 1) = false := by rw [beq_eq_false_iff_ne]; exact c1
  by_cases c4 : B s 0 = 4
  ·have e3 : (B s 0 == 3) = false := by rw [beq_eq_false_iff_ne]; omega
   have e4 : (B s 0 == 4) = true := by rw [beq_iff_eq]; exact c4
   by_cases h7 : (s.size : Int) < 19
   ·have R : Hid (tgp s = (ztgt, 0, 0)) := Lib.hid (by rw [R0.out, if_neg c1, if_pos c4, if_pos (by omega)])
    clear R0 c1 c4
    go_wp2_with (first | refine wpList_store_T rfl _ _ rfl okT_ztgt okT_ztgt hr rfl rfl ?_)
    refine bodyPost_ret (res_T3 rfl rfl okT_ztgt ((hr).row _)) rfl ⟨by rw [R.out]; rfl, (hx).setRow hwb _⟩
   ·have R : Hid (tgp s = ((⟨#[]⟩, (true, pad16 s 1 16), B s 17 * 256 + B s 18), 19, 1)) := Lib.hid (by rw [R0.out, if_neg c1, if_pos c4, if_neg (by omega)])
    have h7' : (19 : Int) <= s.size := by omega
    clear R0 c1 c4 h7
    have w17 : IntKind.i64.wrap 17 = 17 := IntWalk.i64_in _ (by omega)
    have w18 : IntKind.i64.wrap 18 = 18 := IntWalk.i64_in _ (by omega)
    have bp := B_bd s 17
    have bq := B_bd s 18
    have eor := or_i64 bp.1 bp.2 bq.1 bq.2
    have v5 : IntKind.i64.wrap (B s 17) = B s 17 := IntWalk.i64_in _ (by omega)
    have v6 : IntKind.i64.wrap (B s 18) = B s 18 := IntWalk.i64_in _ (by omega)
    have l2 : IntKind.i64.wrap (B s 17 * 256) = B s 17 * 256 := IntWalk.i64_in _ (by omega)
    have l3 : wrap64 (B s 17 * 256) = B s 17 * 256 := IntWalk.wrap64_in _ (by omega)
    have q5 : (17 : Int) < s.size := by omega
    have q3 : (17 : Int) <= s.size := by omega
    have q6 : (18 : Int) < s.size := by omega
    have w6 : IntKind.i64.wrap 18 = 18 := IntWalk.i64_in _ (by omega)
    go_upto_region 19 with fail
    refine wp_region_rgu 14 w0 (by kernel_rfl) (by kernel_rfl) (Ext.refl _) ?_
    simp only [List.take_succ_cons, List.take_zero]
    apply goV_val _ (by intro u; rfl)
    ·(intro u w hSw hF; go_simp; try with_reducible rfl)
    try simp only [aput, List.set]
    apply goV_val _ (by intro u; rfl)
    ·(intro u w hSw hF; go_simp; try with_reducible rfl)
    try simp only [aput, List.set]
    apply goV_val _ (by intro u; rfl)
    ·(intro u w hSw hF; go_simp; try with_reducible rfl)
    try simp only [aput, List.set]
    apply goV_val _ (by intro u; rfl)
    ·(intro u w hSw hF; go_simp; try with_reducible rfl)
    try simp only [aput, List.set]
    apply goV_val _ (by intro u; rfl)
    ·(intro u w hSw hF; go_simp; try with_reducible rfl)
    try simp only [aput, List.set]
    apply goV_val _ (by intro u; rfl)
    ·(intro u w hSw hF; go_simp; try with_reducible rfl)
    try simp only [aput, List.set]
    apply goV_val _ (by intro u; rfl)
    ·(intro u w hSw hF; go_simp; try with_reducible rfl)
    try simp only [aput, List.set]
    apply goV_val _ (by intro u; rfl)
    ·(intro u w hSw hF; go_simp; try with_reducible rfl)
    try simp only [aput, List.set]
    apply goV_val _ (by intro u; rfl)
    ·(intro u w hSw hF; go_simp; try with_reducible rfl)
    try simp only [aput, List.set]
    apply goV_val _ (by intro u; rfl)
    ·(intro u w hSw hF; go_simp; try with_reducible rfl)
    try simp only [aput, List.set]
    apply goV_val _ (by intro u; rfl)
    ·(intro u w hSw hF; go_simp; try with_reducible rfl)
    try simp only [aput, List.set]
    apply goV_val _ (by intro u; rfl)
    ·(intro u w hSw hF; go_simp; try with_reducible rfl)
    try simp only [aput, List.set]
    apply goV_val _ (by intro u; rfl)
    ·(intro u w hSw hF; go_simp; try with_reducible rfl)
    try simp only [aput, List.set]
    apply goV_rel (VNewT w0.heap.size) (fun u w w' h k => by obtain ⟨g, h0, h1, h2⟩ := h; exact ⟨g, h0, h1, h2.ext k⟩) (by intro u; rfl)
    ·intro u w' hSw hF
     go_simp
     exact ⟨(Ext.refl _).alloc _, w'.heap.size, rfl, hSw.size, Blk.new _ _ _⟩
    try simp only [aput, List.set]
    intro u w1 hx1 hh
    obtain ⟨bt, et, hbt, hT0⟩ := holdsAt_get8 (V := VNewT w0.heap.size) (j := 13) hh (by simp) rfl
    clear hh
    dsimp only
    rw [et]
    clear et
    simp only [List.drop_succ_cons, List.drop_zero]
    have hokP : okT (⟨#[]⟩, zadr, (B s 17 * 256 + B s 18)) := ⟨okA_zadr, by unfold i64ok; simp only; omega, Nat.zero_le _⟩
    refine wpList_store_T (t := (⟨#[]⟩, zadr, (B s 17 * 256 + B s 18))) rfl _ _ rfl okT_ztgt hokP hT0 rfl rfl ?_
    have hT1 : TBlk _ bt (⟨#[]⟩, zadr, (B s 17 * 256 + B s 18)) := Blk.row hT0 (tc (⟨#[]⟩, zadr, (B s 17 * 256 + B s 18)))
    have hbt0 := Nat.le_trans (Nat.le_of_lt (Blk.lt hr)) hbt
    have hrb : w.heap.size ≠ bt := by have := Blk.lt hr; omega
    have hr1 := Blk.row_ne (Blk.ext hr hx1) hrb (tc (⟨#[]⟩, zadr, (B s 17 * 256 + B s 18)))
    have hx2 : Ext w _ := (hx.trans hx1).setRow (c := bt) (by have := Blk.lt hr; omega) (tc (⟨#[]⟩, zadr, (B s 17 * 256 + B s 18)))
    clear hx hx1 hr hT0
    generalize w1.setRow bt (tc (⟨#[]⟩, zadr, (B s 17 * 256 + B s 18))) = w2 at *
    have hbtw : w.heap.size <= bt := by have := hbt0; omega
    have f1 := TBlk.fam hT1
    have g1 := Blk.free hT1 1
    have hT2 : TBlk (w2.setCell ⟨bt, 1, none⟩ (.bool true)) bt (⟨#[]⟩, (true, zadr.2), (B s 17 * 256 + B s 18)) := Blk.setOne (pre := [.string ⟨#[]⟩]) hT1 rfl _
    have hr2 := Blk.set_ne hr1 ⟨bt, 1, none⟩ (Ne.symm hrb) (.bool true)
    have hx3 : Ext w (w2.setCell ⟨bt, 1, none⟩ (.bool true)) := Ext.setCell hx2 hbtw _
    clear hx2 hr1 hT1
    go_upto_region 24 with fail
    clear f1 g1
    generalize w2.setCell ⟨bt, 1, none⟩ (.bool true) = w3 at *
    go_wp2_with fail
    go_loopw [9] (fun i wr => ∃ k : Nat, k <= 16 /\ i = .int .i64 k /\ TBlk wr bt (⟨#[]⟩, (true, pad16 s 1 k), (B s 17 * 256 + B s 18)) /\ TBlk wr w.heap.size ztgt /\ Ext w wr) (fun i _ => 16 - (intOf i).toNat)
    case atStart => exact ⟨0, Nat.zero_le _, rfl, hT2, hr2, hx3⟩
    case round =>
     clear hT2 hr2 hx3
     obtain ⟨k, hk, rfl, hT2, hr2, hx3⟩ := hrel
     by_cases hlt : k < 16
     ·have hlt' : (k : Int) < 16 := by omega
      have c1 := Blk.cell hT2 (tc_at s true (B s 17 * 256 + B s 18) (k := k) (by omega))
      have f1 := Blk.free hT2 (2 + k)
      have j1 : (0 : Int) <= 1 + (k : Int) := by omega
      have j2 : (1 : Int) + (k : Int) < s.size := by omega
      have j3 : (1 + (k : Int)).toNat = 1 + k := by omega
      have j4 : (k : Int) < 16 := by omega
      have hT3 := Blk.set hT2 (2 + k) (.int .u8 (B s (1 + k)))
      rw [tc_step s true (B s 17 * 256 + B s 18) (by omega)] at hT3
      have hr3 := Blk.set_ne hr2 ⟨bt, 2 + k, none⟩ (Ne.symm hrb) (.int .u8 (B s (1 + k)))
      have hx4 : Ext w (wr.setCell ⟨bt, 2 + k, none⟩ (.int .u8 (B s (1 + k)))) := Ext.setCell hx3 hbtw _
      have HT3 := Lib.hid hT3
      have HR3 := Lib.hid hr3
      have HX4 := Lib.hid hx4
      clear hT3 hr3 hx4 hT2 hr2 hx3
      go_wp2_with fail
      go_roundw
      case rel => exact ⟨k + 1, by omega, by go_num, HT3.out, HR3.out, HX4.out⟩
      case measure => simp [intOf]; omega
     ·obtain rfl : k = 16 := by omega
      have hlt' : ¬ ((16 : Nat) : Int) < 16 := by omega
      have hokT : okT (⟨#[]⟩, (true, pad16 s 1 16), (B s 17 * 256 + B s 18)) := ⟨okA_pad _ _ _ _, by unfold i64ok; simp only; omega, Nat.zero_le _⟩
      go_wp2_with (first | refine wpList_load_T rfl _ rfl hokT hT2 rfl ?_ | refine wpList_store_T rfl _ _ rfl okT_ztgt hokT hr2 rfl rfl ?_)
      refine bodyPost_ret (res_T3 rfl rfl hokT (Blk.row hr2 _)) rfl ⟨by rw [R.out]; rfl, hx3.setRow hwb _⟩
  ·have e4 : (B s 0 == 4) = false := by rw [beq_eq_false_iff_ne]; exact c4
   by_cases c3 : B s 0 = 3
   ·have e3 : (B s 0 == 3) = true := by rw [beq_iff_eq]; exact c3
    by_cases h2 : (s.size : Int) < 2
    ·have R : Hid (tgp s = (ztgt, 0, 0)) := Lib.hid (by rw [R0.out, if_neg c1, if_neg c4, if_pos c3, if_pos (by omega)])
     clear R0 c1 c4 c3
     go_wp2_with (first | refine wpList_store_T rfl _ _ rfl okT_ztgt okT_ztgt hr rfl rfl ?_)
     refine bodyPost_ret (res_T3 rfl rfl okT_ztgt ((hr).row _)) rfl ⟨by rw [R.out]; rfl, (hx).setRow hwb _⟩
    have h2' : (1 : Int) < s.size := by omega
    obtain ⟨m, hm⟩ : ∃ m : Nat, B s 1 = m := ⟨(B s 1).toNat, by omega⟩
    have R1 : Hid (tgp s = if m = 0 then (ztgt, 0, 2) else if s.size < 4 + m then (ztgt, 0, 0) else ((s.extract 2 (2 + m), zadr, B s (2 + m) * 256 + B s (3 + m)), 4 + (m : Int), 1)) := Lib.hid (by
     rw [R0.out, if_neg c1, if_neg c4, if_pos c3, if_neg (by omega), hm, show (2 + (m : Int)).toNat = 2 + m by omega, show (3 + (m : Int)).toNat = 3 + m by omega]
     by_cases q : m = 0
     ·rw [if_pos (by omega), if_pos q]
     ·rw [if_neg (by omega), if_neg q]
      by_cases q2 : s.size < 4 + m
      ·rw [if_pos (by omega), if_pos q2]
      ·rw [if_neg (by omega), if_neg q2])
    have HM := Lib.hid hm
    have vm : IntKind.i64.wrap (m : Int) = m := IntWalk.i64_in _ (by omega)
    have hm2 : m < 256 := by omega
    clear R0 c1 c4 c3 h2
    go_upto_region 13 with fail
    go_quiet (fail)
    try rw [HM.out]
    replace hx := hx.trans ((Ext.refl w0).drewN nq)
    replace hr := Blk.ext hr ((Ext.refl w0).drewN nq)
    generalize w0.drewN nq = w0 at *
    by_cases m0 : m = 0
    ·have R : Hid (tgp s = (ztgt, 0, 2)) := Lib.hid (by rw [R1.out, if_pos m0])
     subst m0
     clear R1
     go_wp2_with (first | refine wpList_store_T rfl _ _ rfl okT_ztgt okT_ztgt hr rfl rfl ?_)
     refine bodyPost_ret (res_T3 rfl rfl okT_ztgt ((hr).row _)) rfl ⟨by rw [R.out]; rfl, (hx).setRow hwb _⟩
    ·have HM0 : ((m : Int) == 0) = false := by rw [beq_eq_false_iff_ne]; omega
     have hs1 : IntKind.i64.wrap (2 + (m : Int)) = 2 + m := IntWalk.i64_in _ (by omega)
     have hs2 : IntKind.i64.wrap (2 + (m : Int) + 2) = 2 + m + 2 := IntWalk.i64_in _ (by omega)
     have hs3 : IntKind.i64.wrap (2 + (m : Int) + 1) = 2 + m + 1 := IntWalk.i64_in _ (by omega)
     have hs4 : IntKind.i64.wrap (2 + (m : Int) + 2 - 2) = 2 + m := (IntWalk.i64_in _ (by omega)).trans (by omega)
     have hs5 : IntKind.i64.wrap (2 + (m : Int) + 2 - 1) = 2 + m + 1 := (IntWalk.i64_in _ (by omega)).trans (by omega)
     have hs6 : IntKind.i64.wrap (2 + (m : Int) + 1) = 2 + m + 1 := IntWalk.i64_in _ (by omega)
     have hn1 : (2 + (m : Int)).toNat = 2 + m := by omega
     have hn2 : (2 + (m : Int) + 1).toNat = 3 + m := by omega
     by_cases h7 : (s.size : Int) < 2 + (m : Int) + 2
     ·have R : Hid (tgp s = (ztgt, 0, 0)) := Lib.hid (by rw [R1.out, if_neg m0, if_pos (by omega)])
      clear R1 m0
      go_wp2_with (first | refine wpList_store_T rfl _ _ rfl okT_ztgt okT_ztgt hr rfl rfl ?_)
      refine bodyPost_ret (res_T3 rfl rfl okT_ztgt ((hr).row _)) rfl ⟨by rw [R.out]; rfl, (hx).setRow hwb _⟩
     ·have R : Hid (tgp s = ((s.extract 2 (2 + m), zadr, B s (2 + m) * 256 + B s (3 + m)), 4 + (m : Int), 1)) := Lib.hid (by rw [R1.out, if_neg m0, if_neg (by omega)])
      have h7' : 2 + (m : Int) + 2 <= s.size := by omega
      clear R1 m0 h7
      have bp := B_bd s (2 + m)
      have bq := B_bd s (3 + m)
      have eor := or_i64 bp.1 bp.2 bq.1 bq.2
      have v5 : IntKind.i64.wrap (B s (2 + m)) = B s (2 + m) := IntWalk.i64_in _ (by omega)
      have v6 : IntKind.i64.wrap (B s (3 + m)) = B s (3 + m) := IntWalk.i64_in _ (by omega)
      have l2 : IntKind.i64.wrap (B s (2 + m) * 256) = B s (2 + m) * 256 := IntWalk.i64_in _ (by omega)
      have l3 : wrap64 (B s (2 + m) * 256) = B s (2 + m) * 256 := IntWalk.wrap64_in _ (by omega)
      have q5 : 2 + (m : Int) < s.size := by omega
      have q6 : 2 + (m : Int) + 1 < s.size := by omega
      have q3 : 2 + (m : Int) <= s.size := by omega
      have q2 : (0 : Int) <= 2 + (m : Int) := by omega
      have q1 : (0 : Int) <= 2 + (m : Int) + 1 := by omega
      have q0 : (2 : Int) <= 2 + (m : Int) := by omega
      go_upto_region 19 with fail
      refine wp_region_rgu 14 w0 (by kernel_rfl) (by kernel_rfl) (Ext.refl _) ?_
      simp only [List.take_succ_cons, List.take_zero]
      apply goV_val _ (by intro u; rfl)
      ·(intro u w hSw hF; go_simp; try with_reducible rfl)
      try simp only [aput, List.set]
      apply goV_val _ (by intro u; rfl)
      ·(intro u w hSw hF; go_simp; try with_reducible rfl)
      try simp only [aput, List.set]
      apply goV_val _ (by intro u; rfl)
      ·(intro u w hSw hF; go_simp; try with_reducible rfl)
      try simp only [aput, List.set]
      apply goV_val _ (by intro u; rfl)
      ·(intro u w hSw hF; go_simp; try with_reducible rfl)
      try simp only [aput, List.set]
      apply goV_val _ (by intro u; rfl)
      ·(intro u w hSw hF; go_simp; try with_reducible rfl)
      try simp only [aput, List.set]
      apply goV_val _ (by intro u; rfl)
      ·(intro u w hSw hF; go_simp; try with_reducible rfl)
      try simp only [aput, List.set]
      apply goV_val _ (by intro u; rfl)
      ·(intro u w hSw hF; go_simp; try with_reducible rfl)
      try simp only [aput, List.set]
      apply goV_val _ (by intro u; rfl)
      ·(intro u w hSw hF; go_simp; try with_reducible rfl)
      try simp only [aput, List.set]
      apply goV_val _ (by intro u; rfl)
      ·(intro u w hSw hF; go_simp; try with_reducible rfl)
      try simp only [aput, List.set]
      apply goV_val _ (by intro u; rfl)
      ·(intro u w hSw hF; go_simp; try with_reducible rfl)
      try simp only [aput, List.set]
      apply goV_val _ (by intro u; rfl)
      ·(intro u w hSw hF; go_simp; try with_reducible rfl)
      try simp only [aput, List.set]
      apply goV_val _ (by intro u; rfl)
      ·(intro u w hSw hF; go_simp; try with_reducible rfl)
      try simp only [aput, List.set]
      apply goV_val _ (by intro u; rfl)
      ·(intro u w hSw hF; go_simp; try with_reducible rfl)
      try simp only [aput, List.set]
      apply goV_rel (VNewT w0.heap.size) (fun u w w' h k => by obtain ⟨g, h0, h1, h2⟩ := h; exact ⟨g, h0, h1, h2.ext k⟩) (by intro u; rfl)
      ·intro u w' hSw hF
       go_simp
       exact ⟨(Ext.refl _).alloc _, w'.heap.size, rfl, hSw.size, Blk.new _ _ _⟩
      try simp only [aput, List.set]
      intro u w1 hx1 hh
      obtain ⟨bt, et, hbt, hT0⟩ := holdsAt_get8 (V := VNewT w0.heap.size) (j := 13) hh (by simp) rfl
      clear hh
      dsimp only
      rw [et]
      clear et
      simp only [List.drop_succ_cons, List.drop_zero]
      have hokP : okT (⟨#[]⟩, zadr, (B s (2 + m) * 256 + B s (3 + m))) := ⟨okA_zadr, by unfold i64ok; simp only; omega, Nat.zero_le _⟩
      refine wpList_store_T (t := (⟨#[]⟩, zadr, (B s (2 + m) * 256 + B s (3 + m)))) rfl _ _ rfl okT_ztgt hokP hT0 rfl rfl ?_
      have hT1 : TBlk _ bt (⟨#[]⟩, zadr, (B s (2 + m) * 256 + B s (3 + m))) := Blk.row hT0 (tc (⟨#[]⟩, zadr, (B s (2 + m) * 256 + B s (3 + m))))
      have hbt0 := Nat.le_trans (Nat.le_of_lt (Blk.lt hr)) hbt
      have hrb : w.heap.size ≠ bt := by have := Blk.lt hr; omega
      have hr1 := Blk.row_ne (Blk.ext hr hx1) hrb (tc (⟨#[]⟩, zadr, (B s (2 + m) * 256 + B s (3 + m))))
      have hx2 : Ext w _ := (hx.trans hx1).setRow (c := bt) (by have := Blk.lt hr; omega) (tc (⟨#[]⟩, zadr, (B s (2 + m) * 256 + B s (3 + m))))
      clear hx hx1 hr hT0
      generalize w1.setRow bt (tc (⟨#[]⟩, zadr, (B s (2 + m) * 256 + B s (3 + m)))) = w2 at *
      have hbtw : w.heap.size <= bt := by have := hbt0; omega
      have f1 := TBlk.name hT1
      have g1 := Blk.free hT1 0
      have hT2 : TBlk (w2.setCell ⟨bt, 0, none⟩ (.string (s.extract 2 (2 + m)))) bt (s.extract 2 (2 + m), zadr, B s (2 + m) * 256 + B s (3 + m)) := Blk.setOne (pre := []) hT1 rfl _
      have hr2 := Blk.set_ne hr1 ⟨bt, 0, none⟩ (Ne.symm hrb) (.string (s.extract 2 (2 + m)))
      have hx3 : Ext w (w2.setCell ⟨bt, 0, none⟩ (.string (s.extract 2 (2 + m)))) := Ext.setCell hx2 hbtw _
      clear hx2 hr1 hT1
      have hez := extract_le s 2 (2 + m)
      have hokT : okT (s.extract 2 (2 + m), zadr, B s (2 + m) * 256 + B s (3 + m)) := ⟨okA_zadr, by unfold i64ok; simp only; omega, by unfold maxLen; simp only; omega⟩
      go_upto_region 22 with fail
      clear f1 g1
      generalize w2.setCell ⟨bt, 0, none⟩ (.string (s.extract 2 (2 + m))) = w3 at *
      go_wp2_with (first | refine wpList_load_T rfl _ rfl hokT hT2 rfl ?_ | refine wpList_store_T rfl _ _ rfl okT_ztgt hokT hr2 rfl rfl ?_)
      refine bodyPost_ret (res_T3 rfl rfl hokT (Blk.row hr2 _)) rfl ⟨?_, hx3.setRow hwb _⟩
      rw [R.out]
      simp
      omega
   ·have e3 : (B s 0 == 3) = false := by rw [beq_eq_false_iff_ne]; exact c3
    have R : Hid (tgp s = (ztgt, 0, 2)) := Lib.hid (by rw [R0.out, if_neg c1, if_neg c4, if_neg c3])
    clear R0 c1 c4 c3
    go_wp2_with (first | refine wpList_store_T rfl _ _ rfl okT_ztgt okT_ztgt hr rfl rfl ?_)
    refine bodyPost_ret (res_T3 rfl rfl okT_ztgt ((hr).row _)) rfl ⟨by rw [R.out]; rfl, (hx).setRow hwb _⟩
open Go.RowKit Go.Joins
theorem rprq_any (s : ByteArray) (hs : s.size <= 281474976710656) (w : World) : Calls Tryz.prog 112 #[.string s] w fun e w' => e = .returned (.tuple #[tv (rqp s).1, .int .i64 (rqp s).2.1, .int .i64 (rqp s).2.2.1, .int .i64 (rqp s).2.2.2]) /\ Ext w w' := by
 have b0 := B_bd s 0
 have b1 := B_bd s 1
 have b2 := B_bd s 2
 have b3 := B_bd s 3
 have R0 : Hid (rqp s = if (0 < s.size /\ B s 0 ≠ 5) ∨ (2 < s.size /\ B s 2 ≠ 0) then (ztgt, 0, 0, 2)
   else if s.size < 4 then (ztgt, 0, 0, 0)
   else if ¬ (B s 3 = 1 ∨ B s 3 = 3 ∨ B s 3 = 4) then (ztgt, 8, 4, 1)
   else if (tgp (s.extract 3 s.size)).2.2 ≠ 1 then (ztgt, 0, 0, (tgp (s.extract 3 s.size)).2.2)
   else reqTail (tgp (s.extract 3 s.size)).1 ((tgp (s.extract 3 s.size)).2.1 + 3) (B s 1)) := Lib.hid rfl
 have KT := Lib.hid (fun w => rptgt_any (s.extract 3 s.size) (Nat.le_trans (extract_le _ _ _) hs) w)
 have hT := okT_tgp (s.extract 3 s.size) (Nat.le_trans (extract_le _ _ _) (by unfold maxLen; omega))
 have hn := tgp_n (s.extract 3 s.size)
 have hnz := extract_le s 3 s.size
 have hst := tgp_st (s.extract 3 s.size)
 generalize tgp (s.extract 3 s.size) = T at *
 obtain ⟨t, n, st⟩ := T
 simp only at hT hn hst R0 KT
 have hsum : wrap64 (n + 3) = n + 3 := IntWalk.wrap64_in _ (by omega)
 clear hsum
 go_enter Tryz.func112, Tryz.ntmps112
 go_upto_region 1 with fail
 rw [← tc_zero]
 have hx0 := (Ext.refl w).alloc (.cells (tc ztgt) 43)
 have hr0 := Blk.new w (tc ztgt) 43
 generalize w.alloc (.cells (tc ztgt) 43) = w0 at *
 have hwb : w.heap.size <= w.heap.size := Nat.le_refl _
 have hx := hx0
 have hr := hr0
 clear hx0 hr0
 generalize w0 = w1 at *
 by_cases hbad : (0 < s.size /\ B s 0 ≠ 5) ∨ (2 < s.size /\ B s 2 ≠ 0)
 ·have R : Hid (rqp s = (ztgt, 0, 0, 2)) := Lib.hid (by rw [R0.out, if_pos hbad])
  by_cases h0 : 0 < s.size /\ B s 0 ≠ 5
  ·have z0 : (0 : Int) < s.size := by omega
   have e0 : (B s 0 != 5) = true := by rw [bne_iff_ne]; exact h0.2
   clear hbad h0 R0
   go_wp2_with (first | refine wpList_store_T rfl _ _ rfl okT_ztgt okT_ztgt hr rfl rfl ?_)
   refine bodyPost_ret (res_T4 rfl rfl okT_ztgt (Blk.row hr _)) rfl ⟨by rw [R.out]; rfl, Ext.setRow hx hwb _⟩
  ·have h2 := hbad.resolve_left h0
   have z0 : (0 : Int) < s.size := by omega
   have z2 : (2 : Int) < s.size := by omega
   have e0 : (B s 0 != 5) = false := by rw [bne_eq_false_iff_eq]; exact Classical.byContradiction fun q => h0 ⟨by omega, q⟩
   have e2 : (B s 2 != 0) = true := by rw [bne_iff_ne]; exact h2.2
   clear hbad h0 h2 R0
   go_wp2_with (first | refine wpList_store_T rfl _ _ rfl okT_ztgt okT_ztgt hr rfl rfl ?_)
   refine bodyPost_ret (res_T4 rfl rfl okT_ztgt (Blk.row hr _)) rfl ⟨by rw [R.out]; rfl, Ext.setRow hx hwb _⟩
 have R1 : Hid (rqp s = if s.size < 4 then (ztgt, 0, 0, 0)
   else if ¬ (B s 3 = 1 ∨ B s 3 = 3 ∨ B s 3 = 4) then (ztgt, 8, 4, 1)
   else if st ≠ 1 then (ztgt, 0, 0, st)
   else reqTail t (n + 3) (B s 1)) := Lib.hid (by rw [R0.out, if_neg hbad])
 have hb0 : (s.size : Int) <= 0 ∨ (B s 0 != 5) = false := by
  by_cases q : s.size = 0
  ·left; omega
  ·right; rw [bne_eq_false_iff_eq]; exact Classical.byContradiction fun q2 => hbad (.inl ⟨by omega, q2⟩)
 have hb2 : (s.size : Int) <= 2 ∨ (B s 2 != 0) = false := by
  by_cases q : s.size <= 2
  ·left; omega
  ·right; rw [bne_eq_false_iff_eq]; exact Classical.byContradiction fun q2 => hbad (.inr ⟨by omega, q2⟩)
 clear hbad R0
 by_cases z4 : (s.size : Int) < 4
 ·have R : Hid (rqp s = (ztgt, 0, 0, 0)) := Lib.hid (by rw [R1.out, if_pos (by omega)])
  clear R1
  rcases hb0 with q0 | q0
  ·have y0 : ¬ (0 : Int) < s.size := by omega
   have y2 : ¬ (2 : Int) < s.size := by omega
   clear hb2
   go_wp2_with (first | refine wpList_store_T rfl _ _ rfl okT_ztgt okT_ztgt hr rfl rfl ?_)
   refine bodyPost_ret (res_T4 rfl rfl okT_ztgt (Blk.row hr _)) rfl ⟨by rw [R.out]; rfl, Ext.setRow hx hwb _⟩
  ·rcases hb2 with q2 | q2
   ·have y2 : ¬ (2 : Int) < s.size := by omega
    by_cases y0 : (0 : Int) < s.size
    ·skip
     go_wp2_with (first | refine wpList_store_T rfl _ _ rfl okT_ztgt okT_ztgt hr rfl rfl ?_)
     refine bodyPost_ret (res_T4 rfl rfl okT_ztgt (Blk.row hr _)) rfl ⟨by rw [R.out]; rfl, Ext.setRow hx hwb _⟩
    ·skip
     go_wp2_with (first | refine wpList_store_T rfl _ _ rfl okT_ztgt okT_ztgt hr rfl rfl ?_)
     refine bodyPost_ret (res_T4 rfl rfl okT_ztgt (Blk.row hr _)) rfl ⟨by rw [R.out]; rfl, Ext.setRow hx hwb _⟩
   ·by_cases y2 : (2 : Int) < s.size
    ·have y0 : (0 : Int) < s.size := by omega
     go_wp2_with (first | refine wpList_store_T rfl _ _ rfl okT_ztgt okT_ztgt hr rfl rfl ?_)
     refine bodyPost_ret (res_T4 rfl rfl okT_ztgt (Blk.row hr _)) rfl ⟨by rw [R.out]; rfl, Ext.setRow hx hwb _⟩
    ·by_cases y0 : (0 : Int) < s.size
     ·skip
      go_wp2_with (first | refine wpList_store_T rfl _ _ rfl okT_ztgt okT_ztgt hr rfl rfl ?_)
      refine bodyPost_ret (res_T4 rfl rfl okT_ztgt (Blk.row hr _)) rfl ⟨by rw [R.out]; rfl, Ext.setRow hx hwb _⟩
     ·skip
      go_wp2_with (first | refine wpList_store_T rfl _ _ rfl okT_ztgt okT_ztgt hr rfl rfl ?_)
      refine bodyPost_ret (res_T4 rfl rfl okT_ztgt (Blk.row hr _)) rfl ⟨by rw [R.out]; rfl, Ext.setRow hx hwb _⟩
 have y0 : (0 : Int) < s.size := by omega
 have y2 : (2 : Int) < s.size := by omega
 have z3 : (3 : Int) < s.size := by omega
 have z1 : (1 : Int) < s.size := by omega
 have q0 : (B s 0 != 5) = false := hb0.resolve_left (by omega)
 have q2 : (B s 2 != 0) = false := hb2.resolve_left (by omega)
 clear hb0 hb2
 have R2 : Hid (rqp s = if ¬ (B s 3 = 1 ∨ B s 3 = 3 ∨ B s 3 = 4) then (ztgt, 8, 4, 1)
   else if st ≠ 1 then (ztgt, 0, 0, st)
   else reqTail t (n + 3) (B s 1)) := Lib.hid (by rw [R1.out, if_neg (by omega)])
 clear R1
 go_upto_region 5 with fail
 clear q0 q2
 by_cases k1 : B s 3 = 1 ∨ B s 3 = 3 ∨ B s 3 = 4
 case neg =>
  have R : Hid (rqp s = (ztgt, 8, 4, 1)) := Lib.hid (by rw [R2.out, if_pos k1])
  have e1 : (B s 3 != 1) = true := by rw [bne_iff_ne]; omega
  have e3 : (B s 3 != 3) = true := by rw [bne_iff_ne]; omega
  have e4 : (B s 3 != 4) = true := by rw [bne_iff_ne]; omega
  clear R2 k1
  go_wp2_with (first | refine wpList_store_T rfl _ _ rfl okT_ztgt okT_ztgt hr rfl rfl ?_)
  refine bodyPost_ret (res_T4 rfl rfl okT_ztgt (Blk.row hr _)) rfl ⟨by rw [R.out]; rfl, Ext.setRow hx hwb _⟩
 have R3 : Hid (rqp s = if st ≠ 1 then (ztgt, 0, 0, st) else reqTail t (n + 3) (B s 1)) := Lib.hid (by rw [R2.out, if_neg (fun q => q k1)])
 clear R2
 have hgo : Hid True := Lib.hid trivial
 rcases k1 with k1 | k1 | k1
 ·have e1 : (B s 3 != 1) = false := by rw [bne_eq_false_iff_eq]; exact k1
  clear k1
  go_upto_region 7 with fail
  clear e1
  go_upto_region 8 with (first | (go_at_call 134; refine (KT.out _).mono ?_; rintro e w2 ⟨rfl, hx2⟩; have hbt := Blk.new w2 (tc ztgt) 43) | refine wpList_store_T rfl _ _ rfl okT_ztgt hT hbt rfl rfl ?_)
  rw [← tc_zero, World.setRow_alloc_new]
  clear hbt
  have hx3 := (hx.trans hx2).alloc (.cells (tc t) 43)
  have hr3 := Blk.ext (Blk.ext hr hx2) ((Ext.refl w2).alloc (.cells (tc t) 43))
  have hT3 : TBlk _ w2.heap.size t := Blk.new w2 (tc t) 43
  have hrb : w.heap.size ≠ w2.heap.size := by have := Blk.lt hr; have := hx2.size; omega
  have hbw : w.heap.size <= w2.heap.size := (hx.trans hx2).size
  clear hx hx2 hr
  generalize w2.alloc (.cells (tc t) 43) = w3 at *
  generalize w2.heap.size = bt at *
  rcases hst with rfl | rfl | rfl
  ·have R : Hid (rqp s = (ztgt, 0, 0, 0)) := Lib.hid (by rw [R3.out, if_pos (by decide)])
   clear R3
   go_wp2_with (first | refine wpList_store_T rfl _ _ rfl okT_ztgt okT_ztgt hr3 rfl rfl ?_)
   refine bodyPost_ret (res_T4 rfl rfl okT_ztgt (Blk.row hr3 _)) rfl ⟨by rw [R.out]; rfl, Ext.setRow hx3 hwb _⟩
  case inr.inr =>
   have R : Hid (rqp s = (ztgt, 0, 0, 2)) := Lib.hid (by rw [R3.out, if_pos (by decide)])
   clear R3
   go_wp2_with (first | refine wpList_store_T rfl _ _ rfl okT_ztgt okT_ztgt hr3 rfl rfl ?_)
   refine bodyPost_ret (res_T4 rfl rfl okT_ztgt (Blk.row hr3 _)) rfl ⟨by rw [R.out]; rfl, Ext.setRow hx3 hwb _⟩
  have R4 : Hid (rqp s = reqTail t (n + 3) (B s 1)) := Lib.hid (by rw [R3.out, if_neg (by decide)])
  clear R3
  go_upto_region 10 with fail
  by_cases c1 : B s 1 = 1
  case neg =>
   have cb : (B s 1 != 1) = true := by rw [bne_iff_ne]; exact c1
   have R : Hid (rqp s = (ztgt, 7, n + 3, 1)) := Lib.hid (by rw [R4.out]; unfold reqTail; rw [if_pos c1])
   clear R4 c1
   go_wp2_with (first | refine wpList_store_T rfl _ _ rfl okT_ztgt okT_ztgt hr3 rfl rfl ?_)
   refine bodyPost_ret (res_T4 rfl rfl okT_ztgt (Blk.row hr3 _)) rfl ⟨by rw [R.out]; rfl, Ext.setRow hx3 hwb _⟩
  have cb : (B s 1 != 1) = false := by rw [bne_eq_false_iff_eq]; exact c1
  have R5 : Hid (rqp s = if t.1.size ≠ 0 /\ (nameP t.1).2 = false then (ztgt, 1, n + 3, 1)
    else if t.2.2 = 0 then (ztgt, 1, n + 3, 1)
    else ((if t.1.size = 0 then t.1 else (nameP t.1).1, t.2), 0, n + 3, 1)) := Lib.hid (by rw [R4.out]; unfold reqTail; rw [if_neg (by omega)])
  clear R4 c1
  have c0 := TBlk.name hT3
  by_cases n0 : t.1.size = 0
  ·have nb := nil_yes n0
   have R6 : Hid (rqp s = if t.2.2 = 0 then (ztgt, 1, n + 3, 1) else (t, 0, n + 3, 1)) := Lib.hid (by rw [R5.out, if_neg (fun q => q.1 n0), if_pos n0])
   clear R5 n0
   have cP := TBlk.port hT hT3
   go_upto_region 17 with fail
   by_cases p0 : t.2.2 = 0
   ·have pb : (t.2.2 == 0) = true := by rw [beq_iff_eq]; exact p0
    have R : Hid (rqp s = (ztgt, 1, n + 3, 1)) := Lib.hid (by rw [R6.out, if_pos p0])
    clear R6 p0
    go_wp2_with (first | refine wpList_store_T rfl _ _ rfl okT_ztgt okT_ztgt hr3 rfl rfl ?_)
    refine bodyPost_ret (res_T4 rfl rfl okT_ztgt (Blk.row hr3 _)) rfl ⟨by rw [R.out]; rfl, Ext.setRow hx3 hwb _⟩
   ·have pb : (t.2.2 == 0) = false := by rw [beq_eq_false_iff_ne]; exact p0
    have R : Hid (rqp s = (t, 0, n + 3, 1)) := Lib.hid (by rw [R6.out, if_neg p0])
    clear R6 p0
    go_wp2_with (first | refine wpList_load_T rfl _ rfl hT hT3 rfl ?_ | refine wpList_store_T rfl _ _ rfl okT_ztgt hT hr3 rfl rfl ?_)
    refine bodyPost_ret (res_T4 rfl rfl hT (Blk.row hr3 _)) rfl ⟨by rw [R.out]; rfl, Ext.setRow hx3 hwb _⟩
  ·have nb := nil_no n0
   have KN := Lib.hid (rpname_any t.1 w3 hT.2.2)
   have hpn := nameP_nil t.1
   have hps := Nat.le_trans (nameP_size t.1) hT.2.2
   generalize nameP t.1 = NP at *
   obtain ⟨nm, okn⟩ := NP
   simp only at hpn hps KN R5
   have f0 := Blk.free hT3 0
   go_upto_region 13 with fail
   go_upto_region 14 with (first | (go_at_call 135; refine KN.out.mono ?_; rintro e w4 ⟨rfl, hx4⟩; have f04 := Blk.free (Blk.ext hT3 hx4) 0; have c04 := TBlk.name (Blk.ext hT3 hx4)))
   have hr4 := Blk.ext hr3 hx4
   have hx34 := hx3.trans hx4
   cases okn with
   | false =>
    have R : Hid (rqp s = (ztgt, 1, n + 3, 1)) := Lib.hid (by rw [R5.out, if_pos ⟨n0, rfl⟩])
    clear R5 n0 hpn f04 c04
    go_wp2_with (first | refine wpList_store_T rfl _ _ rfl okT_ztgt okT_ztgt hr4 rfl rfl ?_)
    refine bodyPost_ret (res_T4 rfl rfl okT_ztgt (Blk.row hr4 _)) rfl ⟨by rw [R.out]; rfl, Ext.setRow hx34 hwb _⟩
   | true =>
    have R6 : Hid (rqp s = if t.2.2 = 0 then (ztgt, 1, n + 3, 1) else ((nm, t.2), 0, n + 3, 1)) := Lib.hid (by rw [R5.out, if_neg (fun q => by have := q.2; simp at this), if_neg n0])
    have hT5 : TBlk (w4.setCell ⟨bt, 0, none⟩ (.string nm)) bt (nm, t.2) := Blk.setOne (pre := []) (Blk.ext hT3 hx4) rfl _
    have hr5 := Blk.set_ne hr4 ⟨bt, 0, none⟩ (Ne.symm hrb) (.string nm)
    have hx5 : Ext w (w4.setCell ⟨bt, 0, none⟩ (.string nm)) := Ext.setCell hx34 hbw _
    have hT' : okT (nm, t.2) := ⟨hT.1, hT.2.1, hps⟩
    clear R5 n0 hpn hr4 hx34 hx3 hx4 hr3 hT3 nb KN c0 f0
    go_upto_region 17 with fail
    clear f04 c04
    generalize w4.setCell ⟨bt, 0, none⟩ (.string nm) = w5 at *
    have cP := TBlk.port hT' hT5
    go_upto_region 17 with fail
    by_cases p0 : t.2.2 = 0
    ·have pb : (t.2.2 == 0) = true := by rw [beq_iff_eq]; exact p0
     have R : Hid (rqp s = (ztgt, 1, n + 3, 1)) := Lib.hid (by rw [R6.out, if_pos p0])
     clear R6 p0
     go_wp2_with (first | refine wpList_store_T rfl _ _ rfl okT_ztgt okT_ztgt hr5 rfl rfl ?_)
     refine bodyPost_ret (res_T4 rfl rfl okT_ztgt (Blk.row hr5 _)) rfl ⟨by rw [R.out]; rfl, Ext.setRow hx5 hwb _⟩
    ·have pb : (t.2.2 == 0) = false := by rw [beq_eq_false_iff_ne]; exact p0
     have R : Hid (rqp s = ((nm, t.2), 0, n + 3, 1)) := Lib.hid (by rw [R6.out, if_neg p0])
     clear R6 p0
     go_wp2_with (first | refine wpList_load_T rfl _ rfl hT' hT5 rfl ?_ | refine wpList_store_T rfl _ _ rfl okT_ztgt hT' hr5 rfl rfl ?_)
     refine bodyPost_ret (res_T4 rfl rfl hT' (Blk.row hr5 _)) rfl ⟨by rw [R.out]; rfl, Ext.setRow hx5 hwb _⟩
 ·have e1 : (B s 3 != 1) = true := by rw [bne_iff_ne]; omega
  have e3 : (B s 3 != 3) = false := by rw [bne_eq_false_iff_eq]; exact k1
  clear k1
  go_upto_region 7 with fail
  clear e1 e3
  go_upto_region 8 with (first | (go_at_call 134; refine (KT.out _).mono ?_; rintro e w2 ⟨rfl, hx2⟩; have hbt := Blk.new w2 (tc ztgt) 43) | refine wpList_store_T rfl _ _ rfl okT_ztgt hT hbt rfl rfl ?_)
  rw [← tc_zero, World.setRow_alloc_new]
  clear hbt
  have hx3 := (hx.trans hx2).alloc (.cells (tc t) 43)
  have hr3 := Blk.ext (Blk.ext hr hx2) ((Ext.refl w2).alloc (.cells (tc t) 43))
  have hT3 : TBlk _ w2.heap.size t := Blk.new w2 (tc t) 43
  have hrb : w.heap.size ≠ w2.heap.size := by have := Blk.lt hr; have := hx2.size; omega
  have hbw : w.heap.size <= w2.heap.size := (hx.trans hx2).size
  clear hx hx2 hr
  generalize w2.alloc (.cells (tc t) 43) = w3 at *
  generalize w2.heap.size = bt at *
  rcases hst with rfl | rfl | rfl
  ·have R : Hid (rqp s = (ztgt, 0, 0, 0)) := Lib.hid (by rw [R3.out, if_pos (by decide)])
   clear R3
   go_wp2_with (first | refine wpList_store_T rfl _ _ rfl okT_ztgt okT_ztgt hr3 rfl rfl ?_)
   refine bodyPost_ret (res_T4 rfl rfl okT_ztgt (Blk.row hr3 _)) rfl ⟨by rw [R.out]; rfl, Ext.setRow hx3 hwb _⟩
  case inr.inr =>
   have R : Hid (rqp s = (ztgt, 0, 0, 2)) := Lib.hid (by rw [R3.out, if_pos (by decide)])
   clear R3
   go_wp2_with (first | refine wpList_store_T rfl _ _ rfl okT_ztgt okT_ztgt hr3 rfl rfl ?_)
   refine bodyPost_ret (res_T4 rfl rfl okT_ztgt (Blk.row hr3 _)) rfl ⟨by rw [R.out]; rfl, Ext.setRow hx3 hwb _⟩
  have R4 : Hid (rqp s = reqTail t (n + 3) (B s 1)) := Lib.hid (by rw [R3.out, if_neg (by decide)])
  clear R3
  go_upto_region 10 with fail
  by_cases c1 : B s 1 = 1
  case neg =>
   have cb : (B s 1 != 1) = true := by rw [bne_iff_ne]; exact c1
   have R : Hid (rqp s = (ztgt, 7, n + 3, 1)) := Lib.hid (by rw [R4.out]; unfold reqTail; rw [if_pos c1])
   clear R4 c1
   go_wp2_with (first | refine wpList_store_T rfl _ _ rfl okT_ztgt okT_ztgt hr3 rfl rfl ?_)
   refine bodyPost_ret (res_T4 rfl rfl okT_ztgt (Blk.row hr3 _)) rfl ⟨by rw [R.out]; rfl, Ext.setRow hx3 hwb _⟩
  have cb : (B s 1 != 1) = false := by rw [bne_eq_false_iff_eq]; exact c1
  have R5 : Hid (rqp s = if t.1.size ≠ 0 /\ (nameP t.1).2 = false then (ztgt, 1, n + 3, 1)
    else if t.2.2 = 0 then (ztgt, 1, n + 3, 1)
    else ((if t.1.size = 0 then t.1 else (nameP t.1).1, t.2), 0, n + 3, 1)) := Lib.hid (by rw [R4.out]; unfold reqTail; rw [if_neg (by omega)])
  clear R4 c1
  have c0 := TBlk.name hT3
  by_cases n0 : t.1.size = 0
  ·have nb := nil_yes n0
   have R6 : Hid (rqp s = if t.2.2 = 0 then (ztgt, 1, n + 3, 1) else (t, 0, n + 3, 1)) := Lib.hid (by rw [R5.out, if_neg (fun q => q.1 n0), if_pos n0])
   clear R5 n0
   have cP := TBlk.port hT hT3
   go_upto_region 17 with fail
   by_cases p0 : t.2.2 = 0
   ·have pb : (t.2.2 == 0) = true := by rw [beq_iff_eq]; exact p0
    have R : Hid (rqp s = (ztgt, 1, n + 3, 1)) := Lib.hid (by rw [R6.out, if_pos p0])
    clear R6 p0
    go_wp2_with (first | refine wpList_store_T rfl _ _ rfl okT_ztgt okT_ztgt hr3 rfl rfl ?_)
    refine bodyPost_ret (res_T4 rfl rfl okT_ztgt (Blk.row hr3 _)) rfl ⟨by rw [R.out]; rfl, Ext.setRow hx3 hwb _⟩
   ·have pb : (t.2.2 == 0) = false := by rw [beq_eq_false_iff_ne]; exact p0
    have R : Hid (rqp s = (t, 0, n + 3, 1)) := Lib.hid (by rw [R6.out, if_neg p0])
    clear R6 p0
    go_wp2_with (first | refine wpList_load_T rfl _ rfl hT hT3 rfl ?_ | refine wpList_store_T rfl _ _ rfl okT_ztgt hT hr3 rfl rfl ?_)
    refine bodyPost_ret (res_T4 rfl rfl hT (Blk.row hr3 _)) rfl ⟨by rw [R.out]; rfl, Ext.setRow hx3 hwb _⟩
  ·have nb := nil_no n0
   have KN := Lib.hid (rpname_any t.1 w3 hT.2.2)
   have hpn := nameP_nil t.1
   have hps := Nat.le_trans (nameP_size t.1) hT.2.2
   generalize nameP t.1 = NP at *
   obtain ⟨nm, okn⟩ := NP
   simp only at hpn hps KN R5
   have f0 := Blk.free hT3 0
   go_upto_region 13 with fail
   go_upto_region 14 with (first | (go_at_call 135; refine KN.out.mono ?_; rintro e w4 ⟨rfl, hx4⟩; have f04 := Blk.free (Blk.ext hT3 hx4) 0; have c04 := TBlk.name (Blk.ext hT3 hx4)))
   have hr4 := Blk.ext hr3 hx4
   have hx34 := hx3.trans hx4
   cases okn with
   | false =>
    have R : Hid (rqp s = (ztgt, 1, n + 3, 1)) := Lib.hid (by rw [R5.out, if_pos ⟨n0, rfl⟩])
    clear R5 n0 hpn f04 c04
    go_wp2_with (first | refine wpList_store_T rfl _ _ rfl okT_ztgt okT_ztgt hr4 rfl rfl ?_)
    refine bodyPost_ret (res_T4 rfl rfl okT_ztgt (Blk.row hr4 _)) rfl ⟨by rw [R.out]; rfl, Ext.setRow hx34 hwb _⟩
   | true =>
    have R6 : Hid (rqp s = if t.2.2 = 0 then (ztgt, 1, n + 3, 1) else ((nm, t.2), 0, n + 3, 1)) := Lib.hid (by rw [R5.out, if_neg (fun q => by have := q.2; simp at this), if_neg n0])
    have hT5 : TBlk (w4.setCell ⟨bt, 0, none⟩ (.string nm)) bt (nm, t.2) := Blk.setOne (pre := []) (Blk.ext hT3 hx4) rfl _
    have hr5 := Blk.set_ne hr4 ⟨bt, 0, none⟩ (Ne.symm hrb) (.string nm)
    have hx5 : Ext w (w4.setCell ⟨bt, 0, none⟩ (.string nm)) := Ext.setCell hx34 hbw _
    have hT' : okT (nm, t.2) := ⟨hT.1, hT.2.1, hps⟩
    clear R5 n0 hpn hr4 hx34 hx3 hx4 hr3 hT3 nb KN c0 f0
    go_upto_region 17 with fail
    clear f04 c04
    generalize w4.setCell ⟨bt, 0, none⟩ (.string nm) = w5 at *
    have cP := TBlk.port hT' hT5
    go_upto_region 17 with fail
    by_cases p0 : t.2.2 = 0
    ·have pb : (t.2.2 == 0) = true := by rw [beq_iff_eq]; exact p0
     have R : Hid (rqp s = (ztgt, 1, n + 3, 1)) := Lib.hid (by rw [R6.out, if_pos p0])
     clear R6 p0
     go_wp2_with (first | refine wpList_store_T rfl _ _ rfl okT_ztgt okT_ztgt hr5 rfl rfl ?_)
     refine bodyPost_ret (res_T4 rfl rfl okT_ztgt (Blk.row hr5 _)) rfl ⟨by rw [R.out]; rfl, Ext.setRow hx5 hwb _⟩
    ·have pb : (t.2.2 == 0) = false := by rw [beq_eq_false_iff_ne]; exact p0
     have R : Hid (rqp s = ((nm, t.2), 0, n + 3, 1)) := Lib.hid (by rw [R6.out, if_neg p0])
     clear R6 p0
     go_wp2_with (first | refine wpList_load_T rfl _ rfl hT' hT5 rfl ?_ | refine wpList_store_T rfl _ _ rfl okT_ztgt hT' hr5 rfl rfl ?_)
     refine bodyPost_ret (res_T4 rfl rfl hT' (Blk.row hr5 _)) rfl ⟨by rw [R.out]; rfl, Ext.setRow hx5 hwb _⟩
 ·have e1 : (B s 3 != 1) = true := by rw [bne_iff_ne]; omega
  have e3 : (B s 3 != 3) = true := by rw [bne_iff_ne]; omega
  have e4 : (B s 3 != 4) = false := by rw [bne_eq_false_iff_eq]; exact k1
  clear k1
  go_upto_region 7 with fail
  clear e1 e3 e4
  go_upto_region 8 with (first | (go_at_call 134; refine (KT.out _).mono ?_; rintro e w2 ⟨rfl, hx2⟩; have hbt := Blk.new w2 (tc ztgt) 43) | refine wpList_store_T rfl _ _ rfl okT_ztgt hT hbt rfl rfl ?_)
  rw [← tc_zero, World.setRow_alloc_new]
  clear hbt
  have hx3 := (hx.trans hx2).alloc (.cells (tc t) 43)
  have hr3 := Blk.ext (Blk.ext hr hx2) ((Ext.refl w2).alloc (.cells (tc t) 43))
  have hT3 : TBlk _ w2.heap.size t := Blk.new w2 (tc t) 43
  have hrb : w.heap.size ≠ w2.heap.size := by have := Blk.lt hr; have := hx2.size; omega
  have hbw : w.heap.size <= w2.heap.size := (hx.trans hx2).size
  clear hx hx2 hr
  generalize w2.alloc (.cells (tc t) 43) = w3 at *
  generalize w2.heap.size = bt at *
  rcases hst with rfl | rfl | rfl
  ·have R : Hid (rqp s = (ztgt, 0, 0, 0)) := Lib.hid (by rw [R3.out, if_pos (by decide)])
   clear R3
   go_wp2_with (first | refine wpList_store_T rfl _ _ rfl okT_ztgt okT_ztgt hr3 rfl rfl ?_)
   refine bodyPost_ret (res_T4 rfl rfl okT_ztgt (Blk.row hr3 _)) rfl ⟨by rw [R.out]; rfl, Ext.setRow hx3 hwb _⟩
  case inr.inr =>
   have R : Hid (rqp s = (ztgt, 0, 0, 2)) := Lib.hid (by rw [R3.out, if_pos (by decide)])
   clear R3
   go_wp2_with (first | refine wpList_store_T rfl _ _ rfl okT_ztgt okT_ztgt hr3 rfl rfl ?_)
   refine bodyPost_ret (res_T4 rfl rfl okT_ztgt (Blk.row hr3 _)) rfl ⟨by rw [R.out]; rfl, Ext.setRow hx3 hwb _⟩
  have R4 : Hid (rqp s = reqTail t (n + 3) (B s 1)) := Lib.hid (by rw [R3.out, if_neg (by decide)])
  clear R3
  go_upto_region 10 with fail
  by_cases c1 : B s 1 = 1
  case neg =>
   have cb : (B s 1 != 1) = true := by rw [bne_iff_ne]; exact c1
   have R : Hid (rqp s = (ztgt, 7, n + 3, 1)) := Lib.hid (by rw [R4.out]; unfold reqTail; rw [if_pos c1])
   clear R4 c1
   go_wp2_with (first | refine wpList_store_T rfl _ _ rfl okT_ztgt okT_ztgt hr3 rfl rfl ?_)
   refine bodyPost_ret (res_T4 rfl rfl okT_ztgt (Blk.row hr3 _)) rfl ⟨by rw [R.out]; rfl, Ext.setRow hx3 hwb _⟩
  have cb : (B s 1 != 1) = false := by rw [bne_eq_false_iff_eq]; exact c1
  have R5 : Hid (rqp s = if t.1.size ≠ 0 /\ (nameP t.1).2 = false then (ztgt, 1, n + 3, 1)
    else if t.2.2 = 0 then (ztgt, 1, n + 3, 1)
    else ((if t.1.size = 0 then t.1 else (nameP t.1).1, t.2), 0, n + 3, 1)) := Lib.hid (by rw [R4.out]; unfold reqTail; rw [if_neg (by omega)])
  clear R4 c1
  have c0 := TBlk.name hT3
  by_cases n0 : t.1.size = 0
  ·have nb := nil_yes n0
   have R6 : Hid (rqp s = if t.2.2 = 0 then (ztgt, 1, n + 3, 1) else (t, 0, n + 3, 1)) := Lib.hid (by rw [R5.out, if_neg (fun q => q.1 n0), if_pos n0])
   clear R5 n0
   have cP := TBlk.port hT hT3
   go_upto_region 17 with fail
   by_cases p0 : t.2.2 = 0
   ·have pb : (t.2.2 == 0) = true := by rw [beq_iff_eq]; exact p0
    have R : Hid (rqp s = (ztgt, 1, n + 3, 1)) := Lib.hid (by rw [R6.out, if_pos p0])
    clear R6 p0
    go_wp2_with (first | refine wpList_store_T rfl _ _ rfl okT_ztgt okT_ztgt hr3 rfl rfl ?_)
    refine bodyPost_ret (res_T4 rfl rfl okT_ztgt (Blk.row hr3 _)) rfl ⟨by rw [R.out]; rfl, Ext.setRow hx3 hwb _⟩
   ·have pb : (t.2.2 == 0) = false := by rw [beq_eq_false_iff_ne]; exact p0
    have R : Hid (rqp s = (t, 0, n + 3, 1)) := Lib.hid (by rw [R6.out, if_neg p0])
    clear R6 p0
    go_wp2_with (first | refine wpList_load_T rfl _ rfl hT hT3 rfl ?_ | refine wpList_store_T rfl _ _ rfl okT_ztgt hT hr3 rfl rfl ?_)
    refine bodyPost_ret (res_T4 rfl rfl hT (Blk.row hr3 _)) rfl ⟨by rw [R.out]; rfl, Ext.setRow hx3 hwb _⟩
  ·have nb := nil_no n0
   have KN := Lib.hid (rpname_any t.1 w3 hT.2.2)
   have hpn := nameP_nil t.1
   have hps := Nat.le_trans (nameP_size t.1) hT.2.2
   generalize nameP t.1 = NP at *
   obtain ⟨nm, okn⟩ := NP
   simp only at hpn hps KN R5
   have f0 := Blk.free hT3 0
   go_upto_region 13 with fail
   go_upto_region 14 with (first | (go_at_call 135; refine KN.out.mono ?_; rintro e w4 ⟨rfl, hx4⟩; have f04 := Blk.free (Blk.ext hT3 hx4) 0; have c04 := TBlk.name (Blk.ext hT3 hx4)))
   have hr4 := Blk.ext hr3 hx4
   have hx34 := hx3.trans hx4
   cases okn with
   | false =>
    have R : Hid (rqp s = (ztgt, 1, n + 3, 1)) := Lib.hid (by rw [R5.out, if_pos ⟨n0, rfl⟩])
    clear R5 n0 hpn f04 c04
    go_wp2_with (first | refine wpList_store_T rfl _ _ rfl okT_ztgt okT_ztgt hr4 rfl rfl ?_)
    refine bodyPost_ret (res_T4 rfl rfl okT_ztgt (Blk.row hr4 _)) rfl ⟨by rw [R.out]; rfl, Ext.setRow hx34 hwb _⟩
   | true =>
    have R6 : Hid (rqp s = if t.2.2 = 0 then (ztgt, 1, n + 3, 1) else ((nm, t.2), 0, n + 3, 1)) := Lib.hid (by rw [R5.out, if_neg (fun q => by have := q.2; simp at this), if_neg n0])
    have hT5 : TBlk (w4.setCell ⟨bt, 0, none⟩ (.string nm)) bt (nm, t.2) := Blk.setOne (pre := []) (Blk.ext hT3 hx4) rfl _
    have hr5 := Blk.set_ne hr4 ⟨bt, 0, none⟩ (Ne.symm hrb) (.string nm)
    have hx5 : Ext w (w4.setCell ⟨bt, 0, none⟩ (.string nm)) := Ext.setCell hx34 hbw _
    have hT' : okT (nm, t.2) := ⟨hT.1, hT.2.1, hps⟩
    clear R5 n0 hpn hr4 hx34 hx3 hx4 hr3 hT3 nb KN c0 f0
    go_upto_region 17 with fail
    clear f04 c04
    generalize w4.setCell ⟨bt, 0, none⟩ (.string nm) = w5 at *
    have cP := TBlk.port hT' hT5
    go_upto_region 17 with fail
    by_cases p0 : t.2.2 = 0
    ·have pb : (t.2.2 == 0) = true := by rw [beq_iff_eq]; exact p0
     have R : Hid (rqp s = (ztgt, 1, n + 3, 1)) := Lib.hid (by rw [R6.out, if_pos p0])
     clear R6 p0
     go_wp2_with (first | refine wpList_store_T rfl _ _ rfl okT_ztgt okT_ztgt hr5 rfl rfl ?_)
     refine bodyPost_ret (res_T4 rfl rfl okT_ztgt (Blk.row hr5 _)) rfl ⟨by rw [R.out]; rfl, Ext.setRow hx5 hwb _⟩
    ·have pb : (t.2.2 == 0) = false := by rw [beq_eq_false_iff_ne]; exact p0
     have R : Hid (rqp s = ((nm, t.2), 0, n + 3, 1)) := Lib.hid (by rw [R6.out, if_neg p0])
     clear R6 p0
     go_wp2_with (first | refine wpList_load_T rfl _ rfl hT' hT5 rfl ?_ | refine wpList_store_T rfl _ _ rfl okT_ztgt hT' hr5 rfl rfl ?_)
     refine bodyPost_ret (res_T4 rfl rfl hT' (Blk.row hr5 _)) rfl ⟨by rw [R.out]; rfl, Ext.setRow hx5 hwb _⟩
end Go.Proofs.YtnohnnjeabehjaaGreatDoor
