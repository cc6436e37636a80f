/-
  Several texts joined: HtG, HtH.
-/
import Derived.Lib.BufferWrite
import Derived.Test.YtnohnnjeabehjaaGreatDoorK12
import Derived.Test.YtnohnnjeabehjaaGreatDoorK28
import Derived.Test.YtnohnnjeabehjaaGreatDoorK24
import Derived.Test.YtnohnnjeabehjaaGreatDoorK11
import Derived.Test.YtnohnnjeabehjaaGreatDoorK13
import Derived.Test.YtnohnnjeabehjaaGreatDoorK18
import Derived.Test.YtnohnnjeabehjaaGreatDoorK20
set_option maxHeartbeats 4000000
set_option maxRecDepth 8000
set_option linter.unusedVariables false
set_option linter.unusedSimpArgs false
namespace Go.Proofs.YtnohnnjeabehjaaGreatDoor
open Go.RowKit Go.Joins
theorem res_T3 {fn : Func} {t u v : Tmp} (h : fn.results = #[.cell t 43, .tmp u, .tmp v]) {tmps : Array Value} {c : Nat} (hq : tmps.getD t undef = .pointer (some ⟨c, 0, none⟩)) {w : World} {p : Tgt} (hp : okT p) (hb : TBlk w c p) :
  (results fn tmps).run Tryz.prog w = .ok (.tuple #[.agg (tc p), tmps.getD u undef, tmps.getD v undef]) w := by
 have := loadV_T hp hb
 have hq' : tmps[t]?.getD undef = .pointer (some ⟨c, 0, none⟩) := by simpa using hq
 simp [results, h, hq', this, Sem.run_bind, asAddr]
def VNewT (base : Nat) : Value -> World -> Prop := fun u w => ∃ b, u = .pointer (some ⟨b, 0, none⟩) /\ base <= b /\ TBlk w b ztgt
theorem bcells_ext (s : ByteArray) {a n : Nat} (h : a + n <= s.size) : Lib.byteCells (s.extract a (a + n)).data.toList = (List.range n).map fun j => Value.int .u8 (B s (a + j)) := by
 unfold Lib.byteCells
 refine List.ext_getElem? fun j => ?_
 rw [List.getElem?_map, List.getElem?_map]
 have hl : ((s.extract a (a + n)).data.toList)[j]? = if j < n then some (s.data.toList.getD (a + j) 0) else none := by
  rw [data_extract, List.getElem?_drop, List.getElem?_take]
  have hsz := size_list s
  by_cases q : j < n
  ·rw [if_pos (by omega), if_pos q, List.getD_eq_getElem?_getD, List.getElem?_eq_getElem (by omega)]; rfl
  ·rw [if_neg (by omega), if_neg q]
 rw [hl]
 by_cases q : j < n
 ·rw [if_pos q, List.getElem?_range q]; rfl
 ·rw [if_neg q, List.getElem?_eq_none (by rw [List.length_range]; omega)]; rfl
theorem tc_copy (s : ByteArray) (f : Bool) (p : Int) {n : Nat} (hn : n = 4 ∨ n = 16) (h : 1 + n <= s.size) : ((tc (⟨#[]⟩, (f, zadr.2), p)).toList.take 2 ++ Lib.byteCells (s.extract 1 (1 + n)).data.toList ++ (tc (⟨#[]⟩, (f, zadr.2), p)).toList.drop (2 + n)).toArray = tc (⟨#[]⟩, (f, pad16 s 1 n), p) := by
 rw [bcells_ext s h]
 rcases hn with rfl | rfl
 ·rfl
 ·rfl
theorem wpList_copy8 {ops : Array Oper} {rest : List Oper} {o : Oper} {a : Act} {w : World} {Q : Exit -> Act -> World -> Prop} (hgd : o.guard = none) (d x : Operand) (t t' : TypeId)
  (ho : o.op = .call { callee := .builtin .copy, args := #[d, x], argTypes := #[t, t'] }) {v u : Value} (hd : a.eval d = v) (hs : a.eval x = u) {v' : Value} {w' : World}
  (hr : (Builtin.copy_ #[t, t'] o.type #[v, u]).run Tryz.prog w = .ok v' w') (h : wpList Tryz.prog ops Q rest (a.put o.dst v') w') : wpList Tryz.prog ops Q (o :: rest) a w :=
 wpList_plain hgd fun K hK => by
  unfold Oper.wp execOp
  simp only [ho, resolve, invoke, builtin, Sem.run_bind, Sem.run_pure, Result.andThen_ok, List.map_toArray, List.map_cons, List.map_nil, hd, hs, hr]
  exact hK _ _ h
theorem copy_T {w : World} {b : Nat} {s : ByteArray} {f : Bool} {p : Int} {n : Nat} (hn : n = 4 ∨ n = 16) (h : 1 + n <= s.size) (hb : TBlk w b (⟨#[]⟩, (f, zadr.2), p)) (ty : TypeId) :
  (Builtin.copy_ #[33, 9] ty #[.slice (some ⟨b, 2, none⟩) 16 16, .string (s.extract 1 (1 + n))]).run Tryz.prog w = .ok (goInt n) (w.setRow b (tc (⟨#[]⟩, (f, pad16 s 1 n), p))) := by
 have hz : (s.extract 1 (1 + n)).size = n := by rw [ByteArray.size_extract]; omega
 have hcs : (tc (⟨#[]⟩, (f, zadr.2), p)).size = 19 := rfl
 have := Lib.run_copy_row_string (P := Tryz.prog) w 33 9 ty 5 b 2 16 16 (s.extract 1 (1 + n)) (tc (⟨#[]⟩, (f, zadr.2), p)) 43 Tryz.underlying33 (by kernel_rfl) hb (by omega) (by rw [hcs]; omega)
 rw [hz, tc_copy s f p hn h] at this
 exact this
theorem ptgt_any (s : ByteArray) (hs : s.size <= 281474976710656) (w : World) : Calls Tryz.prog 130 #[.string s] w fun e w' => e = .returned (.tuple #[tv (tgp s).1, .int .i64 (tgp s).2.1, .int .i64 (tgp s).2.2]) /\ Ext w w' := by
 have b0 := B_bd s 0
 have b1 := B_bd s 1
 go_enter Tryz.func130, Tryz.ntmps130
 go_upto_region 1 with fail
 rw [← tc_zero]
 have hx := (Ext.refl w).alloc (.cells (tc ztgt) 43)
 have hr := Blk.new w (tc ztgt) 43
 generalize w.alloc (.cells (tc ztgt) 43) = w0 at *
 have hwb : w.heap.size <= w.heap.size := Nat.le_refl _
 by_cases h0 : (s.size : Int) < 1
 ·have R : Hid (tgp s = (ztgt, 0, 0)) := Lib.hid (by unfold tgp; rw [if_pos (by omega)])
  have hq : (s.toList == []) = true := by rw [B_empty s h0, ByteArray.toList_eq]; rfl
  clear h0
  go_wp2_with (first | refine wpList_store_T rfl _ _ rfl okT_ztgt okT_ztgt hr rfl rfl ?_)
  refine bodyPost_ret (res_T3 rfl rfl okT_ztgt ((hr).row _)) rfl ⟨by rw [R.out]; rfl, (hx).setRow hwb _⟩
 have hq : (s.toList == []) = false := by
  rw [beq_eq_false_iff_ne, ByteArray.toList_eq]
  intro e
  have := size_list s
  rw [e] at this
  change s.size = 0 at this
  omega
 have hz1 : (0 : Int) < s.size := by omega
 have R0 : Hid (tgp s = if B s 0 = 1 then (if s.size < 7 then (ztgt, 0, 0) else ((⟨#[]⟩, (false, pad16 s 1 4), B s 5 * 256 + B s 6), 7, 1))
   else if B s 0 = 4 then (if s.size < 19 then (ztgt, 0, 0) else ((⟨#[]⟩, (true, pad16 s 1 16), B s 17 * 256 + B s 18), 19, 1))
   else if B s 0 = 3 then
    (if s.size < 2 then (ztgt, 0, 0)
    else if B s 1 = 0 then (ztgt, 0, 2)
    else if (s.size : Int) < 4 + B s 1 then (ztgt, 0, 0)
    else ((s.extract 2 (2 + B s 1).toNat, zadr, B s (2 + B s 1).toNat * 256 + B s (3 + B s 1).toNat), 4 + B s 1, 1))
   else (ztgt, 0, 2)) := Lib.hid (by unfold tgp; rw [if_neg (by omega)])
 clear h0
 by_cases c1 : B s 0 = 1
 ·have e1 : (B s 0 == 1) = true := by rw [beq_iff_eq]; exact c1
  have e3 : (B s 0 == 3) = false := by rw [beq_eq_false_iff_ne]; omega
  have e4 : (B s 0 == 4) = false := by rw [beq_eq_false_iff_ne]; omega
  by_cases h7 : (s.size : Int) < 7
  ·have R : Hid (tgp s = (ztgt, 0, 0)) := Lib.hid (by rw [R0.out, if_pos c1, if_pos (by omega)])
   clear R0 c1
   go_wp2_with (first | refine wpList_store_T rfl _ _ rfl okT_ztgt okT_ztgt hr rfl rfl ?_)
   refine bodyPost_ret (res_T3 rfl rfl okT_ztgt ((hr).row _)) rfl ⟨by rw [R.out]; rfl, (hx).setRow hwb _⟩
  ·have R : Hid (tgp s = ((⟨#[]⟩, (false, pad16 s 1 4), B s 5 * 256 + B s 6), 7, 1)) := Lib.hid (by rw [R0.out, if_pos c1, if_neg (by omega)])
   have h7' : (7 : Int) <= s.size := by omega
   clear R0 c1 h7
   have bp := B_bd s 5
   have bq := B_bd s 6
   have eor := or_i64 bp.1 bp.2 bq.1 bq.2
   have v5 : IntKind.i64.wrap (B s 5) = B s 5 := IntWalk.i64_in _ (by omega)
   have v6 : IntKind.i64.wrap (B s 6) = B s 6 := IntWalk.i64_in _ (by omega)
   have l2 : IntKind.i64.wrap (B s 5 * 256) = B s 5 * 256 := IntWalk.i64_in _ (by omega)
   have l3 : wrap64 (B s 5 * 256) = B s 5 * 256 := IntWalk.wrap64_in _ (by omega)
   have q5 : (5 : Int) < s.size := by omega
   have q3 : (5 : Int) <= s.size := by omega
   have q6 : (6 : Int) < s.size := by omega
   have w6 : IntKind.i64.wrap 6 = 6 := IntWalk.i64_in _ (by omega)
   go_upto_region 18 with fail
   refine wp_region_rgu 13 w0 (by kernel_rfl) (by kernel_rfl) (Ext.refl _) ?_
   simp only [List.take_succ_cons, List.take_zero]
   apply goV_val _ (by intro u; rfl)
   ·(intro u w hSw hF; go_simp; try with_reducible rfl)
   try simp only [aput, List.set]
   apply goV_val _ (by intro u; rfl)
   ·(intro u w hSw hF; go_simp; try with_reducible rfl)
   try simp only [aput, List.set]
   apply goV_val _ (by intro u; rfl)
   ·(intro u w hSw hF; go_simp; try with_reducible rfl)
   try simp only [aput, List.set]
   apply goV_val _ (by intro u; rfl)
   ·(intro u w hSw hF; go_simp; try with_reducible rfl)
   try simp only [aput, List.set]
   apply goV_val _ (by intro u; rfl)
   ·(intro u w hSw hF; go_simp; try with_reducible rfl)
   try simp only [aput, List.set]
   apply goV_val _ (by intro u; rfl)
   ·(intro u w hSw hF; go_simp; try with_reducible rfl)
   try simp only [aput, List.set]
   apply goV_val _ (by intro u; rfl)
   ·(intro u w hSw hF; go_simp; try with_reducible rfl)
   try simp only [aput, List.set]
   apply goV_val _ (by intro u; rfl)
   ·(intro u w hSw hF; go_simp; try with_reducible rfl)
   try simp only [aput, List.set]
   apply goV_val _ (by intro u; rfl)
   ·(intro u w hSw hF; go_simp; try with_reducible rfl)
   try simp only [aput, List.set]
   apply goV_val _ (by intro u; rfl)
   ·(intro u w hSw hF; go_simp; try with_reducible rfl)
   try simp only [aput, List.set]
   apply goV_val _ (by intro u; rfl)
   ·(intro u w hSw hF; go_simp; try with_reducible rfl)
   try simp only [aput, List.set]
   apply goV_val _ (by intro u; rfl)
   ·(intro u w hSw hF; go_simp; try with_reducible rfl)
   try simp only [aput, List.set]
   apply goV_rel (VNewT w0.heap.size) (fun u w w' h k => by obtain ⟨g, h0, h1, h2⟩ := h; exact ⟨g, h0, h1, h2.ext k⟩) (by intro u; rfl)
   ·intro u w' hSw hF
    go_simp
    exact ⟨(Ext.refl _).alloc _, w'.heap.size, rfl, hSw.size, Blk.new _ _ _⟩
   try simp only [aput, List.set]
   intro u w1 hx1 hh
   obtain ⟨bt, et, hbt, hT0⟩ := holdsAt_get8 (V := VNewT w0.heap.size) (j := 12) hh (by simp) rfl
   clear hh
   dsimp only
   rw [et]
   clear et
   simp only [List.drop_succ_cons, List.drop_zero]
   have hokP : okT (⟨#[]⟩, zadr, (B s 5 * 256 + B s 6)) := ⟨okA_zadr, by unfold i64ok; simp only; omega, Nat.zero_le _⟩
   refine wpList_store_T (t := (⟨#[]⟩, zadr, (B s 5 * 256 + B s 6))) rfl _ _ rfl okT_ztgt hokP hT0 rfl rfl ?_
   have hT1 : TBlk _ bt (⟨#[]⟩, zadr, (B s 5 * 256 + B s 6)) := Blk.row hT0 (tc (⟨#[]⟩, zadr, (B s 5 * 256 + B s 6)))
   have hbt0 := Nat.le_trans (Nat.le_of_lt (Blk.lt hr)) hbt
   have hrb : w.heap.size ≠ bt := by have := Blk.lt hr; omega
   have hr1 := Blk.row_ne (Blk.ext hr hx1) hrb (tc (⟨#[]⟩, zadr, (B s 5 * 256 + B s 6)))
   have hx2 : Ext w _ := (hx.trans hx1).setRow (c := bt) (by have := Blk.lt hr; omega) (tc (⟨#[]⟩, zadr, (B s 5 * 256 + B s 6)))
   clear hx hx1 hr hT0
   generalize w1.setRow bt (tc (⟨#[]⟩, zadr, (B s 5 * 256 + B s 6))) = w2 at *
   have hbtw : w.heap.size <= bt := by have := hbt0; omega
   have f1 := TBlk.fam hT1
   have g1 := Blk.free hT1 1
   have hT2 : TBlk (w2.setCell ⟨bt, 1, none⟩ (.bool false)) bt (⟨#[]⟩, (false, zadr.2), (B s 5 * 256 + B s 6)) := Blk.setOne (pre := [.string ⟨#[]⟩]) hT1 rfl _
   have hr2 := Blk.set_ne hr1 ⟨bt, 1, none⟩ (Ne.symm hrb) (.bool false)
   have hx3 : Ext w (w2.setCell ⟨bt, 1, none⟩ (.bool false)) := Ext.setCell hx2 hbtw _
   clear hx2 hr1 hT1
   go_upto_region 22 with fail
   clear f1 g1
   generalize w2.setCell ⟨bt, 1, none⟩ (.bool false) = w3 at *
   refine wp_region_rgu 7 w3 (by kernel_rfl) (by kernel_rfl) (Ext.refl _) ?_
   simp only [List.take_succ_cons, List.take_zero]
   apply goV_val _ (by intro u; rfl)
   ·(intro u w hSw hF; go_simp; try with_reducible rfl)
   try simp only [aput, List.set]
   apply goV_val _ (by intro u; rfl)
   ·(intro u w hSw hF; go_simp; try with_reducible rfl)
   try simp only [aput, List.set]
   apply goV_val _ (by intro u; rfl)
   ·(intro u w hSw hF; go_simp; try with_reducible rfl)
   try simp only [aput, List.set]
   apply goV_val _ (by intro u; rfl)
   ·(intro u w hSw hF; go_simp; try with_reducible rfl)
   try simp only [aput, List.set]
   apply goV_val _ (by intro u; rfl)
   ·(intro u w hSw hF; go_simp; try with_reducible rfl)
   try simp only [aput, List.set]
   apply goV_val _ (by intro u; rfl)
   ·(intro u w hSw hF; go_simp; try with_reducible rfl)
   try simp only [aput, List.set]
   apply goV_val _ (by intro u; rfl)
   ·(intro u w hSw hF; go_simp; try with_reducible rfl)
   try simp only [aput, List.set]
   intro u w4 hx4 hh
   clear hh
   simp only [List.drop_succ_cons, List.drop_zero]
   have hT4 := Blk.ext hT2 hx4
   refine wpList_copy8 rfl _ _ _ _ rfl rfl rfl (copy_T (s := s) (n := 4) (by omega) (by omega) hT4 _) ?_
   have hT5 : TBlk _ bt (⟨#[]⟩, (false, pad16 s 1 4), (B s 5 * 256 + B s 6)) := Blk.row hT4 (tc (⟨#[]⟩, (false, pad16 s 1 4), (B s 5 * 256 + B s 6)))
   have hr5 := Blk.row_ne (Blk.ext hr2 hx4) hrb (tc (⟨#[]⟩, (false, pad16 s 1 4), (B s 5 * 256 + B s 6)))
   have hx5 : Ext w _ := (hx3.trans hx4).setRow (c := bt) hbtw (tc (⟨#[]⟩, (false, pad16 s 1 4), (B s 5 * 256 + B s 6)))
   clear hx3 hx4 hr2 hT2 hT4
   generalize w4.setRow bt (tc (⟨#[]⟩, (false, pad16 s 1 4), (B s 5 * 256 + B s 6))) = w5 at *
   have hokT : okT (⟨#[]⟩, (false, pad16 s 1 4), (B s 5 * 256 + B s 6)) := ⟨okA_pad _ _ _ _, by unfold i64ok; simp only; omega, Nat.zero_le _⟩
   go_wp2_with (first | refine wpList_load_T rfl _ rfl hokT hT5 rfl ?_ | refine wpList_store_T rfl _ _ rfl okT_ztgt hokT hr5 rfl rfl ?_)
   refine bodyPost_ret (res_T3 rfl rfl hokT (Blk.row hr5 _)) rfl ⟨by rw [R.out]; rfl, hx5.setRow hwb _⟩
 ·have e1 : (B s 0 == 1) = false := by rw [beq_eq_false_iff_ne]; exact c1
  by_cases c4 : B s 0 = 4
  ·have e3 : (B s 0 == 3) = false := by rw [beq_eq_false_iff_ne]; omega
   have e4 : (B s 0 == 4) = true := by rw [beq_iff_eq]; exact c4
   by_cases h7 : (s.size : Int) < 19
   ·have R : Hid (tgp s = (ztgt, 0, 0)) := Lib.hid (by rw [R0.out, if_neg c1, if_pos c4, if_pos (by omega)])
    clear R0 c1 c4
    go_wp2_with (first | refine wpList_store_T rfl _ _ rfl okT_ztgt okT_ztgt hr rfl rfl ?_)
    refine bodyPost_ret (res_T3 rfl rfl okT_ztgt ((hr).row _)) rfl ⟨by rw [R.out]; rfl, (hx).setRow hwb _⟩
   ·have R : Hid (tgp s = ((⟨#[]⟩, (true, pad16 s 1 16), B s 17 * 256 + B s 18), 19, 1)) := Lib.hid (by rw [R0.out, if_neg c1, if_pos c4, if_neg (by omega)])
    have h7' : (19 : Int) <= s.size := by omega
    clear R0 c1 c4 h7
    have bp := B_bd s 17
    have bq := B_bd s 18
    have eor := or_i64 bp.1 bp.2 bq.1 bq.2
    have v5 : IntKind.i64.wrap (B s 17) = B s 17 := IntWalk.i64_in _ (by omega)
    have v6 : IntKind.i64.wrap (B s 18) = B s 18 := IntWalk.i64_in _ (by omega)
    have l2 : IntKind.i64.wrap (B s 17 * 256) = B s 17 * 256 := IntWalk.i64_in _ (by omega)
    have l3 : wrap64 (B s 17 * 256) = B s 17 * 256 := IntWalk.wrap64_in _ (by omega)
    have q5 : (17 : Int) < s.size := by omega
    have q3 : (17 : Int) <= s.size := by omega
    have q6 : (18 : Int) < s.size := by omega
    have w6 : IntKind.i64.wrap 18 = 18 := IntWalk.i64_in _ (by omega)
    go_upto_region 18 with fail
    refine wp_region_rgu 13 w0 (by kernel_rfl) (by kernel_rfl) (Ext.refl _) ?_
    simp only [List.take_succ_cons, List.take_zero]
    apply goV_val _ (by intro u; rfl)
    ·(intro u w hSw hF; go_simp; try with_reducible rfl)
    try simp only [aput, List.set]
    apply goV_val _ (by intro u; rfl)
    ·(intro u w hSw hF; go_simp; try with_reducible rfl)
    try simp only [aput, List.set]
    apply goV_val _ (by intro u; rfl)
    ·(intro u w hSw hF; go_simp; try with_reducible rfl)
    try simp only [aput, List.set]
    apply goV_val _ (by intro u; rfl)
    ·(intro u w hSw hF; go_simp; try with_reducible rfl)
    try simp only [aput, List.set]
    apply goV_val _ (by intro u; rfl)
    ·(intro u w hSw hF; go_simp; try with_reducible rfl)
    try simp only [aput, List.set]
    apply goV_val _ (by intro u; rfl)
    ·(intro u w hSw hF; go_simp; try with_reducible rfl)
    try simp only [aput, List.set]
    apply goV_val _ (by intro u; rfl)
    ·(intro u w hSw hF; go_simp; try with_reducible rfl)
    try simp only [aput, List.set]
    apply goV_val _ (by intro u; rfl)
    ·(intro u w hSw hF; go_simp; try with_reducible rfl)
    try simp only [aput, List.set]
    apply goV_val _ (by intro u; rfl)
    ·(intro u w hSw hF; go_simp; try with_reducible rfl)
    try simp only [aput, List.set]
    apply goV_val _ (by intro u; rfl)
    ·(intro u w hSw hF; go_simp; try with_reducible rfl)
    try simp only [aput, List.set]
    apply goV_val _ (by intro u; rfl)
    ·(intro u w hSw hF; go_simp; try with_reducible rfl)
    try simp only [aput, List.set]
    apply goV_val _ (by intro u; rfl)
    ·(intro u w hSw hF; go_simp; try with_reducible rfl)
    try simp only [aput, List.set]
    apply goV_rel (VNewT w0.heap.size) (fun u w w' h k => by obtain ⟨g, h0, h1, h2⟩ := h; exact ⟨g, h0, h1, h2.ext k⟩) (by intro u; rfl)
    ·intro u w' hSw hF
     go_simp
     exact ⟨(Ext.refl _).alloc _, w'.heap.size, rfl, hSw.size, Blk.new _ _ _⟩
    try simp only [aput, List.set]
    intro u w1 hx1 hh
    obtain ⟨bt, et, hbt, hT0⟩ := holdsAt_get8 (V := VNewT w0.heap.size) (j := 12) hh (by simp) rfl
    clear hh
    dsimp only
    rw [et]
    clear et
    simp only [List.drop_succ_cons, List.drop_zero]
    have hokP : okT (⟨#[]⟩, zadr, (B s 17 * 256 + B s 18)) := ⟨okA_zadr, by unfold i64ok; simp only; omega, Nat.zero_le _⟩
    refine wpList_store_T (t := (⟨#[]⟩, zadr, (B s 17 * 256 + B s 18))) rfl _ _ rfl okT_ztgt hokP hT0 rfl rfl ?_
    have hT1 : TBlk _ bt (⟨#[]⟩, zadr, (B s 17 * 256 + B s 18)) := Blk.row hT0 (tc (⟨#[]⟩, zadr, (B s 17 * 256 + B s 18)))
    have hbt0 := Nat.le_trans (Nat.le_of_lt (Blk.lt hr)) hbt
    have hrb : w.heap.size ≠ bt := by have := Blk.lt hr; omega
    have hr1 := Blk.row_ne (Blk.ext hr hx1) hrb (tc (⟨#[]⟩, zadr, (B s 17 * 256 + B s 18)))
    have hx2 : Ext w _ := (hx.trans hx1).setRow (c := bt) (by have := Blk.lt hr; omega) (tc (⟨#[]⟩, zadr, (B s 17 * 256 + B s 18)))
    clear hx hx1 hr hT0
    generalize w1.setRow bt (tc (⟨#[]⟩, zadr, (B s 17 * 256 + B s 18))) = w2 at *
    have hbtw : w.heap.size <= bt := by have := hbt0; omega
    have f1 := TBlk.fam hT1
    have g1 := Blk.free hT1 1
    have hT2 : TBlk (w2.setCell ⟨bt, 1, none⟩ (.bool true)) bt (⟨#[]⟩, (true, zadr.2), (B s 17 * 256 + B s 18)) := Blk.setOne (pre := [.string ⟨#[]⟩]) hT1 rfl _
    have hr2 := Blk.set_ne hr1 ⟨bt, 1, none⟩ (Ne.symm hrb) (.bool true)
    have hx3 : Ext w (w2.setCell ⟨bt, 1, none⟩ (.bool true)) := Ext.setCell hx2 hbtw _
    clear hx2 hr1 hT1
    go_upto_region 22 with fail
    clear f1 g1
    generalize w2.setCell ⟨bt, 1, none⟩ (.bool true) = w3 at *
    refine wp_region_rgu 7 w3 (by kernel_rfl) (by kernel_rfl) (Ext.refl _) ?_
    simp only [List.take_succ_cons, List.take_zero]
    apply goV_val _ (by intro u; rfl)
    ·(intro u w hSw hF; go_simp; try with_reducible rfl)
    try simp only [aput, List.set]
    apply goV_val _ (by intro u; rfl)
    ·(intro u w hSw hF; go_simp; try with_reducible rfl)
    try simp only [aput, List.set]
    apply goV_val _ (by intro u; rfl)
    ·(intro u w hSw hF; go_simp; try with_reducible rfl)
    try simp only [aput, List.set]
    apply goV_val _ (by intro u; rfl)
    ·(intro u w hSw hF; go_simp; try with_reducible rfl)
    try simp only [aput, List.set]
    apply goV_val _ (by intro u; rfl)
    ·(intro u w hSw hF; go_simp; try with_reducible rfl)
    try simp only [aput, List.set]
    apply goV_val _ (by intro u; rfl)
    ·(intro u w hSw hF; go_simp; try with_reducible rfl)
    try simp only [aput, List.set]
    apply goV_val _ (by intro u; rfl)
    ·(intro u w hSw hF; go_simp; try with_reducible rfl)
    try simp only [aput, List.set]
    intro u w4 hx4 hh
    clear hh
    simp only [List.drop_succ_cons, List.drop_zero]
    have hT4 := Blk.ext hT2 hx4
    refine wpList_copy8 rfl _ _ _ _ rfl rfl rfl (copy_T (s := s) (n := 16) (by omega) (by omega) hT4 _) ?_
    have hT5 : TBlk _ bt (⟨#[]⟩, (true, pad16 s 1 16), (B s 17 * 256 + B s 18)) := Blk.row hT4 (tc (⟨#[]⟩, (true, pad16 s 1 16), (B s 17 * 256 + B s 18)))
    have hr5 := Blk.row_ne (Blk.ext hr2 hx4) hrb (tc (⟨#[]⟩, (true, pad16 s 1 16), (B s 17 * 256 + B s 18)))
    have hx5 : Ext w _ := (hx3.trans hx4).setRow (c := bt) hbtw (tc (⟨#[]⟩, (true, pad16 s 1 16), (B s 17 * 256 + B s 18)))
    clear hx3 hx4 hr2 hT2 hT4
    generalize w4.setRow bt (tc (⟨#[]⟩, (true, pad16 s 1 16), (B s 17 * 256 + B s 18))) = w5 at *
    have hokT : okT (⟨#[]⟩, (true, pad16 s 1 16), (B s 17 * 256 + B s 18)) := ⟨okA_pad _ _ _ _, by unfold i64ok; simp only; omega, Nat.zero_le _⟩
    go_wp2_with (first | refine wpList_load_T rfl _ rfl hokT hT5 rfl ?_ | refine wpList_store_T rfl _ _ rfl okT_ztgt hokT hr5 rfl rfl ?_)
    refine bodyPost_ret (res_T3 rfl rfl hokT (Blk.row hr5 _)) rfl ⟨by rw [R.out]; rfl, hx5.setRow hwb _⟩
  ·have e4 : (B s 0 == 4) = false := by rw [beq_eq_false_iff_ne]; exact c4
   by_cases c3 : B s 0 = 3
   ·have e3 : (B s 0 == 3) = true := by rw [beq_iff_eq]; exact c3
    by_cases h2 : (s.size : Int) < 2
    ·have R : Hid (tgp s = (ztgt, 0, 0)) := Lib.hid (by rw [R0.out, if_neg c1, if_neg c4, if_pos c3, if_pos (by omega)])
     clear R0 c1 c4 c3
     go_wp2_with (first | refine wpList_store_T rfl _ _ rfl okT_ztgt okT_ztgt hr rfl rfl ?_)
     refine bodyPost_ret (res_T3 rfl rfl okT_ztgt ((hr).row _)) rfl ⟨by rw [R.out]; rfl, (hx).setRow hwb _⟩
    have h2' : (1 : Int) < s.size := by omega
    obtain ⟨m, hm⟩ : ∃ m : Nat, B s 1 = m := ⟨(B s 1).toNat, by omega⟩
    have R1 : Hid (tgp s = if m = 0 then (ztgt, 0, 2) else if s.size < 4 + m then (ztgt, 0, 0) else ((s.extract 2 (2 + m), zadr, B s (2 + m) * 256 + B s (3 + m)), 4 + (m : Int), 1)) := Lib.hid (by
     rw [R0.out, if_neg c1, if_neg c4, if_pos c3, if_neg (by omega), hm, show (2 + (m : Int)).toNat = 2 + m by omega, show (3 + (m : Int)).toNat = 3 + m by omega]
     by_cases q : m = 0
     ·rw [if_pos (by omega), if_pos q]
     ·rw [if_neg (by omega), if_neg q]
      by_cases q2 : s.size < 4 + m
      ·rw [if_pos (by omega), if_pos q2]
      ·rw [if_neg (by omega), if_neg q2])
    have HM := Lib.hid hm
    have vm : IntKind.i64.wrap (m : Int) = m := IntWalk.i64_in _ (by omega)
    have hm2 : m < 256 := by omega
    clear R0 c1 c4 c3 h2
    go_upto_region 12 with fail
    go_quiet (fail)
    try rw [HM.out]
    replace hx := hx.trans ((Ext.refl w0).drewN nq)
    replace hr := Blk.ext hr ((Ext.refl w0).drewN nq)
    generalize w0.drewN nq = w0 at *
    by_cases m0 : m = 0
    ·have R : Hid (tgp s = (ztgt, 0, 2)) := Lib.hid (by rw [R1.out, if_pos m0])
     subst m0
     clear R1
     go_wp2_with (first | refine wpList_store_T rfl _ _ rfl okT_ztgt okT_ztgt hr rfl rfl ?_)
     refine bodyPost_ret (res_T3 rfl rfl okT_ztgt ((hr).row _)) rfl ⟨by rw [R.out]; rfl, (hx).setRow hwb _⟩
    ·have HM0 : ((m : Int) == 0) = false := by rw [beq_eq_false_iff_ne]; omega
     have hs1 : IntKind.i64.wrap (2 + (m : Int)) = 2 + m := IntWalk.i64_in _ (by omega)
     have hs2 : IntKind.i64.wrap (2 + (m : Int) + 2) = 2 + m + 2 := IntWalk.i64_in _ (by omega)
     have hs3 : IntKind.i64.wrap (2 + (m : Int) + 1) = 2 + m + 1 := IntWalk.i64_in _ (by omega)
     have hn1 : (2 + (m : Int)).toNat = 2 + m := by omega
     have hn2 : (2 + (m : Int) + 1).toNat = 3 + m := by omega
     by_cases h7 : (s.size : Int) < 2 + (m : Int) + 2
     ·have R : Hid (tgp s = (ztgt, 0, 0)) := Lib.hid (by rw [R1.out, if_neg m0, if_pos (by omega)])
      clear R1 m0
      go_wp2_with (first | refine wpList_store_T rfl _ _ rfl okT_ztgt okT_ztgt hr rfl rfl ?_)
      refine bodyPost_ret (res_T3 rfl rfl okT_ztgt ((hr).row _)) rfl ⟨by rw [R.out]; rfl, (hx).setRow hwb _⟩
     ·have R : Hid (tgp s = ((s.extract 2 (2 + m), zadr, B s (2 + m) * 256 + B s (3 + m)), 4 + (m : Int), 1)) := Lib.hid (by rw [R1.out, if_neg m0, if_neg (by omega)])
      have h7' : 2 + (m : Int) + 2 <= s.size := by omega
      clear R1 m0 h7
      have bp := B_bd s (2 + m)
      have bq := B_bd s (3 + m)
      have eor := or_i64 bp.1 bp.2 bq.1 bq.2
      have v5 : IntKind.i64.wrap (B s (2 + m)) = B s (2 + m) := IntWalk.i64_in _ (by omega)
      have v6 : IntKind.i64.wrap (B s (3 + m)) = B s (3 + m) := IntWalk.i64_in _ (by omega)
      have l2 : IntKind.i64.wrap (B s (2 + m) * 256) = B s (2 + m) * 256 := IntWalk.i64_in _ (by omega)
      have l3 : wrap64 (B s (2 + m) * 256) = B s (2 + m) * 256 := IntWalk.wrap64_in _ (by omega)
      have q5 : 2 + (m : Int) < s.size := by omega
      have q6 : 2 + (m : Int) + 1 < s.size := by omega
      have q3 : 2 + (m : Int) <= s.size := by omega
      have q2 : (0 : Int) <= 2 + (m : Int) := by omega
      have q1 : (0 : Int) <= 2 + (m : Int) + 1 := by omega
      have q0 : (2 : Int) <= 2 + (m : Int) := by omega
      go_upto_region 18 with fail
      refine wp_region_rgu 13 w0 (by kernel_rfl) (by kernel_rfl) (Ext.refl _) ?_
      simp only [List.take_succ_cons, List.take_zero]
      apply goV_val _ (by intro u; rfl)
      ·(intro u w hSw hF; go_simp; try with_reducible rfl)
      try simp only [aput, List.set]
      apply goV_val _ (by intro u; rfl)
      ·(intro u w hSw hF; go_simp; try with_reducible rfl)
      try simp only [aput, List.set]
      apply goV_val _ (by intro u; rfl)
      ·(intro u w hSw hF; go_simp; try with_reducible rfl)
      try simp only [aput, List.set]
      apply goV_val _ (by intro u; rfl)
      ·(intro u w hSw hF; go_simp; try with_reducible rfl)
      try simp only [aput, List.set]
      apply goV_val _ (by intro u; rfl)
      ·(intro u w hSw hF; go_simp; try with_reducible rfl)
      try simp only [aput, List.set]
      apply goV_val _ (by intro u; rfl)
      ·(intro u w hSw hF; go_simp; try with_reducible rfl)
      try simp only [aput, List.set]
      apply goV_val _ (by intro u; rfl)
      ·(intro u w hSw hF; go_simp; try with_reducible rfl)
      try simp only [aput, List.set]
      apply goV_val _ (by intro u; rfl)
      ·(intro u w hSw hF; go_simp; try with_reducible rfl)
      try simp only [aput, List.set]
      apply goV_val _ (by intro u; rfl)
      ·(intro u w hSw hF; go_simp; try with_reducible rfl)
      try simp only [aput, List.set]
      apply goV_val _ (by intro u; rfl)
      ·(intro u w hSw hF; go_simp; try with_reducible rfl)
      try simp only [aput, List.set]
      apply goV_val _ (by intro u; rfl)
      ·(intro u w hSw hF; go_simp; try with_reducible rfl)
      try simp only [aput, List.set]
      apply goV_val _ (by intro u; rfl)
      ·(intro u w hSw hF; go_simp; try with_reducible rfl)
      try simp only [aput, List.set]
      apply goV_rel (VNewT w0.heap.size) (fun u w w' h k => by obtain ⟨g, h0, h1, h2⟩ := h; exact ⟨g, h0, h1, h2.ext k⟩) (by intro u; rfl)
      ·intro u w' hSw hF
       go_simp
       exact ⟨(Ext.refl _).alloc _, w'.heap.size, rfl, hSw.size, Blk.new _ _ _⟩
      try simp only [aput, List.set]
      intro u w1 hx1 hh
      obtain ⟨bt, et, hbt, hT0⟩ := holdsAt_get8 (V := VNewT w0.heap.size) (j := 12) hh (by simp) rfl
      clear hh
      dsimp only
      rw [et]
      clear et
      simp only [List.drop_succ_cons, List.drop_zero]
      have hokP : okT (⟨#[]⟩, zadr, (B s (2 + m) * 256 + B s (3 + m))) := ⟨okA_zadr, by unfold i64ok; simp only; omega, Nat.zero_le _⟩
      refine wpList_store_T (t := (⟨#[]⟩, zadr, (B s (2 + m) * 256 + B s (3 + m)))) rfl _ _ rfl okT_ztgt hokP hT0 rfl rfl ?_
      have hT1 : TBlk _ bt (⟨#[]⟩, zadr, (B s (2 + m) * 256 + B s (3 + m))) := Blk.row hT0 (tc (⟨#[]⟩, zadr, (B s (2 + m) * 256 + B s (3 + m))))
      have hbt0 := Nat.le_trans (Nat.le_of_lt (Blk.lt hr)) hbt
      have hrb : w.heap.size ≠ bt := by have := Blk.lt hr; omega
      have hr1 := Blk.row_ne (Blk.ext hr hx1) hrb (tc (⟨#[]⟩, zadr, (B s (2 + m) * 256 + B s (3 + m))))
      have hx2 : Ext w _ := (hx.trans hx1).setRow (c := bt) (by have := Blk.lt hr; omega) (tc (⟨#[]⟩, zadr, (B s (2 + m) * 256 + B s (3 + m))))
      clear hx hx1 hr hT0
      generalize w1.setRow bt (tc (⟨#[]⟩, zadr, (B s (2 + m) * 256 + B s (3 + m)))) = w2 at *
      have hbtw : w.heap.size <= bt := by have := hbt0; omega
      have f1 := TBlk.name hT1
      have g1 := Blk.free hT1 0
      have hT2 : TBlk (w2.setCell ⟨bt, 0, none⟩ (.string (s.extract 2 (2 + m)))) bt (s.extract 2 (2 + m), zadr, B s (2 + m) * 256 + B s (3 + m)) := Blk.setOne (pre := []) hT1 rfl _
      have hr2 := Blk.set_ne hr1 ⟨bt, 0, none⟩ (Ne.symm hrb) (.string (s.extract 2 (2 + m)))
      have hx3 : Ext w (w2.setCell ⟨bt, 0, none⟩ (.string (s.extract 2 (2 + m)))) := Ext.setCell hx2 hbtw _
      clear hx2 hr1 hT1
      have hez := extract_le s 2 (2 + m)
      have hokT : okT (s.extract 2 (2 + m), zadr, B s (2 + m) * 256 + B s (3 + m)) := ⟨okA_zadr, by unfold i64ok; simp only; omega, by unfold maxLen; simp only; omega⟩
      go_upto_region 23 with fail
      clear f1 g1
      generalize w2.setCell ⟨bt, 0, none⟩ (.string (s.extract 2 (2 + m))) = w3 at *
      go_wp2_with (first | refine wpList_load_T rfl _ rfl hokT hT2 rfl ?_ | refine wpList_store_T rfl _ _ rfl okT_ztgt hokT hr2 rfl rfl ?_)
      refine bodyPost_ret (res_T3 rfl rfl hokT (Blk.row hr2 _)) rfl ⟨?_, hx3.setRow hwb _⟩
      rw [R.out]
      simp
      omega
   ·have e3 : (B s 0 == 3) = false := by rw [beq_eq_false_iff_ne]; exact c3
    have R : Hid (tgp s = (ztgt, 0, 2)) := Lib.hid (by rw [R0.out, if_neg c1, if_neg c4, if_neg c3])
    clear R0 c1 c4 c3
    go_wp2_with (first | refine wpList_store_T rfl _ _ rfl okT_ztgt okT_ztgt hr rfl rfl ?_)
    refine bodyPost_ret (res_T3 rfl rfl okT_ztgt ((hr).row _)) rfl ⟨by rw [R.out]; rfl, (hx).setRow hwb _⟩
open Go.RowKit Go.Joins
theorem res_T4 {fn : Func} {t u v x : Tmp} (h : fn.results = #[.cell t 43, .tmp u, .tmp v, .tmp x]) {tmps : Array Value} {c : Nat} (hq : tmps.getD t undef = .pointer (some ⟨c, 0, none⟩)) {w : World} {p : Tgt} (hp : okT p) (hb : TBlk w c p) :
  (results fn tmps).run Tryz.prog w = .ok (.tuple #[.agg (tc p), tmps.getD u undef, tmps.getD v undef, tmps.getD x undef]) w := by
 have := loadV_T hp hb
 have hq' : tmps[t]?.getD undef = .pointer (some ⟨c, 0, none⟩) := by simpa using hq
 simp [results, h, hq', this, Sem.run_bind, asAddr]
def katB (c : Int) : Bool := c == 1 || (c == 3 || c == 4)
theorem kat_any (c : Int) (w : World) : Calls Tryz.prog 129 #[.int .u8 c] w fun e w' => e = .returned (.bool (katB c)) /\ w = w' := by
 unfold katB
 by_cases h1 : c = 1
 ·subst h1
  go_enter Tryz.func129, Tryz.ntmps129
  go_wp2_with fail
  go_ret
  exact ⟨rfl, rfl⟩
 ·have e1 : (c == 1) = false := by rw [beq_eq_false_iff_ne]; exact h1
  by_cases h3 : c = 3
  ·subst h3
   go_enter Tryz.func129, Tryz.ntmps129
   go_wp2_with fail
   go_ret
   exact ⟨rfl, rfl⟩
  ·have e3 : (c == 3) = false := by rw [beq_eq_false_iff_ne]; exact h3
   rw [e1, e3, Bool.false_or, Bool.false_or]
   clear h1 h3
   go_enter Tryz.func129, Tryz.ntmps129
   go_wp2_with fail
   go_ret
   exact ⟨rfl, rfl⟩
theorem katB_iff (c : Int) : katB c = true ↔ (c = 1 ∨ c = 3 ∨ c = 4) := by
 unfold katB
 simp only [Bool.or_eq_true, beq_iff_eq]
theorem nil_no {x : ByteArray} (h : x.size ≠ 0) : (x.toList == []) = false := by
 rw [beq_eq_false_iff_ne, ByteArray.toList_eq]
 intro e
 have := size_list x
 rw [e] at this
 exact h this
theorem nil_yes {x : ByteArray} (h : x.size = 0) : (x.toList == []) = true := by rw [B_empty x (by omega), ByteArray.toList_eq]; rfl
theorem nameP_nil (x : ByteArray) : (nameP x).2 = false ↔ (nameP x).1.size = 0 := by
 have e : nameP x = if okName (hostS x) = true then (hostS x, true) else (.empty, false) := rfl
 rw [e]
 by_cases q : okName (hostS x) = true
 ·rw [if_pos q]
  have : 1 <= (hostS x).size := (okName_facts q).1
  constructor
  ·intro h; cases h
  ·intro h; simp only at h; omega
 ·rw [if_neg q]; exact ⟨fun _ => rfl, fun _ => rfl⟩
theorem prq_any (s : ByteArray) (hs : s.size <= 281474976710656) (w : World) (henv : Env w) : Calls Tryz.prog 105 #[.string s] w fun e w' => e = .returned (.tuple #[tv (rqp s).1, .int .i64 (rqp s).2.1, .int .i64 (rqp s).2.2.1, .int .i64 (rqp s).2.2.2]) /\ Ext w w' := by
 have b0 := B_bd s 0
 have b1 := B_bd s 1
 have b2 := B_bd s 2
 have b3 := B_bd s 3
 have R0 : Hid (rqp s = if (0 < s.size /\ B s 0 ≠ 5) ∨ (2 < s.size /\ B s 2 ≠ 0) then (ztgt, 0, 0, 2)
   else if s.size < 4 then (ztgt, 0, 0, 0)
   else if ¬ (B s 3 = 1 ∨ B s 3 = 3 ∨ B s 3 = 4) then (ztgt, 8, 4, 1)
   else if (tgp (s.extract 3 s.size)).2.2 ≠ 1 then (ztgt, 0, 0, (tgp (s.extract 3 s.size)).2.2)
   else reqTail (tgp (s.extract 3 s.size)).1 ((tgp (s.extract 3 s.size)).2.1 + 3) (B s 1)) := Lib.hid rfl
 have KT := Lib.hid (fun w => ptgt_any (s.extract 3 s.size) (Nat.le_trans (extract_le _ _ _) hs) w)
 have hT := okT_tgp (s.extract 3 s.size) (Nat.le_trans (extract_le _ _ _) (by unfold maxLen; omega))
 have hn := tgp_n (s.extract 3 s.size)
 have hnz := extract_le s 3 s.size
 have hst := tgp_st (s.extract 3 s.size)
 generalize tgp (s.extract 3 s.size) = T at *
 obtain ⟨t, n, st⟩ := T
 simp only at hT hn hst R0 KT
 have KK := Lib.hid (fun w => kat_any (B s 3) w)
 go_enter Tryz.func105, Tryz.ntmps105
 go_upto_region 1 with fail
 rw [← tc_zero]
 have hx0 := (Ext.refl w).alloc (.cells (tc ztgt) 43)
 have hr0 := Blk.new w (tc ztgt) 43
 generalize w.alloc (.cells (tc ztgt) 43) = w0 at *
 have hwb : w.heap.size <= w.heap.size := Nat.le_refl _
 go_wp2_with fail
 have hr := Blk.ext hr0 ((Ext.refl w0).alloc (.cells #[.int .u8 5, .int .u8 0, .int .u8 0] 5))
 have hx := hx0.alloc (.cells #[.int .u8 5, .int .u8 0, .int .u8 0] 5)
 have hL := Blk.new w0 #[.int .u8 5, .int .u8 0, .int .u8 0] 5
 generalize w0.alloc (.cells #[.int .u8 5, .int .u8 0, .int .u8 0] 5) = w1 at *
 have d0 : w1.cell? ⟨w0.heap.size, 0, none⟩ = some (.int .u8 5) := hL.cell rfl
 have d1 : w1.cell? ⟨w0.heap.size, 1, none⟩ = some (.int .u8 0) := hL.cell rfl
 have d2 : w1.cell? ⟨w0.heap.size, 2, none⟩ = some (.int .u8 0) := hL.cell rfl
 clear hr0 hx0 hL
 generalize w0.heap.size = bl at *
 go_loop [12] (fun i => ∃ k : Nat, k <= 3 /\ i = .int .i64 k /\ (1 <= k -> ¬ (0 < s.size /\ B s 0 ≠ 5)) /\ (3 <= k -> ¬ (2 < s.size /\ B s 2 ≠ 0))) (fun i => 3 - (intOf i).toNat)
 case atStart => exact ⟨0, Nat.zero_le _, rfl, by omega, by omega⟩
 case round =>
  obtain ⟨k, hk, rfl, h1, h2⟩ := hrel
  rcases (by omega : k = 0 ∨ k = 1 ∨ k = 2 ∨ k = 3) with rfl | rfl | rfl | rfl
  ·clear h1 h2 hk
   by_cases z0 : (s.size : Int) < 1
   ·have z1 : ¬ (0 : Int) < s.size := by omega
    go_wp2_with fail
    go_round
    case rel => exact ⟨1, by omega, rfl, by omega, by omega⟩
    case measure => simp [intOf]
   ·have z1 : (0 : Int) < s.size := by omega
    by_cases e0 : B s 0 = 5
    ·have e1 : (B s 0 != 5) = false := by rw [bne_eq_false_iff_eq]; exact e0
     have E0 := Lib.hid e0
     clear e0
     go_wp2_with fail
     go_round
     case rel => exact ⟨1, by omega, rfl, fun _ q => q.2 E0.out, by omega⟩
     case measure => simp [intOf]
    ·have e1 : (B s 0 != 5) = true := by rw [bne_iff_ne]; exact e0
     have R : Hid (rqp s = (ztgt, 0, 0, 2)) := Lib.hid (by rw [R0.out, if_pos (.inl ⟨by omega, e0⟩)])
     clear e0 R0
     go_wp2_with (first | refine wpList_load_T rfl _ rfl okT_ztgt hr rfl ?_ | refine wpList_store_T rfl _ _ rfl okT_ztgt okT_ztgt hr rfl rfl ?_)
     refine bodyPost_ret (res_T4 rfl rfl okT_ztgt (Blk.row hr _)) rfl ⟨by rw [R.out]; rfl, Ext.setRow hx hwb _⟩
  ·have H1 := Lib.hid (h1 (Nat.le_refl _))
   clear h1 h2 hk
   by_cases z0 : (s.size : Int) < 2
   ·have z1 : ¬ (1 : Int) < s.size := by omega
    go_wp2_with fail
    go_round
    case rel => exact ⟨2, by omega, rfl, fun _ => H1.out, by omega⟩
    case measure => simp [intOf]
   ·have z1 : (1 : Int) < s.size := by omega
    go_wp2_with fail
    go_round
    case rel => exact ⟨2, by omega, rfl, fun _ => H1.out, by omega⟩
    case measure => simp [intOf]
  ·have H1 := Lib.hid (h1 (by omega))
   clear h1 h2 hk
   by_cases z0 : (s.size : Int) < 3
   ·have z1 : ¬ (2 : Int) < s.size := by omega
    go_wp2_with fail
    go_round
    case rel => exact ⟨3, by omega, rfl, fun _ => H1.out, fun _ q => by omega⟩
    case measure => simp [intOf]
   ·have z1 : (2 : Int) < s.size := by omega
    by_cases e0 : B s 2 = 0
    ·have e1 : (B s 2 != 0) = false := by rw [bne_eq_false_iff_eq]; exact e0
     have E0 := Lib.hid e0
     clear e0
     go_wp2_with fail
     go_round
     case rel => exact ⟨3, by omega, rfl, fun _ => H1.out, fun _ q => q.2 E0.out⟩
     case measure => simp [intOf]
    ·have e1 : (B s 2 != 0) = true := by rw [bne_iff_ne]; exact e0
     have R : Hid (rqp s = (ztgt, 0, 0, 2)) := Lib.hid (by rw [R0.out, if_pos (.inr ⟨by omega, e0⟩)])
     clear e0 R0
     go_wp2_with (first | refine wpList_load_T rfl _ rfl okT_ztgt hr rfl ?_ | refine wpList_store_T rfl _ _ rfl okT_ztgt okT_ztgt hr rfl rfl ?_)
     refine bodyPost_ret (res_T4 rfl rfl okT_ztgt (Blk.row hr _)) rfl ⟨by rw [R.out]; rfl, Ext.setRow hx hwb _⟩
  ·have R1 : Hid (rqp s = if s.size < 4 then (ztgt, 0, 0, 0)
     else if ¬ (B s 3 = 1 ∨ B s 3 = 3 ∨ B s 3 = 4) then (ztgt, 8, 4, 1)
     else if st ≠ 1 then (ztgt, 0, 0, st)
     else reqTail t (n + 3) (B s 1)) := Lib.hid (by rw [R0.out, if_neg (by intro q; rcases q with q | q; exact h1 (by omega) q; exact h2 (by omega) q)])
   clear h1 h2 hk R0 d0 d1 d2
   go_upto_region 7 with fail
   by_cases z4 : (s.size : Int) <= 3
   ·have R : Hid (rqp s = (ztgt, 0, 0, 0)) := Lib.hid (by rw [R1.out, if_pos (by omega)])
    clear R1
    go_wp2_with (first | refine wpList_load_T rfl _ rfl okT_ztgt hr rfl ?_ | refine wpList_store_T rfl _ _ rfl okT_ztgt okT_ztgt hr rfl rfl ?_)
    refine bodyPost_ret (res_T4 rfl rfl okT_ztgt (Blk.row hr _)) rfl ⟨by rw [R.out]; rfl, Ext.setRow hx hwb _⟩
   have z3 : (3 : Int) < s.size := by omega
   have z1 : (1 : Int) < s.size := by omega
   have R2 : Hid (rqp s = if ¬ (B s 3 = 1 ∨ B s 3 = 3 ∨ B s 3 = 4) then (ztgt, 8, 4, 1)
     else if st ≠ 1 then (ztgt, 0, 0, st)
     else reqTail t (n + 3) (B s 1)) := Lib.hid (by rw [R1.out, if_neg (by omega)])
   clear R1
   have hki := katB_iff (B s 3)
   generalize katB (B s 3) = kb at *
   cases kb with
   | false =>
    have R : Hid (rqp s = (ztgt, 8, 4, 1)) := Lib.hid (by rw [R2.out, if_pos (fun q => by have := hki.2 q; simp at this)])
    clear R2 hki
    go_upto_region 10 with (go_at_call 129; refine (KK.out _).mono ?_; rintro e w2 ⟨rfl, rfl⟩)
    go_wp2_with (first | refine wpList_load_T rfl _ rfl okT_ztgt hr rfl ?_ | refine wpList_store_T rfl _ _ rfl okT_ztgt okT_ztgt hr rfl rfl ?_)
    refine bodyPost_ret (res_T4 rfl rfl okT_ztgt (Blk.row hr _)) rfl ⟨by rw [R.out]; rfl, Ext.setRow hx hwb _⟩
   | true =>
    have R3 : Hid (rqp s = if st ≠ 1 then (ztgt, 0, 0, st) else reqTail t (n + 3) (B s 1)) := Lib.hid (by rw [R2.out, if_neg (fun q => q (hki.1 rfl))])
    clear R2 hki
    go_upto_region 11 with (go_at_call 129; refine (KK.out _).mono ?_; rintro e w2 ⟨rfl, rfl⟩)
    go_upto_region 12 with (first | (go_at_call 130; refine (KT.out _).mono ?_; rintro e w2 ⟨rfl, hx2⟩; have hbt := Blk.new w2 (tc ztgt) 43) | refine wpList_store_T rfl _ _ rfl okT_ztgt hT hbt rfl rfl ?_)
    rw [← tc_zero, World.setRow_alloc_new]
    clear hbt
    have hx3 := (hx.trans hx2).alloc (.cells (tc t) 43)
    have hr3 := Blk.ext (Blk.ext hr hx2) ((Ext.refl w2).alloc (.cells (tc t) 43))
    have hT3 : TBlk _ w2.heap.size t := Blk.new w2 (tc t) 43
    have hrb : w.heap.size ≠ w2.heap.size := by have := Blk.lt hr; have := hx2.size; omega
    have hbw : w.heap.size <= w2.heap.size := (hx.trans hx2).size
    clear hx hx2 hr
    generalize w2.alloc (.cells (tc t) 43) = w3 at *
    generalize w2.heap.size = bt at *
    rcases hst with rfl | rfl | rfl
    ·have R : Hid (rqp s = (ztgt, 0, 0, 0)) := Lib.hid (by rw [R3.out, if_pos (by decide)])
     clear R3
     go_wp2_with (first | refine wpList_load_T rfl _ rfl okT_ztgt hr3 rfl ?_ | refine wpList_store_T rfl _ _ rfl okT_ztgt okT_ztgt hr3 rfl rfl ?_)
     refine bodyPost_ret (res_T4 rfl rfl okT_ztgt (Blk.row hr3 _)) rfl ⟨by rw [R.out]; rfl, Ext.setRow hx3 hwb _⟩
    case inr.inr =>
     have R : Hid (rqp s = (ztgt, 0, 0, 2)) := Lib.hid (by rw [R3.out, if_pos (by decide)])
     clear R3
     go_wp2_with (first | refine wpList_load_T rfl _ rfl okT_ztgt hr3 rfl ?_ | refine wpList_store_T rfl _ _ rfl okT_ztgt okT_ztgt hr3 rfl rfl ?_)
     refine bodyPost_ret (res_T4 rfl rfl okT_ztgt (Blk.row hr3 _)) rfl ⟨by rw [R.out]; rfl, Ext.setRow hx3 hwb _⟩
    have R4 : Hid (rqp s = reqTail t (3 + n) (B s 1)) := Lib.hid (by rw [R3.out, if_neg (by decide), Int.add_comm])
    clear R3
    go_upto_region 15 with fail
    by_cases c1 : B s 1 = 1
    case neg =>
     have cb : (B s 1 != 1) = true := by rw [bne_iff_ne]; exact c1
     have R : Hid (rqp s = (ztgt, 7, 3 + n, 1)) := Lib.hid (by rw [R4.out]; unfold reqTail; rw [if_pos c1])
     clear R4 c1
     go_wp2_with (first | refine wpList_load_T rfl _ rfl okT_ztgt hr3 rfl ?_ | refine wpList_store_T rfl _ _ rfl okT_ztgt okT_ztgt hr3 rfl rfl ?_)
     refine bodyPost_ret (res_T4 rfl rfl okT_ztgt (Blk.row hr3 _)) rfl ⟨by rw [R.out]; rfl, Ext.setRow hx3 hwb _⟩
    have cb : (B s 1 != 1) = false := by rw [bne_eq_false_iff_eq]; exact c1
    have R5 : Hid (rqp s = if t.1.size ≠ 0 /\ (nameP t.1).2 = false then (ztgt, 1, 3 + n, 1)
      else if t.2.2 = 0 then (ztgt, 1, 3 + n, 1)
      else ((if t.1.size = 0 then t.1 else (nameP t.1).1, t.2), 0, 3 + n, 1)) := Lib.hid (by rw [R4.out]; unfold reqTail; rw [if_neg (by omega)])
    clear R4 c1
    have c0 := TBlk.name hT3
    by_cases n0 : t.1.size = 0
    ·have nb := nil_yes n0
     have R6 : Hid (rqp s = if t.2.2 = 0 then (ztgt, 1, 3 + n, 1) else (t, 0, 3 + n, 1)) := Lib.hid (by rw [R5.out, if_neg (fun q => q.1 n0), if_pos n0])
     clear R5 n0
     have cP := TBlk.port hT hT3
     go_upto_region 21 with fail
     by_cases p0 : t.2.2 = 0
     ·have pb : (t.2.2 == 0) = true := by rw [beq_iff_eq]; exact p0
      have R : Hid (rqp s = (ztgt, 1, 3 + n, 1)) := Lib.hid (by rw [R6.out, if_pos p0])
      clear R6 p0
      go_wp2_with (first | refine wpList_load_T rfl _ rfl okT_ztgt hr3 rfl ?_ | refine wpList_store_T rfl _ _ rfl okT_ztgt okT_ztgt hr3 rfl rfl ?_)
      refine bodyPost_ret (res_T4 rfl rfl okT_ztgt (Blk.row hr3 _)) rfl ⟨by rw [R.out]; rfl, Ext.setRow hx3 hwb _⟩
     ·have pb : (t.2.2 == 0) = false := by rw [beq_eq_false_iff_ne]; exact p0
      have R : Hid (rqp s = (t, 0, 3 + n, 1)) := Lib.hid (by rw [R6.out, if_neg p0])
      clear R6 p0
      go_wp2_with (first | refine wpList_load_T rfl _ rfl hT hT3 rfl ?_ | refine wpList_store_T rfl _ _ rfl okT_ztgt hT hr3 rfl rfl ?_)
      refine bodyPost_ret (res_T4 rfl rfl hT (Blk.row hr3 _)) rfl ⟨by rw [R.out]; rfl, Ext.setRow hx3 hwb _⟩
    ·have nb := nil_no n0
     have KN := Lib.hid (pname_any t.1 w3 (henv.ext hx3) hT.2.2)
     have hpn := nameP_nil t.1
     have hps := Nat.le_trans (nameP_size t.1) hT.2.2
     generalize nameP t.1 = NP at *
     obtain ⟨nm, okn⟩ := NP
     simp only at hpn hps KN R5
     have f0 := Blk.free hT3 0
     go_upto_region 18 with fail
     go_upto_region 19 with (first | (go_at_call 131; refine KN.out.mono ?_; rintro e w4 ⟨rfl, hx4⟩; have c04 := TBlk.name (Blk.ext hT3 hx4); have f04 := Blk.free (Blk.ext hT3 hx4) 0))
     have hT5 : TBlk (w4.setCell ⟨bt, 0, none⟩ (.string nm)) bt (nm, t.2) := Blk.setOne (pre := []) (Blk.ext hT3 hx4) rfl _
     have hr5 := Blk.set_ne (Blk.ext hr3 hx4) ⟨bt, 0, none⟩ (Ne.symm hrb) (.string nm)
     have hx5 : Ext w (w4.setCell ⟨bt, 0, none⟩ (.string nm)) := Ext.setCell (hx3.trans hx4) hbw _
     have hT' : okT (nm, t.2) := ⟨hT.1, hT.2.1, hps⟩
     clear c0 f0 c04 f04 hx3 hx4 hr3 hT3 nb KN
     generalize w4.setCell ⟨bt, 0, none⟩ (.string nm) = w5 at *
     have c5 : w5.cell? ⟨bt, 0, none⟩ = some (.string nm) := TBlk.name hT5
     by_cases m0 : nm.size = 0
     ·have nb := nil_yes m0
      have R : Hid (rqp s = (ztgt, 1, 3 + n, 1)) := Lib.hid (by rw [R5.out, if_pos ⟨n0, hpn.2 m0⟩])
      clear R5 n0 m0 hpn
      go_wp2_with (first | refine wpList_load_T rfl _ rfl okT_ztgt hr5 rfl ?_ | refine wpList_store_T rfl _ _ rfl okT_ztgt okT_ztgt hr5 rfl rfl ?_)
      refine bodyPost_ret (res_T4 rfl rfl okT_ztgt (Blk.row hr5 _)) rfl ⟨by rw [R.out]; rfl, Ext.setRow hx5 hwb _⟩
     ·have nb := nil_no m0
      have R6 : Hid (rqp s = if t.2.2 = 0 then (ztgt, 1, 3 + n, 1) else ((nm, t.2), 0, 3 + n, 1)) := Lib.hid (by rw [R5.out, if_neg (fun q => m0 (hpn.1 q.2)), if_neg n0])
      clear R5 n0 m0 hpn
      have cP := TBlk.port hT' hT5
      go_upto_region 21 with fail
      by_cases p0 : t.2.2 = 0
      ·have pb : (t.2.2 == 0) = true := by rw [beq_iff_eq]; exact p0
       have R : Hid (rqp s = (ztgt, 1, 3 + n, 1)) := Lib.hid (by rw [R6.out, if_pos p0])
       clear R6 p0
       go_wp2_with (first | refine wpList_load_T rfl _ rfl okT_ztgt hr5 rfl ?_ | refine wpList_store_T rfl _ _ rfl okT_ztgt okT_ztgt hr5 rfl rfl ?_)
       refine bodyPost_ret (res_T4 rfl rfl okT_ztgt (Blk.row hr5 _)) rfl ⟨by rw [R.out]; rfl, Ext.setRow hx5 hwb _⟩
      ·have pb : (t.2.2 == 0) = false := by rw [beq_eq_false_iff_ne]; exact p0
       have R : Hid (rqp s = ((nm, t.2), 0, 3 + n, 1)) := Lib.hid (by rw [R6.out, if_neg p0])
       clear R6 p0
       go_wp2_with (first | refine wpList_load_T rfl _ rfl hT' hT5 rfl ?_ | refine wpList_store_T rfl _ _ rfl okT_ztgt hT' hr5 rfl rfl ?_)
       refine bodyPost_ret (res_T4 rfl rfl hT' (Blk.row hr5 _)) rfl ⟨by rw [R.out]; rfl, Ext.setRow hx5 hwb _⟩
end Go.Proofs.YtnohnnjeabehjaaGreatDoor
