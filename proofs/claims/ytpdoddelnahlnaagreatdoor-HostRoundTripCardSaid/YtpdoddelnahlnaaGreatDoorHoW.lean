/-
  HostRoundTrip.
-/
import Derived.Test.YtpdoddelnahlnaaGreatDoorHoG
import Derived.Test.YtpdoddelnahlnaaGreatDoorHoAw
set_option linter.unusedSimpArgs false
set_option linter.unusedVariables false
namespace Go.Proofs.YtpdoddelnahlnaaGreatDoor
open Go.RowKit
theorem exec_neqTd {o : Oper} {f : Act} (x y : Operand) {t : TypeId} (ho : o.op = .binOp .neq 32 x y t) {p q : Tgt} (hp : okT p) (hq : okT q) (hx : f.eval x = .agg (tc p)) (hy : f.eval y = .agg (tc q)) (w : World) :
    (execOp f.eval o).run Tryz.prog w = .ok (.value (.bool (!decide (p = q)))) w := by
  unfold execOp
  rw [ho]
  have e := equal_Td hp hq w
  have e1 : (eqGuard .neq 32 x y (.agg (tc p)) (.agg (tc q))).run Tryz.prog w = .ok () w := by
    simp [eqGuard, noGuard_T, Sem.run_bind]
  have e2 : (binOp .neq 32 (.agg (tc p)) (.agg (tc q))).run Tryz.prog w = .ok (.bool (!decide (p = q))) w := by
    simp only [binOp, Sem.run_bind, e, Result.andThen_ok, Sem.run_pure]
  simp only [hx, hy, Sem.run_bind, e1, e2, Result.andThen_ok, Sem.run_pure]
theorem goV_neqTd {ops : Array Oper} {Q : Exit → Act → World → Prop} {md : Region.Mode} {w0 : World} {o : Oper} {rest : List Oper} {i : Nat} {plan : List Yld} {A : (Nat → Value) → Act} (hw : ∀ u, Region.wanted o (yielded ops (A u).tmps) = true) (x y : Operand) {t : TypeId} (ho : o.op = .binOp .neq 32 x y t)
    {p q : Tgt} (hp : okT p) (hq : okT q) {r : Bool} (h : (!decide (p = q)) = r) (hx : ∀ u, (A u).eval x = .agg (tc p)) (hy : ∀ u, (A u).eval y = .agg (tc q))
    (k : goV Tryz.prog ops Q md w0 rest (i + 1) (plan ++ [.val (.bool r)]) (fun u => (A u).put o.dst (.bool r))) : goV Tryz.prog ops Q md w0 (o :: rest) i plan A :=
  goV_val _ hw (fun u w _ _ => by rw [← h]; exact exec_neqTd x y ho hp hq (hx u) (hy u) w) k
theorem fmtT_size {t : Tgt} (ht : okT t) : (fmtT t).size ≤ 300 := by
  cases hv : validT t
  · rw [fmtT_bad hv]; exact Nat.zero_le _
  · have hp := validT_port hv
    have hn := validT_name hv
    have l0 : (txt (Lib.decDigits t.2.2.toNat)).size ≤ 5 := by rw [txt_size]; exact dd_len 4 _ (by omega)
    have l1 : (txt (fmtA t.2.1)).size ≤ 45 := by rw [txt_size]; exact fmtA_len ht.1
    unfold fmtT
    rw [if_pos hv, ByteArray.size_append, ByteArray.size_append]
    have e1 : (⟨#[58]⟩ : ByteArray).size = 1 := rfl
    rw [e1]
    split
    · split
      · rw [ByteArray.size_append, ByteArray.size_append]
        have e2 : (⟨#[91]⟩ : ByteArray).size = 1 := rfl
        have e3 : (⟨#[93]⟩ : ByteArray).size = 1 := rfl
        omega
      · omega
    · omega
set_option maxRecDepth 8000 in
set_option maxHeartbeats 8000000 in
theorem HostRoundTrip_walk (t : Tgt) (n : Int) (ht : okT t) (wn : (Lit.int .i64 n).wf = true) (w : World) (henv : Env w) (htabs : Tabs w) :
    Calls Tryz.prog 5 #[tv t, .int .i64 n] w fun e w' => e = .returned (.bool true) ∧ Ext w w' := by
  have V1 := Lib.hid (fun w h => vtarget_any t ht w h)
  have V2 := Lib.hid (fun w => rvtarget_any t ht w)
  have F1 := Lib.hid (fun w h h2 => hformat_any t ht w h h2)
  have F2 := Lib.hid (fun w => rhformat_any t ht w)
  have PT := Lib.hid (fun w h => ptarget_any (fmtT t) w h (by have := fmtT_size ht; omega))
  have KG := Lib.hid (fun w => gtarget_any n w)
  unfold tv
  cases hv : validT t
  · have hr := okT_ztgt
    rw [fmtT_bad hv] at PT F1 F2
    rw [tgtP_nil] at PT
    rw [hv] at V1 V2
    generalize ztgt = r at hr PT
    clear hv
    go_enter Tryz.func5, Tryz.ntmps5
    go_upto_region 1 with fail
    have hx := (Ext.refl w).alloc (.cells (tc t) 32)
    have hT := Blk.new w (tc t) 32
    generalize w.alloc (.cells (tc t) 32) = w0 at *
    generalize w.heap.size = b at *
    have gT : ∀ w', Ext w0 w' → TBlk w' b t := fun w' h => hT.ext h
    have c1 := fun w' (h : Ext w0 w') => V1.out w' (henv.ext (hx.trans h))
    have c2 := fun w' (h : Ext w0 w') => V2.out w'
    have c3 := fun w' (h : Ext w0 w') => F1.out w' (henv.ext (hx.trans h)) (htabs.ext (hx.trans h))
    have c4 := fun w' (h : Ext w0 w') => F2.out w'
    refine wp_region_rg w0 (by kernel_rfl) (by kernel_rfl) (Ext.refl _) ?_
    first
      | (apply goV_skip (by intro u; rfl))
      | (apply goV_loadT (by intro u; rfl) _ rfl ht gT (by intro u; rfl))
    try simp only [Act.put, List.setIfInBounds_toArray, List.set_cons_zero, List.set_cons_succ]
    first
      | (apply goV_skip (by intro u; rfl))
      | (apply goV_call (by intro u; rfl) c1; · (intro u w hSw hF; go_simp; try with_reducible rfl))
    try simp only [Act.put, List.setIfInBounds_toArray, List.set_cons_zero, List.set_cons_succ]
    first
      | (apply goV_skip (by intro u; rfl))
      | (apply goV_loadT (by intro u; rfl) _ rfl ht gT (by intro u; rfl))
    try simp only [Act.put, List.setIfInBounds_toArray, List.set_cons_zero, List.set_cons_succ]
    first
      | (apply goV_skip (by intro u; rfl))
      | (apply goV_call (by intro u; rfl) c2; · (intro u w hSw hF; go_simp; try with_reducible rfl))
    try simp only [Act.put, List.setIfInBounds_toArray, List.set_cons_zero, List.set_cons_succ]
    first
      | (apply goV_skip (by intro u; rfl))
      | (apply goV_val _ (by intro u; rfl); · (intro u w hSw hF; go_simp; try with_reducible rfl))
    try simp only [Act.put, List.setIfInBounds_toArray, List.set_cons_zero, List.set_cons_succ]
    first
      | (apply goV_skip (by intro u; rfl))
      | (apply goV_val _ (by intro u; rfl); · (intro u w hSw hF; go_simp; try with_reducible rfl))
    try simp only [Act.put, List.setIfInBounds_toArray, List.set_cons_zero, List.set_cons_succ]
    first
      | (apply goV_skip (by intro u; rfl))
      | (apply goV_loadT (by intro u; rfl) _ rfl ht gT (by intro u; rfl))
    try simp only [Act.put, List.setIfInBounds_toArray, List.set_cons_zero, List.set_cons_succ]
    first
      | (apply goV_skip (by intro u; rfl))
      | (apply goV_call (by intro u; rfl) c3; · (intro u w hSw hF; go_simp; try with_reducible rfl))
    try simp only [Act.put, List.setIfInBounds_toArray, List.set_cons_zero, List.set_cons_succ]
    first
      | (apply goV_skip (by intro u; rfl))
      | (apply goV_loadT (by intro u; rfl) _ rfl ht gT (by intro u; rfl))
    try simp only [Act.put, List.setIfInBounds_toArray, List.set_cons_zero, List.set_cons_succ]
    first
      | (apply goV_skip (by intro u; rfl))
      | (apply goV_call (by intro u; rfl) c4; · (intro u w hSw hF; go_simp; try with_reducible rfl))
    try simp only [Act.put, List.setIfInBounds_toArray, List.set_cons_zero, List.set_cons_succ]
    first
      | (apply goV_skip (by intro u; rfl))
      | (apply goV_val _ (by intro u; rfl); · (intro u w hSw hF; go_simp; try with_reducible rfl))
    try simp only [Act.put, List.setIfInBounds_toArray, List.set_cons_zero, List.set_cons_succ]
    first
      | (apply goV_skip (by intro u; rfl))
      | (apply goV_val _ (by intro u; rfl); · (intro u w hSw hF; go_simp; try with_reducible rfl))
    try simp only [Act.put, List.setIfInBounds_toArray, List.set_cons_zero, List.set_cons_succ]
    intro u w1 hx1 _
    have hT1 := hT.ext hx1
    have hxx1 := hx.trans hx1
    clear c1 c2 c3 c4 gT hT hx hx1
    go_wp2_with (first | (go_at_call 19; refine (KG.out w1).mono ?_; rintro e w2 ⟨q, hq, hqv, rfl, hx2⟩; refine Hid.out ?_))
    refine Lib.hid ?_
    have hxx2 := hxx1.trans hx2
    have hT2 := hT1.ext hx2
    clear hxx1 hx2 hT1 KG
    have hbf := Blk.new w2 (tc ztgt) 32
    go_upto_region 4 with (refine wpList_store_T rfl _ _ rfl okT_ztgt hq hbf rfl rfl ?_)
    change Code.wp _ _ _ _ ((w2.alloc (.cells (tc ztgt) 32)).setRow w2.heap.size (tc q))
    rw [World.setRow_alloc_new]
    have hQ3 := Blk.new w2 (tc q) 32
    have hx3 := hxx2.alloc (.cells (tc q) 32)
    have hnx := (Ext.refl w2).alloc (.cells (tc q) 32)
    clear hbf
    generalize w2.alloc (.cells (tc q) 32) = w3 at *
    generalize w2.heap.size = b3 at *
    have hT3 := hT2.ext hnx
    clear hnx hxx2 hT2
    have FQ := Lib.hid (hformat_any q hq w3 (henv.ext hx3) (htabs.ext hx3))
    have PQ := Lib.hid (fun w h => ptarget_any (fmtT q) w h (by have := fmtT_size hq; omega))
    rw [tgtP_fmt hq hqv] at PQ
    have VQ := Lib.hid (fun w h => vtarget_any q hq w h)
    rw [hqv] at VQ
    generalize fmtT q = fq at *
    clear hqv
    go_wp2_with (first | refine wpList_load_T rfl _ rfl hq hQ3 rfl ?_ | (go_at_call 17; refine FQ.out.mono ?_; rintro e w4 ⟨rfl, hx4⟩; have K4 := PQ.out w4 (henv.ext (hx3.trans hx4))) | (go_at_call 20; refine K4.mono ?_; rintro e w5 ⟨rfl, hx5⟩; refine Hid.out ?_))
    refine Lib.hid ?_
    have hxx5 := (hx3.trans hx4).trans hx5
    have hQ5 := (hQ3.ext hx4).ext hx5
    have hT5 := (hT3.ext hx4).ext hx5
    clear hx3 hx4 hx5 hQ3 hT3 FQ PQ K4
    have hbf := Blk.new w5 (tc ztgt) 32
    go_upto_region 5 with (refine wpList_store_T rfl _ _ rfl okT_ztgt hq hbf rfl rfl ?_)
    change Code.wp _ _ _ _ ((w5.alloc (.cells (tc ztgt) 32)).setRow w5.heap.size (tc q))
    rw [World.setRow_alloc_new]
    have hR6 := Blk.new w5 (tc q) 32
    have hx6 := hxx5.alloc (.cells (tc q) 32)
    have hnx := (Ext.refl w5).alloc (.cells (tc q) 32)
    clear hbf
    generalize w5.alloc (.cells (tc q) 32) = w6 at *
    generalize w5.heap.size = b6 at *
    have hQ6 := hQ5.ext hnx
    have hT6 := hT5.ext hnx
    clear hnx hxx5 hQ5 hT5
    have gR : ∀ w', Ext w6 w' → TBlk w' b6 q := fun w' h => hR6.ext h
    have gQ : ∀ w', Ext w6 w' → TBlk w' b3 q := fun w' h => hQ6.ext h
    have hne : (!decide (q = q)) = false := by simp
    have c1 := fun w' (h : Ext w6 w') => VQ.out w' (henv.ext (hx6.trans h))
    refine wp_region_rgs ?_
    first
      | (apply goV_skip (by intro u; rfl))
      | (apply goV_val _ (by intro u; rfl); · (intro u w hSw hF; go_simp; try with_reducible rfl))
    try simp only [Act.put, List.setIfInBounds_toArray, List.set_cons_zero, List.set_cons_succ]
    first
      | (apply goV_skip (by intro u; rfl))
      | (apply goV_val _ (by intro u; rfl); · (intro u w hSw hF; go_simp; try with_reducible rfl))
    try simp only [Act.put, List.setIfInBounds_toArray, List.set_cons_zero, List.set_cons_succ]
    first
      | (apply goV_skip (by intro u; rfl))
      | (apply goV_val _ (by intro u; rfl); · (intro u w hSw hF; go_simp; try with_reducible rfl))
    try simp only [Act.put, List.setIfInBounds_toArray, List.set_cons_zero, List.set_cons_succ]
    first
      | (apply goV_skip (by intro u; rfl))
      | (apply goV_loadT (by intro u; rfl) _ rfl hq gR (by intro u; rfl))
    try simp only [Act.put, List.setIfInBounds_toArray, List.set_cons_zero, List.set_cons_succ]
    first
      | (apply goV_skip (by intro u; rfl))
      | (apply goV_loadT (by intro u; rfl) _ rfl hq gQ (by intro u; rfl))
    try simp only [Act.put, List.setIfInBounds_toArray, List.set_cons_zero, List.set_cons_succ]
    first
      | (apply goV_skip (by intro u; rfl))
      | (apply goV_neqTd (by intro u; rfl) _ _ rfl hq hq hne (by intro u; rfl) (by intro u; rfl))
    try simp only [Act.put, List.setIfInBounds_toArray, List.set_cons_zero, List.set_cons_succ]
    first
      | (apply goV_skip (by intro u; rfl))
      | (apply goV_val _ (by intro u; rfl); · (intro u w hSw hF; go_simp; try with_reducible rfl))
    try simp only [Act.put, List.setIfInBounds_toArray, List.set_cons_zero, List.set_cons_succ]
    first
      | (apply goV_skip (by intro u; rfl))
      | (apply goV_val _ (by intro u; rfl); · (intro u w hSw hF; go_simp; try with_reducible rfl))
    try simp only [Act.put, List.setIfInBounds_toArray, List.set_cons_zero, List.set_cons_succ]
    first
      | (apply goV_skip (by intro u; rfl))
      | (apply goV_loadT (by intro u; rfl) _ rfl hq gQ (by intro u; rfl))
    try simp only [Act.put, List.setIfInBounds_toArray, List.set_cons_zero, List.set_cons_succ]
    first
      | (apply goV_skip (by intro u; rfl))
      | (apply goV_call (by intro u; rfl) c1; · (intro u w hSw hF; go_simp; try with_reducible rfl))
    try simp only [Act.put, List.setIfInBounds_toArray, List.set_cons_zero, List.set_cons_succ]
    first
      | (apply goV_skip (by intro u; rfl))
      | (apply goV_val _ (by intro u; rfl); · (intro u w hSw hF; go_simp; try with_reducible rfl))
    try simp only [Act.put, List.setIfInBounds_toArray, List.set_cons_zero, List.set_cons_succ]
    first
      | (apply goV_skip (by intro u; rfl))
      | (apply goV_val _ (by intro u; rfl); · (intro u w hSw hF; go_simp; try with_reducible rfl))
    try simp only [Act.put, List.setIfInBounds_toArray, List.set_cons_zero, List.set_cons_succ]
    intro u w7 hx7 _
    have hT7 := hT6.ext hx7
    have hxx7 := hx6.trans hx7
    clear c1 gR gQ hne VQ hR6 hQ6 hT6 hx6 hx7
    have FT := F1.out w7 (henv.ext hxx7) (htabs.ext hxx7)
    go_wp2_with (first | refine wpList_load_T rfl _ rfl ht hT7 rfl ?_ | (go_at_call 17; refine FT.mono ?_; rintro e w8 ⟨rfl, hx8⟩; have K8 := PT.out w8 (henv.ext (hxx7.trans hx8))) | (go_at_call 20; refine K8.mono ?_; rintro e w9 ⟨rfl, hx9⟩; refine Hid.out ?_))
    refine Lib.hid ?_
    have hxx9 := (hxx7.trans hx8).trans hx9
    have hT9 := (hT7.ext hx8).ext hx9
    clear hxx7 hx8 hx9 hT7 FT K8 PT
    have hbf := Blk.new w9 (tc ztgt) 32
    go_upto_region 8 with (refine wpList_store_T rfl _ _ rfl okT_ztgt hr hbf rfl rfl ?_)
    change Code.wp _ _ _ _ ((w9.alloc (.cells (tc ztgt) 32)).setRow w9.heap.size (tc r))
    rw [World.setRow_alloc_new]
    have hRa := Blk.new w9 (tc r) 32
    have hxa := hxx9.alloc (.cells (tc r) 32)
    have hnx := (Ext.refl w9).alloc (.cells (tc r) 32)
    clear hbf
    generalize w9.alloc (.cells (tc r) 32) = wa at *
    generalize w9.heap.size = ba at *
    have hTa := hT9.ext hnx
    clear hnx hxx9 hT9
    have gR : ∀ w', Ext wa w' → TBlk w' ba r := fun w' h => hRa.ext h
    have gT : ∀ w', Ext wa w' → TBlk w' b t := fun w' h => hTa.ext h
    have c0 := fun w' (h : Ext wa w') => awake08 w' (henv.ext (hxa.trans h)) (htabs.ext (hxa.trans h))
    have c1 := fun w' (h : Ext wa w') => V2.out w'
    refine wp_region_rgs ?_
    first
      | (apply goV_skip (by intro u; rfl))
      | (apply goV_call (by intro u; rfl) c0; · (intro u w hSw hF; go_simp; try with_reducible rfl))
    try simp only [Act.put, List.setIfInBounds_toArray, List.set_cons_zero, List.set_cons_succ]
    first
      | (apply goV_skip (by intro u; rfl))
      | (apply goV_val _ (by intro u; rfl); · (intro u w hSw hF; go_simp; try with_reducible rfl))
    try simp only [Act.put, List.setIfInBounds_toArray, List.set_cons_zero, List.set_cons_succ]
    first
      | (apply goV_skip (by intro u; rfl))
      | (apply goV_val _ (by intro u; rfl); · (intro u w hSw hF; go_simp; try with_reducible rfl))
    try simp only [Act.put, List.setIfInBounds_toArray, List.set_cons_zero, List.set_cons_succ]
    first
      | (apply goV_skip (by intro u; rfl))
      | (apply goV_loadT (by intro u; rfl) _ rfl ht gT (by intro u; rfl))
    try simp only [Act.put, List.setIfInBounds_toArray, List.set_cons_zero, List.set_cons_succ]
    first
      | (apply goV_skip (by intro u; rfl))
      | (apply goV_call (by intro u; rfl) c1; · (intro u w hSw hF; go_simp; try with_reducible rfl))
    try simp only [Act.put, List.setIfInBounds_toArray, List.set_cons_zero, List.set_cons_succ]
    first
      | (apply goV_skip (by intro u; rfl))
      | (apply goV_val _ (by intro u; rfl); · (intro u w hSw hF; go_simp; try with_reducible rfl))
    try simp only [Act.put, List.setIfInBounds_toArray, List.set_cons_zero, List.set_cons_succ]
    first
      | (apply goV_skip (by intro u; rfl))
      | (apply goV_val _ (by intro u; rfl); · (intro u w hSw hF; go_simp; try with_reducible rfl))
    try simp only [Act.put, List.setIfInBounds_toArray, List.set_cons_zero, List.set_cons_succ]
    first
      | (apply goV_skip (by intro u; rfl))
      | (apply goV_val _ (by intro u; rfl); · (intro u w hSw hF; go_simp; try with_reducible rfl))
    try simp only [Act.put, List.setIfInBounds_toArray, List.set_cons_zero, List.set_cons_succ]
    first
      | (apply goV_skip (by intro u; rfl))
      | (apply goV_val _ (by intro u; rfl); · (intro u w hSw hF; go_simp; try with_reducible rfl))
    try simp only [Act.put, List.setIfInBounds_toArray, List.set_cons_zero, List.set_cons_succ]
    first
      | (apply goV_skip (by intro u; rfl))
      | (apply goV_val _ (by intro u; rfl); · (intro u w hSw hF; go_simp; try with_reducible rfl))
    try simp only [Act.put, List.setIfInBounds_toArray, List.set_cons_zero, List.set_cons_succ]
    first
      | (apply goV_skip (by intro u; rfl))
      | (apply goV_val _ (by intro u; rfl); · (intro u w hSw hF; go_simp; try with_reducible rfl))
    try simp only [Act.put, List.setIfInBounds_toArray, List.set_cons_zero, List.set_cons_succ]
    first
      | (apply goV_skip (by intro u; rfl))
      | (apply goV_loadT (by intro u; rfl) _ rfl hr gR (by intro u; rfl))
    try simp only [Act.put, List.setIfInBounds_toArray, List.set_cons_zero, List.set_cons_succ]
    first
      | (apply goV_skip (by intro u; rfl))
      | (apply goV_loadT (by intro u; rfl) _ rfl ht gT (by intro u; rfl))
    try simp only [Act.put, List.setIfInBounds_toArray, List.set_cons_zero, List.set_cons_succ]
    first
      | (apply goV_skip (by intro u; rfl))
      | (apply goV_eqTd (by intro u; rfl) _ _ rfl hr ht hE (by intro u; rfl) (by intro u; rfl))
    try simp only [Act.put, List.setIfInBounds_toArray, List.set_cons_zero, List.set_cons_succ]
    first
      | (apply goV_skip (by intro u; rfl))
      | (apply goV_val _ (by intro u; rfl); · (intro u w hSw hF; go_simp; try with_reducible rfl))
    try simp only [Act.put, List.setIfInBounds_toArray, List.set_cons_zero, List.set_cons_succ]
    first
      | (apply goV_skip (by intro u; rfl))
      | (apply goV_val _ (by intro u; rfl); · (intro u w hSw hF; go_simp; try with_reducible rfl))
    try simp only [Act.put, List.setIfInBounds_toArray, List.set_cons_zero, List.set_cons_succ]
    first
      | (apply goV_skip (by intro u; rfl))
      | (apply goV_val _ (by intro u; rfl); · (intro u w hSw hF; go_simp; try with_reducible rfl))
    try simp only [Act.put, List.setIfInBounds_toArray, List.set_cons_zero, List.set_cons_succ]
    intro u wb hxb _
    have hfin := hxa.trans hxb
    clear henv htabs
    go_wp2
    go_ret
    exact ⟨rfl, hfin⟩
  · have hr := ht
    rw [tgtP_fmt ht hv] at PT
    rw [hv] at V1 V2
    generalize fmtT t = ft at *
    obtain ⟨r, hrt⟩ : ∃ r, r = t := ⟨_, rfl⟩
    rw [← hrt] at PT hr
    have hE : decide (r = t) = true := by rw [hrt]; simp
    clear hrt
    clear hv
    go_enter Tryz.func5, Tryz.ntmps5
    go_upto_region 1 with fail
    have hx := (Ext.refl w).alloc (.cells (tc t) 32)
    have hT := Blk.new w (tc t) 32
    generalize w.alloc (.cells (tc t) 32) = w0 at *
    generalize w.heap.size = b at *
    have gT : ∀ w', Ext w0 w' → TBlk w' b t := fun w' h => hT.ext h
    have c1 := fun w' (h : Ext w0 w') => V1.out w' (henv.ext (hx.trans h))
    have c2 := fun w' (h : Ext w0 w') => V2.out w'
    have c3 := fun w' (h : Ext w0 w') => F1.out w' (henv.ext (hx.trans h)) (htabs.ext (hx.trans h))
    have c4 := fun w' (h : Ext w0 w') => F2.out w'
    refine wp_region_rg w0 (by kernel_rfl) (by kernel_rfl) (Ext.refl _) ?_
    first
      | (apply goV_skip (by intro u; rfl))
      | (apply goV_loadT (by intro u; rfl) _ rfl ht gT (by intro u; rfl))
    try simp only [Act.put, List.setIfInBounds_toArray, List.set_cons_zero, List.set_cons_succ]
    first
      | (apply goV_skip (by intro u; rfl))
      | (apply goV_call (by intro u; rfl) c1; · (intro u w hSw hF; go_simp; try with_reducible rfl))
    try simp only [Act.put, List.setIfInBounds_toArray, List.set_cons_zero, List.set_cons_succ]
    first
      | (apply goV_skip (by intro u; rfl))
      | (apply goV_loadT (by intro u; rfl) _ rfl ht gT (by intro u; rfl))
    try simp only [Act.put, List.setIfInBounds_toArray, List.set_cons_zero, List.set_cons_succ]
    first
      | (apply goV_skip (by intro u; rfl))
      | (apply goV_call (by intro u; rfl) c2; · (intro u w hSw hF; go_simp; try with_reducible rfl))
    try simp only [Act.put, List.setIfInBounds_toArray, List.set_cons_zero, List.set_cons_succ]
    first
      | (apply goV_skip (by intro u; rfl))
      | (apply goV_val _ (by intro u; rfl); · (intro u w hSw hF; go_simp; try with_reducible rfl))
    try simp only [Act.put, List.setIfInBounds_toArray, List.set_cons_zero, List.set_cons_succ]
    first
      | (apply goV_skip (by intro u; rfl))
      | (apply goV_val _ (by intro u; rfl); · (intro u w hSw hF; go_simp; try with_reducible rfl))
    try simp only [Act.put, List.setIfInBounds_toArray, List.set_cons_zero, List.set_cons_succ]
    first
      | (apply goV_skip (by intro u; rfl))
      | (apply goV_loadT (by intro u; rfl) _ rfl ht gT (by intro u; rfl))
    try simp only [Act.put, List.setIfInBounds_toArray, List.set_cons_zero, List.set_cons_succ]
    first
      | (apply goV_skip (by intro u; rfl))
      | (apply goV_call (by intro u; rfl) c3; · (intro u w hSw hF; go_simp; try with_reducible rfl))
    try simp only [Act.put, List.setIfInBounds_toArray, List.set_cons_zero, List.set_cons_succ]
    first
      | (apply goV_skip (by intro u; rfl))
      | (apply goV_loadT (by intro u; rfl) _ rfl ht gT (by intro u; rfl))
    try simp only [Act.put, List.setIfInBounds_toArray, List.set_cons_zero, List.set_cons_succ]
    first
      | (apply goV_skip (by intro u; rfl))
      | (apply goV_call (by intro u; rfl) c4; · (intro u w hSw hF; go_simp; try with_reducible rfl))
    try simp only [Act.put, List.setIfInBounds_toArray, List.set_cons_zero, List.set_cons_succ]
    first
      | (apply goV_skip (by intro u; rfl))
      | (apply goV_val _ (by intro u; rfl); · (intro u w hSw hF; go_simp; try with_reducible rfl))
    try simp only [Act.put, List.setIfInBounds_toArray, List.set_cons_zero, List.set_cons_succ]
    first
      | (apply goV_skip (by intro u; rfl))
      | (apply goV_val _ (by intro u; rfl); · (intro u w hSw hF; go_simp; try with_reducible rfl))
    try simp only [Act.put, List.setIfInBounds_toArray, List.set_cons_zero, List.set_cons_succ]
    intro u w1 hx1 _
    have hT1 := hT.ext hx1
    have hxx1 := hx.trans hx1
    clear c1 c2 c3 c4 gT hT hx hx1
    go_wp2_with (first | (go_at_call 19; refine (KG.out w1).mono ?_; rintro e w2 ⟨q, hq, hqv, rfl, hx2⟩; refine Hid.out ?_))
    refine Lib.hid ?_
    have hxx2 := hxx1.trans hx2
    have hT2 := hT1.ext hx2
    clear hxx1 hx2 hT1 KG
    have hbf := Blk.new w2 (tc ztgt) 32
    go_upto_region 4 with (refine wpList_store_T rfl _ _ rfl okT_ztgt hq hbf rfl rfl ?_)
    change Code.wp _ _ _ _ ((w2.alloc (.cells (tc ztgt) 32)).setRow w2.heap.size (tc q))
    rw [World.setRow_alloc_new]
    have hQ3 := Blk.new w2 (tc q) 32
    have hx3 := hxx2.alloc (.cells (tc q) 32)
    have hnx := (Ext.refl w2).alloc (.cells (tc q) 32)
    clear hbf
    generalize w2.alloc (.cells (tc q) 32) = w3 at *
    generalize w2.heap.size = b3 at *
    have hT3 := hT2.ext hnx
    clear hnx hxx2 hT2
    have FQ := Lib.hid (hformat_any q hq w3 (henv.ext hx3) (htabs.ext hx3))
    have PQ := Lib.hid (fun w h => ptarget_any (fmtT q) w h (by have := fmtT_size hq; omega))
    rw [tgtP_fmt hq hqv] at PQ
    have VQ := Lib.hid (fun w h => vtarget_any q hq w h)
    rw [hqv] at VQ
    generalize fmtT q = fq at *
    clear hqv
    go_wp2_with (first | refine wpList_load_T rfl _ rfl hq hQ3 rfl ?_ | (go_at_call 17; refine FQ.out.mono ?_; rintro e w4 ⟨rfl, hx4⟩; have K4 := PQ.out w4 (henv.ext (hx3.trans hx4))) | (go_at_call 20; refine K4.mono ?_; rintro e w5 ⟨rfl, hx5⟩; refine Hid.out ?_))
    refine Lib.hid ?_
    have hxx5 := (hx3.trans hx4).trans hx5
    have hQ5 := (hQ3.ext hx4).ext hx5
    have hT5 := (hT3.ext hx4).ext hx5
    clear hx3 hx4 hx5 hQ3 hT3 FQ PQ K4
    have hbf := Blk.new w5 (tc ztgt) 32
    go_upto_region 5 with (refine wpList_store_T rfl _ _ rfl okT_ztgt hq hbf rfl rfl ?_)
    change Code.wp _ _ _ _ ((w5.alloc (.cells (tc ztgt) 32)).setRow w5.heap.size (tc q))
    rw [World.setRow_alloc_new]
    have hR6 := Blk.new w5 (tc q) 32
    have hx6 := hxx5.alloc (.cells (tc q) 32)
    have hnx := (Ext.refl w5).alloc (.cells (tc q) 32)
    clear hbf
    generalize w5.alloc (.cells (tc q) 32) = w6 at *
    generalize w5.heap.size = b6 at *
    have hQ6 := hQ5.ext hnx
    have hT6 := hT5.ext hnx
    clear hnx hxx5 hQ5 hT5
    have gR : ∀ w', Ext w6 w' → TBlk w' b6 q := fun w' h => hR6.ext h
    have gQ : ∀ w', Ext w6 w' → TBlk w' b3 q := fun w' h => hQ6.ext h
    have hne : (!decide (q = q)) = false := by simp
    have c1 := fun w' (h : Ext w6 w') => VQ.out w' (henv.ext (hx6.trans h))
    refine wp_region_rgs ?_
    first
      | (apply goV_skip (by intro u; rfl))
      | (apply goV_val _ (by intro u; rfl); · (intro u w hSw hF; go_simp; try with_reducible rfl))
    try simp only [Act.put, List.setIfInBounds_toArray, List.set_cons_zero, List.set_cons_succ]
    first
      | (apply goV_skip (by intro u; rfl))
      | (apply goV_val _ (by intro u; rfl); · (intro u w hSw hF; go_simp; try with_reducible rfl))
    try simp only [Act.put, List.setIfInBounds_toArray, List.set_cons_zero, List.set_cons_succ]
    first
      | (apply goV_skip (by intro u; rfl))
      | (apply goV_val _ (by intro u; rfl); · (intro u w hSw hF; go_simp; try with_reducible rfl))
    try simp only [Act.put, List.setIfInBounds_toArray, List.set_cons_zero, List.set_cons_succ]
    first
      | (apply goV_skip (by intro u; rfl))
      | (apply goV_loadT (by intro u; rfl) _ rfl hq gR (by intro u; rfl))
    try simp only [Act.put, List.setIfInBounds_toArray, List.set_cons_zero, List.set_cons_succ]
    first
      | (apply goV_skip (by intro u; rfl))
      | (apply goV_loadT (by intro u; rfl) _ rfl hq gQ (by intro u; rfl))
    try simp only [Act.put, List.setIfInBounds_toArray, List.set_cons_zero, List.set_cons_succ]
    first
      | (apply goV_skip (by intro u; rfl))
      | (apply goV_neqTd (by intro u; rfl) _ _ rfl hq hq hne (by intro u; rfl) (by intro u; rfl))
    try simp only [Act.put, List.setIfInBounds_toArray, List.set_cons_zero, List.set_cons_succ]
    first
      | (apply goV_skip (by intro u; rfl))
      | (apply goV_val _ (by intro u; rfl); · (intro u w hSw hF; go_simp; try with_reducible rfl))
    try simp only [Act.put, List.setIfInBounds_toArray, List.set_cons_zero, List.set_cons_succ]
    first
      | (apply goV_skip (by intro u; rfl))
      | (apply goV_val _ (by intro u; rfl); · (intro u w hSw hF; go_simp; try with_reducible rfl))
    try simp only [Act.put, List.setIfInBounds_toArray, List.set_cons_zero, List.set_cons_succ]
    first
      | (apply goV_skip (by intro u; rfl))
      | (apply goV_loadT (by intro u; rfl) _ rfl hq gQ (by intro u; rfl))
    try simp only [Act.put, List.setIfInBounds_toArray, List.set_cons_zero, List.set_cons_succ]
    first
      | (apply goV_skip (by intro u; rfl))
      | (apply goV_call (by intro u; rfl) c1; · (intro u w hSw hF; go_simp; try with_reducible rfl))
    try simp only [Act.put, List.setIfInBounds_toArray, List.set_cons_zero, List.set_cons_succ]
    first
      | (apply goV_skip (by intro u; rfl))
      | (apply goV_val _ (by intro u; rfl); · (intro u w hSw hF; go_simp; try with_reducible rfl))
    try simp only [Act.put, List.setIfInBounds_toArray, List.set_cons_zero, List.set_cons_succ]
    first
      | (apply goV_skip (by intro u; rfl))
      | (apply goV_val _ (by intro u; rfl); · (intro u w hSw hF; go_simp; try with_reducible rfl))
    try simp only [Act.put, List.setIfInBounds_toArray, List.set_cons_zero, List.set_cons_succ]
    intro u w7 hx7 _
    have hT7 := hT6.ext hx7
    have hxx7 := hx6.trans hx7
    clear c1 gR gQ hne VQ hR6 hQ6 hT6 hx6 hx7
    have FT := F1.out w7 (henv.ext hxx7) (htabs.ext hxx7)
    go_wp2_with (first | refine wpList_load_T rfl _ rfl ht hT7 rfl ?_ | (go_at_call 17; refine FT.mono ?_; rintro e w8 ⟨rfl, hx8⟩; have K8 := PT.out w8 (henv.ext (hxx7.trans hx8))) | (go_at_call 20; refine K8.mono ?_; rintro e w9 ⟨rfl, hx9⟩; refine Hid.out ?_))
    refine Lib.hid ?_
    have hxx9 := (hxx7.trans hx8).trans hx9
    have hT9 := (hT7.ext hx8).ext hx9
    clear hxx7 hx8 hx9 hT7 FT K8 PT
    have hbf := Blk.new w9 (tc ztgt) 32
    go_upto_region 8 with (refine wpList_store_T rfl _ _ rfl okT_ztgt hr hbf rfl rfl ?_)
    change Code.wp _ _ _ _ ((w9.alloc (.cells (tc ztgt) 32)).setRow w9.heap.size (tc r))
    rw [World.setRow_alloc_new]
    have hRa := Blk.new w9 (tc r) 32
    have hxa := hxx9.alloc (.cells (tc r) 32)
    have hnx := (Ext.refl w9).alloc (.cells (tc r) 32)
    clear hbf
    generalize w9.alloc (.cells (tc r) 32) = wa at *
    generalize w9.heap.size = ba at *
    have hTa := hT9.ext hnx
    clear hnx hxx9 hT9
    have gR : ∀ w', Ext wa w' → TBlk w' ba r := fun w' h => hRa.ext h
    have gT : ∀ w', Ext wa w' → TBlk w' b t := fun w' h => hTa.ext h
    have c0 := fun w' (h : Ext wa w') => awake08 w' (henv.ext (hxa.trans h)) (htabs.ext (hxa.trans h))
    have c1 := fun w' (h : Ext wa w') => V2.out w'
    refine wp_region_rgs ?_
    first
      | (apply goV_skip (by intro u; rfl))
      | (apply goV_call (by intro u; rfl) c0; · (intro u w hSw hF; go_simp; try with_reducible rfl))
    try simp only [Act.put, List.setIfInBounds_toArray, List.set_cons_zero, List.set_cons_succ]
    first
      | (apply goV_skip (by intro u; rfl))
      | (apply goV_val _ (by intro u; rfl); · (intro u w hSw hF; go_simp; try with_reducible rfl))
    try simp only [Act.put, List.setIfInBounds_toArray, List.set_cons_zero, List.set_cons_succ]
    first
      | (apply goV_skip (by intro u; rfl))
      | (apply goV_val _ (by intro u; rfl); · (intro u w hSw hF; go_simp; try with_reducible rfl))
    try simp only [Act.put, List.setIfInBounds_toArray, List.set_cons_zero, List.set_cons_succ]
    first
      | (apply goV_skip (by intro u; rfl))
      | (apply goV_loadT (by intro u; rfl) _ rfl ht gT (by intro u; rfl))
    try simp only [Act.put, List.setIfInBounds_toArray, List.set_cons_zero, List.set_cons_succ]
    first
      | (apply goV_skip (by intro u; rfl))
      | (apply goV_call (by intro u; rfl) c1; · (intro u w hSw hF; go_simp; try with_reducible rfl))
    try simp only [Act.put, List.setIfInBounds_toArray, List.set_cons_zero, List.set_cons_succ]
    first
      | (apply goV_skip (by intro u; rfl))
      | (apply goV_val _ (by intro u; rfl); · (intro u w hSw hF; go_simp; try with_reducible rfl))
    try simp only [Act.put, List.setIfInBounds_toArray, List.set_cons_zero, List.set_cons_succ]
    first
      | (apply goV_skip (by intro u; rfl))
      | (apply goV_val _ (by intro u; rfl); · (intro u w hSw hF; go_simp; try with_reducible rfl))
    try simp only [Act.put, List.setIfInBounds_toArray, List.set_cons_zero, List.set_cons_succ]
    first
      | (apply goV_skip (by intro u; rfl))
      | (apply goV_val _ (by intro u; rfl); · (intro u w hSw hF; go_simp; try with_reducible rfl))
    try simp only [Act.put, List.setIfInBounds_toArray, List.set_cons_zero, List.set_cons_succ]
    first
      | (apply goV_skip (by intro u; rfl))
      | (apply goV_val _ (by intro u; rfl); · (intro u w hSw hF; go_simp; try with_reducible rfl))
    try simp only [Act.put, List.setIfInBounds_toArray, List.set_cons_zero, List.set_cons_succ]
    first
      | (apply goV_skip (by intro u; rfl))
      | (apply goV_val _ (by intro u; rfl); · (intro u w hSw hF; go_simp; try with_reducible rfl))
    try simp only [Act.put, List.setIfInBounds_toArray, List.set_cons_zero, List.set_cons_succ]
    first
      | (apply goV_skip (by intro u; rfl))
      | (apply goV_val _ (by intro u; rfl); · (intro u w hSw hF; go_simp; try with_reducible rfl))
    try simp only [Act.put, List.setIfInBounds_toArray, List.set_cons_zero, List.set_cons_succ]
    first
      | (apply goV_skip (by intro u; rfl))
      | (apply goV_loadT (by intro u; rfl) _ rfl hr gR (by intro u; rfl))
    try simp only [Act.put, List.setIfInBounds_toArray, List.set_cons_zero, List.set_cons_succ]
    first
      | (apply goV_skip (by intro u; rfl))
      | (apply goV_loadT (by intro u; rfl) _ rfl ht gT (by intro u; rfl))
    try simp only [Act.put, List.setIfInBounds_toArray, List.set_cons_zero, List.set_cons_succ]
    first
      | (apply goV_skip (by intro u; rfl))
      | (apply goV_eqTd (by intro u; rfl) _ _ rfl hr ht hE (by intro u; rfl) (by intro u; rfl))
    try simp only [Act.put, List.setIfInBounds_toArray, List.set_cons_zero, List.set_cons_succ]
    first
      | (apply goV_skip (by intro u; rfl))
      | (apply goV_val _ (by intro u; rfl); · (intro u w hSw hF; go_simp; try with_reducible rfl))
    try simp only [Act.put, List.setIfInBounds_toArray, List.set_cons_zero, List.set_cons_succ]
    first
      | (apply goV_skip (by intro u; rfl))
      | (apply goV_val _ (by intro u; rfl); · (intro u w hSw hF; go_simp; try with_reducible rfl))
    try simp only [Act.put, List.setIfInBounds_toArray, List.set_cons_zero, List.set_cons_succ]
    first
      | (apply goV_skip (by intro u; rfl))
      | (apply goV_val _ (by intro u; rfl); · (intro u w hSw hF; go_simp; try with_reducible rfl))
    try simp only [Act.put, List.setIfInBounds_toArray, List.set_cons_zero, List.set_cons_succ]
    intro u wb hxb _
    have hfin := hxa.trans hxb
    clear henv htabs
    go_wp2
    go_ret
    exact ⟨rfl, hfin⟩
end Go.Proofs.YtpdoddelnahlnaaGreatDoor
