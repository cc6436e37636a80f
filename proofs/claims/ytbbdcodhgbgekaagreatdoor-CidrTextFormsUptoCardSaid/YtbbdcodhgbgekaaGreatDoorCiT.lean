/-
  CidrTextForms.
-/
import Derived.Test.YtbbdcodhgbgekaaGreatDoorCiR
import Derived.Test.YtbbdcodhgbgekaaGreatDoorCiAw
set_option linter.unusedSimpArgs false
set_option linter.unusedVariables false
namespace Go.Proofs.YtbbdcodhgbgekaaGreatDoor
open Go.RowKit
theorem exec_neqPd {o : Oper} {f : Act} (x y : Operand) {t : TypeId} (ho : o.op = .binOp .neq 26 x y t) {p q : Pfx} (hp : okP p) (hq : okP q) (hx : f.eval x = .agg (pc p)) (hy : f.eval y = .agg (pc q)) (w : World) :
    (execOp f.eval o).run Tryz.prog w = .ok (.value (.bool (!decide (p = q)))) w := by
  unfold execOp
  rw [ho]
  have e := equal_Pd hp hq w
  have e1 : (eqGuard .neq 26 x y (.agg (pc p)) (.agg (pc q))).run Tryz.prog w = .ok () w := by
    simp [eqGuard, noGuard_P, Sem.run_bind]
  have e2 : (binOp .neq 26 (.agg (pc p)) (.agg (pc q))).run Tryz.prog w = .ok (.bool (!decide (p = q))) w := by
    simp only [binOp, Sem.run_bind, e, Result.andThen_ok, Sem.run_pure]
  simp only [hx, hy, Sem.run_bind, e1, e2, Result.andThen_ok, Sem.run_pure]
theorem goV_neqPd {ops : Array Oper} {Q : Exit → Act → World → Prop} {md : Region.Mode} {w0 : World} {o : Oper} {rest : List Oper} {i : Nat} {plan : List Yld} {A : (Nat → Value) → Act} (hw : ∀ u, Region.wanted o (yielded ops (A u).tmps) = true) (x y : Operand) {t : TypeId} (ho : o.op = .binOp .neq 26 x y t)
    {p q : Pfx} (hp : okP p) (hq : okP q) {r : Bool} (h : (!decide (p = q)) = r) (hx : ∀ u, (A u).eval x = .agg (pc p)) (hy : ∀ u, (A u).eval y = .agg (pc q))
    (k : goV Tryz.prog ops Q md w0 rest (i + 1) (plan ++ [.val (.bool r)]) (fun u => (A u).put o.dst (.bool r))) : goV Tryz.prog ops Q md w0 (o :: rest) i plan A :=
  goV_val _ hw (fun u w _ _ => by rw [← h]; exact exec_neqPd x y ho hp hq (hx u) (hy u) w) k
theorem okP_parseP (s : ByteArray) : okP (parseP s).1 := by
  have hA := okA_parse (headP s)
  have hbl := bitLen_pos (parseA (headP s)).1
  have hnb := numP_bd (tailP s) (hi := bitLen (parseA (headP s)).1) (by omega)
  unfold parseP
  split
  · exact ⟨hA, by unfold i64ok; simp only; omega⟩
  · exact okP_zpfx
theorem goW_loadPA {ops : Array Oper} {Q : Exit → Act → World → Prop} {md : Region.Mode} {w0 : World} {t : TypeId} {n : Nat} {C : List Value} {o : Oper} {rest : List Oper} {i : Nat} {plan : List Yld2} {A : (Nat → Value) → Act} (hw : ∀ u, Region.wanted o (yielded ops (A u).tmps) = true) (x : Operand) (ho : o.op = .load 24 x)
    {b : Nat} {p : Pfx} (hp : okP p) (hb : ∀ w, Ext w0 w → PBlk w b p) (hx : ∀ u, (A u).eval x = .pointer (some ⟨b, 0, none⟩))
    (k : goW Tryz.prog ops Q md (GrowTo w0.heap.size t n C) w0 rest (i + 1) (plan ++ [.val (.agg (ac p.1))]) (fun u => (A u).put o.dst (.agg (ac p.1)))) : goW Tryz.prog ops Q md (GrowTo w0.heap.size t n C) w0 (o :: rest) i plan A :=
  goW_val GrowTo.ok _ hw (fun u w hx' _ => by
    have e := load_PA hp (hb w hx')
    unfold execOp
    rw [ho]
    simp only [hx, Sem.run_bind, e, Result.andThen_ok, Sem.run_pure]) k
set_option maxRecDepth 8000 in
set_option maxHeartbeats 8000000 in
theorem CidrTextForms_walk0 (p : Pfx) (s : ByteArray) (n : Int) (hp : okP p) (hs : s.size < 1048576) (wn : (Lit.int .i64 n).wf = true) (w : World) (henv : Env w) (htabs : Tabs w) :
    Calls Tryz.prog 6 #[pv p, .string s, .int .i64 n] w fun e w' => e = .returned (.bool true) ∧ Ext w w' := by
  have GP := Lib.hid (fun w => gprefix_any p hp w)
  have FP1 := Lib.hid (fun w h => cformat_any p hp w h)
  have FP2 := Lib.hid (fun w => rformatP_any p hp w)
  have PS1 := Lib.hid (fun w h => cparse_any s w h (by omega))
  have PS2 := Lib.hid (fun w => rparseP_any s w (by omega))
  have hps := okP_parseP s
  generalize (parseP s).1 = r at *
  generalize (parseP s).2 = rok at *
  generalize txt (fmtP p) = t0 at *
  unfold pv
  go_enter Tryz.func6, Tryz.ntmps6
  go_upto_region 1 with fail
  have hx := (Ext.refl w).alloc (.cells (pc p) 26)
  have hP := Blk.new w (pc p) 26
  generalize w.alloc (.cells (pc p) 26) = w0 at *
  generalize w.heap.size = c at *
  go_wp2_with (first | refine wpList_load_P rfl _ rfl hp hP rfl ?_ | (go_at_call 7; refine (GP.out _).mono ?_; rintro e w1 ⟨q, hq, hqv, rfl, hx1⟩; refine Hid.out ?_))
  refine Lib.hid ?_
  have hP1 := hP.ext hx1
  have hxx1 := hx.trans hx1
  clear hx hx1 hP GP
  have hbf := Blk.new w1 (pc zpfx) 26
  go_upto_region 2 with (refine wpList_store_P rfl _ _ rfl okP_zpfx hq hbf rfl rfl ?_)
  change Code.wp _ _ _ _ ((w1.alloc (.cells (pc zpfx) 26)).setRow w1.heap.size (pc q))
  rw [World.setRow_alloc_new]
  have hQ2 := Blk.new w1 (pc q) 26
  have hx2 := hxx1.alloc (.cells (pc q) 26)
  have hnx := (Ext.refl w1).alloc (.cells (pc q) 26)
  clear hbf
  generalize w1.alloc (.cells (pc q) 26) = w2 at *
  generalize w1.heap.size = b1 at *
  have hP2 := hP1.ext hnx
  clear hnx hxx1 hP1
  have FQ1 := Lib.hid (fun w h => cformat_any q hq w h)
  have FQ2 := Lib.hid (fun w => rformatP_any q hq w)
  have hsz : (txt (fmtP q)).size ≤ 49 := by
    rw [txt_size]
    have := validP_bits hqv
    unfold fmtP
    rw [if_pos hqv, List.length_append, List.length_append]
    have l1 := fmtA_len hq.1
    have l2 := dd_len 2 q.2.toNat (by omega)
    simp; omega
  have PQ := Lib.hid (fun w h => cparse_any (txt (fmtP q)) w h (by omega))
  have hpf := parse_fmtP hq hqv
  rw [hpf] at PQ
  have FA := Lib.hid (fun w => rFormat_any q.1 hq.1 w)
  have hqb := validP_bits hqv
  have FD := Lib.hid (fun w => fdec_any q.2.toNat (by omega) w)
  rw [show ((q.2.toNat : Nat) : Int) = q.2 by omega] at FD
  have l1 : (txt (fmtA q.1)).size ≤ 45 := by rw [txt_size]; exact fmtA_len hq.1
  have l2 : (txt (Lib.decDigits q.2.toNat)).size ≤ 3 := by rw [txt_size]; exact dd_len 2 _ (by omega)
  have NO : (parseP (txt (fmtA q.1) ++ ⟨#[47, 48]⟩ ++ txt (Lib.decDigits q.2.toNat))).2 = false := by
    have e : txt (fmtA q.1) ++ ⟨#[47, 48]⟩ ++ txt (Lib.decDigits q.2.toNat) = txt (fmtA q.1 ++ 47 :: 48 :: Lib.decDigits q.2.toNat) := by
      rw [show fmtA q.1 ++ 47 :: 48 :: Lib.decDigits q.2.toNat = fmtA q.1 ++ [47, 48] ++ Lib.decDigits q.2.toNat by simp, txt_append, txt_append]; rfl
    rw [e]; exact parse_nought _
  have hm := modI_bd n (n := 140) (by omega) (by omega)
  have MO := Lib.hid (fun w => mod_any n 140 w (u64_ne (by omega) (by omega)))
  have FM := Lib.hid (fun w => fdec_any (modI n 140).toNat (by omega) w)
  rw [show (((modI n 140).toNat : Nat) : Int) = modI n 140 by omega] at FM
  have l3 : (txt (Lib.decDigits (modI n 140).toNat)).size ≤ 3 := by rw [txt_size]; exact dd_len 2 _ (by omega)
  generalize txt (Lib.decDigits (modI n 140).toNat) = tm at *
  generalize modI n 140 = m at *
  generalize txt (Lib.decDigits q.2.toNat) = td at *
  generalize txt (fmtA q.1) = ta at *
  generalize txt (fmtP q) = tq at *
  clear hpf hqb hm wn hqv
  have gP : ∀ w', Ext w2 w' → PBlk w' c p := fun w' h => hP2.ext h
  have gQ : ∀ w', Ext w2 w' → PBlk w' b1 q := fun w' h => hQ2.ext h
  have c1 := fun w' (h : Ext w2 w') => FP1.out w' (htabs.ext (hx2.trans h))
  have c2 := fun w' (h : Ext w2 w') => FP2.out w'
  have c3 := fun w' (h : Ext w2 w') => FQ1.out w' (htabs.ext (hx2.trans h))
  have c4 := fun w' (h : Ext w2 w') => FQ2.out w'
  refine wp_region_rg w2 (by kernel_rfl) (by kernel_rfl) (Ext.refl _) ?_
  first
    | (apply goV_skip (by intro u; rfl))
    | (apply goV_loadP (by intro u; rfl) _ rfl hp gP (by intro u; rfl))
  try simp only [Act.put, List.setIfInBounds_toArray, List.set_cons_zero, List.set_cons_succ]
  first
    | (apply goV_skip (by intro u; rfl))
    | (apply goV_call (by intro u; rfl) c1; · (intro u w hSw hF; go_simp; try with_reducible rfl))
  try simp only [Act.put, List.setIfInBounds_toArray, List.set_cons_zero, List.set_cons_succ]
  first
    | (apply goV_skip (by intro u; rfl))
    | (apply goV_loadP (by intro u; rfl) _ rfl hp gP (by intro u; rfl))
  try simp only [Act.put, List.setIfInBounds_toArray, List.set_cons_zero, List.set_cons_succ]
  first
    | (apply goV_skip (by intro u; rfl))
    | (apply goV_call (by intro u; rfl) c2; · (intro u w hSw hF; go_simp; try with_reducible rfl))
  try simp only [Act.put, List.setIfInBounds_toArray, List.set_cons_zero, List.set_cons_succ]
  first
    | (apply goV_skip (by intro u; rfl))
    | (apply goV_val _ (by intro u; rfl); · (intro u w hSw hF; go_simp; try with_reducible rfl))
  try simp only [Act.put, List.setIfInBounds_toArray, List.set_cons_zero, List.set_cons_succ]
  first
    | (apply goV_skip (by intro u; rfl))
    | (apply goV_val _ (by intro u; rfl); · (intro u w hSw hF; go_simp; try with_reducible rfl))
  try simp only [Act.put, List.setIfInBounds_toArray, List.set_cons_zero, List.set_cons_succ]
  first
    | (apply goV_skip (by intro u; rfl))
    | (apply goV_loadP (by intro u; rfl) _ rfl hq gQ (by intro u; rfl))
  try simp only [Act.put, List.setIfInBounds_toArray, List.set_cons_zero, List.set_cons_succ]
  first
    | (apply goV_skip (by intro u; rfl))
    | (apply goV_call (by intro u; rfl) c3; · (intro u w hSw hF; go_simp; try with_reducible rfl))
  try simp only [Act.put, List.setIfInBounds_toArray, List.set_cons_zero, List.set_cons_succ]
  first
    | (apply goV_skip (by intro u; rfl))
    | (apply goV_loadP (by intro u; rfl) _ rfl hq gQ (by intro u; rfl))
  try simp only [Act.put, List.setIfInBounds_toArray, List.set_cons_zero, List.set_cons_succ]
  first
    | (apply goV_skip (by intro u; rfl))
    | (apply goV_call (by intro u; rfl) c4; · (intro u w hSw hF; go_simp; try with_reducible rfl))
  try simp only [Act.put, List.setIfInBounds_toArray, List.set_cons_zero, List.set_cons_succ]
  first
    | (apply goV_skip (by intro u; rfl))
    | (apply goV_val _ (by intro u; rfl); · (intro u w hSw hF; go_simp; try with_reducible rfl))
  try simp only [Act.put, List.setIfInBounds_toArray, List.set_cons_zero, List.set_cons_succ]
  first
    | (apply goV_skip (by intro u; rfl))
    | (apply goV_val _ (by intro u; rfl); · (intro u w hSw hF; go_simp; try with_reducible rfl))
  try simp only [Act.put, List.setIfInBounds_toArray, List.set_cons_zero, List.set_cons_succ]
  intro u w3 hx3 _
  have hQ3 := hQ2.ext hx3
  have hxx3 := hx2.trans hx3
  clear c1 c2 c3 c4 gP gQ hP2 hQ2 hx2 hx3 FP1 FP2 FQ2
  have K1 := FQ1.out w3 (htabs.ext hxx3)
  go_wp2_with (first | refine wpList_load_P rfl _ rfl hq hQ3 rfl ?_ | (go_at_call 23; refine K1.mono ?_; rintro e w4 ⟨rfl, hx4⟩; have K2 := PQ.out w4 (henv.ext (hxx3.trans hx4))) | (go_at_call 25; refine K2.mono ?_; rintro e w5 ⟨rfl, hx5⟩; refine Hid.out ?_))
  refine Lib.hid ?_
  have hxx5 := (hxx3.trans hx4).trans hx5
  have hQ5 := (hQ3.ext hx4).ext hx5
  clear hQ3 hx4 hx5 hxx3 K1 FQ1 PQ K2
  have hbf := Blk.new w5 (pc zpfx) 26
  go_upto_region 5 with (refine wpList_store_P rfl _ _ rfl okP_zpfx hq hbf rfl rfl ?_)
  change Code.wp _ _ _ _ ((w5.alloc (.cells (pc zpfx) 26)).setRow w5.heap.size (pc q))
  rw [World.setRow_alloc_new]
  have hR6 := Blk.new w5 (pc q) 26
  have hx6 := hxx5.alloc (.cells (pc q) 26)
  have hnx := (Ext.refl w5).alloc (.cells (pc q) 26)
  clear hbf
  generalize w5.alloc (.cells (pc q) 26) = w6 at *
  generalize w5.heap.size = b2 at *
  have hQ6 := hQ5.ext hnx
  clear hnx hxx5 hQ5
  have gR : ∀ w', Ext w6 w' → PBlk w' b2 q := fun w' h => hR6.ext h
  have gQ : ∀ w', Ext w6 w' → PBlk w' b1 q := fun w' h => hQ6.ext h
  have hne : (!decide (q = q)) = false := by simp
  refine wp_region_rgs ?_
  first
    | (apply goV_skip (by intro u; rfl))
    | (apply goV_val _ (by intro u; rfl); · (intro u w hSw hF; go_simp; try with_reducible rfl))
  try simp only [Act.put, List.setIfInBounds_toArray, List.set_cons_zero, List.set_cons_succ]
  first
    | (apply goV_skip (by intro u; rfl))
    | (apply goV_val _ (by intro u; rfl); · (intro u w hSw hF; go_simp; try with_reducible rfl))
  try simp only [Act.put, List.setIfInBounds_toArray, List.set_cons_zero, List.set_cons_succ]
  first
    | (apply goV_skip (by intro u; rfl))
    | (apply goV_val _ (by intro u; rfl); · (intro u w hSw hF; go_simp; try with_reducible rfl))
  try simp only [Act.put, List.setIfInBounds_toArray, List.set_cons_zero, List.set_cons_succ]
  first
    | (apply goV_skip (by intro u; rfl))
    | (apply goV_loadP (by intro u; rfl) _ rfl hq gR (by intro u; rfl))
  try simp only [Act.put, List.setIfInBounds_toArray, List.set_cons_zero, List.set_cons_succ]
  first
    | (apply goV_skip (by intro u; rfl))
    | (apply goV_loadP (by intro u; rfl) _ rfl hq gQ (by intro u; rfl))
  try simp only [Act.put, List.setIfInBounds_toArray, List.set_cons_zero, List.set_cons_succ]
  first
    | (apply goV_skip (by intro u; rfl))
    | (apply goV_neqPd (by intro u; rfl) _ _ rfl hq hq hne (by intro u; rfl) (by intro u; rfl))
  try simp only [Act.put, List.setIfInBounds_toArray, List.set_cons_zero, List.set_cons_succ]
  first
    | (apply goV_skip (by intro u; rfl))
    | (apply goV_val _ (by intro u; rfl); · (intro u w hSw hF; go_simp; try with_reducible rfl))
  try simp only [Act.put, List.setIfInBounds_toArray, List.set_cons_zero, List.set_cons_succ]
  intro u w7 hx7 _
  have hQ7 := hQ6.ext hx7
  have hxx7 := hx6.trans hx7
  clear gR gQ hne hQ6 hR6 hx6 hx7
  have K1 := PS1.out w7 (henv.ext hxx7)
  go_wp2_with (first | (go_at_call 25; refine (K1).mono ?_; rintro e w8 ⟨rfl, hxn⟩; refine Hid.out ?_))
  refine Lib.hid ?_
  have hxy := (hxx7).trans hxn
  have hbf := Blk.new w8 (pc zpfx) 26
  go_upto_region 8 with (refine wpList_store_P rfl _ _ rfl okP_zpfx hps hbf rfl rfl ?_)
  change Code.wp _ _ _ _ ((w8.alloc (.cells (pc zpfx) 26)).setRow w8.heap.size (pc r))
  rw [World.setRow_alloc_new]
  have hS9 := Blk.new w8 (pc r) 26
  have hx9 := hxy.alloc (.cells (pc r) 26)
  have hnx := (Ext.refl w8).alloc (.cells (pc r) 26)
  clear hbf
  generalize w8.alloc (.cells (pc r) 26) = w9 at *
  generalize w8.heap.size = b3 at *
  have hxm := hxn.trans hnx
  clear hxn hnx hxy
  have hQ9 := hQ7.ext hxm
  clear hQ7 hxx7 hxm K1 PS1
  have K1 := PS2.out w9
  go_wp2_with (first | (go_at_call 26; refine (K1).mono ?_; rintro e wa ⟨rfl, hxn⟩; refine Hid.out ?_))
  refine Lib.hid ?_
  have hxy := (hx9).trans hxn
  have hbf := Blk.new wa (pc zpfx) 26
  go_upto_region 9 with (refine wpList_store_P rfl _ _ rfl okP_zpfx hps hbf rfl rfl ?_)
  change Code.wp _ _ _ _ ((wa.alloc (.cells (pc zpfx) 26)).setRow wa.heap.size (pc r))
  rw [World.setRow_alloc_new]
  have hTb := Blk.new wa (pc r) 26
  have hxb := hxy.alloc (.cells (pc r) 26)
  have hnx := (Ext.refl wa).alloc (.cells (pc r) 26)
  clear hbf
  generalize wa.alloc (.cells (pc r) 26) = wb at *
  generalize wa.heap.size = b4 at *
  have hxm := hxn.trans hnx
  clear hxn hnx hxy
  have hQb := hQ9.ext hxm
  have hSb := hS9.ext hxm
  clear hQ9 hS9 hx9 hxm K1 PS2
  have gQ : ∀ w', Ext wb w' → PBlk w' b1 q := fun w' h => hQb.ext h
  have c1 := fun w' (h : Ext wb w') => FA.out w'
  have c2 := fun w' (h : Ext wb w') => MO.out w'
  have c3 := fun w' (h : Ext wb w') => FM.out w'
  have y1 : ¬ 9223372036854775807 < ta.size + 1 := by omega
  have y2 : ¬ 9223372036854775807 < ta.size + 1 + tm.size := by omega
  have y3 : ¬ 9223372036854775807 < ta.size + 2 := by omega
  have y4 : ¬ 9223372036854775807 < ta.size + 2 + td.size := by omega
  have hU : (ta ++ (⟨#[47]⟩ : ByteArray) ++ tm).size < 4294967281 := by rw [ByteArray.size_append, ByteArray.size_append]; show ta.size + 1 + tm.size < _; omega
  have hV : (ta ++ (⟨#[47, 48]⟩ : ByteArray) ++ td).size < 4294967281 := by rw [ByteArray.size_append, ByteArray.size_append]; show ta.size + 2 + td.size < _; omega
  have PU1 := Lib.hid (fun w h => cparse_any _ w h hU)
  have PU2 := Lib.hid (fun w => rparseP_any _ w hU)
  have hpu := okP_parseP (ta ++ (⟨#[47]⟩ : ByteArray) ++ tm)
  have PV := Lib.hid (fun w h => cparse_any _ w h hV)
  have hpv := okP_parseP (ta ++ (⟨#[47, 48]⟩ : ByteArray) ++ td)
  rw [NO] at PV
  generalize (parseP (ta ++ (⟨#[47]⟩ : ByteArray) ++ tm)).1 = ur at *
  generalize (parseP (ta ++ (⟨#[47]⟩ : ByteArray) ++ tm)).2 = uok at *
  generalize (parseP (ta ++ (⟨#[47, 48]⟩ : ByteArray) ++ td)).1 = vr at *
  clear hU hV NO l1 l2 l3 hsz hs
  refine wp_region_rgs ?_
  first
    | (apply goV_skip (by intro u; rfl))
    | (apply goV_val _ (by intro u; rfl); · (intro u w hSw hF; go_simp; try with_reducible rfl))
  try simp only [Act.put, List.setIfInBounds_toArray, List.set_cons_zero, List.set_cons_succ]
  first
    | (apply goV_skip (by intro u; rfl))
    | (apply goV_loadPA (by intro u; rfl) _ rfl hq gQ (by intro u; rfl))
  try simp only [Act.put, List.setIfInBounds_toArray, List.set_cons_zero, List.set_cons_succ]
  first
    | (apply goV_skip (by intro u; rfl))
    | (apply goV_call (by intro u; rfl) c1; · (intro u w hSw hF; go_simp; try with_reducible rfl))
  try simp only [Act.put, List.setIfInBounds_toArray, List.set_cons_zero, List.set_cons_succ]
  first
    | (apply goV_skip (by intro u; rfl))
    | (apply goV_val _ (by intro u; rfl); · (intro u w hSw hF; go_simp; try with_reducible rfl))
  try simp only [Act.put, List.setIfInBounds_toArray, List.set_cons_zero, List.set_cons_succ]
  first
    | (apply goV_skip (by intro u; rfl))
    | (apply goV_val _ (by intro u; rfl); · (intro u w hSw hF; go_simp; try with_reducible rfl))
  try simp only [Act.put, List.setIfInBounds_toArray, List.set_cons_zero, List.set_cons_succ]
  first
    | (apply goV_skip (by intro u; rfl))
    | (apply goV_call (by intro u; rfl) c2; · (intro u w hSw hF; go_simp; try with_reducible rfl))
  try simp only [Act.put, List.setIfInBounds_toArray, List.set_cons_zero, List.set_cons_succ]
  first
    | (apply goV_skip (by intro u; rfl))
    | (apply goV_call (by intro u; rfl) c3; · (intro u w hSw hF; go_simp; try with_reducible rfl))
  try simp only [Act.put, List.setIfInBounds_toArray, List.set_cons_zero, List.set_cons_succ]
  first
    | (apply goV_skip (by intro u; rfl))
    | (apply goV_val _ (by intro u; rfl); · (intro u w hSw hF; go_simp; try with_reducible rfl))
  try simp only [Act.put, List.setIfInBounds_toArray, List.set_cons_zero, List.set_cons_succ]
  first
    | (apply goV_skip (by intro u; rfl))
    | (apply goV_val _ (by intro u; rfl); · (intro u w hSw hF; go_simp; try with_reducible rfl))
  try simp only [Act.put, List.setIfInBounds_toArray, List.set_cons_zero, List.set_cons_succ]
  intro u wc hxc _
  have hQc := hQb.ext hxc
  have hSc := hSb.ext hxc
  have hTc := hTb.ext hxc
  have hxxc := hxb.trans hxc
  clear gQ c1 c2 c3 hQb hSb hTb hxb hxc y1 y2 MO FM
  have K1 := PU1.out wc (henv.ext hxxc)
  go_wp2_with (first | (go_at_call 25; refine (K1).mono ?_; rintro e wd ⟨rfl, hxn⟩; refine Hid.out ?_))
  refine Lib.hid ?_
  have hxy := (hxxc).trans hxn
  have hbf := Blk.new wd (pc zpfx) 26
  go_upto_region 11 with (refine wpList_store_P rfl _ _ rfl okP_zpfx hpu hbf rfl rfl ?_)
  change Code.wp _ _ _ _ ((wd.alloc (.cells (pc zpfx) 26)).setRow wd.heap.size (pc ur))
  rw [World.setRow_alloc_new]
  have hUe := Blk.new wd (pc ur) 26
  have hxe := hxy.alloc (.cells (pc ur) 26)
  have hnx := (Ext.refl wd).alloc (.cells (pc ur) 26)
  clear hbf
  generalize wd.alloc (.cells (pc ur) 26) = we at *
  generalize wd.heap.size = b5 at *
  have hxm := hxn.trans hnx
  clear hxn hnx hxy
  have hQe := hQc.ext hxm
  have hSe := hSc.ext hxm
  have hTe := hTc.ext hxm
  clear hQc hSc hTc hxxc hxm K1 PU1
  have K1 := PU2.out we
  go_wp2_with (first | (go_at_call 26; refine (K1).mono ?_; rintro e wf ⟨rfl, hxn⟩; refine Hid.out ?_))
  refine Lib.hid ?_
  have hxy := (hxe).trans hxn
  have hbf := Blk.new wf (pc zpfx) 26
  go_upto_region 12 with (refine wpList_store_P rfl _ _ rfl okP_zpfx hpu hbf rfl rfl ?_)
  change Code.wp _ _ _ _ ((wf.alloc (.cells (pc zpfx) 26)).setRow wf.heap.size (pc ur))
  rw [World.setRow_alloc_new]
  have hVg := Blk.new wf (pc ur) 26
  have hxg := hxy.alloc (.cells (pc ur) 26)
  have hnx := (Ext.refl wf).alloc (.cells (pc ur) 26)
  clear hbf
  generalize wf.alloc (.cells (pc ur) 26) = wg at *
  generalize wf.heap.size = b6 at *
  have hxm := hxn.trans hnx
  clear hxn hnx hxy
  have hQg := hQe.ext hxm
  have hSg := hSe.ext hxm
  have hTg := hTe.ext hxm
  have hUg := hUe.ext hxm
  clear hQe hSe hTe hUe hxe hxm K1 PU2
  have gQ : ∀ w', Ext wg w' → PBlk w' b1 q := fun w' h => hQg.ext h
  have F := fun (w' : World) (h : Ext wg w') => PBlk.bits hq (hQg.ext h)
  have c1 := fun w' (h : Ext wg w') => FA.out w'
  have c3 := fun w' (h : Ext wg w') => FD.out w'
  have c4 := fun w' (h : Ext wg w') => PV.out w' (henv.ext (hxg.trans h))
  generalize q.2 = qn at *
  refine wp_region_rw (GrowTo wg.heap.size 26 18 (pc vr).toList) wg GrowTo.ok (by kernel_rfl) (by kernel_rfl) (Ext.refl _) ?_
  first
    | (apply goW_skip (by intro u; rfl))
    | (apply goW_val GrowTo.ok _ (by intro u; rfl); · (intro u w hSw hF; go_simp; try with_reducible rfl))
  try simp only [Act.put, List.setIfInBounds_toArray, List.set_cons_zero, List.set_cons_succ]
  first
    | (apply goW_skip (by intro u; rfl))
    | (apply goW_loadPA (by intro u; rfl) _ rfl hq gQ (by intro u; rfl))
  try simp only [Act.put, List.setIfInBounds_toArray, List.set_cons_zero, List.set_cons_succ]
  first
    | (apply goW_skip (by intro u; rfl))
    | (apply goW_call GrowTo.ok (by intro u; rfl) c1; · (intro u w hSw hF; go_simp; try with_reducible rfl))
  try simp only [Act.put, List.setIfInBounds_toArray, List.set_cons_zero, List.set_cons_succ]
  first
    | (apply goW_skip (by intro u; rfl))
    | (apply goW_val GrowTo.ok _ (by intro u; rfl); · (intro u w hSw hF; go_simp; try with_reducible rfl))
  try simp only [Act.put, List.setIfInBounds_toArray, List.set_cons_zero, List.set_cons_succ]
  first
    | (apply goW_skip (by intro u; rfl))
    | (apply goW_val GrowTo.ok _ (by intro u; rfl); · (intro u w hSw hF; go_simp; try with_reducible rfl))
  try simp only [Act.put, List.setIfInBounds_toArray, List.set_cons_zero, List.set_cons_succ]
  first
    | (apply goW_skip (by intro u; rfl))
    | (apply goW_val GrowTo.ok (.int .i64 qn) (by intro u; rfl); · (intro u w hSw hF; have c0 := F w hSw; go_simp))
  try simp only [Act.put, List.setIfInBounds_toArray, List.set_cons_zero, List.set_cons_succ]
  first
    | (apply goW_skip (by intro u; rfl))
    | (apply goW_call GrowTo.ok (by intro u; rfl) c3; · (intro u w hSw hF; go_simp; try with_reducible rfl))
  try simp only [Act.put, List.setIfInBounds_toArray, List.set_cons_zero, List.set_cons_succ]
  first
    | (apply goW_skip (by intro u; rfl))
    | (apply goW_val GrowTo.ok _ (by intro u; rfl); · (intro u w hSw hF; go_simp; try with_reducible rfl))
  try simp only [Act.put, List.setIfInBounds_toArray, List.set_cons_zero, List.set_cons_succ]
  first
    | (apply goW_skip (by intro u; rfl))
    | (apply goW_call GrowTo.ok (by intro u; rfl) c4; · (intro u w hSw hF; go_simp; try with_reducible rfl))
  try simp only [Act.put, List.setIfInBounds_toArray, List.set_cons_zero, List.set_cons_succ]
  first
    | (apply goW_skip (by intro u; rfl))
    | (apply goW_val GrowTo.ok _ (by intro u; rfl); · (intro u w hSw hF; go_simp; try with_reducible rfl))
  try simp only [Act.put, List.setIfInBounds_toArray, List.set_cons_zero, List.set_cons_succ]
  first
    | (apply goW_skip (by intro u; rfl))
    | (apply goW_val GrowTo.ok _ (by intro u; rfl); · (intro u w hSw hF; go_simp; try with_reducible rfl))
  try simp only [Act.put, List.setIfInBounds_toArray, List.set_cons_zero, List.set_cons_succ]
  first
    | (apply goW_skip (by intro u; rfl))
    | (apply goW_val GrowTo.ok _ (by intro u; rfl); · (intro u w hSw hF; go_simp; try with_reducible rfl))
  try simp only [Act.put, List.setIfInBounds_toArray, List.set_cons_zero, List.set_cons_succ]
  apply goW_rel (VNew wg.heap.size 26 18) (VNew.ok (by rw [Array.length_toList, pc_size hpv])) (by intro u; rfl)
  · intro u w hSw hF
    go_simp
    exact ⟨GrowTo.ok.ofExt _ _ hSw ((Ext.refl _).alloc _), w.heap.size, rfl, hSw.size, _, rfl, Blk.new _ _ _⟩
  try simp only [Act.put, List.setIfInBounds_toArray, List.set_cons_zero, List.set_cons_succ]
  apply goW_storeT (n := 18) 12 _ _ rfl (pc_size hpv) (by rw [info_P, pc_size hpv]) (pc_one vr) (by decide) rfl (by intro u; rfl) (by intro u; rfl) (by intro u; rfl)
  try simp only [Act.put, List.setIfInBounds_toArray, List.set_cons_zero, List.set_cons_succ]
  first
    | (apply goW_skip (by intro u; rfl))
    | (apply goW_val GrowTo.ok _ (by intro u; rfl); · (intro u w hSw hF; go_simp; try with_reducible rfl))
  try simp only [Act.put, List.setIfInBounds_toArray, List.set_cons_zero, List.set_cons_succ]
  intro u wi hx3 hh
  obtain ⟨b7, hu, hb7, -⟩ := holdsAt2_get (j := 12) hh (by simp) rfl
  simp only [Nat.zero_add, Nat.reduceAdd, hu]
  clear hh hb7
  have hSi := hSg.ext hx3
  have hTi := hTg.ext hx3
  have hUi := hUg.ext hx3
  have hVi := hVg.ext hx3
  have hxxi := hxg.trans hx3
  clear hx3 hQg hSg hTg hUg hVg hxg gQ F c1 c3 c4 PV FA FD y3 y4
  go_upto_region 13 with fail
  have gS : ∀ w', Ext wi w' → PBlk w' b3 r := fun w' h => hSi.ext h
  have gT : ∀ w', Ext wi w' → PBlk w' b4 r := fun w' h => hTi.ext h
  have gU : ∀ w', Ext wi w' → PBlk w' b5 ur := fun w' h => hUi.ext h
  have gV : ∀ w', Ext wi w' → PBlk w' b6 ur := fun w' h => hVi.ext h
  have c0 := fun w' (h : Ext wi w') => awake_any w' (henv.ext (hxxi.trans h)) (htabs.ext (hxxi.trans h))
  have hE1 : decide (r = r) = true := by simp
  have hE2 : decide (ur = ur) = true := by simp
  refine wp_region_rgs ?_
  first
    | (apply goV_skip (by intro u; rfl))
    | (apply goV_call (by intro u; rfl) c0; · (intro u w hSw hF; go_simp; try with_reducible rfl))
  try simp only [Act.put, List.setIfInBounds_toArray, List.set_cons_zero, List.set_cons_succ]
  first
    | (apply goV_skip (by intro u; rfl))
    | (apply goV_val _ (by intro u; rfl); · (intro u w hSw hF; go_simp; try with_reducible rfl))
  try simp only [Act.put, List.setIfInBounds_toArray, List.set_cons_zero, List.set_cons_succ]
  first
    | (apply goV_skip (by intro u; rfl))
    | (apply goV_loadP (by intro u; rfl) _ rfl hps gS (by intro u; rfl))
  try simp only [Act.put, List.setIfInBounds_toArray, List.set_cons_zero, List.set_cons_succ]
  first
    | (apply goV_skip (by intro u; rfl))
    | (apply goV_loadP (by intro u; rfl) _ rfl hps gT (by intro u; rfl))
  try simp only [Act.put, List.setIfInBounds_toArray, List.set_cons_zero, List.set_cons_succ]
  first
    | (apply goV_skip (by intro u; rfl))
    | (apply goV_eqPd (by intro u; rfl) _ _ rfl hps hps hE1 (by intro u; rfl) (by intro u; rfl))
  try simp only [Act.put, List.setIfInBounds_toArray, List.set_cons_zero, List.set_cons_succ]
  first
    | (apply goV_skip (by intro u; rfl))
    | (apply goV_val _ (by intro u; rfl); · (intro u w hSw hF; go_simp; try with_reducible rfl))
  try simp only [Act.put, List.setIfInBounds_toArray, List.set_cons_zero, List.set_cons_succ]
  first
    | (apply goV_skip (by intro u; rfl))
    | (apply goV_val _ (by intro u; rfl); · (intro u w hSw hF; go_simp; try with_reducible rfl))
  try simp only [Act.put, List.setIfInBounds_toArray, List.set_cons_zero, List.set_cons_succ]
  first
    | (apply goV_skip (by intro u; rfl))
    | (apply goV_val _ (by intro u; rfl); · (intro u w hSw hF; go_simp; try with_reducible rfl))
  try simp only [Act.put, List.setIfInBounds_toArray, List.set_cons_zero, List.set_cons_succ]
  first
    | (apply goV_skip (by intro u; rfl))
    | (apply goV_val _ (by intro u; rfl); · (intro u w hSw hF; go_simp; try with_reducible rfl))
  try simp only [Act.put, List.setIfInBounds_toArray, List.set_cons_zero, List.set_cons_succ]
  first
    | (apply goV_skip (by intro u; rfl))
    | (apply goV_val _ (by intro u; rfl); · (intro u w hSw hF; go_simp; try with_reducible rfl))
  try simp only [Act.put, List.setIfInBounds_toArray, List.set_cons_zero, List.set_cons_succ]
  first
    | (apply goV_skip (by intro u; rfl))
    | (apply goV_val _ (by intro u; rfl); · (intro u w hSw hF; go_simp; try with_reducible rfl))
  try simp only [Act.put, List.setIfInBounds_toArray, List.set_cons_zero, List.set_cons_succ]
  first
    | (apply goV_skip (by intro u; rfl))
    | (apply goV_val _ (by intro u; rfl); · (intro u w hSw hF; go_simp; try with_reducible rfl))
  try simp only [Act.put, List.setIfInBounds_toArray, List.set_cons_zero, List.set_cons_succ]
  first
    | (apply goV_skip (by intro u; rfl))
    | (apply goV_loadP (by intro u; rfl) _ rfl hpu gU (by intro u; rfl))
  try simp only [Act.put, List.setIfInBounds_toArray, List.set_cons_zero, List.set_cons_succ]
  first
    | (apply goV_skip (by intro u; rfl))
    | (apply goV_loadP (by intro u; rfl) _ rfl hpu gV (by intro u; rfl))
  try simp only [Act.put, List.setIfInBounds_toArray, List.set_cons_zero, List.set_cons_succ]
  first
    | (apply goV_skip (by intro u; rfl))
    | (apply goV_eqPd (by intro u; rfl) _ _ rfl hpu hpu hE2 (by intro u; rfl) (by intro u; rfl))
  try simp only [Act.put, List.setIfInBounds_toArray, List.set_cons_zero, List.set_cons_succ]
  first
    | (apply goV_skip (by intro u; rfl))
    | (apply goV_val _ (by intro u; rfl); · (intro u w hSw hF; go_simp; try with_reducible rfl))
  try simp only [Act.put, List.setIfInBounds_toArray, List.set_cons_zero, List.set_cons_succ]
  first
    | (apply goV_skip (by intro u; rfl))
    | (apply goV_val _ (by intro u; rfl); · (intro u w hSw hF; go_simp; try with_reducible rfl))
  try simp only [Act.put, List.setIfInBounds_toArray, List.set_cons_zero, List.set_cons_succ]
  first
    | (apply goV_skip (by intro u; rfl))
    | (apply goV_val _ (by intro u; rfl); · (intro u w hSw hF; go_simp; try with_reducible rfl))
  try simp only [Act.put, List.setIfInBounds_toArray, List.set_cons_zero, List.set_cons_succ]
  first
    | (apply goV_skip (by intro u; rfl))
    | (apply goV_val _ (by intro u; rfl); · (intro u w hSw hF; go_simp; try with_reducible rfl))
  try simp only [Act.put, List.setIfInBounds_toArray, List.set_cons_zero, List.set_cons_succ]
  first
    | (apply goV_skip (by intro u; rfl))
    | (apply goV_val _ (by intro u; rfl); · (intro u w hSw hF; go_simp; try with_reducible rfl))
  try simp only [Act.put, List.setIfInBounds_toArray, List.set_cons_zero, List.set_cons_succ]
  first
    | (apply goV_skip (by intro u; rfl))
    | (apply goV_val _ (by intro u; rfl); · (intro u w hSw hF; go_simp; try with_reducible rfl))
  try simp only [Act.put, List.setIfInBounds_toArray, List.set_cons_zero, List.set_cons_succ]
  first
    | (apply goV_skip (by intro u; rfl))
    | (apply goV_val _ (by intro u; rfl); · (intro u w hSw hF; go_simp; try with_reducible rfl))
  try simp only [Act.put, List.setIfInBounds_toArray, List.set_cons_zero, List.set_cons_succ]
  first
    | (apply goV_skip (by intro u; rfl))
    | (apply goV_val _ (by intro u; rfl); · (intro u w hSw hF; go_simp; try with_reducible rfl))
  try simp only [Act.put, List.setIfInBounds_toArray, List.set_cons_zero, List.set_cons_succ]
  first
    | (apply goV_skip (by intro u; rfl))
    | (apply goV_val _ (by intro u; rfl); · (intro u w hSw hF; go_simp; try with_reducible rfl))
  try simp only [Act.put, List.setIfInBounds_toArray, List.set_cons_zero, List.set_cons_succ]
  first
    | (apply goV_skip (by intro u; rfl))
    | (apply goV_val _ (by intro u; rfl); · (intro u w hSw hF; go_simp; try with_reducible rfl))
  try simp only [Act.put, List.setIfInBounds_toArray, List.set_cons_zero, List.set_cons_succ]
  first
    | (apply goV_skip (by intro u; rfl))
    | (apply goV_val _ (by intro u; rfl); · (intro u w hSw hF; go_simp; try with_reducible rfl))
  try simp only [Act.put, List.setIfInBounds_toArray, List.set_cons_zero, List.set_cons_succ]
  intro u wj hxj _
  have hfin := hxxi.trans hxj
  clear henv htabs
  go_wp2
  go_ret
  exact ⟨rfl, hfin⟩
theorem CidrTextForms_walk (p : Pfx) (s : ByteArray) (n : Int) (hp : okP p) (hs0 : s.size ≤ 140737488351232) (wn : (Lit.int .i64 n).wf = true) (w : World) (henv : Env w) (htabs : Tabs w) (hs : s.size < 1048576) :
    Calls Tryz.prog 6 #[pv p, .string s, .int .i64 n] w fun e w' => e = .returned (.bool true) ∧ Ext w w' := CidrTextForms_walk0 p s n hp hs wn w henv htabs
end Go.Proofs.YtbbdcodhgbgekaaGreatDoor
