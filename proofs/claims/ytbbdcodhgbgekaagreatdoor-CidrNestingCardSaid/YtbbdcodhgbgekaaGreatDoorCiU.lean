/-
  CidrPrefixIsUnique.
-/
import Derived.Test.YtbbdcodhgbgekaaGreatDoorCiAw
set_option linter.unusedSimpArgs false
set_option linter.unusedVariables false
namespace Go.Proofs.YtbbdcodhgbgekaaGreatDoor
open Go.RowKit
theorem exec_neqPd {o : Oper} {f : Act} (x y : Operand) {t : TypeId} (ho : o.op = .binOp .neq 26 x y t) {p q : Pfx} (hp : okP p) (hq : okP q) (hx : f.eval x = .agg (pc p)) (hy : f.eval y = .agg (pc q)) (w : World) :
    (execOp f.eval o).run Tryz.prog w = .ok (.value (.bool (!decide (p = q)))) w := by
  unfold execOp
  rw [ho]
  have e := equal_Pd hp hq w
  have e1 : (eqGuard .neq 26 x y (.agg (pc p)) (.agg (pc q))).run Tryz.prog w = .ok () w := by
    simp [eqGuard, noGuard_P, Sem.run_bind]
  have e2 : (binOp .neq 26 (.agg (pc p)) (.agg (pc q))).run Tryz.prog w = .ok (.bool (!decide (p = q))) w := by
    simp only [binOp, Sem.run_bind, e, Result.andThen_ok, Sem.run_pure]
  simp only [hx, hy, Sem.run_bind, e1, e2, Result.andThen_ok, Sem.run_pure]
theorem goV_neqPd {ops : Array Oper} {Q : Exit → Act → World → Prop} {md : Region.Mode} {w0 : World} {o : Oper} {rest : List Oper} {i : Nat} {plan : List Yld} {A : (Nat → Value) → Act} (hw : ∀ u, Region.wanted o (yielded ops (A u).tmps) = true) (x y : Operand) {t : TypeId} (ho : o.op = .binOp .neq 26 x y t)
    {p q : Pfx} (hp : okP p) (hq : okP q) {r : Bool} (h : (!decide (p = q)) = r) (hx : ∀ u, (A u).eval x = .agg (pc p)) (hy : ∀ u, (A u).eval y = .agg (pc q))
    (k : goV Tryz.prog ops Q md w0 rest (i + 1) (plan ++ [.val (.bool r)]) (fun u => (A u).put o.dst (.bool r))) : goV Tryz.prog ops Q md w0 (o :: rest) i plan A :=
  goV_val _ hw (fun u w _ _ => by rw [← h]; exact exec_neqPd x y ho hp hq (hx u) (hy u) w) k
theorem okP_prefixOf {a : Adr} (ha : okA a) {n : Int} (hn : i64ok n) : okP (prefixOf a n).1 := by
  unfold prefixOf
  split
  · exact ⟨okA_trunc ha n, hn⟩
  · exact okP_zpfx
theorem contains_own {b : Adr} (hb : okA b) (hv : validA b = true) {n : Int} (h0 : 0 ≤ n) (h1 : n ≤ bitLen b) : containsP (truncA b n, n) b = true := by
  unfold containsP
  have e : (truncA b n).1 = b.1 := rfl
  simp only [trunc_validP hb h0 h1, hv, e, decide_true, Bool.and_self]
theorem contains_uniq {b : Adr} (hv : validA b = true) {n : Int} {o : Pfx} (hov : validP o = true) (hn : o.2 = n) : containsP o b = decide (o = (truncA b n, n)) := by
  unfold containsP
  rw [hov, hv, hn, Bool.true_and, Bool.true_and]
  by_cases h : truncA b n = o.1
  · have h2 : o = (truncA b n, n) := Prod.ext h.symm hn
    have h3 : o.1.1 = b.1 := by rw [← h]; rfl
    rw [decide_eq_true h, decide_eq_true h3, decide_eq_true h2]; rfl
  · rw [decide_eq_false h, Bool.and_false]
    exact (decide_eq_false (fun e => h (by rw [e]))).symm
set_option maxRecDepth 8000 in
set_option maxHeartbeats 4000000 in
theorem CidrPrefixIsUnique_walk (a : Adr) (n : Int) (p : Pfx) (ha : okA a) (wn : (Lit.int .i64 n).wf = true) (hp : okP p) (w : World) (henv : Env w) (htabs : Tabs w) :
    Calls Tryz.prog 4 #[av a, .int .i64 n, pv p] w fun e w' => e = .returned (.bool true) ∧ Ext w w' := by
  have hn : i64ok n := by unfold i64ok; simp [Lit.wf, IntKind.min, IntKind.max, IntKind.bits, IntKind.signed] at wn; omega
  have K1 := Lib.hid (fun w => cprefix_any a ha n hn w)
  have K2 := Lib.hid (fun w => rprefix_any a ha n hn w)
  have hq := okP_prefixOf ha hn
  have VA := Lib.hid (fun w => vadr_any a ha w)
  have hv := okA_vadr ha
  have hval := valid_vadr a
  have hbl := bitLen_pos (vadr a)
  have BL := Lib.hid (fun w => rBitLen_any (vadr a) hv w)
  have hmb := modI_bd n (n := bitLen (vadr a) + 1) (by omega) (by omega)
  have MO := Lib.hid (fun w => mod_any n (bitLen (vadr a) + 1) w (u64_ne (by omega) (by omega)))
  have hm : i64ok (modI n (bitLen (vadr a) + 1)) := by unfold i64ok; omega
  have K3 := fun w => cprefix_any (vadr a) hv (modI n (bitLen (vadr a) + 1)) hm w
  rw [prefixOf_ok hval hmb.1 (by omega)] at K3
  have K3 := Lib.hid K3
  have hs : okP (truncA (vadr a) (modI n (bitLen (vadr a) + 1)), modI n (bitLen (vadr a) + 1)) := ⟨okA_trunc hv _, hm⟩
  have CO := contains_own hv hval hmb.1 (show modI n (bitLen (vadr a) + 1) ≤ bitLen (vadr a) by omega)
  have CU := Lib.hid (fun o hov hon => @contains_uniq (vadr a) hval (modI n (bitLen (vadr a) + 1)) o hov hon)
  have hL1 : IntKind.i64.wrap (bitLen (vadr a) + 1) = bitLen (vadr a) + 1 := IntWalk.i64_in _ (by omega)
  have GP := Lib.hid (fun w => gprefix_any p hp w)
  generalize (prefixOf a n).1 = q at *
  generalize (prefixOf a n).2 = qb at *
  generalize vadr a = b at *
  generalize bitLen b = L at *
  generalize modI n (L + 1) = m at *
  have HCO := Lib.hid CO
  clear wn CO hmb hbl
  unfold av pv
  go_enter Tryz.func4, Tryz.ntmps4
  go_upto_region 1 with fail
  have hx := ((Ext.refl w).alloc (.cells (ac a) 24)).alloc (.cells (pc p) 26)
  have hA := (Blk.new w (ac a) 24).ext ((Ext.refl _).alloc (.cells (pc p) 26))
  have hP := Blk.new (w.alloc (.cells (ac a) 24)) (pc p) 26
  rw [World.size_alloc] at hP
  generalize (w.alloc (.cells (ac a) 24)).alloc (.cells (pc p) 26) = w0 at *
  generalize w.heap.size = c at *
  go_wp2_with (first | refine wpList_load_A rfl _ rfl ha hA rfl ?_ | (go_at_call 18; refine (K1.out _).mono ?_; rintro e w1 ⟨rfl, hx1⟩; refine Hid.out ?_))
  refine Lib.hid ?_
  have hA1 := hA.ext hx1
  have hP1 := hP.ext hx1
  have hxx1 := hx.trans hx1
  clear hx hx1 hA hP
  have hbf := Blk.new w1 (pc zpfx) 26
  go_upto_region 2 with (refine wpList_store_P rfl _ _ rfl okP_zpfx hq hbf rfl rfl ?_)
  change Code.wp _ _ _ _ ((w1.alloc (.cells (pc zpfx) 26)).setRow w1.heap.size (pc q))
  rw [World.setRow_alloc_new]
  have hB1 := Blk.new w1 (pc q) 26
  have hx2 := hxx1.alloc (.cells (pc q) 26)
  have hnx := (Ext.refl w1).alloc (.cells (pc q) 26)
  clear hbf
  generalize w1.alloc (.cells (pc q) 26) = w2 at *
  generalize w1.heap.size = b1 at *
  have hA2 := hA1.ext hnx
  have hP2 := hP1.ext hnx
  clear hnx hxx1 hA1 hP1
  go_wp2_with (first | refine wpList_load_A rfl _ rfl ha hA2 rfl ?_ | (go_at_call 19; refine (K2.out _).mono ?_; rintro e w3 ⟨rfl, hx3⟩; refine Hid.out ?_))
  refine Lib.hid ?_
  have hA3 := hA2.ext hx3
  have hP3 := hP2.ext hx3
  have hB1_3 := hB1.ext hx3
  have hxx3 := hx2.trans hx3
  clear hx2 hx3 hA2 hP2 hB1
  have hbf := Blk.new w3 (pc zpfx) 26
  go_upto_region 3 with (refine wpList_store_P rfl _ _ rfl okP_zpfx hq hbf rfl rfl ?_)
  change Code.wp _ _ _ _ ((w3.alloc (.cells (pc zpfx) 26)).setRow w3.heap.size (pc q))
  rw [World.setRow_alloc_new]
  have hB2 := Blk.new w3 (pc q) 26
  have hx4 := hxx3.alloc (.cells (pc q) 26)
  have hnx := (Ext.refl w3).alloc (.cells (pc q) 26)
  clear hbf
  generalize w3.alloc (.cells (pc q) 26) = w4 at *
  generalize w3.heap.size = b2 at *
  have hA4 := hA3.ext hnx
  have hP4 := hP3.ext hnx
  have hB1_4 := hB1_3.ext hnx
  clear hnx hxx3 hA3 hP3 hB1_3
  have g1 : ∀ w', Ext w4 w' → PBlk w' b1 q := fun w' h => hB1_4.ext h
  have g2 : ∀ w', Ext w4 w' → PBlk w' b2 q := fun w' h => hB2.ext h
  have hne : (!decide (q = q)) = false := by simp
  refine wp_region_rgs ?_
  first
    | (apply goV_skip (by intro u; rfl))
    | (apply goV_loadP (by intro u; rfl) _ rfl hq g1 (by intro u; rfl))
  try simp only [Act.put, List.setIfInBounds_toArray, List.set_cons_zero, List.set_cons_succ]
  first
    | (apply goV_skip (by intro u; rfl))
    | (apply goV_loadP (by intro u; rfl) _ rfl hq g2 (by intro u; rfl))
  try simp only [Act.put, List.setIfInBounds_toArray, List.set_cons_zero, List.set_cons_succ]
  first
    | (apply goV_skip (by intro u; rfl))
    | (apply goV_neqPd (by intro u; rfl) _ _ rfl hq hq hne (by intro u; rfl) (by intro u; rfl))
  try simp only [Act.put, List.setIfInBounds_toArray, List.set_cons_zero, List.set_cons_succ]
  first
    | (apply goV_skip (by intro u; rfl))
    | (apply goV_val _ (by intro u; rfl); · (intro u w hSw hF; go_simp; try with_reducible rfl))
  try simp only [Act.put, List.setIfInBounds_toArray, List.set_cons_zero, List.set_cons_succ]
  first
    | (apply goV_skip (by intro u; rfl))
    | (apply goV_val _ (by intro u; rfl); · (intro u w hSw hF; go_simp; try with_reducible rfl))
  try simp only [Act.put, List.setIfInBounds_toArray, List.set_cons_zero, List.set_cons_succ]
  first
    | (apply goV_skip (by intro u; rfl))
    | (apply goV_val _ (by intro u; rfl); · (intro u w hSw hF; go_simp; try with_reducible rfl))
  try simp only [Act.put, List.setIfInBounds_toArray, List.set_cons_zero, List.set_cons_succ]
  first
    | (apply goV_skip (by intro u; rfl))
    | (apply goV_val _ (by intro u; rfl); · (intro u w hSw hF; go_simp; try with_reducible rfl))
  try simp only [Act.put, List.setIfInBounds_toArray, List.set_cons_zero, List.set_cons_succ]
  first
    | (apply goV_skip (by intro u; rfl))
    | (apply goV_val _ (by intro u; rfl); · (intro u w hSw hF; go_simp; try with_reducible rfl))
  try simp only [Act.put, List.setIfInBounds_toArray, List.set_cons_zero, List.set_cons_succ]
  intro u w5 hx5 _
  have hA5 := hA4.ext hx5
  have hP5 := hP4.ext hx5
  have hxx5 := hx4.trans hx5
  clear hA4 hP4 hB1_4 hB2 hx4 hx5 g1 g2 hne K1 K2
  go_wp2_with (first | refine wpList_load_A rfl _ rfl ha hA5 rfl ?_ | (go_at_call 20; refine (VA.out _).mono ?_; rintro e w6 ⟨rfl, hx6⟩; refine Hid.out ?_))
  refine Lib.hid ?_
  have hP6 := hP5.ext hx6
  have hxx6 := hxx5.trans hx6
  clear hA5 hP5 hxx5 hx6
  have hbf := Blk.new w6 (ac zadr) 24
  go_upto_region 6 with (refine wpList_store_A rfl _ _ rfl okA_zadr hv hbf rfl rfl ?_)
  change Code.wp _ _ _ _ ((w6.alloc (.cells (ac zadr) 24)).setRow w6.heap.size (ac b))
  rw [World.setRow_alloc_new]
  have hB3 := Blk.new w6 (ac b) 24
  have hx7 := hxx6.alloc (.cells (ac b) 24)
  have hnx := (Ext.refl w6).alloc (.cells (ac b) 24)
  clear hbf
  generalize w6.alloc (.cells (ac b) 24) = w7 at *
  generalize w6.heap.size = b3 at *
  have hP7 := hP6.ext hnx
  clear hnx hP6 hxx6
  go_upto_region 7 with (first | refine wpList_load_A rfl _ rfl hv hB3 rfl ?_ | (go_at_call 22; refine (BL.out _).mono ?_; rintro e w8 ⟨rfl, hx8⟩) | (go_at_call 21; refine (MO.out _).mono ?_; rintro e w9 ⟨rfl, hx9⟩))
  have hP9 := (hP7.ext hx8).ext hx9
  have hB3_9 := (hB3.ext hx8).ext hx9
  have hxx9 := (hx7.trans hx8).trans hx9
  clear hP7 hB3 hx7 hx8 hx9
  go_wp2_with (first | refine wpList_load_A rfl _ rfl hv hB3_9 rfl ?_ | (go_at_call 18; refine (K3.out _).mono ?_; rintro e wa ⟨rfl, hxa⟩; refine Hid.out ?_))
  refine Lib.hid ?_
  have hPa := hP9.ext hxa
  have hBa := hB3_9.ext hxa
  have hxxa := hxx9.trans hxa
  clear hP9 hB3_9 hxx9 hxa
  have hbf := Blk.new wa (pc zpfx) 26
  go_upto_region 8 with (refine wpList_store_P rfl _ _ rfl okP_zpfx hs hbf rfl rfl ?_)
  change Code.wp _ _ _ _ ((wa.alloc (.cells (pc zpfx) 26)).setRow wa.heap.size (pc (truncA b m, m)))
  rw [World.setRow_alloc_new]
  have hB4 := Blk.new wa (pc (truncA b m, m)) 26
  have hxb := hxxa.alloc (.cells (pc (truncA b m, m)) 26)
  have hnx := (Ext.refl wa).alloc (.cells (pc (truncA b m, m)) 26)
  clear hbf
  generalize wa.alloc (.cells (pc (truncA b m, m)) 26) = wb at *
  generalize wa.heap.size = b4 at *
  have hPb := hPa.ext hnx
  have hBb := hBa.ext hnx
  clear hnx hPa hBa hxxa
  go_wp2_with (first | refine wpList_load_P rfl _ rfl hp hPb rfl ?_ | (go_at_call 7; refine (GP.out _).mono ?_; rintro e wc ⟨o, ho, hov, rfl, hxc⟩; refine Hid.out ?_))
  refine Lib.hid ?_
  have hBc := hBb.ext hxc
  have hB4c := hB4.ext hxc
  have hxxc := hxb.trans hxc
  clear hPb hBb hB4 hxb hxc
  have hbf := Blk.new wc (pc zpfx) 26
  go_upto_region 9 with (refine wpList_store_P rfl _ _ rfl okP_zpfx ho hbf rfl rfl ?_)
  change Code.wp _ _ _ _ ((wc.alloc (.cells (pc zpfx) 26)).setRow wc.heap.size (pc o))
  rw [World.setRow_alloc_new]
  have hB5 := Blk.new wc (pc o) 26
  have hxd := hxxc.alloc (.cells (pc o) 26)
  have hnx := (Ext.refl wc).alloc (.cells (pc o) 26)
  clear hbf
  generalize wc.alloc (.cells (pc o) 26) = wd at *
  generalize wc.heap.size = b5 at *
  have gA : ∀ w', Ext wd w' → Blk w' b3 (ac b).toList 24 := fun w' h => (hBc.ext hnx).ext h
  have gS : ∀ w', Ext wd w' → PBlk w' b4 (truncA b m, m) := fun w' h => (hB4c.ext hnx).ext h
  have gO : ∀ w', Ext wd w' → PBlk w' b5 o := fun w' h => hB5.ext h
  have F1 := fun (w' : World) (h : Ext wd w') => PBlk.bits hs (gS w' h)
  have F2 := fun (w' : World) (h : Ext wd w') => PBlk.bits ho (gO w' h)
  have c1 := fun (w' : World) (h : Ext wd w') => awake_any w' (henv.ext (hxd.trans h)) (htabs.ext (hxd.trans h))
  have c2 := fun (w' : World) (h : Ext wd w') => ccontains_any (truncA b m, m) b hs hv w'
  rw [HCO.out] at c2
  have c3 := fun (w' : World) (h : Ext wd w') => ccontains_any o b ho hv w'
  have CUo := fun h => CU.out o hov h
  clear hnx hBc hB4c hB5 K3 GP CU VA BL MO HCO
  simp only at F1
  generalize hS : ((truncA b m, m) : Pfx) = S at *
  generalize hcc : containsP o b = cc at *
  generalize ho2 : o.2 = o2 at *
  by_cases h : o2 = m
  · have hE : decide (o = S) = cc := (CUo h).symm
    have hb1 : (o2 != m) = false := by rw [bne_eq_false_iff_eq]; exact h
    have hb2 : (o2 == m) = true := by rw [beq_iff_eq]; exact h
    clear CUo hcc ho2 hS h
    refine wp_region_rg wd (by kernel_rfl) (by kernel_rfl) (Ext.refl _) ?_
    first
      | (apply goV_skip (by intro u; rfl))
      | (apply goV_call (by intro u; rfl) c1; · (intro u w hSw hF; go_simp; try with_reducible rfl))
    try simp only [Act.put, List.setIfInBounds_toArray, List.set_cons_zero, List.set_cons_succ]
    first
      | (apply goV_skip (by intro u; rfl))
      | (apply goV_val _ (by intro u; rfl); · (intro u w hSw hF; go_simp; try with_reducible rfl))
    try simp only [Act.put, List.setIfInBounds_toArray, List.set_cons_zero, List.set_cons_succ]
    first
      | (apply goV_skip (by intro u; rfl))
      | (apply goV_val _ (by intro u; rfl); · (intro u w hSw hF; go_simp; try with_reducible rfl))
    try simp only [Act.put, List.setIfInBounds_toArray, List.set_cons_zero, List.set_cons_succ]
    first
      | (apply goV_skip (by intro u; rfl))
      | (apply goV_val _ (by intro u; rfl); · (intro u w hSw hF; go_simp; try with_reducible rfl))
    try simp only [Act.put, List.setIfInBounds_toArray, List.set_cons_zero, List.set_cons_succ]
    first
      | (apply goV_skip (by intro u; rfl))
      | (apply goV_val _ (by intro u; rfl); · (intro u w hSw hF; go_simp; try with_reducible rfl))
    try simp only [Act.put, List.setIfInBounds_toArray, List.set_cons_zero, List.set_cons_succ]
    first
      | (apply goV_skip (by intro u; rfl))
      | (apply goV_loadP (by intro u; rfl) _ rfl hs gS (by intro u; rfl))
    try simp only [Act.put, List.setIfInBounds_toArray, List.set_cons_zero, List.set_cons_succ]
    first
      | (apply goV_skip (by intro u; rfl))
      | (apply goV_loadA (by intro u; rfl) _ rfl hv gA (by intro u; rfl))
    try simp only [Act.put, List.setIfInBounds_toArray, List.set_cons_zero, List.set_cons_succ]
    first
      | (apply goV_skip (by intro u; rfl))
      | (apply goV_call (by intro u; rfl) c2; · (intro u w hSw hF; go_simp; try with_reducible rfl))
    try simp only [Act.put, List.setIfInBounds_toArray, List.set_cons_zero, List.set_cons_succ]
    first
      | (apply goV_skip (by intro u; rfl))
      | (apply goV_val _ (by intro u; rfl); · (intro u w hSw hF; go_simp; try with_reducible rfl))
    try simp only [Act.put, List.setIfInBounds_toArray, List.set_cons_zero, List.set_cons_succ]
    first
      | (apply goV_skip (by intro u; rfl))
      | (apply goV_val _ (by intro u; rfl); · (intro u w hSw hF; go_simp; try with_reducible rfl))
    try simp only [Act.put, List.setIfInBounds_toArray, List.set_cons_zero, List.set_cons_succ]
    first
      | (apply goV_skip (by intro u; rfl))
      | (apply goV_val _ (by intro u; rfl); · (intro u w hSw hF; go_simp; try with_reducible rfl))
    try simp only [Act.put, List.setIfInBounds_toArray, List.set_cons_zero, List.set_cons_succ]
    first
      | (apply goV_skip (by intro u; rfl))
      | (apply goV_val (.int .i64 m) (by intro u; rfl); · (intro u w hSw hF; have c0 := F1 w hSw; go_simp))
    try simp only [Act.put, List.setIfInBounds_toArray, List.set_cons_zero, List.set_cons_succ]
    first
      | (apply goV_skip (by intro u; rfl))
      | (apply goV_val _ (by intro u; rfl); · (intro u w hSw hF; go_simp; try with_reducible rfl))
    try simp only [Act.put, List.setIfInBounds_toArray, List.set_cons_zero, List.set_cons_succ]
    first
      | (apply goV_skip (by intro u; rfl))
      | (apply goV_val _ (by intro u; rfl); · (intro u w hSw hF; go_simp; try with_reducible rfl))
    try simp only [Act.put, List.setIfInBounds_toArray, List.set_cons_zero, List.set_cons_succ]
    first
      | (apply goV_skip (by intro u; rfl))
      | (apply goV_val _ (by intro u; rfl); · (intro u w hSw hF; go_simp; try with_reducible rfl))
    try simp only [Act.put, List.setIfInBounds_toArray, List.set_cons_zero, List.set_cons_succ]
    first
      | (apply goV_skip (by intro u; rfl))
      | (apply goV_val _ (by intro u; rfl); · (intro u w hSw hF; go_simp; try with_reducible rfl))
    try simp only [Act.put, List.setIfInBounds_toArray, List.set_cons_zero, List.set_cons_succ]
    first
      | (apply goV_skip (by intro u; rfl))
      | (apply goV_val _ (by intro u; rfl); · (intro u w hSw hF; go_simp; try with_reducible rfl))
    try simp only [Act.put, List.setIfInBounds_toArray, List.set_cons_zero, List.set_cons_succ]
    first
      | (apply goV_skip (by intro u; rfl))
      | (apply goV_val (.int .i64 o2) (by intro u; rfl); · (intro u w hSw hF; have c0 := F2 w hSw; go_simp))
    try simp only [Act.put, List.setIfInBounds_toArray, List.set_cons_zero, List.set_cons_succ]
    first
      | (apply goV_skip (by intro u; rfl))
      | (apply goV_val _ (by intro u; rfl); · (intro u w hSw hF; go_simp; try with_reducible rfl))
    try simp only [Act.put, List.setIfInBounds_toArray, List.set_cons_zero, List.set_cons_succ]
    first
      | (apply goV_skip (by intro u; rfl))
      | (apply goV_val _ (by intro u; rfl); · (intro u w hSw hF; go_simp; try with_reducible rfl))
    try simp only [Act.put, List.setIfInBounds_toArray, List.set_cons_zero, List.set_cons_succ]
    first
      | (apply goV_skip (by intro u; rfl))
      | (apply goV_val _ (by intro u; rfl); · (intro u w hSw hF; go_simp; try with_reducible rfl))
    try simp only [Act.put, List.setIfInBounds_toArray, List.set_cons_zero, List.set_cons_succ]
    first
      | (apply goV_skip (by intro u; rfl))
      | (apply goV_loadP (by intro u; rfl) _ rfl ho gO (by intro u; rfl))
    try simp only [Act.put, List.setIfInBounds_toArray, List.set_cons_zero, List.set_cons_succ]
    first
      | (apply goV_skip (by intro u; rfl))
      | (apply goV_loadA (by intro u; rfl) _ rfl hv gA (by intro u; rfl))
    try simp only [Act.put, List.setIfInBounds_toArray, List.set_cons_zero, List.set_cons_succ]
    first
      | (apply goV_skip (by intro u; rfl))
      | (apply goV_call (by intro u; rfl) c3; · (intro u w hSw hF; go_simp; try with_reducible rfl))
    try simp only [Act.put, List.setIfInBounds_toArray, List.set_cons_zero, List.set_cons_succ]
    first
      | (apply goV_skip (by intro u; rfl))
      | (apply goV_loadP (by intro u; rfl) _ rfl ho gO (by intro u; rfl))
    try simp only [Act.put, List.setIfInBounds_toArray, List.set_cons_zero, List.set_cons_succ]
    first
      | (apply goV_skip (by intro u; rfl))
      | (apply goV_loadP (by intro u; rfl) _ rfl hs gS (by intro u; rfl))
    try simp only [Act.put, List.setIfInBounds_toArray, List.set_cons_zero, List.set_cons_succ]
    first
      | (apply goV_skip (by intro u; rfl))
      | (apply goV_eqPd (by intro u; rfl) _ _ rfl ho hs hE (by intro u; rfl) (by intro u; rfl))
    try simp only [Act.put, List.setIfInBounds_toArray, List.set_cons_zero, List.set_cons_succ]
    first
      | (apply goV_skip (by intro u; rfl))
      | (apply goV_val _ (by intro u; rfl); · (intro u w hSw hF; go_simp; try with_reducible rfl))
    try simp only [Act.put, List.setIfInBounds_toArray, List.set_cons_zero, List.set_cons_succ]
    first
      | (apply goV_skip (by intro u; rfl))
      | (apply goV_val _ (by intro u; rfl); · (intro u w hSw hF; go_simp; try with_reducible rfl))
    try simp only [Act.put, List.setIfInBounds_toArray, List.set_cons_zero, List.set_cons_succ]
    first
      | (apply goV_skip (by intro u; rfl))
      | (apply goV_val _ (by intro u; rfl); · (intro u w hSw hF; go_simp; try with_reducible rfl))
    try simp only [Act.put, List.setIfInBounds_toArray, List.set_cons_zero, List.set_cons_succ]
    first
      | (apply goV_skip (by intro u; rfl))
      | (apply goV_val _ (by intro u; rfl); · (intro u w hSw hF; go_simp; try with_reducible rfl))
    try simp only [Act.put, List.setIfInBounds_toArray, List.set_cons_zero, List.set_cons_succ]
    intro u w9 hx9 _
    go_wp2
    go_ret
    exact ⟨rfl, hxd.trans hx9⟩
  · have hE : decide (o = S) = decide (o = S) := rfl
    have hb1 : (o2 != m) = true := by rw [bne_iff_ne]; exact h
    have hb2 : (o2 == m) = false := by rw [beq_eq_false_iff_ne]; exact h
    clear CUo hcc ho2 hS h
    refine wp_region_rg wd (by kernel_rfl) (by kernel_rfl) (Ext.refl _) ?_
    first
      | (apply goV_skip (by intro u; rfl))
      | (apply goV_call (by intro u; rfl) c1; · (intro u w hSw hF; go_simp; try with_reducible rfl))
    try simp only [Act.put, List.setIfInBounds_toArray, List.set_cons_zero, List.set_cons_succ]
    first
      | (apply goV_skip (by intro u; rfl))
      | (apply goV_val _ (by intro u; rfl); · (intro u w hSw hF; go_simp; try with_reducible rfl))
    try simp only [Act.put, List.setIfInBounds_toArray, List.set_cons_zero, List.set_cons_succ]
    first
      | (apply goV_skip (by intro u; rfl))
      | (apply goV_val _ (by intro u; rfl); · (intro u w hSw hF; go_simp; try with_reducible rfl))
    try simp only [Act.put, List.setIfInBounds_toArray, List.set_cons_zero, List.set_cons_succ]
    first
      | (apply goV_skip (by intro u; rfl))
      | (apply goV_val _ (by intro u; rfl); · (intro u w hSw hF; go_simp; try with_reducible rfl))
    try simp only [Act.put, List.setIfInBounds_toArray, List.set_cons_zero, List.set_cons_succ]
    first
      | (apply goV_skip (by intro u; rfl))
      | (apply goV_val _ (by intro u; rfl); · (intro u w hSw hF; go_simp; try with_reducible rfl))
    try simp only [Act.put, List.setIfInBounds_toArray, List.set_cons_zero, List.set_cons_succ]
    first
      | (apply goV_skip (by intro u; rfl))
      | (apply goV_loadP (by intro u; rfl) _ rfl hs gS (by intro u; rfl))
    try simp only [Act.put, List.setIfInBounds_toArray, List.set_cons_zero, List.set_cons_succ]
    first
      | (apply goV_skip (by intro u; rfl))
      | (apply goV_loadA (by intro u; rfl) _ rfl hv gA (by intro u; rfl))
    try simp only [Act.put, List.setIfInBounds_toArray, List.set_cons_zero, List.set_cons_succ]
    first
      | (apply goV_skip (by intro u; rfl))
      | (apply goV_call (by intro u; rfl) c2; · (intro u w hSw hF; go_simp; try with_reducible rfl))
    try simp only [Act.put, List.setIfInBounds_toArray, List.set_cons_zero, List.set_cons_succ]
    first
      | (apply goV_skip (by intro u; rfl))
      | (apply goV_val _ (by intro u; rfl); · (intro u w hSw hF; go_simp; try with_reducible rfl))
    try simp only [Act.put, List.setIfInBounds_toArray, List.set_cons_zero, List.set_cons_succ]
    first
      | (apply goV_skip (by intro u; rfl))
      | (apply goV_val _ (by intro u; rfl); · (intro u w hSw hF; go_simp; try with_reducible rfl))
    try simp only [Act.put, List.setIfInBounds_toArray, List.set_cons_zero, List.set_cons_succ]
    first
      | (apply goV_skip (by intro u; rfl))
      | (apply goV_val _ (by intro u; rfl); · (intro u w hSw hF; go_simp; try with_reducible rfl))
    try simp only [Act.put, List.setIfInBounds_toArray, List.set_cons_zero, List.set_cons_succ]
    first
      | (apply goV_skip (by intro u; rfl))
      | (apply goV_val (.int .i64 m) (by intro u; rfl); · (intro u w hSw hF; have c0 := F1 w hSw; go_simp))
    try simp only [Act.put, List.setIfInBounds_toArray, List.set_cons_zero, List.set_cons_succ]
    first
      | (apply goV_skip (by intro u; rfl))
      | (apply goV_val _ (by intro u; rfl); · (intro u w hSw hF; go_simp; try with_reducible rfl))
    try simp only [Act.put, List.setIfInBounds_toArray, List.set_cons_zero, List.set_cons_succ]
    first
      | (apply goV_skip (by intro u; rfl))
      | (apply goV_val _ (by intro u; rfl); · (intro u w hSw hF; go_simp; try with_reducible rfl))
    try simp only [Act.put, List.setIfInBounds_toArray, List.set_cons_zero, List.set_cons_succ]
    first
      | (apply goV_skip (by intro u; rfl))
      | (apply goV_val _ (by intro u; rfl); · (intro u w hSw hF; go_simp; try with_reducible rfl))
    try simp only [Act.put, List.setIfInBounds_toArray, List.set_cons_zero, List.set_cons_succ]
    first
      | (apply goV_skip (by intro u; rfl))
      | (apply goV_val _ (by intro u; rfl); · (intro u w hSw hF; go_simp; try with_reducible rfl))
    try simp only [Act.put, List.setIfInBounds_toArray, List.set_cons_zero, List.set_cons_succ]
    first
      | (apply goV_skip (by intro u; rfl))
      | (apply goV_val _ (by intro u; rfl); · (intro u w hSw hF; go_simp; try with_reducible rfl))
    try simp only [Act.put, List.setIfInBounds_toArray, List.set_cons_zero, List.set_cons_succ]
    first
      | (apply goV_skip (by intro u; rfl))
      | (apply goV_val (.int .i64 o2) (by intro u; rfl); · (intro u w hSw hF; have c0 := F2 w hSw; go_simp))
    try simp only [Act.put, List.setIfInBounds_toArray, List.set_cons_zero, List.set_cons_succ]
    first
      | (apply goV_skip (by intro u; rfl))
      | (apply goV_val _ (by intro u; rfl); · (intro u w hSw hF; go_simp; try with_reducible rfl))
    try simp only [Act.put, List.setIfInBounds_toArray, List.set_cons_zero, List.set_cons_succ]
    first
      | (apply goV_skip (by intro u; rfl))
      | (apply goV_val _ (by intro u; rfl); · (intro u w hSw hF; go_simp; try with_reducible rfl))
    try simp only [Act.put, List.setIfInBounds_toArray, List.set_cons_zero, List.set_cons_succ]
    first
      | (apply goV_skip (by intro u; rfl))
      | (apply goV_val _ (by intro u; rfl); · (intro u w hSw hF; go_simp; try with_reducible rfl))
    try simp only [Act.put, List.setIfInBounds_toArray, List.set_cons_zero, List.set_cons_succ]
    first
      | (apply goV_skip (by intro u; rfl))
      | (apply goV_loadP (by intro u; rfl) _ rfl ho gO (by intro u; rfl))
    try simp only [Act.put, List.setIfInBounds_toArray, List.set_cons_zero, List.set_cons_succ]
    first
      | (apply goV_skip (by intro u; rfl))
      | (apply goV_loadA (by intro u; rfl) _ rfl hv gA (by intro u; rfl))
    try simp only [Act.put, List.setIfInBounds_toArray, List.set_cons_zero, List.set_cons_succ]
    first
      | (apply goV_skip (by intro u; rfl))
      | (apply goV_call (by intro u; rfl) c3; · (intro u w hSw hF; go_simp; try with_reducible rfl))
    try simp only [Act.put, List.setIfInBounds_toArray, List.set_cons_zero, List.set_cons_succ]
    first
      | (apply goV_skip (by intro u; rfl))
      | (apply goV_loadP (by intro u; rfl) _ rfl ho gO (by intro u; rfl))
    try simp only [Act.put, List.setIfInBounds_toArray, List.set_cons_zero, List.set_cons_succ]
    first
      | (apply goV_skip (by intro u; rfl))
      | (apply goV_loadP (by intro u; rfl) _ rfl hs gS (by intro u; rfl))
    try simp only [Act.put, List.setIfInBounds_toArray, List.set_cons_zero, List.set_cons_succ]
    first
      | (apply goV_skip (by intro u; rfl))
      | (apply goV_eqPd (by intro u; rfl) _ _ rfl ho hs hE (by intro u; rfl) (by intro u; rfl))
    try simp only [Act.put, List.setIfInBounds_toArray, List.set_cons_zero, List.set_cons_succ]
    first
      | (apply goV_skip (by intro u; rfl))
      | (apply goV_val _ (by intro u; rfl); · (intro u w hSw hF; go_simp; try with_reducible rfl))
    try simp only [Act.put, List.setIfInBounds_toArray, List.set_cons_zero, List.set_cons_succ]
    first
      | (apply goV_skip (by intro u; rfl))
      | (apply goV_val _ (by intro u; rfl); · (intro u w hSw hF; go_simp; try with_reducible rfl))
    try simp only [Act.put, List.setIfInBounds_toArray, List.set_cons_zero, List.set_cons_succ]
    first
      | (apply goV_skip (by intro u; rfl))
      | (apply goV_val _ (by intro u; rfl); · (intro u w hSw hF; go_simp; try with_reducible rfl))
    try simp only [Act.put, List.setIfInBounds_toArray, List.set_cons_zero, List.set_cons_succ]
    first
      | (apply goV_skip (by intro u; rfl))
      | (apply goV_val _ (by intro u; rfl); · (intro u w hSw hF; go_simp; try with_reducible rfl))
    try simp only [Act.put, List.setIfInBounds_toArray, List.set_cons_zero, List.set_cons_succ]
    intro u w9 hx9 _
    go_wp2
    go_ret
    exact ⟨rfl, hxd.trans hx9⟩
end Go.Proofs.YtbbdcodhgbgekaaGreatDoor
