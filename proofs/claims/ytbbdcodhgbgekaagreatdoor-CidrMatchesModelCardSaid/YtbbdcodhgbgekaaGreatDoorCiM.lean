/-
  CidrMatchesModel.
-/
import Derived.Test.YtbbdcodhgbgekaaGreatDoorCiAw
import Derived.Test.YtbbdcodhgbgekaaGreatDoorRgf
set_option linter.unusedSimpArgs false
set_option linter.unusedVariables false
namespace Go.Proofs.YtbbdcodhgbgekaaGreatDoor
open Go.RowKit
theorem holdsAt_get {plan : List Yld} {u : Nat → Value} {w : World} {V : Value → World → Prop} {j : Nat} : ∀ {js : List Nat}, holdsAt plan u w js → j ∈ js → plan[j]? = some (.rel V) → V (u j) w
  | [], _, h, _ => by cases h
  | x :: js, h, hj, hp => by
    rcases List.mem_cons.1 hj with rfl | hj
    · have := h.1
      rw [hp] at this
      exact this
    · exact holdsAt_get h.2 hj hp
theorem goV_callR {P : Program} {ops : Array Oper} {Q : Exit → Act → World → Prop} {md : Region.Mode} {w0 : World} {o : Oper} {rest : List Oper} {i : Nat} {plan : List Yld} {A : (Nat → Value) → Act} (V : Value → World → Prop) (hV : ∀ u w w', V u w → Ext w w' → V u w')
    (hw : ∀ u, Region.wanted o (yielded ops (A u).tmps) = true)
    (h : ∀ u w, Ext w0 w → holdsAt plan u w (depsOf md o) → ∃ f args, (execOp (A u).eval o).run P w = .ok (.enter f args) w ∧ Calls P f args w fun e w' => ∃ v, e = .returned v ∧ Ext w w' ∧ V v w') (k : goV P ops Q md w0 rest (i + 1) (plan ++ [.rel V]) (fun u => (A u).put o.dst (u i))) : goV P ops Q md w0 (o :: rest) i plan A :=
  goV_rel V hV hw (fun u w hx hh => by
    obtain ⟨f, args, e, hc⟩ := h u w hx hh
    rw [e]; exact ⟨Ext.refl _, hc⟩) k
def VPfx : Value → World → Prop := fun u _ => ∃ q, okP q ∧ validP q = true ∧ u = pv q
def VNewP (base : Nat) : Value → World → Prop := fun u w => ∃ b, base ≤ b ∧ u = .pointer (some ⟨b, 0, none⟩) ∧ PBlk w b zpfx
set_option maxRecDepth 8000 in
set_option maxHeartbeats 8000000 in
theorem CidrMatchesModel_walk (p q : Pfx) (a : Adr) (hp : okP p) (hq : okP q) (ha : okA a) (w : World) (henv : Env w) (htabs : Tabs w) :
    Calls Tryz.prog 3 #[pv p, pv q, av a] w fun e w' => e = .returned (.bool true) ∧ Ext w w' := by
  have SA := Lib.hid (fun w => some_any a ha w)
  unfold av pv
  go_enter Tryz.func3, Tryz.ntmps3
  go_upto_region 1 with fail
  have hx := (((Ext.refl w).alloc (.cells (pc p) 26)).alloc (.cells (pc q) 26)).alloc (.cells (ac a) 24)
  have hP := (Blk.new w (pc p) 26).ext (((Ext.refl _).alloc (.cells (pc q) 26)).alloc (.cells (ac a) 24))
  have hQ := (Blk.new (w.alloc (.cells (pc p) 26)) (pc q) 26).ext ((Ext.refl _).alloc (.cells (ac a) 24))
  have hA := Blk.new ((w.alloc (.cells (pc p) 26)).alloc (.cells (pc q) 26)) (ac a) 24
  rw [World.size_alloc] at hQ hA
  rw [World.size_alloc] at hA
  generalize ((w.alloc (.cells (pc p) 26)).alloc (.cells (pc q) 26)).alloc (.cells (ac a) 24) = w0 at *
  generalize w.heap.size = c at *
  have gP : ∀ w', Ext w0 w' → PBlk w' c p := fun w' h => hP.ext h
  have gQ : ∀ w', Ext w0 w' → PBlk w' (c + 1) q := fun w' h => hQ.ext h
  have mk : ∀ o : Oper, o = { dst := o.dst, op := .alloc 26, type := o.type, pos := o.pos, after := o.after, guard := none } → Makes Tryz.prog o := by
    intro o ho
    rw [ho]
    refine ⟨rfl, fun ev w => ⟨.cells (pc zpfx) 26, ?_⟩⟩
    go_simp
    try rfl
  refine wp_region_rgf 6 4 5 7 8 w0 (by kernel_rfl) (fun o ho => mk o (by cases ho; rfl)) (fun o ho => mk o (by cases ho; rfl)) (by simp) (by simp) (by kernel_rfl) (by kernel_rfl) (Ext.refl _) ?_
  clear mk
  simp only [List.take_succ_cons, List.take_zero]
  first
    | (apply goV_skip (by intro u; rfl))
    | (apply goV_loadP (by intro u; rfl) _ rfl hp gP (by intro u; rfl))
  try simp only [Act.put, List.setIfInBounds_toArray, List.set_cons_zero, List.set_cons_succ]
  apply goV_callR VPfx (fun u w w' h _ => h) (by intro u; rfl)
  · intro u w' hSw hF
    refine ⟨7, #[.agg (pc p)], ?_, (gprefix_any p hp w').mono ?_⟩
    · go_simp
    · rintro e w'' ⟨q, h1, h2, h3, h4⟩
      exact ⟨_, h3, h4, q, h1, h2, rfl⟩
  try simp only [Act.put, List.setIfInBounds_toArray, List.set_cons_zero, List.set_cons_succ]
  first
    | (apply goV_skip (by intro u; rfl))
    | (apply goV_loadP (by intro u; rfl) _ rfl hq gQ (by intro u; rfl))
  try simp only [Act.put, List.setIfInBounds_toArray, List.set_cons_zero, List.set_cons_succ]
  apply goV_callR VPfx (fun u w w' h _ => h) (by intro u; rfl)
  · intro u w' hSw hF
    refine ⟨7, #[.agg (pc q)], ?_, (gprefix_any q hq w').mono ?_⟩
    · go_simp
    · rintro e w'' ⟨q, h1, h2, h3, h4⟩
      exact ⟨_, h3, h4, q, h1, h2, rfl⟩
  try simp only [Act.put, List.setIfInBounds_toArray, List.set_cons_zero, List.set_cons_succ]
  apply goV_rel (VNewP w0.heap.size) (fun u w w' h k => by obtain ⟨b, h0, h1, h2⟩ := h; exact ⟨b, h0, h1, h2.ext k⟩) (by intro u; rfl)
  · intro u w' hSw hF
    go_simp
    exact ⟨(Ext.refl _).alloc _, w'.heap.size, hSw.size, rfl, Blk.new _ _ _⟩
  try simp only [Act.put, List.setIfInBounds_toArray, List.set_cons_zero, List.set_cons_succ]
  apply goV_rel (VNewP w0.heap.size) (fun u w w' h k => by obtain ⟨b, h0, h1, h2⟩ := h; exact ⟨b, h0, h1, h2.ext k⟩) (by intro u; rfl)
  · intro u w' hSw hF
    go_simp
    exact ⟨(Ext.refl _).alloc _, w'.heap.size, hSw.size, rfl, Blk.new _ _ _⟩
  try simp only [Act.put, List.setIfInBounds_toArray, List.set_cons_zero, List.set_cons_succ]
  intro u w1 hx1 hh hne
  obtain ⟨r, hr, hrv, e1⟩ := holdsAt_get (V := VPfx) (j := 1) hh (by simp) rfl
  obtain ⟨s, hs, hsv, e2⟩ := holdsAt_get (V := VPfx) (j := 3) hh (by simp) rfl
  obtain ⟨b1, f1, e3, h1⟩ := holdsAt_get (V := VNewP w0.heap.size) (j := 4) hh (by simp) rfl
  obtain ⟨b2, f2, e4, h2⟩ := holdsAt_get (V := VNewP w0.heap.size) (j := 5) hh (by simp) rfl
  clear hh
  dsimp only at hne ⊢
  rw [e1, e2, e3, e4] at hne ⊢
  simp only [List.drop_succ_cons, List.drop_zero]
  have hbb : b1 ≠ b2 := fun e => hne (by rw [e]; rfl)
  have HV1 := Lib.hid hrv
  clear hne e1 e2 e3 e4 hrv hsv
  refine wpList_store_P rfl _ _ rfl okP_zpfx hr h1 rfl rfl ?_
  refine wpList_store_P rfl _ _ rfl okP_zpfx hs (h2.row_ne hbb.symm _) rfl rfl ?_
  have hR := (h1.row (pc r)).row_ne hbb (pc s)
  have hS := (h2.row_ne hbb.symm (pc r)).row (pc s)
  have hx2 := (hx1.setRow f1 (pc r)).setRow f2 (pc s)
  generalize (w1.setRow b1 (pc r)).setRow b2 (pc s) = w2 at *
  have hxx2 := hx.trans hx2
  have hP2 := hP.ext hx2
  have hQ2 := hQ.ext hx2
  have hA2 := hA.ext hx2
  clear h1 h2 hx1 hx2 hP hQ hA gP gQ f1 f2 hx hbb
  unfold wpList
  try simp only [Act.put, List.setIfInBounds_toArray, List.set_cons_zero, List.set_cons_succ]
  have gP : ∀ w', Ext w2 w' → PBlk w' c p := fun w' h => hP2.ext h
  have gQ : ∀ w', Ext w2 w' → PBlk w' (c + 1) q := fun w' h => hQ2.ext h
  have gA : ∀ w', Ext w2 w' → Blk w' (c + 1 + 1) (ac a).toList 24 := fun w' h => hA2.ext h
  have c1 := fun (w' : World) => cvalid_any p hp w'
  have c2 := fun (w' : World) => rvalid_any p hp w'
  have c3 := fun (w' : World) => ccontains_any p a hp ha w'
  have c4 := fun (w' : World) => rcontains_any p a hp ha w'
  have c5 := fun (w' : World) => ccovers_any p q hp hq w'
  have c6 := fun (w' : World) => rcovers_any p q hp hq w'
  have c7 := fun (w' : World) => ccompare_any p q hp hq w'
  have c8 := fun (w' : World) => rcompareP_any p q hp hq w'
  generalize validP p = d1 at *
  generalize containsP p a = d2 at *
  generalize coversP p q = d3 at *
  generalize cmpP p q = d4 at *
  go_upto_region 2 with fail
  refine wp_region_rg w2 (by kernel_rfl) (by kernel_rfl) (Ext.refl _) ?_
  first
    | (apply goV_skip (by intro u; rfl))
    | (apply goV_loadP (by intro u; rfl) _ rfl hp gP (by intro u; rfl))
  try simp only [Act.put, List.setIfInBounds_toArray, List.set_cons_zero, List.set_cons_succ]
  first
    | (apply goV_skip (by intro u; rfl))
    | (apply goV_call (by intro u; rfl) (fun w' _ => c1 w'); · (intro u w hSw hF; go_simp; try with_reducible rfl))
  try simp only [Act.put, List.setIfInBounds_toArray, List.set_cons_zero, List.set_cons_succ]
  first
    | (apply goV_skip (by intro u; rfl))
    | (apply goV_loadP (by intro u; rfl) _ rfl hp gP (by intro u; rfl))
  try simp only [Act.put, List.setIfInBounds_toArray, List.set_cons_zero, List.set_cons_succ]
  first
    | (apply goV_skip (by intro u; rfl))
    | (apply goV_call (by intro u; rfl) (fun w' _ => c2 w'); · (intro u w hSw hF; go_simp; try with_reducible rfl))
  try simp only [Act.put, List.setIfInBounds_toArray, List.set_cons_zero, List.set_cons_succ]
  first
    | (apply goV_skip (by intro u; rfl))
    | (apply goV_val _ (by intro u; rfl); · (intro u w hSw hF; go_simp; try with_reducible rfl))
  try simp only [Act.put, List.setIfInBounds_toArray, List.set_cons_zero, List.set_cons_succ]
  first
    | (apply goV_skip (by intro u; rfl))
    | (apply goV_val _ (by intro u; rfl); · (intro u w hSw hF; go_simp; try with_reducible rfl))
  try simp only [Act.put, List.setIfInBounds_toArray, List.set_cons_zero, List.set_cons_succ]
  first
    | (apply goV_skip (by intro u; rfl))
    | (apply goV_loadP (by intro u; rfl) _ rfl hp gP (by intro u; rfl))
  try simp only [Act.put, List.setIfInBounds_toArray, List.set_cons_zero, List.set_cons_succ]
  first
    | (apply goV_skip (by intro u; rfl))
    | (apply goV_loadA (by intro u; rfl) _ rfl ha gA (by intro u; rfl))
  try simp only [Act.put, List.setIfInBounds_toArray, List.set_cons_zero, List.set_cons_succ]
  first
    | (apply goV_skip (by intro u; rfl))
    | (apply goV_call (by intro u; rfl) (fun w' _ => c3 w'); · (intro u w hSw hF; go_simp; try with_reducible rfl))
  try simp only [Act.put, List.setIfInBounds_toArray, List.set_cons_zero, List.set_cons_succ]
  first
    | (apply goV_skip (by intro u; rfl))
    | (apply goV_loadP (by intro u; rfl) _ rfl hp gP (by intro u; rfl))
  try simp only [Act.put, List.setIfInBounds_toArray, List.set_cons_zero, List.set_cons_succ]
  first
    | (apply goV_skip (by intro u; rfl))
    | (apply goV_loadA (by intro u; rfl) _ rfl ha gA (by intro u; rfl))
  try simp only [Act.put, List.setIfInBounds_toArray, List.set_cons_zero, List.set_cons_succ]
  first
    | (apply goV_skip (by intro u; rfl))
    | (apply goV_call (by intro u; rfl) (fun w' _ => c4 w'); · (intro u w hSw hF; go_simp; try with_reducible rfl))
  try simp only [Act.put, List.setIfInBounds_toArray, List.set_cons_zero, List.set_cons_succ]
  first
    | (apply goV_skip (by intro u; rfl))
    | (apply goV_val _ (by intro u; rfl); · (intro u w hSw hF; go_simp; try with_reducible rfl))
  try simp only [Act.put, List.setIfInBounds_toArray, List.set_cons_zero, List.set_cons_succ]
  first
    | (apply goV_skip (by intro u; rfl))
    | (apply goV_val _ (by intro u; rfl); · (intro u w hSw hF; go_simp; try with_reducible rfl))
  try simp only [Act.put, List.setIfInBounds_toArray, List.set_cons_zero, List.set_cons_succ]
  first
    | (apply goV_skip (by intro u; rfl))
    | (apply goV_val _ (by intro u; rfl); · (intro u w hSw hF; go_simp; try with_reducible rfl))
  try simp only [Act.put, List.setIfInBounds_toArray, List.set_cons_zero, List.set_cons_succ]
  first
    | (apply goV_skip (by intro u; rfl))
    | (apply goV_loadP (by intro u; rfl) _ rfl hp gP (by intro u; rfl))
  try simp only [Act.put, List.setIfInBounds_toArray, List.set_cons_zero, List.set_cons_succ]
  first
    | (apply goV_skip (by intro u; rfl))
    | (apply goV_loadP (by intro u; rfl) _ rfl hq gQ (by intro u; rfl))
  try simp only [Act.put, List.setIfInBounds_toArray, List.set_cons_zero, List.set_cons_succ]
  first
    | (apply goV_skip (by intro u; rfl))
    | (apply goV_call (by intro u; rfl) (fun w' _ => c5 w'); · (intro u w hSw hF; go_simp; try with_reducible rfl))
  try simp only [Act.put, List.setIfInBounds_toArray, List.set_cons_zero, List.set_cons_succ]
  first
    | (apply goV_skip (by intro u; rfl))
    | (apply goV_loadP (by intro u; rfl) _ rfl hp gP (by intro u; rfl))
  try simp only [Act.put, List.setIfInBounds_toArray, List.set_cons_zero, List.set_cons_succ]
  first
    | (apply goV_skip (by intro u; rfl))
    | (apply goV_loadP (by intro u; rfl) _ rfl hq gQ (by intro u; rfl))
  try simp only [Act.put, List.setIfInBounds_toArray, List.set_cons_zero, List.set_cons_succ]
  first
    | (apply goV_skip (by intro u; rfl))
    | (apply goV_call (by intro u; rfl) (fun w' _ => c6 w'); · (intro u w hSw hF; go_simp; try with_reducible rfl))
  try simp only [Act.put, List.setIfInBounds_toArray, List.set_cons_zero, List.set_cons_succ]
  first
    | (apply goV_skip (by intro u; rfl))
    | (apply goV_val _ (by intro u; rfl); · (intro u w hSw hF; go_simp; try with_reducible rfl))
  try simp only [Act.put, List.setIfInBounds_toArray, List.set_cons_zero, List.set_cons_succ]
  first
    | (apply goV_skip (by intro u; rfl))
    | (apply goV_val _ (by intro u; rfl); · (intro u w hSw hF; go_simp; try with_reducible rfl))
  try simp only [Act.put, List.setIfInBounds_toArray, List.set_cons_zero, List.set_cons_succ]
  first
    | (apply goV_skip (by intro u; rfl))
    | (apply goV_val _ (by intro u; rfl); · (intro u w hSw hF; go_simp; try with_reducible rfl))
  try simp only [Act.put, List.setIfInBounds_toArray, List.set_cons_zero, List.set_cons_succ]
  first
    | (apply goV_skip (by intro u; rfl))
    | (apply goV_loadP (by intro u; rfl) _ rfl hp gP (by intro u; rfl))
  try simp only [Act.put, List.setIfInBounds_toArray, List.set_cons_zero, List.set_cons_succ]
  first
    | (apply goV_skip (by intro u; rfl))
    | (apply goV_loadP (by intro u; rfl) _ rfl hq gQ (by intro u; rfl))
  try simp only [Act.put, List.setIfInBounds_toArray, List.set_cons_zero, List.set_cons_succ]
  first
    | (apply goV_skip (by intro u; rfl))
    | (apply goV_call (by intro u; rfl) (fun w' _ => c7 w'); · (intro u w hSw hF; go_simp; try with_reducible rfl))
  try simp only [Act.put, List.setIfInBounds_toArray, List.set_cons_zero, List.set_cons_succ]
  first
    | (apply goV_skip (by intro u; rfl))
    | (apply goV_loadP (by intro u; rfl) _ rfl hp gP (by intro u; rfl))
  try simp only [Act.put, List.setIfInBounds_toArray, List.set_cons_zero, List.set_cons_succ]
  first
    | (apply goV_skip (by intro u; rfl))
    | (apply goV_loadP (by intro u; rfl) _ rfl hq gQ (by intro u; rfl))
  try simp only [Act.put, List.setIfInBounds_toArray, List.set_cons_zero, List.set_cons_succ]
  first
    | (apply goV_skip (by intro u; rfl))
    | (apply goV_call (by intro u; rfl) (fun w' _ => c8 w'); · (intro u w hSw hF; go_simp; try with_reducible rfl))
  try simp only [Act.put, List.setIfInBounds_toArray, List.set_cons_zero, List.set_cons_succ]
  first
    | (apply goV_skip (by intro u; rfl))
    | (apply goV_val _ (by intro u; rfl); · (intro u w hSw hF; go_simp; try with_reducible rfl))
  try simp only [Act.put, List.setIfInBounds_toArray, List.set_cons_zero, List.set_cons_succ]
  first
    | (apply goV_skip (by intro u; rfl))
    | (apply goV_val _ (by intro u; rfl); · (intro u w hSw hF; go_simp; try with_reducible rfl))
  try simp only [Act.put, List.setIfInBounds_toArray, List.set_cons_zero, List.set_cons_succ]
  intro u w3 hx3 _
  have hA3 := hA2.ext hx3
  have hR3 := hR.ext hx3
  have hS3 := hS.ext hx3
  have hxx3 := hxx2.trans hx3
  clear hA2 hR hS hxx2 hx3 gP gQ gA c1 c2 c3 c4 c5 c6 c7 c8 hP2 hQ2
  go_wp2_with (first | refine wpList_load_A rfl _ rfl ha hA3 rfl ?_ | (go_at_call 16; refine (SA.out _).mono ?_; rintro e w4 ⟨y, hy, rfl, hx4⟩; refine Hid.out ?_))
  refine Lib.hid ?_
  have hR4 := hR3.ext hx4
  have hS4 := hS3.ext hx4
  have hxx4 := hxx3.trans hx4
  clear hA3 hR3 hS3 hxx3 hx4
  have hbf := Blk.new w4 (ac zadr) 24
  go_upto_region 5 with (refine wpList_store_A rfl _ _ rfl okA_zadr hy hbf rfl rfl ?_)
  change Code.wp _ _ _ _ ((w4.alloc (.cells (ac zadr) 24)).setRow w4.heap.size (ac y))
  rw [World.setRow_alloc_new]
  have hY5 := Blk.new w4 (ac y) 24
  have hx5 := hxx4.alloc (.cells (ac y) 24)
  have hnx := (Ext.refl w4).alloc (.cells (ac y) 24)
  clear hbf
  generalize w4.alloc (.cells (ac y) 24) = w5 at *
  generalize w4.heap.size = b3 at *
  have hR5 := hR4.ext hnx
  have hS5 := hS4.ext hnx
  clear hnx hxx4 hR4 hS4
  have gR : ∀ w', Ext w5 w' → PBlk w' b1 r := fun w' h => hR5.ext h
  have gS : ∀ w', Ext w5 w' → PBlk w' b2 s := fun w' h => hS5.ext h
  have gY : ∀ w', Ext w5 w' → Blk w' b3 (ac y).toList 24 := fun w' h => hY5.ext h
  have c0 := fun (w' : World) (h : Ext w5 w') => awake_any w' (henv.ext (hx5.trans h)) (htabs.ext (hx5.trans h))
  have c1 := fun (w' : World) => cvalid_any r hr w'
  rw [HV1.out] at c1
  have c3 := fun (w' : World) => ccontains_any r y hr hy w'
  have c4 := fun (w' : World) => rcontains_any r y hr hy w'
  have c5 := fun (w' : World) => ccovers_any r s hr hs w'
  have c6 := fun (w' : World) => rcovers_any r s hr hs w'
  have c7 := fun (w' : World) => ccompare_any r s hr hs w'
  have c8 := fun (w' : World) => rcompareP_any r s hr hs w'
  generalize containsP r y = d2 at *
  generalize coversP r s = d3 at *
  generalize cmpP r s = d4 at *
  refine wp_region_rg w5 (by kernel_rfl) (by kernel_rfl) (Ext.refl _) ?_
  first
    | (apply goV_skip (by intro u; rfl))
    | (apply goV_call (by intro u; rfl) c0; · (intro u w hSw hF; go_simp; try with_reducible rfl))
  try simp only [Act.put, List.setIfInBounds_toArray, List.set_cons_zero, List.set_cons_succ]
  first
    | (apply goV_skip (by intro u; rfl))
    | (apply goV_val _ (by intro u; rfl); · (intro u w hSw hF; go_simp; try with_reducible rfl))
  try simp only [Act.put, List.setIfInBounds_toArray, List.set_cons_zero, List.set_cons_succ]
  first
    | (apply goV_skip (by intro u; rfl))
    | (apply goV_loadP (by intro u; rfl) _ rfl hr gR (by intro u; rfl))
  try simp only [Act.put, List.setIfInBounds_toArray, List.set_cons_zero, List.set_cons_succ]
  first
    | (apply goV_skip (by intro u; rfl))
    | (apply goV_call (by intro u; rfl) (fun w' _ => c1 w'); · (intro u w hSw hF; go_simp; try with_reducible rfl))
  try simp only [Act.put, List.setIfInBounds_toArray, List.set_cons_zero, List.set_cons_succ]
  first
    | (apply goV_skip (by intro u; rfl))
    | (apply goV_val _ (by intro u; rfl); · (intro u w hSw hF; go_simp; try with_reducible rfl))
  try simp only [Act.put, List.setIfInBounds_toArray, List.set_cons_zero, List.set_cons_succ]
  first
    | (apply goV_skip (by intro u; rfl))
    | (apply goV_val _ (by intro u; rfl); · (intro u w hSw hF; go_simp; try with_reducible rfl))
  try simp only [Act.put, List.setIfInBounds_toArray, List.set_cons_zero, List.set_cons_succ]
  first
    | (apply goV_skip (by intro u; rfl))
    | (apply goV_loadP (by intro u; rfl) _ rfl hr gR (by intro u; rfl))
  try simp only [Act.put, List.setIfInBounds_toArray, List.set_cons_zero, List.set_cons_succ]
  first
    | (apply goV_skip (by intro u; rfl))
    | (apply goV_loadA (by intro u; rfl) _ rfl hy gY (by intro u; rfl))
  try simp only [Act.put, List.setIfInBounds_toArray, List.set_cons_zero, List.set_cons_succ]
  first
    | (apply goV_skip (by intro u; rfl))
    | (apply goV_call (by intro u; rfl) (fun w' _ => c3 w'); · (intro u w hSw hF; go_simp; try with_reducible rfl))
  try simp only [Act.put, List.setIfInBounds_toArray, List.set_cons_zero, List.set_cons_succ]
  first
    | (apply goV_skip (by intro u; rfl))
    | (apply goV_loadP (by intro u; rfl) _ rfl hr gR (by intro u; rfl))
  try simp only [Act.put, List.setIfInBounds_toArray, List.set_cons_zero, List.set_cons_succ]
  first
    | (apply goV_skip (by intro u; rfl))
    | (apply goV_loadA (by intro u; rfl) _ rfl hy gY (by intro u; rfl))
  try simp only [Act.put, List.setIfInBounds_toArray, List.set_cons_zero, List.set_cons_succ]
  first
    | (apply goV_skip (by intro u; rfl))
    | (apply goV_call (by intro u; rfl) (fun w' _ => c4 w'); · (intro u w hSw hF; go_simp; try with_reducible rfl))
  try simp only [Act.put, List.setIfInBounds_toArray, List.set_cons_zero, List.set_cons_succ]
  first
    | (apply goV_skip (by intro u; rfl))
    | (apply goV_val _ (by intro u; rfl); · (intro u w hSw hF; go_simp; try with_reducible rfl))
  try simp only [Act.put, List.setIfInBounds_toArray, List.set_cons_zero, List.set_cons_succ]
  first
    | (apply goV_skip (by intro u; rfl))
    | (apply goV_val _ (by intro u; rfl); · (intro u w hSw hF; go_simp; try with_reducible rfl))
  try simp only [Act.put, List.setIfInBounds_toArray, List.set_cons_zero, List.set_cons_succ]
  first
    | (apply goV_skip (by intro u; rfl))
    | (apply goV_val _ (by intro u; rfl); · (intro u w hSw hF; go_simp; try with_reducible rfl))
  try simp only [Act.put, List.setIfInBounds_toArray, List.set_cons_zero, List.set_cons_succ]
  first
    | (apply goV_skip (by intro u; rfl))
    | (apply goV_loadP (by intro u; rfl) _ rfl hr gR (by intro u; rfl))
  try simp only [Act.put, List.setIfInBounds_toArray, List.set_cons_zero, List.set_cons_succ]
  first
    | (apply goV_skip (by intro u; rfl))
    | (apply goV_loadP (by intro u; rfl) _ rfl hs gS (by intro u; rfl))
  try simp only [Act.put, List.setIfInBounds_toArray, List.set_cons_zero, List.set_cons_succ]
  first
    | (apply goV_skip (by intro u; rfl))
    | (apply goV_call (by intro u; rfl) (fun w' _ => c5 w'); · (intro u w hSw hF; go_simp; try with_reducible rfl))
  try simp only [Act.put, List.setIfInBounds_toArray, List.set_cons_zero, List.set_cons_succ]
  first
    | (apply goV_skip (by intro u; rfl))
    | (apply goV_loadP (by intro u; rfl) _ rfl hr gR (by intro u; rfl))
  try simp only [Act.put, List.setIfInBounds_toArray, List.set_cons_zero, List.set_cons_succ]
  first
    | (apply goV_skip (by intro u; rfl))
    | (apply goV_loadP (by intro u; rfl) _ rfl hs gS (by intro u; rfl))
  try simp only [Act.put, List.setIfInBounds_toArray, List.set_cons_zero, List.set_cons_succ]
  first
    | (apply goV_skip (by intro u; rfl))
    | (apply goV_call (by intro u; rfl) (fun w' _ => c6 w'); · (intro u w hSw hF; go_simp; try with_reducible rfl))
  try simp only [Act.put, List.setIfInBounds_toArray, List.set_cons_zero, List.set_cons_succ]
  first
    | (apply goV_skip (by intro u; rfl))
    | (apply goV_val _ (by intro u; rfl); · (intro u w hSw hF; go_simp; try with_reducible rfl))
  try simp only [Act.put, List.setIfInBounds_toArray, List.set_cons_zero, List.set_cons_succ]
  first
    | (apply goV_skip (by intro u; rfl))
    | (apply goV_val _ (by intro u; rfl); · (intro u w hSw hF; go_simp; try with_reducible rfl))
  try simp only [Act.put, List.setIfInBounds_toArray, List.set_cons_zero, List.set_cons_succ]
  first
    | (apply goV_skip (by intro u; rfl))
    | (apply goV_val _ (by intro u; rfl); · (intro u w hSw hF; go_simp; try with_reducible rfl))
  try simp only [Act.put, List.setIfInBounds_toArray, List.set_cons_zero, List.set_cons_succ]
  first
    | (apply goV_skip (by intro u; rfl))
    | (apply goV_loadP (by intro u; rfl) _ rfl hr gR (by intro u; rfl))
  try simp only [Act.put, List.setIfInBounds_toArray, List.set_cons_zero, List.set_cons_succ]
  first
    | (apply goV_skip (by intro u; rfl))
    | (apply goV_loadP (by intro u; rfl) _ rfl hs gS (by intro u; rfl))
  try simp only [Act.put, List.setIfInBounds_toArray, List.set_cons_zero, List.set_cons_succ]
  first
    | (apply goV_skip (by intro u; rfl))
    | (apply goV_call (by intro u; rfl) (fun w' _ => c7 w'); · (intro u w hSw hF; go_simp; try with_reducible rfl))
  try simp only [Act.put, List.setIfInBounds_toArray, List.set_cons_zero, List.set_cons_succ]
  first
    | (apply goV_skip (by intro u; rfl))
    | (apply goV_loadP (by intro u; rfl) _ rfl hr gR (by intro u; rfl))
  try simp only [Act.put, List.setIfInBounds_toArray, List.set_cons_zero, List.set_cons_succ]
  first
    | (apply goV_skip (by intro u; rfl))
    | (apply goV_loadP (by intro u; rfl) _ rfl hs gS (by intro u; rfl))
  try simp only [Act.put, List.setIfInBounds_toArray, List.set_cons_zero, List.set_cons_succ]
  first
    | (apply goV_skip (by intro u; rfl))
    | (apply goV_call (by intro u; rfl) (fun w' _ => c8 w'); · (intro u w hSw hF; go_simp; try with_reducible rfl))
  try simp only [Act.put, List.setIfInBounds_toArray, List.set_cons_zero, List.set_cons_succ]
  first
    | (apply goV_skip (by intro u; rfl))
    | (apply goV_val _ (by intro u; rfl); · (intro u w hSw hF; go_simp; try with_reducible rfl))
  try simp only [Act.put, List.setIfInBounds_toArray, List.set_cons_zero, List.set_cons_succ]
  first
    | (apply goV_skip (by intro u; rfl))
    | (apply goV_val _ (by intro u; rfl); · (intro u w hSw hF; go_simp; try with_reducible rfl))
  try simp only [Act.put, List.setIfInBounds_toArray, List.set_cons_zero, List.set_cons_succ]
  first
    | (apply goV_skip (by intro u; rfl))
    | (apply goV_val _ (by intro u; rfl); · (intro u w hSw hF; go_simp; try with_reducible rfl))
  try simp only [Act.put, List.setIfInBounds_toArray, List.set_cons_zero, List.set_cons_succ]
  intro u w6 hx6 _
  have hfin := hx5.trans hx6
  clear henv htabs
  go_wp2
  go_ret
  exact ⟨rfl, hfin⟩
end Go.Proofs.YtbbdcodhgbgekaaGreatDoor
