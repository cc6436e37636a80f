/-
  Contracts of cidr.Contains, Covers, Compare.
-/
import Derived.Test.YtbbdcodhgbgekaaGreatDoorCiC
set_option linter.unusedSimpArgs false
set_option linter.unusedVariables false
namespace Go.Proofs.YtbbdcodhgbgekaaGreatDoor
open Go.RowKit
theorem goV_callU {P : Program} {ops : Array Oper} {Q : Exit → Act → World → Prop} {md : Region.Mode} {w0 : World} {o : Oper} {rest : List Oper} {i : Nat} {plan : List Yld} {A : (Nat → Value) → Act} {v : Value} (hw : ∀ u, Region.wanted o (yielded ops (A u).tmps) = true)
    (h : ∀ u w, Ext w0 w → holdsAt plan u w (depsOf md o) → ∃ f args, (execOp (A u).eval o).run P w = .ok (.enter f args) w ∧ Calls P f args w fun e w' => e = .returned v ∧ Ext w w') (k : goV P ops Q md w0 rest (i + 1) (plan ++ [.val v]) (fun u => (A u).put o.dst v)) : goV P ops Q md w0 (o :: rest) i plan A :=
  ⟨.val v, Yld.val_ok v, fun u w hx hh => by
    obtain ⟨f, args, e, hc⟩ := h u w hx hh
    exact .inl ⟨hw u, by rw [e]; exact ⟨Ext.refl _, hc.mono fun e w' he => ⟨v, he.1, he.2, rfl⟩⟩⟩, k⟩
theorem validP_bits {p : Pfx} (h : validP p = true) : 0 ≤ p.2 ∧ p.2 ≤ 128 ∧ p.2 ≤ bitLen p.1 ∧ validA p.1 = true ∧ truncA p.1 p.2 = p.1 := by
  unfold validP at h
  simp only [Bool.and_eq_true, decide_eq_true_eq] at h
  have := bitLen_pos p.1
  exact ⟨h.1.1.2, by omega, h.1.2, h.1.1.1, h.2⟩
set_option maxRecDepth 8000 in
set_option maxHeartbeats 4000000 in
theorem ccontains_any (p : Pfx) (a : Adr) (hp : okP p) (ha : okA a) (w : World) :
    Calls Tryz.prog 10 #[pv p, av a] w fun e w' => e = .returned (.bool (containsP p a)) ∧ Ext w w' := by
  unfold pv av
  go_enter Tryz.func10, Tryz.ntmps10
  go_upto_region 1 with fail
  have hx := ((Ext.refl w).alloc (.cells (pc p) 26)).alloc (.cells (ac a) 24)
  have hb1 := (Blk.new w (pc p) 26).ext ((Ext.refl _).alloc (.cells (ac a) 24))
  have hb2 := Blk.new (w.alloc (.cells (pc p) 26)) (ac a) 24
  rw [World.size_alloc] at hb2
  generalize (w.alloc (.cells (pc p) 26)).alloc (.cells (ac a) 24) = w0 at *
  generalize hbw : w.heap.size = b at *
  replace hbw := Nat.le_of_eq hbw
  have hP : ∀ w', Ext w0 w' → PBlk w' b p := fun w' h => hb1.ext h
  have hA : ∀ w', Ext w0 w' → Blk w' (b + 1) (ac a).toList 24 := fun w' h => hb2.ext h
  have F1 := fun (w' : World) (h : Ext w0 w') => (hP w' h).fam
  have F2 := fun (w' : World) (h : Ext w0 w') => (ABox.of_blk ha (hA w' h)).fam
  have F3 := fun (w' : World) (h : Ext w0 w') => PBlk.bits hp (hP w' h)
  have C1 := fun (w' : World) (h : Ext w0 w') => cvalid_any p hp w'
  have C2 := fun (w' : World) (h : Ext w0 w') => valid_any a ha w'
  have R0 : Hid (containsP p a = (validP p && validA a && decide (p.1.1 = a.1) && decide (truncA a p.2 = p.1))) := Lib.hid rfl
  have hTr := trunc_any a ha
  have hVB := @validP_bits p
  have hT := okA_trunc ha p.2
  clear hb1 hb2
  generalize hn : p.2 = n at *
  generalize p.1.1 = fp at *
  generalize a.1 = fa at *
  cases hva : validP p with
  | false =>
    rw [hva] at C1 R0
    have R : Hid (containsP p a = false) := Lib.hid (by rw [R0.out]; rfl)
    clear R0 hva hVB
    have C3 := hTr
    have hE : decide (truncA a n = p.1) = decide (truncA a n = p.1) := rfl
    refine wp_region_rg w0 (by kernel_rfl) (by kernel_rfl) (Ext.refl _) ?_
    first
      | (apply goV_skip (by intro u; rfl))
      | (apply goV_loadP (by intro u; rfl) _ rfl hp hP (by intro u; rfl))
    try simp only [Act.put, List.setIfInBounds_toArray, List.set_cons_zero, List.set_cons_succ]
    first
      | (apply goV_skip (by intro u; rfl))
      | (apply goV_call (by intro u; rfl) C1; · (intro u w hSw hF; go_simp; try with_reducible rfl))
    try simp only [Act.put, List.setIfInBounds_toArray, List.set_cons_zero, List.set_cons_succ]
    first
      | (apply goV_skip (by intro u; rfl))
      | (apply goV_val _ (by intro u; rfl); · (intro u w hSw hF; go_simp; try with_reducible rfl))
    try simp only [Act.put, List.setIfInBounds_toArray, List.set_cons_zero, List.set_cons_succ]
    first
      | (apply goV_skip (by intro u; rfl))
      | (apply goV_loadA (by intro u; rfl) _ rfl ha hA (by intro u; rfl))
    try simp only [Act.put, List.setIfInBounds_toArray, List.set_cons_zero, List.set_cons_succ]
    first
      | (apply goV_skip (by intro u; rfl))
      | (apply goV_call (by intro u; rfl) C2; · (intro u w hSw hF; go_simp; try with_reducible rfl))
    try simp only [Act.put, List.setIfInBounds_toArray, List.set_cons_zero, List.set_cons_succ]
    first
      | (apply goV_skip (by intro u; rfl))
      | (apply goV_val _ (by intro u; rfl); · (intro u w hSw hF; go_simp; try with_reducible rfl))
    try simp only [Act.put, List.setIfInBounds_toArray, List.set_cons_zero, List.set_cons_succ]
    first
      | (apply goV_skip (by intro u; rfl))
      | (apply goV_val _ (by intro u; rfl); · (intro u w hSw hF; go_simp; try with_reducible rfl))
    try simp only [Act.put, List.setIfInBounds_toArray, List.set_cons_zero, List.set_cons_succ]
    first
      | (apply goV_skip (by intro u; rfl))
      | (apply goV_val _ (by intro u; rfl); · (intro u w hSw hF; go_simp; try with_reducible rfl))
    try simp only [Act.put, List.setIfInBounds_toArray, List.set_cons_zero, List.set_cons_succ]
    first
      | (apply goV_skip (by intro u; rfl))
      | (apply goV_val _ (by intro u; rfl); · (intro u w hSw hF; go_simp; try with_reducible rfl))
    try simp only [Act.put, List.setIfInBounds_toArray, List.set_cons_zero, List.set_cons_succ]
    first
      | (apply goV_skip (by intro u; rfl))
      | (apply goV_val (.bool fp) (by intro u; rfl); · (intro u w hSw hF; have c0 := F1 w hSw; go_simp))
    try simp only [Act.put, List.setIfInBounds_toArray, List.set_cons_zero, List.set_cons_succ]
    first
      | (apply goV_skip (by intro u; rfl))
      | (apply goV_val _ (by intro u; rfl); · (intro u w hSw hF; go_simp; try with_reducible rfl))
    try simp only [Act.put, List.setIfInBounds_toArray, List.set_cons_zero, List.set_cons_succ]
    first
      | (apply goV_skip (by intro u; rfl))
      | (apply goV_val (.bool fa) (by intro u; rfl); · (intro u w hSw hF; have c0 := F2 w hSw; go_simp))
    try simp only [Act.put, List.setIfInBounds_toArray, List.set_cons_zero, List.set_cons_succ]
    first
      | (apply goV_skip (by intro u; rfl))
      | (apply goV_val _ (by intro u; rfl); · (intro u w hSw hF; go_simp; try with_reducible rfl))
    try simp only [Act.put, List.setIfInBounds_toArray, List.set_cons_zero, List.set_cons_succ]
    first
      | (apply goV_skip (by intro u; rfl))
      | (apply goV_val _ (by intro u; rfl); · (intro u w hSw hF; go_simp; try with_reducible rfl))
    try simp only [Act.put, List.setIfInBounds_toArray, List.set_cons_zero, List.set_cons_succ]
    first
      | (apply goV_skip (by intro u; rfl))
      | (apply goV_val _ (by intro u; rfl); · (intro u w hSw hF; go_simp; try with_reducible rfl))
    try simp only [Act.put, List.setIfInBounds_toArray, List.set_cons_zero, List.set_cons_succ]
    first
      | (apply goV_skip (by intro u; rfl))
      | (apply goV_loadA (by intro u; rfl) _ rfl ha hA (by intro u; rfl))
    try simp only [Act.put, List.setIfInBounds_toArray, List.set_cons_zero, List.set_cons_succ]
    first
      | (apply goV_skip (by intro u; rfl))
      | (apply goV_val _ (by intro u; rfl); · (intro u w hSw hF; go_simp; try with_reducible rfl))
    try simp only [Act.put, List.setIfInBounds_toArray, List.set_cons_zero, List.set_cons_succ]
    first
      | (apply goV_skip (by intro u; rfl))
      | (apply goV_val (.int .i64 n) (by intro u; rfl); · (intro u w hSw hF; have c0 := F3 w hSw; go_simp))
    try simp only [Act.put, List.setIfInBounds_toArray, List.set_cons_zero, List.set_cons_succ]
    first
      | (apply goV_skip (by intro u; rfl))
      | (apply goV_call (by intro u; rfl) C3; · (intro u w hSw hF; go_simp; try with_reducible rfl))
    try simp only [Act.put, List.setIfInBounds_toArray, List.set_cons_zero, List.set_cons_succ]
    first
      | (apply goV_skip (by intro u; rfl))
      | (apply goV_val _ (by intro u; rfl); · (intro u w hSw hF; go_simp; try with_reducible rfl))
    try simp only [Act.put, List.setIfInBounds_toArray, List.set_cons_zero, List.set_cons_succ]
    first
      | (apply goV_skip (by intro u; rfl))
      | (apply goV_loadPA (by intro u; rfl) _ rfl hp hP (by intro u; rfl))
    try simp only [Act.put, List.setIfInBounds_toArray, List.set_cons_zero, List.set_cons_succ]
    first
      | (apply goV_skip (by intro u; rfl))
      | (apply goV_eqAd (by intro u; rfl) _ _ rfl hT hp.1 hE (by intro u; rfl) (by intro u; rfl))
    try simp only [Act.put, List.setIfInBounds_toArray, List.set_cons_zero, List.set_cons_succ]
    first
      | (apply goV_skip (by intro u; rfl))
      | (apply goV_val _ (by intro u; rfl); · (intro u w hSw hF; go_simp; try with_reducible rfl))
    try simp only [Act.put, List.setIfInBounds_toArray, List.set_cons_zero, List.set_cons_succ]
    first
      | (apply goV_skip (by intro u; rfl))
      | (apply goV_val _ (by intro u; rfl); · (intro u w hSw hF; go_simp; try with_reducible rfl))
    try simp only [Act.put, List.setIfInBounds_toArray, List.set_cons_zero, List.set_cons_succ]
    intro u w1 hx1 _
    go_wp2
    go_ret
    exact ⟨by rw [R.out]; rfl, hx.trans hx1⟩
  | true =>
    have hvb := hVB hva
    rw [hva] at C1 R0
    have C3 := fun (w' : World) (h : Ext w0 w') => hTr n hvb.1 hvb.2.1 w'
    clear hva hVB hTr hvb
    cases hvaa : validA a with
    | false =>
      rw [hvaa] at C2 R0
      have R : Hid (containsP p a = false) := Lib.hid (by rw [R0.out]; rfl)
      clear R0 hvaa
      have hE : decide (truncA a n = p.1) = decide (truncA a n = p.1) := rfl
      refine wp_region_rg w0 (by kernel_rfl) (by kernel_rfl) (Ext.refl _) ?_
      first
        | (apply goV_skip (by intro u; rfl))
        | (apply goV_loadP (by intro u; rfl) _ rfl hp hP (by intro u; rfl))
      try simp only [Act.put, List.setIfInBounds_toArray, List.set_cons_zero, List.set_cons_succ]
      first
        | (apply goV_skip (by intro u; rfl))
        | (apply goV_call (by intro u; rfl) C1; · (intro u w hSw hF; go_simp; try with_reducible rfl))
      try simp only [Act.put, List.setIfInBounds_toArray, List.set_cons_zero, List.set_cons_succ]
      first
        | (apply goV_skip (by intro u; rfl))
        | (apply goV_val _ (by intro u; rfl); · (intro u w hSw hF; go_simp; try with_reducible rfl))
      try simp only [Act.put, List.setIfInBounds_toArray, List.set_cons_zero, List.set_cons_succ]
      first
        | (apply goV_skip (by intro u; rfl))
        | (apply goV_loadA (by intro u; rfl) _ rfl ha hA (by intro u; rfl))
      try simp only [Act.put, List.setIfInBounds_toArray, List.set_cons_zero, List.set_cons_succ]
      first
        | (apply goV_skip (by intro u; rfl))
        | (apply goV_call (by intro u; rfl) C2; · (intro u w hSw hF; go_simp; try with_reducible rfl))
      try simp only [Act.put, List.setIfInBounds_toArray, List.set_cons_zero, List.set_cons_succ]
      first
        | (apply goV_skip (by intro u; rfl))
        | (apply goV_val _ (by intro u; rfl); · (intro u w hSw hF; go_simp; try with_reducible rfl))
      try simp only [Act.put, List.setIfInBounds_toArray, List.set_cons_zero, List.set_cons_succ]
      first
        | (apply goV_skip (by intro u; rfl))
        | (apply goV_val _ (by intro u; rfl); · (intro u w hSw hF; go_simp; try with_reducible rfl))
      try simp only [Act.put, List.setIfInBounds_toArray, List.set_cons_zero, List.set_cons_succ]
      first
        | (apply goV_skip (by intro u; rfl))
        | (apply goV_val _ (by intro u; rfl); · (intro u w hSw hF; go_simp; try with_reducible rfl))
      try simp only [Act.put, List.setIfInBounds_toArray, List.set_cons_zero, List.set_cons_succ]
      first
        | (apply goV_skip (by intro u; rfl))
        | (apply goV_val _ (by intro u; rfl); · (intro u w hSw hF; go_simp; try with_reducible rfl))
      try simp only [Act.put, List.setIfInBounds_toArray, List.set_cons_zero, List.set_cons_succ]
      first
        | (apply goV_skip (by intro u; rfl))
        | (apply goV_val (.bool fp) (by intro u; rfl); · (intro u w hSw hF; have c0 := F1 w hSw; go_simp))
      try simp only [Act.put, List.setIfInBounds_toArray, List.set_cons_zero, List.set_cons_succ]
      first
        | (apply goV_skip (by intro u; rfl))
        | (apply goV_val _ (by intro u; rfl); · (intro u w hSw hF; go_simp; try with_reducible rfl))
      try simp only [Act.put, List.setIfInBounds_toArray, List.set_cons_zero, List.set_cons_succ]
      first
        | (apply goV_skip (by intro u; rfl))
        | (apply goV_val (.bool fa) (by intro u; rfl); · (intro u w hSw hF; have c0 := F2 w hSw; go_simp))
      try simp only [Act.put, List.setIfInBounds_toArray, List.set_cons_zero, List.set_cons_succ]
      first
        | (apply goV_skip (by intro u; rfl))
        | (apply goV_val _ (by intro u; rfl); · (intro u w hSw hF; go_simp; try with_reducible rfl))
      try simp only [Act.put, List.setIfInBounds_toArray, List.set_cons_zero, List.set_cons_succ]
      first
        | (apply goV_skip (by intro u; rfl))
        | (apply goV_val _ (by intro u; rfl); · (intro u w hSw hF; go_simp; try with_reducible rfl))
      try simp only [Act.put, List.setIfInBounds_toArray, List.set_cons_zero, List.set_cons_succ]
      first
        | (apply goV_skip (by intro u; rfl))
        | (apply goV_val _ (by intro u; rfl); · (intro u w hSw hF; go_simp; try with_reducible rfl))
      try simp only [Act.put, List.setIfInBounds_toArray, List.set_cons_zero, List.set_cons_succ]
      first
        | (apply goV_skip (by intro u; rfl))
        | (apply goV_loadA (by intro u; rfl) _ rfl ha hA (by intro u; rfl))
      try simp only [Act.put, List.setIfInBounds_toArray, List.set_cons_zero, List.set_cons_succ]
      first
        | (apply goV_skip (by intro u; rfl))
        | (apply goV_val _ (by intro u; rfl); · (intro u w hSw hF; go_simp; try with_reducible rfl))
      try simp only [Act.put, List.setIfInBounds_toArray, List.set_cons_zero, List.set_cons_succ]
      first
        | (apply goV_skip (by intro u; rfl))
        | (apply goV_val (.int .i64 n) (by intro u; rfl); · (intro u w hSw hF; have c0 := F3 w hSw; go_simp))
      try simp only [Act.put, List.setIfInBounds_toArray, List.set_cons_zero, List.set_cons_succ]
      first
        | (apply goV_skip (by intro u; rfl))
        | (apply goV_call (by intro u; rfl) C3; · (intro u w hSw hF; go_simp; try with_reducible rfl))
      try simp only [Act.put, List.setIfInBounds_toArray, List.set_cons_zero, List.set_cons_succ]
      first
        | (apply goV_skip (by intro u; rfl))
        | (apply goV_val _ (by intro u; rfl); · (intro u w hSw hF; go_simp; try with_reducible rfl))
      try simp only [Act.put, List.setIfInBounds_toArray, List.set_cons_zero, List.set_cons_succ]
      first
        | (apply goV_skip (by intro u; rfl))
        | (apply goV_loadPA (by intro u; rfl) _ rfl hp hP (by intro u; rfl))
      try simp only [Act.put, List.setIfInBounds_toArray, List.set_cons_zero, List.set_cons_succ]
      first
        | (apply goV_skip (by intro u; rfl))
        | (apply goV_eqAd (by intro u; rfl) _ _ rfl hT hp.1 hE (by intro u; rfl) (by intro u; rfl))
      try simp only [Act.put, List.setIfInBounds_toArray, List.set_cons_zero, List.set_cons_succ]
      first
        | (apply goV_skip (by intro u; rfl))
        | (apply goV_val _ (by intro u; rfl); · (intro u w hSw hF; go_simp; try with_reducible rfl))
      try simp only [Act.put, List.setIfInBounds_toArray, List.set_cons_zero, List.set_cons_succ]
      first
        | (apply goV_skip (by intro u; rfl))
        | (apply goV_val _ (by intro u; rfl); · (intro u w hSw hF; go_simp; try with_reducible rfl))
      try simp only [Act.put, List.setIfInBounds_toArray, List.set_cons_zero, List.set_cons_succ]
      intro u w1 hx1 _
      go_wp2
      go_ret
      exact ⟨by rw [R.out]; rfl, hx.trans hx1⟩
    | true =>
      rw [hvaa] at C2 R0
      by_cases hf : fp = fa
      · have hfb : (fp == fa) = true := by rw [beq_iff_eq]; exact hf
        cases hE : decide (truncA a n = p.1) with
        | false =>
          have R : Hid (containsP p a = false) := Lib.hid (by rw [R0.out, hE, decide_eq_true hf]; rfl)
          clear R0 hvaa hf
          generalize truncA a n = T at *
          refine wp_region_rg w0 (by kernel_rfl) (by kernel_rfl) (Ext.refl _) ?_
          first
            | (apply goV_skip (by intro u; rfl))
            | (apply goV_loadP (by intro u; rfl) _ rfl hp hP (by intro u; rfl))
          try simp only [Act.put, List.setIfInBounds_toArray, List.set_cons_zero, List.set_cons_succ]
          first
            | (apply goV_skip (by intro u; rfl))
            | (apply goV_call (by intro u; rfl) C1; · (intro u w hSw hF; go_simp; try with_reducible rfl))
          try simp only [Act.put, List.setIfInBounds_toArray, List.set_cons_zero, List.set_cons_succ]
          first
            | (apply goV_skip (by intro u; rfl))
            | (apply goV_val _ (by intro u; rfl); · (intro u w hSw hF; go_simp; try with_reducible rfl))
          try simp only [Act.put, List.setIfInBounds_toArray, List.set_cons_zero, List.set_cons_succ]
          first
            | (apply goV_skip (by intro u; rfl))
            | (apply goV_loadA (by intro u; rfl) _ rfl ha hA (by intro u; rfl))
          try simp only [Act.put, List.setIfInBounds_toArray, List.set_cons_zero, List.set_cons_succ]
          first
            | (apply goV_skip (by intro u; rfl))
            | (apply goV_call (by intro u; rfl) C2; · (intro u w hSw hF; go_simp; try with_reducible rfl))
          try simp only [Act.put, List.setIfInBounds_toArray, List.set_cons_zero, List.set_cons_succ]
          first
            | (apply goV_skip (by intro u; rfl))
            | (apply goV_val _ (by intro u; rfl); · (intro u w hSw hF; go_simp; try with_reducible rfl))
          try simp only [Act.put, List.setIfInBounds_toArray, List.set_cons_zero, List.set_cons_succ]
          first
            | (apply goV_skip (by intro u; rfl))
            | (apply goV_val _ (by intro u; rfl); · (intro u w hSw hF; go_simp; try with_reducible rfl))
          try simp only [Act.put, List.setIfInBounds_toArray, List.set_cons_zero, List.set_cons_succ]
          first
            | (apply goV_skip (by intro u; rfl))
            | (apply goV_val _ (by intro u; rfl); · (intro u w hSw hF; go_simp; try with_reducible rfl))
          try simp only [Act.put, List.setIfInBounds_toArray, List.set_cons_zero, List.set_cons_succ]
          first
            | (apply goV_skip (by intro u; rfl))
            | (apply goV_val _ (by intro u; rfl); · (intro u w hSw hF; go_simp; try with_reducible rfl))
          try simp only [Act.put, List.setIfInBounds_toArray, List.set_cons_zero, List.set_cons_succ]
          first
            | (apply goV_skip (by intro u; rfl))
            | (apply goV_val (.bool fp) (by intro u; rfl); · (intro u w hSw hF; have c0 := F1 w hSw; go_simp))
          try simp only [Act.put, List.setIfInBounds_toArray, List.set_cons_zero, List.set_cons_succ]
          first
            | (apply goV_skip (by intro u; rfl))
            | (apply goV_val _ (by intro u; rfl); · (intro u w hSw hF; go_simp; try with_reducible rfl))
          try simp only [Act.put, List.setIfInBounds_toArray, List.set_cons_zero, List.set_cons_succ]
          first
            | (apply goV_skip (by intro u; rfl))
            | (apply goV_val (.bool fa) (by intro u; rfl); · (intro u w hSw hF; have c0 := F2 w hSw; go_simp))
          try simp only [Act.put, List.setIfInBounds_toArray, List.set_cons_zero, List.set_cons_succ]
          first
            | (apply goV_skip (by intro u; rfl))
            | (apply goV_val _ (by intro u; rfl); · (intro u w hSw hF; go_simp; try with_reducible rfl))
          try simp only [Act.put, List.setIfInBounds_toArray, List.set_cons_zero, List.set_cons_succ]
          first
            | (apply goV_skip (by intro u; rfl))
            | (apply goV_val _ (by intro u; rfl); · (intro u w hSw hF; go_simp; try with_reducible rfl))
          try simp only [Act.put, List.setIfInBounds_toArray, List.set_cons_zero, List.set_cons_succ]
          first
            | (apply goV_skip (by intro u; rfl))
            | (apply goV_val _ (by intro u; rfl); · (intro u w hSw hF; go_simp; try with_reducible rfl))
          try simp only [Act.put, List.setIfInBounds_toArray, List.set_cons_zero, List.set_cons_succ]
          first
            | (apply goV_skip (by intro u; rfl))
            | (apply goV_loadA (by intro u; rfl) _ rfl ha hA (by intro u; rfl))
          try simp only [Act.put, List.setIfInBounds_toArray, List.set_cons_zero, List.set_cons_succ]
          first
            | (apply goV_skip (by intro u; rfl))
            | (apply goV_val _ (by intro u; rfl); · (intro u w hSw hF; go_simp; try with_reducible rfl))
          try simp only [Act.put, List.setIfInBounds_toArray, List.set_cons_zero, List.set_cons_succ]
          first
            | (apply goV_skip (by intro u; rfl))
            | (apply goV_val (.int .i64 n) (by intro u; rfl); · (intro u w hSw hF; have c0 := F3 w hSw; go_simp))
          try simp only [Act.put, List.setIfInBounds_toArray, List.set_cons_zero, List.set_cons_succ]
          first
            | (apply goV_skip (by intro u; rfl))
            | (apply goV_call (by intro u; rfl) C3; · (intro u w hSw hF; go_simp; try with_reducible rfl))
          try simp only [Act.put, List.setIfInBounds_toArray, List.set_cons_zero, List.set_cons_succ]
          first
            | (apply goV_skip (by intro u; rfl))
            | (apply goV_val _ (by intro u; rfl); · (intro u w hSw hF; go_simp; try with_reducible rfl))
          try simp only [Act.put, List.setIfInBounds_toArray, List.set_cons_zero, List.set_cons_succ]
          first
            | (apply goV_skip (by intro u; rfl))
            | (apply goV_loadPA (by intro u; rfl) _ rfl hp hP (by intro u; rfl))
          try simp only [Act.put, List.setIfInBounds_toArray, List.set_cons_zero, List.set_cons_succ]
          first
            | (apply goV_skip (by intro u; rfl))
            | (apply goV_eqAd (by intro u; rfl) _ _ rfl hT hp.1 hE (by intro u; rfl) (by intro u; rfl))
          try simp only [Act.put, List.setIfInBounds_toArray, List.set_cons_zero, List.set_cons_succ]
          first
            | (apply goV_skip (by intro u; rfl))
            | (apply goV_val _ (by intro u; rfl); · (intro u w hSw hF; go_simp; try with_reducible rfl))
          try simp only [Act.put, List.setIfInBounds_toArray, List.set_cons_zero, List.set_cons_succ]
          first
            | (apply goV_skip (by intro u; rfl))
            | (apply goV_val _ (by intro u; rfl); · (intro u w hSw hF; go_simp; try with_reducible rfl))
          try simp only [Act.put, List.setIfInBounds_toArray, List.set_cons_zero, List.set_cons_succ]
          intro u w1 hx1 _
          go_wp2
          go_ret
          exact ⟨by rw [R.out]; rfl, hx.trans hx1⟩
        | true =>
          have R : Hid (containsP p a = true) := Lib.hid (by rw [R0.out, hE, decide_eq_true hf]; rfl)
          clear R0 hvaa hf
          generalize truncA a n = T at *
          refine wp_region_rg w0 (by kernel_rfl) (by kernel_rfl) (Ext.refl _) ?_
          first
            | (apply goV_skip (by intro u; rfl))
            | (apply goV_loadP (by intro u; rfl) _ rfl hp hP (by intro u; rfl))
          try simp only [Act.put, List.setIfInBounds_toArray, List.set_cons_zero, List.set_cons_succ]
          first
            | (apply goV_skip (by intro u; rfl))
            | (apply goV_call (by intro u; rfl) C1; · (intro u w hSw hF; go_simp; try with_reducible rfl))
          try simp only [Act.put, List.setIfInBounds_toArray, List.set_cons_zero, List.set_cons_succ]
          first
            | (apply goV_skip (by intro u; rfl))
            | (apply goV_val _ (by intro u; rfl); · (intro u w hSw hF; go_simp; try with_reducible rfl))
          try simp only [Act.put, List.setIfInBounds_toArray, List.set_cons_zero, List.set_cons_succ]
          first
            | (apply goV_skip (by intro u; rfl))
            | (apply goV_loadA (by intro u; rfl) _ rfl ha hA (by intro u; rfl))
          try simp only [Act.put, List.setIfInBounds_toArray, List.set_cons_zero, List.set_cons_succ]
          first
            | (apply goV_skip (by intro u; rfl))
            | (apply goV_call (by intro u; rfl) C2; · (intro u w hSw hF; go_simp; try with_reducible rfl))
          try simp only [Act.put, List.setIfInBounds_toArray, List.set_cons_zero, List.set_cons_succ]
          first
            | (apply goV_skip (by intro u; rfl))
            | (apply goV_val _ (by intro u; rfl); · (intro u w hSw hF; go_simp; try with_reducible rfl))
          try simp only [Act.put, List.setIfInBounds_toArray, List.set_cons_zero, List.set_cons_succ]
          first
            | (apply goV_skip (by intro u; rfl))
            | (apply goV_val _ (by intro u; rfl); · (intro u w hSw hF; go_simp; try with_reducible rfl))
          try simp only [Act.put, List.setIfInBounds_toArray, List.set_cons_zero, List.set_cons_succ]
          first
            | (apply goV_skip (by intro u; rfl))
            | (apply goV_val _ (by intro u; rfl); · (intro u w hSw hF; go_simp; try with_reducible rfl))
          try simp only [Act.put, List.setIfInBounds_toArray, List.set_cons_zero, List.set_cons_succ]
          first
            | (apply goV_skip (by intro u; rfl))
            | (apply goV_val _ (by intro u; rfl); · (intro u w hSw hF; go_simp; try with_reducible rfl))
          try simp only [Act.put, List.setIfInBounds_toArray, List.set_cons_zero, List.set_cons_succ]
          first
            | (apply goV_skip (by intro u; rfl))
            | (apply goV_val (.bool fp) (by intro u; rfl); · (intro u w hSw hF; have c0 := F1 w hSw; go_simp))
          try simp only [Act.put, List.setIfInBounds_toArray, List.set_cons_zero, List.set_cons_succ]
          first
            | (apply goV_skip (by intro u; rfl))
            | (apply goV_val _ (by intro u; rfl); · (intro u w hSw hF; go_simp; try with_reducible rfl))
          try simp only [Act.put, List.setIfInBounds_toArray, List.set_cons_zero, List.set_cons_succ]
          first
            | (apply goV_skip (by intro u; rfl))
            | (apply goV_val (.bool fa) (by intro u; rfl); · (intro u w hSw hF; have c0 := F2 w hSw; go_simp))
          try simp only [Act.put, List.setIfInBounds_toArray, List.set_cons_zero, List.set_cons_succ]
          first
            | (apply goV_skip (by intro u; rfl))
            | (apply goV_val _ (by intro u; rfl); · (intro u w hSw hF; go_simp; try with_reducible rfl))
          try simp only [Act.put, List.setIfInBounds_toArray, List.set_cons_zero, List.set_cons_succ]
          first
            | (apply goV_skip (by intro u; rfl))
            | (apply goV_val _ (by intro u; rfl); · (intro u w hSw hF; go_simp; try with_reducible rfl))
          try simp only [Act.put, List.setIfInBounds_toArray, List.set_cons_zero, List.set_cons_succ]
          first
            | (apply goV_skip (by intro u; rfl))
            | (apply goV_val _ (by intro u; rfl); · (intro u w hSw hF; go_simp; try with_reducible rfl))
          try simp only [Act.put, List.setIfInBounds_toArray, List.set_cons_zero, List.set_cons_succ]
          first
            | (apply goV_skip (by intro u; rfl))
            | (apply goV_loadA (by intro u; rfl) _ rfl ha hA (by intro u; rfl))
          try simp only [Act.put, List.setIfInBounds_toArray, List.set_cons_zero, List.set_cons_succ]
          first
            | (apply goV_skip (by intro u; rfl))
            | (apply goV_val _ (by intro u; rfl); · (intro u w hSw hF; go_simp; try with_reducible rfl))
          try simp only [Act.put, List.setIfInBounds_toArray, List.set_cons_zero, List.set_cons_succ]
          first
            | (apply goV_skip (by intro u; rfl))
            | (apply goV_val (.int .i64 n) (by intro u; rfl); · (intro u w hSw hF; have c0 := F3 w hSw; go_simp))
          try simp only [Act.put, List.setIfInBounds_toArray, List.set_cons_zero, List.set_cons_succ]
          first
            | (apply goV_skip (by intro u; rfl))
            | (apply goV_call (by intro u; rfl) C3; · (intro u w hSw hF; go_simp; try with_reducible rfl))
          try simp only [Act.put, List.setIfInBounds_toArray, List.set_cons_zero, List.set_cons_succ]
          first
            | (apply goV_skip (by intro u; rfl))
            | (apply goV_val _ (by intro u; rfl); · (intro u w hSw hF; go_simp; try with_reducible rfl))
          try simp only [Act.put, List.setIfInBounds_toArray, List.set_cons_zero, List.set_cons_succ]
          first
            | (apply goV_skip (by intro u; rfl))
            | (apply goV_loadPA (by intro u; rfl) _ rfl hp hP (by intro u; rfl))
          try simp only [Act.put, List.setIfInBounds_toArray, List.set_cons_zero, List.set_cons_succ]
          first
            | (apply goV_skip (by intro u; rfl))
            | (apply goV_eqAd (by intro u; rfl) _ _ rfl hT hp.1 hE (by intro u; rfl) (by intro u; rfl))
          try simp only [Act.put, List.setIfInBounds_toArray, List.set_cons_zero, List.set_cons_succ]
          first
            | (apply goV_skip (by intro u; rfl))
            | (apply goV_val _ (by intro u; rfl); · (intro u w hSw hF; go_simp; try with_reducible rfl))
          try simp only [Act.put, List.setIfInBounds_toArray, List.set_cons_zero, List.set_cons_succ]
          first
            | (apply goV_skip (by intro u; rfl))
            | (apply goV_val _ (by intro u; rfl); · (intro u w hSw hF; go_simp; try with_reducible rfl))
          try simp only [Act.put, List.setIfInBounds_toArray, List.set_cons_zero, List.set_cons_succ]
          intro u w1 hx1 _
          go_wp2
          go_ret
          exact ⟨by rw [R.out]; rfl, hx.trans hx1⟩
      · have hfb : (fp == fa) = false := by rw [beq_eq_false_iff_ne]; exact hf
        have R : Hid (containsP p a = false) := Lib.hid (by rw [R0.out, decide_eq_false hf]; simp)
        clear R0 hvaa hf
        have hE : decide (truncA a n = p.1) = decide (truncA a n = p.1) := rfl
        refine wp_region_rg w0 (by kernel_rfl) (by kernel_rfl) (Ext.refl _) ?_
        first
          | (apply goV_skip (by intro u; rfl))
          | (apply goV_loadP (by intro u; rfl) _ rfl hp hP (by intro u; rfl))
        try simp only [Act.put, List.setIfInBounds_toArray, List.set_cons_zero, List.set_cons_succ]
        first
          | (apply goV_skip (by intro u; rfl))
          | (apply goV_call (by intro u; rfl) C1; · (intro u w hSw hF; go_simp; try with_reducible rfl))
        try simp only [Act.put, List.setIfInBounds_toArray, List.set_cons_zero, List.set_cons_succ]
        first
          | (apply goV_skip (by intro u; rfl))
          | (apply goV_val _ (by intro u; rfl); · (intro u w hSw hF; go_simp; try with_reducible rfl))
        try simp only [Act.put, List.setIfInBounds_toArray, List.set_cons_zero, List.set_cons_succ]
        first
          | (apply goV_skip (by intro u; rfl))
          | (apply goV_loadA (by intro u; rfl) _ rfl ha hA (by intro u; rfl))
        try simp only [Act.put, List.setIfInBounds_toArray, List.set_cons_zero, List.set_cons_succ]
        first
          | (apply goV_skip (by intro u; rfl))
          | (apply goV_call (by intro u; rfl) C2; · (intro u w hSw hF; go_simp; try with_reducible rfl))
        try simp only [Act.put, List.setIfInBounds_toArray, List.set_cons_zero, List.set_cons_succ]
        first
          | (apply goV_skip (by intro u; rfl))
          | (apply goV_val _ (by intro u; rfl); · (intro u w hSw hF; go_simp; try with_reducible rfl))
        try simp only [Act.put, List.setIfInBounds_toArray, List.set_cons_zero, List.set_cons_succ]
        first
          | (apply goV_skip (by intro u; rfl))
          | (apply goV_val _ (by intro u; rfl); · (intro u w hSw hF; go_simp; try with_reducible rfl))
        try simp only [Act.put, List.setIfInBounds_toArray, List.set_cons_zero, List.set_cons_succ]
        first
          | (apply goV_skip (by intro u; rfl))
          | (apply goV_val _ (by intro u; rfl); · (intro u w hSw hF; go_simp; try with_reducible rfl))
        try simp only [Act.put, List.setIfInBounds_toArray, List.set_cons_zero, List.set_cons_succ]
        first
          | (apply goV_skip (by intro u; rfl))
          | (apply goV_val _ (by intro u; rfl); · (intro u w hSw hF; go_simp; try with_reducible rfl))
        try simp only [Act.put, List.setIfInBounds_toArray, List.set_cons_zero, List.set_cons_succ]
        first
          | (apply goV_skip (by intro u; rfl))
          | (apply goV_val (.bool fp) (by intro u; rfl); · (intro u w hSw hF; have c0 := F1 w hSw; go_simp))
        try simp only [Act.put, List.setIfInBounds_toArray, List.set_cons_zero, List.set_cons_succ]
        first
          | (apply goV_skip (by intro u; rfl))
          | (apply goV_val _ (by intro u; rfl); · (intro u w hSw hF; go_simp; try with_reducible rfl))
        try simp only [Act.put, List.setIfInBounds_toArray, List.set_cons_zero, List.set_cons_succ]
        first
          | (apply goV_skip (by intro u; rfl))
          | (apply goV_val (.bool fa) (by intro u; rfl); · (intro u w hSw hF; have c0 := F2 w hSw; go_simp))
        try simp only [Act.put, List.setIfInBounds_toArray, List.set_cons_zero, List.set_cons_succ]
        first
          | (apply goV_skip (by intro u; rfl))
          | (apply goV_val _ (by intro u; rfl); · (intro u w hSw hF; go_simp; try with_reducible rfl))
        try simp only [Act.put, List.setIfInBounds_toArray, List.set_cons_zero, List.set_cons_succ]
        first
          | (apply goV_skip (by intro u; rfl))
          | (apply goV_val _ (by intro u; rfl); · (intro u w hSw hF; go_simp; try with_reducible rfl))
        try simp only [Act.put, List.setIfInBounds_toArray, List.set_cons_zero, List.set_cons_succ]
        first
          | (apply goV_skip (by intro u; rfl))
          | (apply goV_val _ (by intro u; rfl); · (intro u w hSw hF; go_simp; try with_reducible rfl))
        try simp only [Act.put, List.setIfInBounds_toArray, List.set_cons_zero, List.set_cons_succ]
        first
          | (apply goV_skip (by intro u; rfl))
          | (apply goV_loadA (by intro u; rfl) _ rfl ha hA (by intro u; rfl))
        try simp only [Act.put, List.setIfInBounds_toArray, List.set_cons_zero, List.set_cons_succ]
        first
          | (apply goV_skip (by intro u; rfl))
          | (apply goV_val _ (by intro u; rfl); · (intro u w hSw hF; go_simp; try with_reducible rfl))
        try simp only [Act.put, List.setIfInBounds_toArray, List.set_cons_zero, List.set_cons_succ]
        first
          | (apply goV_skip (by intro u; rfl))
          | (apply goV_val (.int .i64 n) (by intro u; rfl); · (intro u w hSw hF; have c0 := F3 w hSw; go_simp))
        try simp only [Act.put, List.setIfInBounds_toArray, List.set_cons_zero, List.set_cons_succ]
        first
          | (apply goV_skip (by intro u; rfl))
          | (apply goV_call (by intro u; rfl) C3; · (intro u w hSw hF; go_simp; try with_reducible rfl))
        try simp only [Act.put, List.setIfInBounds_toArray, List.set_cons_zero, List.set_cons_succ]
        first
          | (apply goV_skip (by intro u; rfl))
          | (apply goV_val _ (by intro u; rfl); · (intro u w hSw hF; go_simp; try with_reducible rfl))
        try simp only [Act.put, List.setIfInBounds_toArray, List.set_cons_zero, List.set_cons_succ]
        first
          | (apply goV_skip (by intro u; rfl))
          | (apply goV_loadPA (by intro u; rfl) _ rfl hp hP (by intro u; rfl))
        try simp only [Act.put, List.setIfInBounds_toArray, List.set_cons_zero, List.set_cons_succ]
        first
          | (apply goV_skip (by intro u; rfl))
          | (apply goV_eqAd (by intro u; rfl) _ _ rfl hT hp.1 hE (by intro u; rfl) (by intro u; rfl))
        try simp only [Act.put, List.setIfInBounds_toArray, List.set_cons_zero, List.set_cons_succ]
        first
          | (apply goV_skip (by intro u; rfl))
          | (apply goV_val _ (by intro u; rfl); · (intro u w hSw hF; go_simp; try with_reducible rfl))
        try simp only [Act.put, List.setIfInBounds_toArray, List.set_cons_zero, List.set_cons_succ]
        first
          | (apply goV_skip (by intro u; rfl))
          | (apply goV_val _ (by intro u; rfl); · (intro u w hSw hF; go_simp; try with_reducible rfl))
        try simp only [Act.put, List.setIfInBounds_toArray, List.set_cons_zero, List.set_cons_succ]
        intro u w1 hx1 _
        go_wp2
        go_ret
        exact ⟨by rw [R.out]; rfl, hx.trans hx1⟩
set_option maxRecDepth 8000 in
set_option maxHeartbeats 4000000 in
theorem ccovers_any (p q : Pfx) (hp : okP p) (hq : okP q) (w : World) :
    Calls Tryz.prog 12 #[pv p, pv q] w fun e w' => e = .returned (.bool (coversP p q)) ∧ Ext w w' := by
  unfold pv
  go_enter Tryz.func12, Tryz.ntmps12
  go_upto_region 1 with fail
  have hx := ((Ext.refl w).alloc (.cells (pc p) 26)).alloc (.cells (pc q) 26)
  have hb1 := (Blk.new w (pc p) 26).ext ((Ext.refl _).alloc (.cells (pc q) 26))
  have hb2 := Blk.new (w.alloc (.cells (pc p) 26)) (pc q) 26
  rw [World.size_alloc] at hb2
  generalize (w.alloc (.cells (pc p) 26)).alloc (.cells (pc q) 26) = w0 at *
  generalize hbw : w.heap.size = b at *
  replace hbw := Nat.le_of_eq hbw
  have hP : ∀ w', Ext w0 w' → PBlk w' b p := fun w' h => hb1.ext h
  have hQ : ∀ w', Ext w0 w' → PBlk w' (b + 1) q := fun w' h => hb2.ext h
  have F1 := fun (w' : World) (h : Ext w0 w') => PBlk.bits hp (hP w' h)
  have F2 := fun (w' : World) (h : Ext w0 w') => PBlk.bits hq (hQ w' h)
  have C1 := fun (w' : World) (h : Ext w0 w') => cvalid_any q hq w'
  have C2 := fun (w' : World) (h : Ext w0 w') => ccontains_any p q.1 hp hq.1 w'
  have R0 : Hid (coversP p q = (validP q && decide (p.2 ≤ q.2) && containsP p q.1)) := Lib.hid rfl
  clear hb1 hb2
  generalize p.2 = n at *
  generalize q.2 = m at *
  generalize containsP p q.1 = cc at *
  cases hva : validP q with
  | false =>
    rw [hva] at C1 R0
    have R : Hid (coversP p q = false) := Lib.hid (by rw [R0.out]; rfl)
    clear R0 hva
    refine wp_region_rgs ?_
    first
      | (apply goV_skip (by intro u; rfl))
      | (apply goV_loadP (by intro u; rfl) _ rfl hq hQ (by intro u; rfl))
    try simp only [Act.put, List.setIfInBounds_toArray, List.set_cons_zero, List.set_cons_succ]
    first
      | (apply goV_skip (by intro u; rfl))
      | (apply goV_call (by intro u; rfl) C1; · (intro u w hSw hF; go_simp; try with_reducible rfl))
    try simp only [Act.put, List.setIfInBounds_toArray, List.set_cons_zero, List.set_cons_succ]
    first
      | (apply goV_skip (by intro u; rfl))
      | (apply goV_val _ (by intro u; rfl); · (intro u w hSw hF; go_simp; try with_reducible rfl))
    try simp only [Act.put, List.setIfInBounds_toArray, List.set_cons_zero, List.set_cons_succ]
    first
      | (apply goV_skip (by intro u; rfl))
      | (apply goV_val _ (by intro u; rfl); · (intro u w hSw hF; go_simp; try with_reducible rfl))
    try simp only [Act.put, List.setIfInBounds_toArray, List.set_cons_zero, List.set_cons_succ]
    first
      | (apply goV_skip (by intro u; rfl))
      | (apply goV_val (.int .i64 m) (by intro u; rfl); · (intro u w hSw hF; have c0 := F2 w hSw; go_simp))
    try simp only [Act.put, List.setIfInBounds_toArray, List.set_cons_zero, List.set_cons_succ]
    first
      | (apply goV_skip (by intro u; rfl))
      | (apply goV_val _ (by intro u; rfl); · (intro u w hSw hF; go_simp; try with_reducible rfl))
    try simp only [Act.put, List.setIfInBounds_toArray, List.set_cons_zero, List.set_cons_succ]
    first
      | (apply goV_skip (by intro u; rfl))
      | (apply goV_val (.int .i64 n) (by intro u; rfl); · (intro u w hSw hF; have c0 := F1 w hSw; go_simp))
    try simp only [Act.put, List.setIfInBounds_toArray, List.set_cons_zero, List.set_cons_succ]
    first
      | (apply goV_skip (by intro u; rfl))
      | (apply goV_val _ (by intro u; rfl); · (intro u w hSw hF; go_simp; try with_reducible rfl))
    try simp only [Act.put, List.setIfInBounds_toArray, List.set_cons_zero, List.set_cons_succ]
    first
      | (apply goV_skip (by intro u; rfl))
      | (apply goV_val _ (by intro u; rfl); · (intro u w hSw hF; go_simp; try with_reducible rfl))
    try simp only [Act.put, List.setIfInBounds_toArray, List.set_cons_zero, List.set_cons_succ]
    first
      | (apply goV_skip (by intro u; rfl))
      | (apply goV_val _ (by intro u; rfl); · (intro u w hSw hF; go_simp; try with_reducible rfl))
    try simp only [Act.put, List.setIfInBounds_toArray, List.set_cons_zero, List.set_cons_succ]
    first
      | (apply goV_skip (by intro u; rfl))
      | (apply goV_loadP (by intro u; rfl) _ rfl hp hP (by intro u; rfl))
    try simp only [Act.put, List.setIfInBounds_toArray, List.set_cons_zero, List.set_cons_succ]
    first
      | (apply goV_skip (by intro u; rfl))
      | (apply goV_val _ (by intro u; rfl); · (intro u w hSw hF; go_simp; try with_reducible rfl))
    try simp only [Act.put, List.setIfInBounds_toArray, List.set_cons_zero, List.set_cons_succ]
    first
      | (apply goV_skip (by intro u; rfl))
      | (apply goV_loadPA (by intro u; rfl) _ rfl hq hQ (by intro u; rfl))
    try simp only [Act.put, List.setIfInBounds_toArray, List.set_cons_zero, List.set_cons_succ]
    first
      | (apply goV_skip (by intro u; rfl))
      | (apply goV_call (by intro u; rfl) C2; · (intro u w hSw hF; go_simp; try with_reducible rfl))
    try simp only [Act.put, List.setIfInBounds_toArray, List.set_cons_zero, List.set_cons_succ]
    first
      | (apply goV_skip (by intro u; rfl))
      | (apply goV_val _ (by intro u; rfl); · (intro u w hSw hF; go_simp; try with_reducible rfl))
    try simp only [Act.put, List.setIfInBounds_toArray, List.set_cons_zero, List.set_cons_succ]
    first
      | (apply goV_skip (by intro u; rfl))
      | (apply goV_val _ (by intro u; rfl); · (intro u w hSw hF; go_simp; try with_reducible rfl))
    try simp only [Act.put, List.setIfInBounds_toArray, List.set_cons_zero, List.set_cons_succ]
    intro u w1 hx1 _
    go_wp2
    go_ret
    exact ⟨by rw [R.out]; rfl, hx.trans hx1⟩
  | true =>
    rw [hva] at C1 R0
    by_cases h : n ≤ m
    · have d : decide (n ≤ m) = true := decide_eq_true h
      have R : Hid (coversP p q = cc) := Lib.hid (by rw [R0.out, d]; rfl)
      clear R0 hva
      refine wp_region_rgs ?_
      first
        | (apply goV_skip (by intro u; rfl))
        | (apply goV_loadP (by intro u; rfl) _ rfl hq hQ (by intro u; rfl))
      try simp only [Act.put, List.setIfInBounds_toArray, List.set_cons_zero, List.set_cons_succ]
      first
        | (apply goV_skip (by intro u; rfl))
        | (apply goV_call (by intro u; rfl) C1; · (intro u w hSw hF; go_simp; try with_reducible rfl))
      try simp only [Act.put, List.setIfInBounds_toArray, List.set_cons_zero, List.set_cons_succ]
      first
        | (apply goV_skip (by intro u; rfl))
        | (apply goV_val _ (by intro u; rfl); · (intro u w hSw hF; go_simp; try with_reducible rfl))
      try simp only [Act.put, List.setIfInBounds_toArray, List.set_cons_zero, List.set_cons_succ]
      first
        | (apply goV_skip (by intro u; rfl))
        | (apply goV_val _ (by intro u; rfl); · (intro u w hSw hF; go_simp; try with_reducible rfl))
      try simp only [Act.put, List.setIfInBounds_toArray, List.set_cons_zero, List.set_cons_succ]
      first
        | (apply goV_skip (by intro u; rfl))
        | (apply goV_val (.int .i64 m) (by intro u; rfl); · (intro u w hSw hF; have c0 := F2 w hSw; go_simp))
      try simp only [Act.put, List.setIfInBounds_toArray, List.set_cons_zero, List.set_cons_succ]
      first
        | (apply goV_skip (by intro u; rfl))
        | (apply goV_val _ (by intro u; rfl); · (intro u w hSw hF; go_simp; try with_reducible rfl))
      try simp only [Act.put, List.setIfInBounds_toArray, List.set_cons_zero, List.set_cons_succ]
      first
        | (apply goV_skip (by intro u; rfl))
        | (apply goV_val (.int .i64 n) (by intro u; rfl); · (intro u w hSw hF; have c0 := F1 w hSw; go_simp))
      try simp only [Act.put, List.setIfInBounds_toArray, List.set_cons_zero, List.set_cons_succ]
      first
        | (apply goV_skip (by intro u; rfl))
        | (apply goV_val _ (by intro u; rfl); · (intro u w hSw hF; go_simp; try with_reducible rfl))
      try simp only [Act.put, List.setIfInBounds_toArray, List.set_cons_zero, List.set_cons_succ]
      first
        | (apply goV_skip (by intro u; rfl))
        | (apply goV_val _ (by intro u; rfl); · (intro u w hSw hF; go_simp; try with_reducible rfl))
      try simp only [Act.put, List.setIfInBounds_toArray, List.set_cons_zero, List.set_cons_succ]
      first
        | (apply goV_skip (by intro u; rfl))
        | (apply goV_val _ (by intro u; rfl); · (intro u w hSw hF; go_simp; try with_reducible rfl))
      try simp only [Act.put, List.setIfInBounds_toArray, List.set_cons_zero, List.set_cons_succ]
      first
        | (apply goV_skip (by intro u; rfl))
        | (apply goV_loadP (by intro u; rfl) _ rfl hp hP (by intro u; rfl))
      try simp only [Act.put, List.setIfInBounds_toArray, List.set_cons_zero, List.set_cons_succ]
      first
        | (apply goV_skip (by intro u; rfl))
        | (apply goV_val _ (by intro u; rfl); · (intro u w hSw hF; go_simp; try with_reducible rfl))
      try simp only [Act.put, List.setIfInBounds_toArray, List.set_cons_zero, List.set_cons_succ]
      first
        | (apply goV_skip (by intro u; rfl))
        | (apply goV_loadPA (by intro u; rfl) _ rfl hq hQ (by intro u; rfl))
      try simp only [Act.put, List.setIfInBounds_toArray, List.set_cons_zero, List.set_cons_succ]
      first
        | (apply goV_skip (by intro u; rfl))
        | (apply goV_call (by intro u; rfl) C2; · (intro u w hSw hF; go_simp; try with_reducible rfl))
      try simp only [Act.put, List.setIfInBounds_toArray, List.set_cons_zero, List.set_cons_succ]
      first
        | (apply goV_skip (by intro u; rfl))
        | (apply goV_val _ (by intro u; rfl); · (intro u w hSw hF; go_simp; try with_reducible rfl))
      try simp only [Act.put, List.setIfInBounds_toArray, List.set_cons_zero, List.set_cons_succ]
      first
        | (apply goV_skip (by intro u; rfl))
        | (apply goV_val _ (by intro u; rfl); · (intro u w hSw hF; go_simp; try with_reducible rfl))
      try simp only [Act.put, List.setIfInBounds_toArray, List.set_cons_zero, List.set_cons_succ]
      intro u w1 hx1 _
      go_wp2
      go_ret
      exact ⟨by rw [R.out]; rfl, hx.trans hx1⟩
    · have d : decide (n ≤ m) = false := decide_eq_false h
      have R : Hid (coversP p q = false) := Lib.hid (by rw [R0.out, d]; rfl)
      clear R0 hva
      refine wp_region_rgs ?_
      first
        | (apply goV_skip (by intro u; rfl))
        | (apply goV_loadP (by intro u; rfl) _ rfl hq hQ (by intro u; rfl))
      try simp only [Act.put, List.setIfInBounds_toArray, List.set_cons_zero, List.set_cons_succ]
      first
        | (apply goV_skip (by intro u; rfl))
        | (apply goV_call (by intro u; rfl) C1; · (intro u w hSw hF; go_simp; try with_reducible rfl))
      try simp only [Act.put, List.setIfInBounds_toArray, List.set_cons_zero, List.set_cons_succ]
      first
        | (apply goV_skip (by intro u; rfl))
        | (apply goV_val _ (by intro u; rfl); · (intro u w hSw hF; go_simp; try with_reducible rfl))
      try simp only [Act.put, List.setIfInBounds_toArray, List.set_cons_zero, List.set_cons_succ]
      first
        | (apply goV_skip (by intro u; rfl))
        | (apply goV_val _ (by intro u; rfl); · (intro u w hSw hF; go_simp; try with_reducible rfl))
      try simp only [Act.put, List.setIfInBounds_toArray, List.set_cons_zero, List.set_cons_succ]
      first
        | (apply goV_skip (by intro u; rfl))
        | (apply goV_val (.int .i64 m) (by intro u; rfl); · (intro u w hSw hF; have c0 := F2 w hSw; go_simp))
      try simp only [Act.put, List.setIfInBounds_toArray, List.set_cons_zero, List.set_cons_succ]
      first
        | (apply goV_skip (by intro u; rfl))
        | (apply goV_val _ (by intro u; rfl); · (intro u w hSw hF; go_simp; try with_reducible rfl))
      try simp only [Act.put, List.setIfInBounds_toArray, List.set_cons_zero, List.set_cons_succ]
      first
        | (apply goV_skip (by intro u; rfl))
        | (apply goV_val (.int .i64 n) (by intro u; rfl); · (intro u w hSw hF; have c0 := F1 w hSw; go_simp))
      try simp only [Act.put, List.setIfInBounds_toArray, List.set_cons_zero, List.set_cons_succ]
      first
        | (apply goV_skip (by intro u; rfl))
        | (apply goV_val _ (by intro u; rfl); · (intro u w hSw hF; go_simp; try with_reducible rfl))
      try simp only [Act.put, List.setIfInBounds_toArray, List.set_cons_zero, List.set_cons_succ]
      first
        | (apply goV_skip (by intro u; rfl))
        | (apply goV_val _ (by intro u; rfl); · (intro u w hSw hF; go_simp; try with_reducible rfl))
      try simp only [Act.put, List.setIfInBounds_toArray, List.set_cons_zero, List.set_cons_succ]
      first
        | (apply goV_skip (by intro u; rfl))
        | (apply goV_val _ (by intro u; rfl); · (intro u w hSw hF; go_simp; try with_reducible rfl))
      try simp only [Act.put, List.setIfInBounds_toArray, List.set_cons_zero, List.set_cons_succ]
      first
        | (apply goV_skip (by intro u; rfl))
        | (apply goV_loadP (by intro u; rfl) _ rfl hp hP (by intro u; rfl))
      try simp only [Act.put, List.setIfInBounds_toArray, List.set_cons_zero, List.set_cons_succ]
      first
        | (apply goV_skip (by intro u; rfl))
        | (apply goV_val _ (by intro u; rfl); · (intro u w hSw hF; go_simp; try with_reducible rfl))
      try simp only [Act.put, List.setIfInBounds_toArray, List.set_cons_zero, List.set_cons_succ]
      first
        | (apply goV_skip (by intro u; rfl))
        | (apply goV_loadPA (by intro u; rfl) _ rfl hq hQ (by intro u; rfl))
      try simp only [Act.put, List.setIfInBounds_toArray, List.set_cons_zero, List.set_cons_succ]
      first
        | (apply goV_skip (by intro u; rfl))
        | (apply goV_call (by intro u; rfl) C2; · (intro u w hSw hF; go_simp; try with_reducible rfl))
      try simp only [Act.put, List.setIfInBounds_toArray, List.set_cons_zero, List.set_cons_succ]
      first
        | (apply goV_skip (by intro u; rfl))
        | (apply goV_val _ (by intro u; rfl); · (intro u w hSw hF; go_simp; try with_reducible rfl))
      try simp only [Act.put, List.setIfInBounds_toArray, List.set_cons_zero, List.set_cons_succ]
      first
        | (apply goV_skip (by intro u; rfl))
        | (apply goV_val _ (by intro u; rfl); · (intro u w hSw hF; go_simp; try with_reducible rfl))
      try simp only [Act.put, List.setIfInBounds_toArray, List.set_cons_zero, List.set_cons_succ]
      intro u w1 hx1 _
      go_wp2
      go_ret
      exact ⟨by rw [R.out]; rfl, hx.trans hx1⟩
end Go.Proofs.YtbbdcodhgbgekaaGreatDoor
