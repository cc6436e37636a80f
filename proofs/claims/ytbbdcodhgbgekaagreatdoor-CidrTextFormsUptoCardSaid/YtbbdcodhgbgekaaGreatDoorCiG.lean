/-
  Contracts of the reference: Covers, PrefixOf.
-/
import Derived.Test.YtbbdcodhgbgekaaGreatDoorCiF
set_option linter.unusedSimpArgs false
set_option linter.unusedVariables false
namespace Go.Proofs.YtbbdcodhgbgekaaGreatDoor
open Go.RowKit
set_option maxRecDepth 8000 in
set_option maxHeartbeats 4000000 in
theorem rcovers_any (p q : Pfx) (hp : okP p) (hq : okP q) (w : World) :
    Calls Tryz.prog 13 #[pv p, pv q] w fun e w' => e = .returned (.bool (coversP p q)) ∧ Ext w w' := by
  unfold pv
  go_enter Tryz.func13, Tryz.ntmps13
  go_upto_region 1 with fail
  have hx := ((Ext.refl w).alloc (.cells (pc p) 26)).alloc (.cells (pc q) 26)
  have hb1 := (Blk.new w (pc p) 26).ext ((Ext.refl _).alloc (.cells (pc q) 26))
  have hb2 := Blk.new (w.alloc (.cells (pc p) 26)) (pc q) 26
  rw [World.size_alloc] at hb2
  generalize (w.alloc (.cells (pc p) 26)).alloc (.cells (pc q) 26) = w0 at *
  generalize hbw : w.heap.size = b at *
  replace hbw := Nat.le_of_eq hbw
  have hP : ∀ w', Ext w0 w' → PBlk w' b p := fun w' h => hb1.ext h
  have hQ : ∀ w', Ext w0 w' → PBlk w' (b + 1) q := fun w' h => hb2.ext h
  have F1 := fun (w' : World) (h : Ext w0 w') => PBlk.bits hp (hP w' h)
  have F2 := fun (w' : World) (h : Ext w0 w') => PBlk.bits hq (hQ w' h)
  have C1 := fun (w' : World) (h : Ext w0 w') => rvalid_any q hq w'
  have C2 := fun (w' : World) (h : Ext w0 w') => rcontains_any p q.1 hp hq.1 w'
  have R0 : Hid (coversP p q = (validP q && decide (p.2 ≤ q.2) && containsP p q.1)) := Lib.hid rfl
  clear hb1 hb2
  generalize p.2 = n at *
  generalize q.2 = m at *
  generalize containsP p q.1 = cc at *
  cases hva : validP q with
  | false =>
    rw [hva] at C1 R0
    have R : Hid (coversP p q = false) := Lib.hid (by rw [R0.out]; rfl)
    clear R0 hva
    refine wp_region_rgs ?_
    first
      | (apply goV_skip (by intro u; rfl))
      | (apply goV_loadP (by intro u; rfl) _ rfl hq hQ (by intro u; rfl))
    try simp only [Act.put, List.setIfInBounds_toArray, List.set_cons_zero, List.set_cons_succ]
    first
      | (apply goV_skip (by intro u; rfl))
      | (apply goV_call (by intro u; rfl) C1; · (intro u w hSw hF; go_simp; try with_reducible rfl))
    try simp only [Act.put, List.setIfInBounds_toArray, List.set_cons_zero, List.set_cons_succ]
    first
      | (apply goV_skip (by intro u; rfl))
      | (apply goV_val _ (by intro u; rfl); · (intro u w hSw hF; go_simp; try with_reducible rfl))
    try simp only [Act.put, List.setIfInBounds_toArray, List.set_cons_zero, List.set_cons_succ]
    first
      | (apply goV_skip (by intro u; rfl))
      | (apply goV_val _ (by intro u; rfl); · (intro u w hSw hF; go_simp; try with_reducible rfl))
    try simp only [Act.put, List.setIfInBounds_toArray, List.set_cons_zero, List.set_cons_succ]
    first
      | (apply goV_skip (by intro u; rfl))
      | (apply goV_val (.int .i64 m) (by intro u; rfl); · (intro u w hSw hF; have c0 := F2 w hSw; go_simp))
    try simp only [Act.put, List.setIfInBounds_toArray, List.set_cons_zero, List.set_cons_succ]
    first
      | (apply goV_skip (by intro u; rfl))
      | (apply goV_val _ (by intro u; rfl); · (intro u w hSw hF; go_simp; try with_reducible rfl))
    try simp only [Act.put, List.setIfInBounds_toArray, List.set_cons_zero, List.set_cons_succ]
    first
      | (apply goV_skip (by intro u; rfl))
      | (apply goV_val (.int .i64 n) (by intro u; rfl); · (intro u w hSw hF; have c0 := F1 w hSw; go_simp))
    try simp only [Act.put, List.setIfInBounds_toArray, List.set_cons_zero, List.set_cons_succ]
    first
      | (apply goV_skip (by intro u; rfl))
      | (apply goV_val _ (by intro u; rfl); · (intro u w hSw hF; go_simp; try with_reducible rfl))
    try simp only [Act.put, List.setIfInBounds_toArray, List.set_cons_zero, List.set_cons_succ]
    first
      | (apply goV_skip (by intro u; rfl))
      | (apply goV_val _ (by intro u; rfl); · (intro u w hSw hF; go_simp; try with_reducible rfl))
    try simp only [Act.put, List.setIfInBounds_toArray, List.set_cons_zero, List.set_cons_succ]
    first
      | (apply goV_skip (by intro u; rfl))
      | (apply goV_val _ (by intro u; rfl); · (intro u w hSw hF; go_simp; try with_reducible rfl))
    try simp only [Act.put, List.setIfInBounds_toArray, List.set_cons_zero, List.set_cons_succ]
    first
      | (apply goV_skip (by intro u; rfl))
      | (apply goV_loadP (by intro u; rfl) _ rfl hp hP (by intro u; rfl))
    try simp only [Act.put, List.setIfInBounds_toArray, List.set_cons_zero, List.set_cons_succ]
    first
      | (apply goV_skip (by intro u; rfl))
      | (apply goV_val _ (by intro u; rfl); · (intro u w hSw hF; go_simp; try with_reducible rfl))
    try simp only [Act.put, List.setIfInBounds_toArray, List.set_cons_zero, List.set_cons_succ]
    first
      | (apply goV_skip (by intro u; rfl))
      | (apply goV_loadPA (by intro u; rfl) _ rfl hq hQ (by intro u; rfl))
    try simp only [Act.put, List.setIfInBounds_toArray, List.set_cons_zero, List.set_cons_succ]
    first
      | (apply goV_skip (by intro u; rfl))
      | (apply goV_call (by intro u; rfl) C2; · (intro u w hSw hF; go_simp; try with_reducible rfl))
    try simp only [Act.put, List.setIfInBounds_toArray, List.set_cons_zero, List.set_cons_succ]
    first
      | (apply goV_skip (by intro u; rfl))
      | (apply goV_val _ (by intro u; rfl); · (intro u w hSw hF; go_simp; try with_reducible rfl))
    try simp only [Act.put, List.setIfInBounds_toArray, List.set_cons_zero, List.set_cons_succ]
    first
      | (apply goV_skip (by intro u; rfl))
      | (apply goV_val _ (by intro u; rfl); · (intro u w hSw hF; go_simp; try with_reducible rfl))
    try simp only [Act.put, List.setIfInBounds_toArray, List.set_cons_zero, List.set_cons_succ]
    intro u w1 hx1 _
    go_wp2
    go_ret
    exact ⟨by rw [R.out]; rfl, hx.trans hx1⟩
  | true =>
    rw [hva] at C1 R0
    by_cases h : n ≤ m
    · have d : decide (n ≤ m) = true := decide_eq_true h
      have R : Hid (coversP p q = cc) := Lib.hid (by rw [R0.out, d]; rfl)
      clear R0 hva
      refine wp_region_rgs ?_
      first
        | (apply goV_skip (by intro u; rfl))
        | (apply goV_loadP (by intro u; rfl) _ rfl hq hQ (by intro u; rfl))
      try simp only [Act.put, List.setIfInBounds_toArray, List.set_cons_zero, List.set_cons_succ]
      first
        | (apply goV_skip (by intro u; rfl))
        | (apply goV_call (by intro u; rfl) C1; · (intro u w hSw hF; go_simp; try with_reducible rfl))
      try simp only [Act.put, List.setIfInBounds_toArray, List.set_cons_zero, List.set_cons_succ]
      first
        | (apply goV_skip (by intro u; rfl))
        | (apply goV_val _ (by intro u; rfl); · (intro u w hSw hF; go_simp; try with_reducible rfl))
      try simp only [Act.put, List.setIfInBounds_toArray, List.set_cons_zero, List.set_cons_succ]
      first
        | (apply goV_skip (by intro u; rfl))
        | (apply goV_val _ (by intro u; rfl); · (intro u w hSw hF; go_simp; try with_reducible rfl))
      try simp only [Act.put, List.setIfInBounds_toArray, List.set_cons_zero, List.set_cons_succ]
      first
        | (apply goV_skip (by intro u; rfl))
        | (apply goV_val (.int .i64 m) (by intro u; rfl); · (intro u w hSw hF; have c0 := F2 w hSw; go_simp))
      try simp only [Act.put, List.setIfInBounds_toArray, List.set_cons_zero, List.set_cons_succ]
      first
        | (apply goV_skip (by intro u; rfl))
        | (apply goV_val _ (by intro u; rfl); · (intro u w hSw hF; go_simp; try with_reducible rfl))
      try simp only [Act.put, List.setIfInBounds_toArray, List.set_cons_zero, List.set_cons_succ]
      first
        | (apply goV_skip (by intro u; rfl))
        | (apply goV_val (.int .i64 n) (by intro u; rfl); · (intro u w hSw hF; have c0 := F1 w hSw; go_simp))
      try simp only [Act.put, List.setIfInBounds_toArray, List.set_cons_zero, List.set_cons_succ]
      first
        | (apply goV_skip (by intro u; rfl))
        | (apply goV_val _ (by intro u; rfl); · (intro u w hSw hF; go_simp; try with_reducible rfl))
      try simp only [Act.put, List.setIfInBounds_toArray, List.set_cons_zero, List.set_cons_succ]
      first
        | (apply goV_skip (by intro u; rfl))
        | (apply goV_val _ (by intro u; rfl); · (intro u w hSw hF; go_simp; try with_reducible rfl))
      try simp only [Act.put, List.setIfInBounds_toArray, List.set_cons_zero, List.set_cons_succ]
      first
        | (apply goV_skip (by intro u; rfl))
        | (apply goV_val _ (by intro u; rfl); · (intro u w hSw hF; go_simp; try with_reducible rfl))
      try simp only [Act.put, List.setIfInBounds_toArray, List.set_cons_zero, List.set_cons_succ]
      first
        | (apply goV_skip (by intro u; rfl))
        | (apply goV_loadP (by intro u; rfl) _ rfl hp hP (by intro u; rfl))
      try simp only [Act.put, List.setIfInBounds_toArray, List.set_cons_zero, List.set_cons_succ]
      first
        | (apply goV_skip (by intro u; rfl))
        | (apply goV_val _ (by intro u; rfl); · (intro u w hSw hF; go_simp; try with_reducible rfl))
      try simp only [Act.put, List.setIfInBounds_toArray, List.set_cons_zero, List.set_cons_succ]
      first
        | (apply goV_skip (by intro u; rfl))
        | (apply goV_loadPA (by intro u; rfl) _ rfl hq hQ (by intro u; rfl))
      try simp only [Act.put, List.setIfInBounds_toArray, List.set_cons_zero, List.set_cons_succ]
      first
        | (apply goV_skip (by intro u; rfl))
        | (apply goV_call (by intro u; rfl) C2; · (intro u w hSw hF; go_simp; try with_reducible rfl))
      try simp only [Act.put, List.setIfInBounds_toArray, List.set_cons_zero, List.set_cons_succ]
      first
        | (apply goV_skip (by intro u; rfl))
        | (apply goV_val _ (by intro u; rfl); · (intro u w hSw hF; go_simp; try with_reducible rfl))
      try simp only [Act.put, List.setIfInBounds_toArray, List.set_cons_zero, List.set_cons_succ]
      first
        | (apply goV_skip (by intro u; rfl))
        | (apply goV_val _ (by intro u; rfl); · (intro u w hSw hF; go_simp; try with_reducible rfl))
      try simp only [Act.put, List.setIfInBounds_toArray, List.set_cons_zero, List.set_cons_succ]
      intro u w1 hx1 _
      go_wp2
      go_ret
      exact ⟨by rw [R.out]; rfl, hx.trans hx1⟩
    · have d : decide (n ≤ m) = false := decide_eq_false h
      have R : Hid (coversP p q = false) := Lib.hid (by rw [R0.out, d]; rfl)
      clear R0 hva
      refine wp_region_rgs ?_
      first
        | (apply goV_skip (by intro u; rfl))
        | (apply goV_loadP (by intro u; rfl) _ rfl hq hQ (by intro u; rfl))
      try simp only [Act.put, List.setIfInBounds_toArray, List.set_cons_zero, List.set_cons_succ]
      first
        | (apply goV_skip (by intro u; rfl))
        | (apply goV_call (by intro u; rfl) C1; · (intro u w hSw hF; go_simp; try with_reducible rfl))
      try simp only [Act.put, List.setIfInBounds_toArray, List.set_cons_zero, List.set_cons_succ]
      first
        | (apply goV_skip (by intro u; rfl))
        | (apply goV_val _ (by intro u; rfl); · (intro u w hSw hF; go_simp; try with_reducible rfl))
      try simp only [Act.put, List.setIfInBounds_toArray, List.set_cons_zero, List.set_cons_succ]
      first
        | (apply goV_skip (by intro u; rfl))
        | (apply goV_val _ (by intro u; rfl); · (intro u w hSw hF; go_simp; try with_reducible rfl))
      try simp only [Act.put, List.setIfInBounds_toArray, List.set_cons_zero, List.set_cons_succ]
      first
        | (apply goV_skip (by intro u; rfl))
        | (apply goV_val (.int .i64 m) (by intro u; rfl); · (intro u w hSw hF; have c0 := F2 w hSw; go_simp))
      try simp only [Act.put, List.setIfInBounds_toArray, List.set_cons_zero, List.set_cons_succ]
      first
        | (apply goV_skip (by intro u; rfl))
        | (apply goV_val _ (by intro u; rfl); · (intro u w hSw hF; go_simp; try with_reducible rfl))
      try simp only [Act.put, List.setIfInBounds_toArray, List.set_cons_zero, List.set_cons_succ]
      first
        | (apply goV_skip (by intro u; rfl))
        | (apply goV_val (.int .i64 n) (by intro u; rfl); · (intro u w hSw hF; have c0 := F1 w hSw; go_simp))
      try simp only [Act.put, List.setIfInBounds_toArray, List.set_cons_zero, List.set_cons_succ]
      first
        | (apply goV_skip (by intro u; rfl))
        | (apply goV_val _ (by intro u; rfl); · (intro u w hSw hF; go_simp; try with_reducible rfl))
      try simp only [Act.put, List.setIfInBounds_toArray, List.set_cons_zero, List.set_cons_succ]
      first
        | (apply goV_skip (by intro u; rfl))
        | (apply goV_val _ (by intro u; rfl); · (intro u w hSw hF; go_simp; try with_reducible rfl))
      try simp only [Act.put, List.setIfInBounds_toArray, List.set_cons_zero, List.set_cons_succ]
      first
        | (apply goV_skip (by intro u; rfl))
        | (apply goV_val _ (by intro u; rfl); · (intro u w hSw hF; go_simp; try with_reducible rfl))
      try simp only [Act.put, List.setIfInBounds_toArray, List.set_cons_zero, List.set_cons_succ]
      first
        | (apply goV_skip (by intro u; rfl))
        | (apply goV_loadP (by intro u; rfl) _ rfl hp hP (by intro u; rfl))
      try simp only [Act.put, List.setIfInBounds_toArray, List.set_cons_zero, List.set_cons_succ]
      first
        | (apply goV_skip (by intro u; rfl))
        | (apply goV_val _ (by intro u; rfl); · (intro u w hSw hF; go_simp; try with_reducible rfl))
      try simp only [Act.put, List.setIfInBounds_toArray, List.set_cons_zero, List.set_cons_succ]
      first
        | (apply goV_skip (by intro u; rfl))
        | (apply goV_loadPA (by intro u; rfl) _ rfl hq hQ (by intro u; rfl))
      try simp only [Act.put, List.setIfInBounds_toArray, List.set_cons_zero, List.set_cons_succ]
      first
        | (apply goV_skip (by intro u; rfl))
        | (apply goV_call (by intro u; rfl) C2; · (intro u w hSw hF; go_simp; try with_reducible rfl))
      try simp only [Act.put, List.setIfInBounds_toArray, List.set_cons_zero, List.set_cons_succ]
      first
        | (apply goV_skip (by intro u; rfl))
        | (apply goV_val _ (by intro u; rfl); · (intro u w hSw hF; go_simp; try with_reducible rfl))
      try simp only [Act.put, List.setIfInBounds_toArray, List.set_cons_zero, List.set_cons_succ]
      first
        | (apply goV_skip (by intro u; rfl))
        | (apply goV_val _ (by intro u; rfl); · (intro u w hSw hF; go_simp; try with_reducible rfl))
      try simp only [Act.put, List.setIfInBounds_toArray, List.set_cons_zero, List.set_cons_succ]
      intro u w1 hx1 _
      go_wp2
      go_ret
      exact ⟨by rw [R.out]; rfl, hx.trans hx1⟩
theorem clr_end {a b : Adr} (ha : okA a) (hb : okA b) (hv : validA a = true) (h1 : b.1 = a.1) {m N : Nat} (hN : bitLen a = N) (h : ∀ q, q < 16 → ∀ j, j < 8 → bt (X b q) j = if m ≤ 8 * q + j ∧ 8 * q + j < N then 0 else bt (X a q) j) : b = truncA a m := by
  refine adr_ext hb (okA_trunc ha m) h1 fun q hq j hj => ?_
  rw [h q hq j hj, X_trunc a m hq, mask_bt (X_bd ha _) (keepN_le _ _) hj]
  by_cases h1 : j < keepN m q
  · rw [if_pos h1]
    rw [keepN_lt hj] at h1
    rw [if_neg (by omega)]
  · rw [if_neg h1]
    rw [keepN_lt hj] at h1
    by_cases h2 : 8 * q + j < N
    · rw [if_pos ⟨by omega, h2⟩]
    · rw [if_neg (by omega), past_zero ha hv hq (j := j) (by rw [hN]; omega) hj, bt_zero]
set_option maxRecDepth 8000 in
set_option maxHeartbeats 4000000 in
theorem rprefix_any (a : Adr) (ha : okA a) (n : Int) (hn : i64ok n) (w : World) :
    Calls Tryz.prog 19 #[av a, .int .i64 n] w fun e w' => e = .returned (.tuple #[pv (prefixOf a n).1, .bool (prefixOf a n).2]) ∧ Ext w w' := by
  unfold av
  go_enter Tryz.func19, Tryz.ntmps19
  go_upto_region 1 with fail
  rw [← pc_zero]
  have hx := ((Ext.refl w).alloc (.cells (ac a) 24)).alloc (.cells (pc zpfx) 26)
  have hb := (ABox.new ha w).ext ha ((Ext.refl _).alloc (.cells (pc zpfx) 26))
  have hr := Blk.new (w.alloc (.cells (ac a) 24)) (pc zpfx) 26
  have hsz : (w.alloc (.cells (ac a) 24)).heap.size = w.heap.size + 1 := by show (w.heap.push _).size = _; simp
  rw [hsz] at hr
  generalize (w.alloc (.cells (ac a) 24)).alloc (.cells (pc zpfx) 26) = w0 at *
  clear hsz
  obtain ⟨p, hp⟩ : ∃ p, w.heap.size = p := ⟨_, rfl⟩
  have hpw : w.heap.size ≤ p := by omega
  have hxs : w.heap.size ≤ p + 1 := by omega
  rw [hp] at hb hr ⊢
  clear hp
  have hB : ∀ w', Ext w0 w' → Blk w' p (ac a).toList 24 := fun w' h => (hb.ext ha h).blk
  have C1 := fun (w' : World) (h : Ext w0 w') => rValid_any a ha w'
  have C2 := fun (w' : World) (h : Ext w0 w') => rBitLen_any a ha w'
  have hbl := bitLen_pos a
  have R0 : Hid (prefixOf a n = if validA a = true ∧ 0 ≤ n ∧ n ≤ bitLen a then ((truncA a n, n), true) else (zpfx, false)) := Lib.hid rfl
  have hT : okP (truncA a n, n) := ⟨okA_trunc ha n, hn⟩
  have CE := Lib.hid (fun b hb hv => @clr_end a b ha hb hv)
  generalize hL : bitLen a = L at *
  cases hva : validA a with
  | false =>
    rw [hva] at C1 R0
    have R : Hid (prefixOf a n = (zpfx, false)) := Lib.hid (by rw [R0.out, if_neg (by simp)])
    clear hva R0
    refine wp_region_rgs ?_
    first
      | (apply goV_skip (by intro u; rfl))
      | (apply goV_loadA (by intro u; rfl) _ rfl ha hB (by intro u; rfl))
    try simp only [Act.put, List.setIfInBounds_toArray, List.set_cons_zero, List.set_cons_succ]
    first
      | (apply goV_skip (by intro u; rfl))
      | (apply goV_call (by intro u; rfl) C1; · (intro u w hSw hF; go_simp; try with_reducible rfl))
    try simp only [Act.put, List.setIfInBounds_toArray, List.set_cons_zero, List.set_cons_succ]
    first
      | (apply goV_skip (by intro u; rfl))
      | (apply goV_val _ (by intro u; rfl); · (intro u w hSw hF; go_simp; try with_reducible rfl))
    try simp only [Act.put, List.setIfInBounds_toArray, List.set_cons_zero, List.set_cons_succ]
    first
      | (apply goV_skip (by intro u; rfl))
      | (apply goV_val _ (by intro u; rfl); · (intro u w hSw hF; go_simp; try with_reducible rfl))
    try simp only [Act.put, List.setIfInBounds_toArray, List.set_cons_zero, List.set_cons_succ]
    first
      | (apply goV_skip (by intro u; rfl))
      | (apply goV_val _ (by intro u; rfl); · (intro u w hSw hF; go_simp; try with_reducible rfl))
    try simp only [Act.put, List.setIfInBounds_toArray, List.set_cons_zero, List.set_cons_succ]
    first
      | (apply goV_skip (by intro u; rfl))
      | (apply goV_val _ (by intro u; rfl); · (intro u w hSw hF; go_simp; try with_reducible rfl))
    try simp only [Act.put, List.setIfInBounds_toArray, List.set_cons_zero, List.set_cons_succ]
    first
      | (apply goV_skip (by intro u; rfl))
      | (apply goV_val _ (by intro u; rfl); · (intro u w hSw hF; go_simp; try with_reducible rfl))
    try simp only [Act.put, List.setIfInBounds_toArray, List.set_cons_zero, List.set_cons_succ]
    first
      | (apply goV_skip (by intro u; rfl))
      | (apply goV_val _ (by intro u; rfl); · (intro u w hSw hF; go_simp; try with_reducible rfl))
    try simp only [Act.put, List.setIfInBounds_toArray, List.set_cons_zero, List.set_cons_succ]
    first
      | (apply goV_skip (by intro u; rfl))
      | (apply goV_val _ (by intro u; rfl); · (intro u w hSw hF; go_simp; try with_reducible rfl))
    try simp only [Act.put, List.setIfInBounds_toArray, List.set_cons_zero, List.set_cons_succ]
    first
      | (apply goV_skip (by intro u; rfl))
      | (apply goV_loadA (by intro u; rfl) _ rfl ha hB (by intro u; rfl))
    try simp only [Act.put, List.setIfInBounds_toArray, List.set_cons_zero, List.set_cons_succ]
    first
      | (apply goV_skip (by intro u; rfl))
      | (apply goV_call (by intro u; rfl) C2; · (intro u w hSw hF; go_simp; try with_reducible rfl))
    try simp only [Act.put, List.setIfInBounds_toArray, List.set_cons_zero, List.set_cons_succ]
    first
      | (apply goV_skip (by intro u; rfl))
      | (apply goV_val _ (by intro u; rfl); · (intro u w hSw hF; go_simp; try with_reducible rfl))
    try simp only [Act.put, List.setIfInBounds_toArray, List.set_cons_zero, List.set_cons_succ]
    first
      | (apply goV_skip (by intro u; rfl))
      | (apply goV_val _ (by intro u; rfl); · (intro u w hSw hF; go_simp; try with_reducible rfl))
    try simp only [Act.put, List.setIfInBounds_toArray, List.set_cons_zero, List.set_cons_succ]
    intro u w1 hx1 _
    have hr1 := hr.ext hx1
    have hb1 := hb.ext ha hx1
    go_wp2_with (refine wpList_store_P rfl _ _ rfl okP_zpfx okP_zpfx hr1 rfl rfl ?_)
    refine bodyPost_ret (res_P2 rfl rfl okP_zpfx (hr1.row _)) rfl ⟨by rw [R.out]; rfl, (hx.trans hx1).setRow hxs _⟩
  | true =>
    have HVA := Lib.hid hva
    rw [hva] at C1 R0
    clear hva
    by_cases h0 : 0 ≤ n
    · have d0 : decide (n < 0) = false := decide_eq_false (by omega)
      by_cases h1 : n ≤ L
      · have d1 : decide (L < n) = false := decide_eq_false (by omega)
        have R : Hid (prefixOf a n = ((truncA a n, n), true)) := Lib.hid (by rw [R0.out, if_pos ⟨rfl, h0, h1⟩])
        clear R0
        obtain ⟨N, hN⟩ : ∃ N : Nat, L = N := ⟨L.toNat, by omega⟩
        obtain ⟨m, hm⟩ : ∃ m : Nat, n = m := ⟨n.toNat, by omega⟩
        have HN := Lib.hid hN; have HM := Lib.hid hm
        clear hN hm
        refine wp_region_rgs ?_
        first
          | (apply goV_skip (by intro u; rfl))
          | (apply goV_loadA (by intro u; rfl) _ rfl ha hB (by intro u; rfl))
        try simp only [Act.put, List.setIfInBounds_toArray, List.set_cons_zero, List.set_cons_succ]
        first
          | (apply goV_skip (by intro u; rfl))
          | (apply goV_call (by intro u; rfl) C1; · (intro u w hSw hF; go_simp; try with_reducible rfl))
        try simp only [Act.put, List.setIfInBounds_toArray, List.set_cons_zero, List.set_cons_succ]
        first
          | (apply goV_skip (by intro u; rfl))
          | (apply goV_val _ (by intro u; rfl); · (intro u w hSw hF; go_simp; try with_reducible rfl))
        try simp only [Act.put, List.setIfInBounds_toArray, List.set_cons_zero, List.set_cons_succ]
        first
          | (apply goV_skip (by intro u; rfl))
          | (apply goV_val _ (by intro u; rfl); · (intro u w hSw hF; go_simp; try with_reducible rfl))
        try simp only [Act.put, List.setIfInBounds_toArray, List.set_cons_zero, List.set_cons_succ]
        first
          | (apply goV_skip (by intro u; rfl))
          | (apply goV_val _ (by intro u; rfl); · (intro u w hSw hF; go_simp; try with_reducible rfl))
        try simp only [Act.put, List.setIfInBounds_toArray, List.set_cons_zero, List.set_cons_succ]
        first
          | (apply goV_skip (by intro u; rfl))
          | (apply goV_val _ (by intro u; rfl); · (intro u w hSw hF; go_simp; try with_reducible rfl))
        try simp only [Act.put, List.setIfInBounds_toArray, List.set_cons_zero, List.set_cons_succ]
        first
          | (apply goV_skip (by intro u; rfl))
          | (apply goV_val _ (by intro u; rfl); · (intro u w hSw hF; go_simp; try with_reducible rfl))
        try simp only [Act.put, List.setIfInBounds_toArray, List.set_cons_zero, List.set_cons_succ]
        first
          | (apply goV_skip (by intro u; rfl))
          | (apply goV_val _ (by intro u; rfl); · (intro u w hSw hF; go_simp; try with_reducible rfl))
        try simp only [Act.put, List.setIfInBounds_toArray, List.set_cons_zero, List.set_cons_succ]
        first
          | (apply goV_skip (by intro u; rfl))
          | (apply goV_val _ (by intro u; rfl); · (intro u w hSw hF; go_simp; try with_reducible rfl))
        try simp only [Act.put, List.setIfInBounds_toArray, List.set_cons_zero, List.set_cons_succ]
        first
          | (apply goV_skip (by intro u; rfl))
          | (apply goV_loadA (by intro u; rfl) _ rfl ha hB (by intro u; rfl))
        try simp only [Act.put, List.setIfInBounds_toArray, List.set_cons_zero, List.set_cons_succ]
        first
          | (apply goV_skip (by intro u; rfl))
          | (apply goV_call (by intro u; rfl) C2; · (intro u w hSw hF; go_simp; try with_reducible rfl))
        try simp only [Act.put, List.setIfInBounds_toArray, List.set_cons_zero, List.set_cons_succ]
        first
          | (apply goV_skip (by intro u; rfl))
          | (apply goV_val _ (by intro u; rfl); · (intro u w hSw hF; go_simp; try with_reducible rfl))
        try simp only [Act.put, List.setIfInBounds_toArray, List.set_cons_zero, List.set_cons_succ]
        first
          | (apply goV_skip (by intro u; rfl))
          | (apply goV_val _ (by intro u; rfl); · (intro u w hSw hF; go_simp; try with_reducible rfl))
        try simp only [Act.put, List.setIfInBounds_toArray, List.set_cons_zero, List.set_cons_succ]
        intro u w1 hx1 _
        have hr1 := hr.ext hx1
        have hb1 := hb.ext ha hx1
        obtain rfl := HN.out
        obtain rfl := HM.out
        have hxx := hx.trans hx1
        go_wp2_with fail
        go_loopw [6] (fun i wr => ∃ (k : Nat) (b : Adr), m ≤ k ∧ k ≤ N ∧ i = .int .i64 k ∧ okA b ∧ ABox wr p b ∧ PBlk wr (p + 1) zpfx ∧ Ext w wr ∧ Hid (b.1 = a.1 ∧ ∀ q, q < 16 → ∀ j, j < 8 → bt (X b q) j = if m ≤ 8 * q + j ∧ 8 * q + j < k then 0 else bt (X a q) j)) (fun i _ => N - (intOf i).toNat)
        case atStart => exact ⟨m, a, Nat.le_refl _, by omega, rfl, ha, hb1, hr1, hxx, Lib.hid ⟨rfl, fun q hq j hj => by rw [if_neg (by omega)]⟩⟩
        case round =>
          obtain ⟨k, b, hk0, hk, rfl, hbk, hb, hr, hx, hX⟩ := hrel
          have hbl' : bitLen b = N := by unfold bitLen; rw [hX.out.1]; exact hL
          have C2w := Lib.hid (fun w' => rBitLen_any b hbk w')
          rw [hbl'] at C2w
          clear hbl'
          by_cases hlt : k < N
          · have hlt' : (k : Int) < N := by omega
            have q0 : ((k : Int).tdiv 8) = ((k / 8 : Nat) : Int) := by rw [Int.tdiv_eq_ediv_of_nonneg (by omega)]; omega
            have m0 : ((k : Int).tmod 8) = ((k % 8 : Nat) : Int) := by rw [Int.tmod_eq_emod_of_nonneg (by omega)]; omega
            have hq16 : k / 8 < 16 := by omega
            have hs8 : 7 - k % 8 < 8 := by omega
            have hcell := hb.at' (k / 8) hq16
            have hf := hb.blk.free (1 + k / 8)
            have hxb := X_bd hbk (k / 8)
            have hnb := not_bd hxb hs8
            have hnt := fun j hj => @not_bt _ hxb _ j hs8 hj
            have HXN : Hid (b.1 = a.1 ∧ ∀ q, q < 16 → ∀ j, j < 8 → bt (X (b.1, b.2.set (k / 8) (bits BinOp.andNot IntKind.u8 (X b (k / 8)) (2 ^ (7 - k % 8)))) q) j = if m ≤ 8 * q + j ∧ 8 * q + j < k + 1 then 0 else bt (X a q) j) := Lib.hid ⟨hX.out.1, fun q hq j hj => by
              rw [X_set hbk hq16]
              by_cases hqq : q = k / 8
              · rw [if_pos hqq, hnt j hj]
                subst hqq
                by_cases hjj : j = 7 - (7 - k % 8)
                · rw [if_pos hjj, if_pos (by omega)]
                · rw [if_neg hjj, hX.out.2 _ hq j hj]
                  by_cases h : m ≤ 8 * (k / 8) + j ∧ 8 * (k / 8) + j < k
                  · rw [if_pos h, if_pos (by omega)]
                  · rw [if_neg h, if_neg (by omega)]
              · rw [if_neg hqq, hX.out.2 q hq j hj]
                by_cases h : m ≤ 8 * q + j ∧ 8 * q + j < k
                · rw [if_pos h, if_pos (by omega)]
                · rw [if_neg h, if_neg (by omega)]⟩
            have hokn := okA_setz hbk (k / 8) hnb
            have HS := Lib.hid (hb.blk.set (1 + k / 8) (.int .u8 (bits BinOp.andNot IntKind.u8 (X b (k / 8)) (2 ^ (7 - k % 8)))))
            rw [ac_set] at HS
            have hpw2 : (2 : Int) ^ (7 - k % 8) % 256 = 2 ^ (7 - k % 8) := by
              have : k % 8 < 8 := Nat.mod_lt _ (by decide)
              rcases (by omega : k % 8 = 0 ∨ k % 8 = 1 ∨ k % 8 = 2 ∨ k % 8 = 3 ∨ k % 8 = 4 ∨ k % 8 = 5 ∨ k % 8 = 6 ∨ k % 8 = 7) with h | h | h | h | h | h | h | h <;> rw [h] <;> decide
            have hr8 : k % 8 < 8 := Nat.mod_lt _ (by decide)
            generalize k % 8 = r at *
            generalize k / 8 = q at *
            clear hX hnt hnb
            have hsub : IntKind.i64.wrap (7 - (r : Int)) = ((7 - r : Nat) : Int) := by rw [IntWalk.i64_in _ (by omega)]; omega
            go_wp2_with (first | refine wpList_load_A rfl _ rfl hbk hb.blk rfl ?_ | (go_at_call 22; refine (C2w.out _).mono ?_; rintro e w3 ⟨rfl, hx3⟩; have hb := hb.ext hbk hx3; have hr := hr.ext hx3; have hx := hx.trans hx3; have hcell := hb.at' q hq16; have hf := hb.blk.free (1 + q); have HS := Lib.hid (hb.blk.set (1 + q) (.int .u8 (bits BinOp.andNot IntKind.u8 (X b q) (2 ^ (7 - r))))); rw [ac_set] at HS))
            exact ⟨⟨k + 1, (b.1, b.2.set q (bits BinOp.andNot IntKind.u8 (X b q) (2 ^ (7 - r)))), by omega, by omega, by go_num, hokn, .of_blk hokn HS.out, hr.set_ne ⟨p, _, none⟩ (by show p ≠ p + 1; omega) _, hx.setCell (p := ⟨p, _, none⟩) hpw _, HXN⟩, by simp [intOf]; omega⟩
          · obtain rfl : k = N := by omega
            have hlt' : ¬ (k : Int) < k := by omega
            have E : Hid (b = truncA a m) := Lib.hid (CE.out b hbk HVA.out hX.out.1 rfl hX.out.2)
            have hTb : okP (b, (m : Int)) := ⟨hbk, hn⟩
            have R2 : Hid (prefixOf a m = ((b, (m : Int)), true)) := Lib.hid (by rw [R.out, E.out])
            clear hX hT R E CE
            go_wp2_with (first | refine wpList_load_A rfl _ rfl hbk hb.blk rfl ?_ | (go_at_call 22; refine (C2w.out _).mono ?_; rintro e w3 ⟨rfl, hx3⟩; have hb := hb.ext hbk hx3; have hr := hr.ext hx3; have hx := hx.trans hx3) | refine wpList_build_P rfl _ _ rfl hTb rfl rfl ?_ | refine wpList_store_P rfl _ _ rfl okP_zpfx hTb hr rfl rfl ?_)
            refine bodyPost_ret (res_P2 rfl rfl hTb (hr.row _)) rfl ⟨by rw [R2.out]; rfl, hx.setRow hxs _⟩
      · have d1 : decide (L < n) = true := decide_eq_true (by omega)
        have R : Hid (prefixOf a n = (zpfx, false)) := Lib.hid (by rw [R0.out, if_neg (fun h => h1 h.2.2)])
        clear R0
        refine wp_region_rgs ?_
        first
          | (apply goV_skip (by intro u; rfl))
          | (apply goV_loadA (by intro u; rfl) _ rfl ha hB (by intro u; rfl))
        try simp only [Act.put, List.setIfInBounds_toArray, List.set_cons_zero, List.set_cons_succ]
        first
          | (apply goV_skip (by intro u; rfl))
          | (apply goV_call (by intro u; rfl) C1; · (intro u w hSw hF; go_simp; try with_reducible rfl))
        try simp only [Act.put, List.setIfInBounds_toArray, List.set_cons_zero, List.set_cons_succ]
        first
          | (apply goV_skip (by intro u; rfl))
          | (apply goV_val _ (by intro u; rfl); · (intro u w hSw hF; go_simp; try with_reducible rfl))
        try simp only [Act.put, List.setIfInBounds_toArray, List.set_cons_zero, List.set_cons_succ]
        first
          | (apply goV_skip (by intro u; rfl))
          | (apply goV_val _ (by intro u; rfl); · (intro u w hSw hF; go_simp; try with_reducible rfl))
        try simp only [Act.put, List.setIfInBounds_toArray, List.set_cons_zero, List.set_cons_succ]
        first
          | (apply goV_skip (by intro u; rfl))
          | (apply goV_val _ (by intro u; rfl); · (intro u w hSw hF; go_simp; try with_reducible rfl))
        try simp only [Act.put, List.setIfInBounds_toArray, List.set_cons_zero, List.set_cons_succ]
        first
          | (apply goV_skip (by intro u; rfl))
          | (apply goV_val _ (by intro u; rfl); · (intro u w hSw hF; go_simp; try with_reducible rfl))
        try simp only [Act.put, List.setIfInBounds_toArray, List.set_cons_zero, List.set_cons_succ]
        first
          | (apply goV_skip (by intro u; rfl))
          | (apply goV_val _ (by intro u; rfl); · (intro u w hSw hF; go_simp; try with_reducible rfl))
        try simp only [Act.put, List.setIfInBounds_toArray, List.set_cons_zero, List.set_cons_succ]
        first
          | (apply goV_skip (by intro u; rfl))
          | (apply goV_val _ (by intro u; rfl); · (intro u w hSw hF; go_simp; try with_reducible rfl))
        try simp only [Act.put, List.setIfInBounds_toArray, List.set_cons_zero, List.set_cons_succ]
        first
          | (apply goV_skip (by intro u; rfl))
          | (apply goV_val _ (by intro u; rfl); · (intro u w hSw hF; go_simp; try with_reducible rfl))
        try simp only [Act.put, List.setIfInBounds_toArray, List.set_cons_zero, List.set_cons_succ]
        first
          | (apply goV_skip (by intro u; rfl))
          | (apply goV_loadA (by intro u; rfl) _ rfl ha hB (by intro u; rfl))
        try simp only [Act.put, List.setIfInBounds_toArray, List.set_cons_zero, List.set_cons_succ]
        first
          | (apply goV_skip (by intro u; rfl))
          | (apply goV_call (by intro u; rfl) C2; · (intro u w hSw hF; go_simp; try with_reducible rfl))
        try simp only [Act.put, List.setIfInBounds_toArray, List.set_cons_zero, List.set_cons_succ]
        first
          | (apply goV_skip (by intro u; rfl))
          | (apply goV_val _ (by intro u; rfl); · (intro u w hSw hF; go_simp; try with_reducible rfl))
        try simp only [Act.put, List.setIfInBounds_toArray, List.set_cons_zero, List.set_cons_succ]
        first
          | (apply goV_skip (by intro u; rfl))
          | (apply goV_val _ (by intro u; rfl); · (intro u w hSw hF; go_simp; try with_reducible rfl))
        try simp only [Act.put, List.setIfInBounds_toArray, List.set_cons_zero, List.set_cons_succ]
        intro u w1 hx1 _
        have hr1 := hr.ext hx1
        have hb1 := hb.ext ha hx1
        go_wp2_with (refine wpList_store_P rfl _ _ rfl okP_zpfx okP_zpfx hr1 rfl rfl ?_)
        refine bodyPost_ret (res_P2 rfl rfl okP_zpfx (hr1.row _)) rfl ⟨by rw [R.out]; rfl, (hx.trans hx1).setRow hxs _⟩
    · have d0 : decide (n < 0) = true := decide_eq_true (by omega)
      have R : Hid (prefixOf a n = (zpfx, false)) := Lib.hid (by rw [R0.out, if_neg (fun h => h0 h.2.1)])
      clear R0
      refine wp_region_rgs ?_
      first
        | (apply goV_skip (by intro u; rfl))
        | (apply goV_loadA (by intro u; rfl) _ rfl ha hB (by intro u; rfl))
      try simp only [Act.put, List.setIfInBounds_toArray, List.set_cons_zero, List.set_cons_succ]
      first
        | (apply goV_skip (by intro u; rfl))
        | (apply goV_call (by intro u; rfl) C1; · (intro u w hSw hF; go_simp; try with_reducible rfl))
      try simp only [Act.put, List.setIfInBounds_toArray, List.set_cons_zero, List.set_cons_succ]
      first
        | (apply goV_skip (by intro u; rfl))
        | (apply goV_val _ (by intro u; rfl); · (intro u w hSw hF; go_simp; try with_reducible rfl))
      try simp only [Act.put, List.setIfInBounds_toArray, List.set_cons_zero, List.set_cons_succ]
      first
        | (apply goV_skip (by intro u; rfl))
        | (apply goV_val _ (by intro u; rfl); · (intro u w hSw hF; go_simp; try with_reducible rfl))
      try simp only [Act.put, List.setIfInBounds_toArray, List.set_cons_zero, List.set_cons_succ]
      first
        | (apply goV_skip (by intro u; rfl))
        | (apply goV_val _ (by intro u; rfl); · (intro u w hSw hF; go_simp; try with_reducible rfl))
      try simp only [Act.put, List.setIfInBounds_toArray, List.set_cons_zero, List.set_cons_succ]
      first
        | (apply goV_skip (by intro u; rfl))
        | (apply goV_val _ (by intro u; rfl); · (intro u w hSw hF; go_simp; try with_reducible rfl))
      try simp only [Act.put, List.setIfInBounds_toArray, List.set_cons_zero, List.set_cons_succ]
      first
        | (apply goV_skip (by intro u; rfl))
        | (apply goV_val _ (by intro u; rfl); · (intro u w hSw hF; go_simp; try with_reducible rfl))
      try simp only [Act.put, List.setIfInBounds_toArray, List.set_cons_zero, List.set_cons_succ]
      first
        | (apply goV_skip (by intro u; rfl))
        | (apply goV_val _ (by intro u; rfl); · (intro u w hSw hF; go_simp; try with_reducible rfl))
      try simp only [Act.put, List.setIfInBounds_toArray, List.set_cons_zero, List.set_cons_succ]
      first
        | (apply goV_skip (by intro u; rfl))
        | (apply goV_val _ (by intro u; rfl); · (intro u w hSw hF; go_simp; try with_reducible rfl))
      try simp only [Act.put, List.setIfInBounds_toArray, List.set_cons_zero, List.set_cons_succ]
      first
        | (apply goV_skip (by intro u; rfl))
        | (apply goV_loadA (by intro u; rfl) _ rfl ha hB (by intro u; rfl))
      try simp only [Act.put, List.setIfInBounds_toArray, List.set_cons_zero, List.set_cons_succ]
      first
        | (apply goV_skip (by intro u; rfl))
        | (apply goV_call (by intro u; rfl) C2; · (intro u w hSw hF; go_simp; try with_reducible rfl))
      try simp only [Act.put, List.setIfInBounds_toArray, List.set_cons_zero, List.set_cons_succ]
      first
        | (apply goV_skip (by intro u; rfl))
        | (apply goV_val _ (by intro u; rfl); · (intro u w hSw hF; go_simp; try with_reducible rfl))
      try simp only [Act.put, List.setIfInBounds_toArray, List.set_cons_zero, List.set_cons_succ]
      first
        | (apply goV_skip (by intro u; rfl))
        | (apply goV_val _ (by intro u; rfl); · (intro u w hSw hF; go_simp; try with_reducible rfl))
      try simp only [Act.put, List.setIfInBounds_toArray, List.set_cons_zero, List.set_cons_succ]
      intro u w1 hx1 _
      have hr1 := hr.ext hx1
      have hb1 := hb.ext ha hx1
      go_wp2_with (refine wpList_store_P rfl _ _ rfl okP_zpfx okP_zpfx hr1 rfl rfl ?_)
      refine bodyPost_ret (res_P2 rfl rfl okP_zpfx (hr1.row _)) rfl ⟨by rw [R.out]; rfl, (hx.trans hx1).setRow hxs _⟩
end Go.Proofs.YtbbdcodhgbgekaaGreatDoor
