/-
  CidrNesting.
-/
import Derived.Test.YtbbdcodhgbgekaaGreatDoorCiU
set_option linter.unusedSimpArgs false
set_option linter.unusedVariables false
namespace Go.Proofs.YtbbdcodhgbgekaaGreatDoor
open Go.RowKit
theorem trunc_trunc {y : Adr} (hy : okA y) {m M : Int} (h : m ≤ M) : truncA (truncA y M) m = truncA y m := by
  refine adr_ext (okA_trunc (okA_trunc hy M) m) (okA_trunc hy m) rfl fun q hq j hj => ?_
  rw [X_trunc _ m hq, mask_bt (X_bd (okA_trunc hy M) _) (keepN_le _ _) hj, X_trunc y M hq, X_trunc y m hq, mask_bt (X_bd hy _) (keepN_le _ _) hj, mask_bt (X_bd hy _) (keepN_le _ _) hj]
  by_cases h1 : j < keepN m q
  · rw [if_pos h1, if_pos h1]
    rw [keepN_lt hj] at h1
    rw [if_pos (by rw [keepN_lt hj]; omega)]
  · rw [if_neg h1, if_neg h1]
theorem contains_iff {p : Pfx} {y : Adr} : containsP p y = true ↔ validP p = true ∧ validA y = true ∧ p.1.1 = y.1 ∧ truncA y p.2 = p.1 := by
  unfold containsP
  simp only [Bool.and_eq_true, decide_eq_true_eq]
  exact ⟨fun h => ⟨h.1.1.1, h.1.1.2, h.1.2, h.2⟩, fun h => ⟨⟨⟨h.1, h.2.1⟩, h.2.2.1⟩, h.2.2.2⟩⟩
theorem covers_iff {p q : Pfx} : coversP p q = true ↔ validP q = true ∧ p.2 ≤ q.2 ∧ containsP p q.1 = true := by
  unfold coversP
  simp only [Bool.and_eq_true, decide_eq_true_eq]
  exact ⟨fun h => ⟨h.1.1, h.1.2, h.2⟩, fun h => ⟨⟨h.1, h.2.1⟩, h.2.2⟩⟩
theorem nest {p q : Pfx} {y : Adr} (hy : okA y) (hp : containsP p y = true) (hq : containsP q y = true) (h : p.2 ≤ q.2) : coversP p q = true := by
  rw [contains_iff] at hp hq
  obtain ⟨p1, p2, p3, p4⟩ := hp
  obtain ⟨q1, q2, q3, q4⟩ := hq
  have hqv := validP_bits q1
  rw [covers_iff, contains_iff]
  refine ⟨q1, h, p1, hqv.2.2.2.1, by rw [p3, q3], ?_⟩
  rw [← q4, trunc_trunc hy h]; exact p4
theorem contains_up {p q : Pfx} {y : Adr} (hy : okA y) (hc : coversP p q = true) (hq : containsP q y = true) : containsP p y = true := by
  rw [covers_iff, contains_iff] at hc
  rw [contains_iff] at hq ⊢
  obtain ⟨c1, c2, c3, c4, c5, c6⟩ := hc
  obtain ⟨q1, q2, q3, q4⟩ := hq
  refine ⟨c3, q2, by rw [c5, q3], ?_⟩
  rw [← trunc_trunc hy c2, q4]; exact c6
set_option maxRecDepth 8000 in
set_option maxHeartbeats 8000000 in
theorem CidrNesting_walk (a b : Adr) (m n : Int) (p : Pfx) (ha : okA a) (hb : okA b) (_ : (Lit.int .i64 m).wf = true) (_ : (Lit.int .i64 n).wf = true) (hp : okP p) (w : World) (henv : Env w) (htabs : Tabs w) :
    Calls Tryz.prog 5 #[av a, av b, .int .i64 m, .int .i64 n, pv p] w fun e w' => e = .returned (.bool true) ∧ Ext w w' := by
  have VA := Lib.hid (fun w => vadr_any a ha w)
  have SB := Lib.hid (fun w => some_any b hb w)
  have GP := Lib.hid (fun w => gprefix_any p hp w)
  have hx := okA_vadr ha
  have hxv := valid_vadr a
  generalize vadr a = x at *
  have hbl := bitLen_pos x
  have hi := modI_bd m (n := bitLen x + 1) (by omega) (by omega)
  have hj := modI_bd n (n := bitLen x + 1) (by omega) (by omega)
  have M1 := fun w => mod_any m (bitLen x + 1) w (u64_ne (by omega) (by omega))
  have M2 := fun w => mod_any n (bitLen x + 1) w (u64_ne (by omega) (by omega))
  have hL1 : IntKind.i64.wrap (bitLen x + 1) = bitLen x + 1 := IntWalk.i64_in _ (by omega)
  generalize modI m (bitLen x + 1) = i at *
  generalize modI n (bitLen x + 1) = j at *
  have K1 := fun w => cprefix_any x hx (max i j) (by unfold i64ok; omega) w
  rw [prefixOf_ok hxv (by omega) (by omega)] at K1
  have K2 := fun w => cprefix_any x hx (min i j) (by unfold i64ok; omega) w
  rw [prefixOf_ok hxv (by omega) (by omega)] at K2
  have hl : okP (truncA x (max i j), max i j) := ⟨okA_trunc hx _, by unfold i64ok; omega⟩
  have hs : okP (truncA x (min i j), min i j) := ⟨okA_trunc hx _, by unfold i64ok; omega⟩
  have CL := contains_own hx hxv (n := max i j) (by omega) (by omega)
  have CS := contains_own hx hxv (n := min i j) (by omega) (by omega)
  have C1 : coversP (truncA x (min i j), min i j) (truncA x (max i j), max i j) = true := nest hx CS CL (by show min i j ≤ max i j; omega)
  have C2 : coversP (truncA x (max i j), max i j) (truncA x (min i j), min i j) = (i == j) := by
    cases h : (i == j) with
    | true =>
      have e : i = j := by simpa using h
      exact nest hx CL CS (by show max i j ≤ min i j; omega)
    | false =>
      have e : i ≠ j := by simpa using h
      cases hc : coversP (truncA x (max i j), max i j) (truncA x (min i j), min i j) with
      | false => rfl
      | true =>
        have := (covers_iff.1 hc).2.1
        exact absurd this (by show ¬ max i j ≤ min i j; omega)
  have K3 := fun w => ccovers_any _ _ hs hl w
  rw [C1] at K3
  have K4 := fun w => ccovers_any _ _ hl hs w
  rw [C2] at K4
  have UP := Lib.hid (fun y hy => @contains_up _ _ y hy C1)
  have NE := Lib.hid (fun (q : Pfx) y hy => @nest q (truncA x (max i j), max i j) y hy)
  have NE2 := Lib.hid (fun (q : Pfx) y hy => @nest (truncA x (max i j), max i j) q y hy)
  have hmx : max i j = max i j := rfl
  generalize hlq : ((truncA x (max i j), max i j) : Pfx) = lo at *
  generalize hsq : ((truncA x (min i j), min i j) : Pfx) = sh at *
  have BL := fun w => rBitLen_any x hx w
  generalize bitLen x = L at *
  have k1 := Lib.hid K1; have k2 := Lib.hid K2; have k3 := Lib.hid K3; have k4 := Lib.hid K4; have m1 := Lib.hid M1; have m2 := Lib.hid M2; have bl := Lib.hid BL
  clear K1 K2 K3 K4 M1 M2 BL C1 C2 CL CS hi hj hbl hlq hsq hmx
  unfold av pv
  go_enter Tryz.func5, Tryz.ntmps5
  go_upto_region 1 with fail
  have hx := (((Ext.refl w).alloc (.cells (ac a) 24)).alloc (.cells (ac b) 24)).alloc (.cells (pc p) 26)
  have hA := (Blk.new w (ac a) 24).ext (((Ext.refl _).alloc (.cells (ac b) 24)).alloc (.cells (pc p) 26))
  have hB := (Blk.new (w.alloc (.cells (ac a) 24)) (ac b) 24).ext ((Ext.refl _).alloc (.cells (pc p) 26))
  have hP := Blk.new ((w.alloc (.cells (ac a) 24)).alloc (.cells (ac b) 24)) (pc p) 26
  rw [World.size_alloc] at hB hP
  rw [World.size_alloc] at hP
  generalize ((w.alloc (.cells (ac a) 24)).alloc (.cells (ac b) 24)).alloc (.cells (pc p) 26) = w0 at *
  generalize w.heap.size = c at *
  go_wp2_with (first | refine wpList_load_A rfl _ rfl ha hA rfl ?_ | (go_at_call 20; refine (VA.out _).mono ?_; rintro e w1 ⟨rfl, hx1⟩; refine Hid.out ?_))
  refine Lib.hid ?_
  have hA1 := hA.ext hx1
  have hB1 := hB.ext hx1
  have hP1 := hP.ext hx1
  have hxx1 := hx.trans hx1
  clear hx hx1 hA hB hP
  have hbf := Blk.new w1 (ac zadr) 24
  go_upto_region 2 with (refine wpList_store_A rfl _ _ rfl okA_zadr hx hbf rfl rfl ?_)
  change Code.wp _ _ _ _ ((w1.alloc (.cells (ac zadr) 24)).setRow w1.heap.size (ac x))
  rw [World.setRow_alloc_new]
  have hX2 := Blk.new w1 (ac x) 24
  have hx2 := hxx1.alloc (.cells (ac x) 24)
  have hnx := (Ext.refl w1).alloc (.cells (ac x) 24)
  clear hbf
  generalize w1.alloc (.cells (ac x) 24) = w2 at *
  generalize w1.heap.size = b1 at *
  have hB2 := hB1.ext hnx
  have hP2 := hP1.ext hnx
  clear hnx hxx1 hA1 hB1 hP1
  have gX : ∀ w', Ext w2 w' → Blk w' b1 (ac x).toList 24 := fun w' h => hX2.ext h
  refine wp_region_rg w2 (by kernel_rfl) (by kernel_rfl) (Ext.refl _) ?_
  first
    | (apply goV_skip (by intro u; rfl))
    | (apply goV_val _ (by intro u; rfl); · (intro u w hSw hF; go_simp; try with_reducible rfl))
  try simp only [Act.put, List.setIfInBounds_toArray, List.set_cons_zero, List.set_cons_succ]
  first
    | (apply goV_skip (by intro u; rfl))
    | (apply goV_loadA (by intro u; rfl) _ rfl hx gX (by intro u; rfl))
  try simp only [Act.put, List.setIfInBounds_toArray, List.set_cons_zero, List.set_cons_succ]
  first
    | (apply goV_skip (by intro u; rfl))
    | (apply goV_call (by intro u; rfl) (fun w' _ => bl.out w'); · (intro u w hSw hF; go_simp; try with_reducible rfl))
  try simp only [Act.put, List.setIfInBounds_toArray, List.set_cons_zero, List.set_cons_succ]
  first
    | (apply goV_skip (by intro u; rfl))
    | (apply goV_val _ (by intro u; rfl); · (intro u w hSw hF; go_simp; try with_reducible rfl))
  try simp only [Act.put, List.setIfInBounds_toArray, List.set_cons_zero, List.set_cons_succ]
  first
    | (apply goV_skip (by intro u; rfl))
    | (apply goV_call (by intro u; rfl) (fun w' _ => m1.out w'); · (intro u w hSw hF; go_simp; try with_reducible rfl))
  try simp only [Act.put, List.setIfInBounds_toArray, List.set_cons_zero, List.set_cons_succ]
  first
    | (apply goV_skip (by intro u; rfl))
    | (apply goV_val _ (by intro u; rfl); · (intro u w hSw hF; go_simp; try with_reducible rfl))
  try simp only [Act.put, List.setIfInBounds_toArray, List.set_cons_zero, List.set_cons_succ]
  first
    | (apply goV_skip (by intro u; rfl))
    | (apply goV_loadA (by intro u; rfl) _ rfl hx gX (by intro u; rfl))
  try simp only [Act.put, List.setIfInBounds_toArray, List.set_cons_zero, List.set_cons_succ]
  first
    | (apply goV_skip (by intro u; rfl))
    | (apply goV_call (by intro u; rfl) (fun w' _ => bl.out w'); · (intro u w hSw hF; go_simp; try with_reducible rfl))
  try simp only [Act.put, List.setIfInBounds_toArray, List.set_cons_zero, List.set_cons_succ]
  first
    | (apply goV_skip (by intro u; rfl))
    | (apply goV_val _ (by intro u; rfl); · (intro u w hSw hF; go_simp; try with_reducible rfl))
  try simp only [Act.put, List.setIfInBounds_toArray, List.set_cons_zero, List.set_cons_succ]
  first
    | (apply goV_skip (by intro u; rfl))
    | (apply goV_call (by intro u; rfl) (fun w' _ => m2.out w'); · (intro u w hSw hF; go_simp; try with_reducible rfl))
  try simp only [Act.put, List.setIfInBounds_toArray, List.set_cons_zero, List.set_cons_succ]
  first
    | (apply goV_skip (by intro u; rfl))
    | (apply goV_val _ (by intro u; rfl); · (intro u w hSw hF; go_simp; try with_reducible rfl))
  try simp only [Act.put, List.setIfInBounds_toArray, List.set_cons_zero, List.set_cons_succ]
  first
    | (apply goV_skip (by intro u; rfl))
    | (apply goV_val _ (by intro u; rfl); · (intro u w hSw hF; go_simp; try with_reducible rfl))
  try simp only [Act.put, List.setIfInBounds_toArray, List.set_cons_zero, List.set_cons_succ]
  intro u w3 hx3 _
  have hB3 := hB2.ext hx3
  have hP3 := hP2.ext hx3
  have hX3 := hX2.ext hx3
  have hxx3 := hx2.trans hx3
  clear hB2 hP2 hX2 hx2 hx3 gX bl m1 m2 hL1
  refine Lib.hid ?_
  go_wp2_with (first | refine wpList_load_A rfl _ rfl hx hX3 rfl ?_ | (go_at_call 18; refine (k1.out _).mono ?_; rintro e w4 ⟨rfl, hx4⟩; refine Hid.out ?_))
  refine Lib.hid ?_
  have hB4 := hB3.ext hx4
  have hP4 := hP3.ext hx4
  have hX4 := hX3.ext hx4
  have hxx4 := hxx3.trans hx4
  clear hB3 hP3 hX3 hxx3 hx4
  have hbf := Blk.new w4 (pc zpfx) 26
  go_upto_region 4 with (refine wpList_store_P rfl _ _ rfl okP_zpfx hl hbf rfl rfl ?_)
  change Code.wp _ _ _ _ ((w4.alloc (.cells (pc zpfx) 26)).setRow w4.heap.size (pc lo))
  rw [World.setRow_alloc_new]
  have hL5 := Blk.new w4 (pc lo) 26
  have hx5 := hxx4.alloc (.cells (pc lo) 26)
  have hnx := (Ext.refl w4).alloc (.cells (pc lo) 26)
  clear hbf
  generalize w4.alloc (.cells (pc lo) 26) = w5 at *
  generalize w4.heap.size = b2 at *
  have hB5 := hB4.ext hnx
  have hP5 := hP4.ext hnx
  have hX5 := hX4.ext hnx
  clear hnx hxx4 hB4 hP4 hX4
  go_wp2_with (first | refine wpList_load_A rfl _ rfl hx hX5 rfl ?_ | (go_at_call 18; refine (k2.out _).mono ?_; rintro e w6 ⟨rfl, hx6⟩; refine Hid.out ?_))
  refine Lib.hid ?_
  have hB6 := hB5.ext hx6
  have hP6 := hP5.ext hx6
  have hL6 := hL5.ext hx6
  have hxx6 := hx5.trans hx6
  clear hB5 hP5 hX5 hL5 hx5 hx6
  have hbf := Blk.new w6 (pc zpfx) 26
  go_upto_region 5 with (refine wpList_store_P rfl _ _ rfl okP_zpfx hs hbf rfl rfl ?_)
  change Code.wp _ _ _ _ ((w6.alloc (.cells (pc zpfx) 26)).setRow w6.heap.size (pc sh))
  rw [World.setRow_alloc_new]
  have hS7 := Blk.new w6 (pc sh) 26
  have hx7 := hxx6.alloc (.cells (pc sh) 26)
  have hnx := (Ext.refl w6).alloc (.cells (pc sh) 26)
  clear hbf
  generalize w6.alloc (.cells (pc sh) 26) = w7 at *
  generalize w6.heap.size = b3 at *
  have hB7 := hB6.ext hnx
  have hP7 := hP6.ext hnx
  have hL7 := hL6.ext hnx
  clear hnx hxx6 hB6 hP6 hL6
  have gL : ∀ w', Ext w7 w' → PBlk w' b2 lo := fun w' h => hL7.ext h
  have gS : ∀ w', Ext w7 w' → PBlk w' b3 sh := fun w' h => hS7.ext h
  refine wp_region_rgs ?_
  first
    | (apply goV_skip (by intro u; rfl))
    | (apply goV_val _ (by intro u; rfl); · (intro u w hSw hF; go_simp; try with_reducible rfl))
  try simp only [Act.put, List.setIfInBounds_toArray, List.set_cons_zero, List.set_cons_succ]
  first
    | (apply goV_skip (by intro u; rfl))
    | (apply goV_val _ (by intro u; rfl); · (intro u w hSw hF; go_simp; try with_reducible rfl))
  try simp only [Act.put, List.setIfInBounds_toArray, List.set_cons_zero, List.set_cons_succ]
  first
    | (apply goV_skip (by intro u; rfl))
    | (apply goV_val _ (by intro u; rfl); · (intro u w hSw hF; go_simp; try with_reducible rfl))
  try simp only [Act.put, List.setIfInBounds_toArray, List.set_cons_zero, List.set_cons_succ]
  first
    | (apply goV_skip (by intro u; rfl))
    | (apply goV_val _ (by intro u; rfl); · (intro u w hSw hF; go_simp; try with_reducible rfl))
  try simp only [Act.put, List.setIfInBounds_toArray, List.set_cons_zero, List.set_cons_succ]
  first
    | (apply goV_skip (by intro u; rfl))
    | (apply goV_val _ (by intro u; rfl); · (intro u w hSw hF; go_simp; try with_reducible rfl))
  try simp only [Act.put, List.setIfInBounds_toArray, List.set_cons_zero, List.set_cons_succ]
  first
    | (apply goV_skip (by intro u; rfl))
    | (apply goV_val _ (by intro u; rfl); · (intro u w hSw hF; go_simp; try with_reducible rfl))
  try simp only [Act.put, List.setIfInBounds_toArray, List.set_cons_zero, List.set_cons_succ]
  first
    | (apply goV_skip (by intro u; rfl))
    | (apply goV_val _ (by intro u; rfl); · (intro u w hSw hF; go_simp; try with_reducible rfl))
  try simp only [Act.put, List.setIfInBounds_toArray, List.set_cons_zero, List.set_cons_succ]
  first
    | (apply goV_skip (by intro u; rfl))
    | (apply goV_loadP (by intro u; rfl) _ rfl hs gS (by intro u; rfl))
  try simp only [Act.put, List.setIfInBounds_toArray, List.set_cons_zero, List.set_cons_succ]
  first
    | (apply goV_skip (by intro u; rfl))
    | (apply goV_loadP (by intro u; rfl) _ rfl hl gL (by intro u; rfl))
  try simp only [Act.put, List.setIfInBounds_toArray, List.set_cons_zero, List.set_cons_succ]
  first
    | (apply goV_skip (by intro u; rfl))
    | (apply goV_call (by intro u; rfl) (fun w' _ => k3.out w'); · (intro u w hSw hF; go_simp; try with_reducible rfl))
  try simp only [Act.put, List.setIfInBounds_toArray, List.set_cons_zero, List.set_cons_succ]
  first
    | (apply goV_skip (by intro u; rfl))
    | (apply goV_val _ (by intro u; rfl); · (intro u w hSw hF; go_simp; try with_reducible rfl))
  try simp only [Act.put, List.setIfInBounds_toArray, List.set_cons_zero, List.set_cons_succ]
  first
    | (apply goV_skip (by intro u; rfl))
    | (apply goV_val _ (by intro u; rfl); · (intro u w hSw hF; go_simp; try with_reducible rfl))
  try simp only [Act.put, List.setIfInBounds_toArray, List.set_cons_zero, List.set_cons_succ]
  first
    | (apply goV_skip (by intro u; rfl))
    | (apply goV_val _ (by intro u; rfl); · (intro u w hSw hF; go_simp; try with_reducible rfl))
  try simp only [Act.put, List.setIfInBounds_toArray, List.set_cons_zero, List.set_cons_succ]
  first
    | (apply goV_skip (by intro u; rfl))
    | (apply goV_loadP (by intro u; rfl) _ rfl hl gL (by intro u; rfl))
  try simp only [Act.put, List.setIfInBounds_toArray, List.set_cons_zero, List.set_cons_succ]
  first
    | (apply goV_skip (by intro u; rfl))
    | (apply goV_loadP (by intro u; rfl) _ rfl hs gS (by intro u; rfl))
  try simp only [Act.put, List.setIfInBounds_toArray, List.set_cons_zero, List.set_cons_succ]
  first
    | (apply goV_skip (by intro u; rfl))
    | (apply goV_call (by intro u; rfl) (fun w' _ => k4.out w'); · (intro u w hSw hF; go_simp; try with_reducible rfl))
  try simp only [Act.put, List.setIfInBounds_toArray, List.set_cons_zero, List.set_cons_succ]
  first
    | (apply goV_skip (by intro u; rfl))
    | (apply goV_val _ (by intro u; rfl); · (intro u w hSw hF; go_simp; try with_reducible rfl))
  try simp only [Act.put, List.setIfInBounds_toArray, List.set_cons_zero, List.set_cons_succ]
  first
    | (apply goV_skip (by intro u; rfl))
    | (apply goV_val _ (by intro u; rfl); · (intro u w hSw hF; go_simp; try with_reducible rfl))
  try simp only [Act.put, List.setIfInBounds_toArray, List.set_cons_zero, List.set_cons_succ]
  first
    | (apply goV_skip (by intro u; rfl))
    | (apply goV_val _ (by intro u; rfl); · (intro u w hSw hF; go_simp; try with_reducible rfl))
  try simp only [Act.put, List.setIfInBounds_toArray, List.set_cons_zero, List.set_cons_succ]
  first
    | (apply goV_skip (by intro u; rfl))
    | (apply goV_val _ (by intro u; rfl); · (intro u w hSw hF; go_simp; try with_reducible rfl))
  try simp only [Act.put, List.setIfInBounds_toArray, List.set_cons_zero, List.set_cons_succ]
  first
    | (apply goV_skip (by intro u; rfl))
    | (apply goV_val _ (by intro u; rfl); · (intro u w hSw hF; go_simp; try with_reducible rfl))
  try simp only [Act.put, List.setIfInBounds_toArray, List.set_cons_zero, List.set_cons_succ]
  intro u w8 hx8 _
  have hB8 := hB7.ext hx8
  have hP8 := hP7.ext hx8
  have hL8 := hL7.ext hx8
  have hS8 := hS7.ext hx8
  have hxx8 := hx7.trans hx8
  clear hB7 hP7 hL7 hS7 hx7 hx8 gL gS k1 k2 k3 k4
  go_wp2_with (first | refine wpList_load_A rfl _ rfl hb hB8 rfl ?_ | (go_at_call 16; refine (SB.out _).mono ?_; rintro e w9 ⟨y, hy, rfl, hx9⟩; refine Hid.out ?_))
  refine Lib.hid ?_
  have hP9 := hP8.ext hx9
  have hL9 := hL8.ext hx9
  have hS9 := hS8.ext hx9
  have hxx9 := hxx8.trans hx9
  clear hB8 hP8 hL8 hS8 hxx8 hx9
  have hbf := Blk.new w9 (ac zadr) 24
  go_upto_region 8 with (refine wpList_store_A rfl _ _ rfl okA_zadr hy hbf rfl rfl ?_)
  change Code.wp _ _ _ _ ((w9.alloc (.cells (ac zadr) 24)).setRow w9.heap.size (ac y))
  rw [World.setRow_alloc_new]
  have hYa := Blk.new w9 (ac y) 24
  have hxa := hxx9.alloc (.cells (ac y) 24)
  have hnx := (Ext.refl w9).alloc (.cells (ac y) 24)
  clear hbf
  generalize w9.alloc (.cells (ac y) 24) = wa at *
  generalize w9.heap.size = b4 at *
  have hPa := hP9.ext hnx
  have hLa := hL9.ext hnx
  have hSa := hS9.ext hnx
  clear hnx hxx9 hP9 hL9 hS9
  have gL : ∀ w', Ext wa w' → PBlk w' b2 lo := fun w' h => hLa.ext h
  have gS : ∀ w', Ext wa w' → PBlk w' b3 sh := fun w' h => hSa.ext h
  have gY : ∀ w', Ext wa w' → Blk w' b4 (ac y).toList 24 := fun w' h => hYa.ext h
  have c3 := fun (w' : World) => ccontains_any lo y hl hy w'
  have c4 := fun (w' : World) => ccontains_any sh y hs hy w'
  have up := UP.out y hy
  have ne := fun q => NE.out q y hy
  have ne2 := fun q => NE2.out q y hy
  clear UP NE NE2
  have fin0 : ∀ q, coversP q lo = true ∨ coversP lo q = true ∨ containsP q y = false ∨ containsP lo y = false := by
    intro q
    by_cases h1 : containsP q y = true
    · by_cases h2 : containsP lo y = true
      · rcases Int.le_total q.2 lo.2 with h3 | h3
        · exact .inl (ne q h1 h2 h3)
        · exact .inr (.inl (ne2 q h2 h1 h3))
      · right; right; right; simpa using h2
    · right; right; left; simpa using h1
  clear ne ne2
  cases hd : containsP lo y with
  | false =>
    rw [hd] at c3 fin0
    have FIN := Lib.hid fin0
    clear up hd fin0
    refine wp_region_rgs ?_
    first
      | (apply goV_skip (by intro u; rfl))
      | (apply goV_loadP (by intro u; rfl) _ rfl hl gL (by intro u; rfl))
    try simp only [Act.put, List.setIfInBounds_toArray, List.set_cons_zero, List.set_cons_succ]
    first
      | (apply goV_skip (by intro u; rfl))
      | (apply goV_loadA (by intro u; rfl) _ rfl hy gY (by intro u; rfl))
    try simp only [Act.put, List.setIfInBounds_toArray, List.set_cons_zero, List.set_cons_succ]
    first
      | (apply goV_skip (by intro u; rfl))
      | (apply goV_call (by intro u; rfl) (fun w' _ => c3 w'); · (intro u w hSw hF; go_simp; try with_reducible rfl))
    try simp only [Act.put, List.setIfInBounds_toArray, List.set_cons_zero, List.set_cons_succ]
    first
      | (apply goV_skip (by intro u; rfl))
      | (apply goV_val _ (by intro u; rfl); · (intro u w hSw hF; go_simp; try with_reducible rfl))
    try simp only [Act.put, List.setIfInBounds_toArray, List.set_cons_zero, List.set_cons_succ]
    first
      | (apply goV_skip (by intro u; rfl))
      | (apply goV_loadP (by intro u; rfl) _ rfl hs gS (by intro u; rfl))
    try simp only [Act.put, List.setIfInBounds_toArray, List.set_cons_zero, List.set_cons_succ]
    first
      | (apply goV_skip (by intro u; rfl))
      | (apply goV_loadA (by intro u; rfl) _ rfl hy gY (by intro u; rfl))
    try simp only [Act.put, List.setIfInBounds_toArray, List.set_cons_zero, List.set_cons_succ]
    first
      | (apply goV_skip (by intro u; rfl))
      | (apply goV_call (by intro u; rfl) (fun w' _ => c4 w'); · (intro u w hSw hF; go_simp; try with_reducible rfl))
    try simp only [Act.put, List.setIfInBounds_toArray, List.set_cons_zero, List.set_cons_succ]
    first
      | (apply goV_skip (by intro u; rfl))
      | (apply goV_val _ (by intro u; rfl); · (intro u w hSw hF; go_simp; try with_reducible rfl))
    try simp only [Act.put, List.setIfInBounds_toArray, List.set_cons_zero, List.set_cons_succ]
    first
      | (apply goV_skip (by intro u; rfl))
      | (apply goV_val _ (by intro u; rfl); · (intro u w hSw hF; go_simp; try with_reducible rfl))
    try simp only [Act.put, List.setIfInBounds_toArray, List.set_cons_zero, List.set_cons_succ]
    intro u wb hxb _
    have hPb := hPa.ext hxb
    have hLb := hLa.ext hxb
    have hYb := hYa.ext hxb
    have hxxb := hxa.trans hxb
    clear hPa hLa hSa hYa hxa hxb gL gS gY c4
    go_wp2_with (first | refine wpList_load_P rfl _ rfl hp hPb rfl ?_ | (go_at_call 7; refine (GP.out _).mono ?_; rintro e wc ⟨q, hq, hqv, rfl, hxc⟩; refine Hid.out ?_))
    refine Lib.hid ?_
    have hLc := hLb.ext hxc
    have hYc := hYb.ext hxc
    have hxxc := hxxb.trans hxc
    clear hPb hLb hYb hxxb hxc
    have hbf := Blk.new wc (pc zpfx) 26
    go_upto_region 11 with (refine wpList_store_P rfl _ _ rfl okP_zpfx hq hbf rfl rfl ?_)
    change Code.wp _ _ _ _ ((wc.alloc (.cells (pc zpfx) 26)).setRow wc.heap.size (pc q))
    rw [World.setRow_alloc_new]
    have hQd := Blk.new wc (pc q) 26
    have hxd := hxxc.alloc (.cells (pc q) 26)
    have hnx := (Ext.refl wc).alloc (.cells (pc q) 26)
    clear hbf
    generalize wc.alloc (.cells (pc q) 26) = wd at *
    generalize wc.heap.size = b5 at *
    have hLd := hLc.ext hnx
    have hYd := hYc.ext hnx
    clear hnx hxxc hLc hYc
    have gL : ∀ w', Ext wd w' → PBlk w' b2 lo := fun w' h => hLd.ext h
    have gQ : ∀ w', Ext wd w' → PBlk w' b5 q := fun w' h => hQd.ext h
    have gY : ∀ w', Ext wd w' → Blk w' b4 (ac y).toList 24 := fun w' h => hYd.ext h
    have c1 := fun (w' : World) (h : Ext wd w') => awake_any w' (henv.ext (hxd.trans h)) (htabs.ext (hxd.trans h))
    have c5 := fun (w' : World) => ccovers_any q lo hq hl w'
    have c6 := fun (w' : World) => ccovers_any lo q hl hq w'
    have c7 := fun (w' : World) => ccontains_any q y hq hy w'
    have fin := FIN.out q
    clear FIN GP hLd hYd hQd
    by_cases e1 : coversP q lo = true
    · rw [e1] at c5
      clear fin e1 c6 c7
      refine wp_region_rgs ?_
      first
        | (apply goV_skip (by intro u; rfl))
        | (apply goV_call (by intro u; rfl) c1; · (intro u w hSw hF; go_simp; try with_reducible rfl))
      try simp only [Act.put, List.setIfInBounds_toArray, List.set_cons_zero, List.set_cons_succ]
      first
        | (apply goV_skip (by intro u; rfl))
        | (apply goV_val _ (by intro u; rfl); · (intro u w hSw hF; go_simp; try with_reducible rfl))
      try simp only [Act.put, List.setIfInBounds_toArray, List.set_cons_zero, List.set_cons_succ]
      first
        | (apply goV_skip (by intro u; rfl))
        | (apply goV_loadP (by intro u; rfl) _ rfl hq gQ (by intro u; rfl))
      try simp only [Act.put, List.setIfInBounds_toArray, List.set_cons_zero, List.set_cons_succ]
      first
        | (apply goV_skip (by intro u; rfl))
        | (apply goV_loadP (by intro u; rfl) _ rfl hl gL (by intro u; rfl))
      try simp only [Act.put, List.setIfInBounds_toArray, List.set_cons_zero, List.set_cons_succ]
      first
        | (apply goV_skip (by intro u; rfl))
        | (apply goV_call (by intro u; rfl) (fun w' _ => c5 w'); · (intro u w hSw hF; go_simp; try with_reducible rfl))
      try simp only [Act.put, List.setIfInBounds_toArray, List.set_cons_zero, List.set_cons_succ]
      first
        | (apply goV_skip (by intro u; rfl))
        | (apply goV_val _ (by intro u; rfl); · (intro u w hSw hF; go_simp; try with_reducible rfl))
      try simp only [Act.put, List.setIfInBounds_toArray, List.set_cons_zero, List.set_cons_succ]
      first
        | (apply goV_skip (by intro u; rfl))
        | (apply goV_loadP (by intro u; rfl) _ rfl hl gL (by intro u; rfl))
      try simp only [Act.put, List.setIfInBounds_toArray, List.set_cons_zero, List.set_cons_succ]
      first
        | (apply goV_skip (by intro u; rfl))
        | (apply goV_loadP (by intro u; rfl) _ rfl hq gQ (by intro u; rfl))
      try simp only [Act.put, List.setIfInBounds_toArray, List.set_cons_zero, List.set_cons_succ]
      first
        | (apply goV_skip (by intro u; rfl))
        | (apply goV_call (by intro u; rfl) (fun w' _ => c6 w'); · (intro u w hSw hF; go_simp; try with_reducible rfl))
      try simp only [Act.put, List.setIfInBounds_toArray, List.set_cons_zero, List.set_cons_succ]
      first
        | (apply goV_skip (by intro u; rfl))
        | (apply goV_val _ (by intro u; rfl); · (intro u w hSw hF; go_simp; try with_reducible rfl))
      try simp only [Act.put, List.setIfInBounds_toArray, List.set_cons_zero, List.set_cons_succ]
      first
        | (apply goV_skip (by intro u; rfl))
        | (apply goV_val _ (by intro u; rfl); · (intro u w hSw hF; go_simp; try with_reducible rfl))
      try simp only [Act.put, List.setIfInBounds_toArray, List.set_cons_zero, List.set_cons_succ]
      first
        | (apply goV_skip (by intro u; rfl))
        | (apply goV_loadP (by intro u; rfl) _ rfl hq gQ (by intro u; rfl))
      try simp only [Act.put, List.setIfInBounds_toArray, List.set_cons_zero, List.set_cons_succ]
      first
        | (apply goV_skip (by intro u; rfl))
        | (apply goV_loadA (by intro u; rfl) _ rfl hy gY (by intro u; rfl))
      try simp only [Act.put, List.setIfInBounds_toArray, List.set_cons_zero, List.set_cons_succ]
      first
        | (apply goV_skip (by intro u; rfl))
        | (apply goV_call (by intro u; rfl) (fun w' _ => c7 w'); · (intro u w hSw hF; go_simp; try with_reducible rfl))
      try simp only [Act.put, List.setIfInBounds_toArray, List.set_cons_zero, List.set_cons_succ]
      first
        | (apply goV_skip (by intro u; rfl))
        | (apply goV_val _ (by intro u; rfl); · (intro u w hSw hF; go_simp; try with_reducible rfl))
      try simp only [Act.put, List.setIfInBounds_toArray, List.set_cons_zero, List.set_cons_succ]
      first
        | (apply goV_skip (by intro u; rfl))
        | (apply goV_loadP (by intro u; rfl) _ rfl hl gL (by intro u; rfl))
      try simp only [Act.put, List.setIfInBounds_toArray, List.set_cons_zero, List.set_cons_succ]
      first
        | (apply goV_skip (by intro u; rfl))
        | (apply goV_loadA (by intro u; rfl) _ rfl hy gY (by intro u; rfl))
      try simp only [Act.put, List.setIfInBounds_toArray, List.set_cons_zero, List.set_cons_succ]
      first
        | (apply goV_skip (by intro u; rfl))
        | (apply goV_call (by intro u; rfl) (fun w' _ => c3 w'); · (intro u w hSw hF; go_simp; try with_reducible rfl))
      try simp only [Act.put, List.setIfInBounds_toArray, List.set_cons_zero, List.set_cons_succ]
      first
        | (apply goV_skip (by intro u; rfl))
        | (apply goV_val _ (by intro u; rfl); · (intro u w hSw hF; go_simp; try with_reducible rfl))
      try simp only [Act.put, List.setIfInBounds_toArray, List.set_cons_zero, List.set_cons_succ]
      first
        | (apply goV_skip (by intro u; rfl))
        | (apply goV_val _ (by intro u; rfl); · (intro u w hSw hF; go_simp; try with_reducible rfl))
      try simp only [Act.put, List.setIfInBounds_toArray, List.set_cons_zero, List.set_cons_succ]
      first
        | (apply goV_skip (by intro u; rfl))
        | (apply goV_val _ (by intro u; rfl); · (intro u w hSw hF; go_simp; try with_reducible rfl))
      try simp only [Act.put, List.setIfInBounds_toArray, List.set_cons_zero, List.set_cons_succ]
      first
        | (apply goV_skip (by intro u; rfl))
        | (apply goV_val _ (by intro u; rfl); · (intro u w hSw hF; go_simp; try with_reducible rfl))
      try simp only [Act.put, List.setIfInBounds_toArray, List.set_cons_zero, List.set_cons_succ]
      first
        | (apply goV_skip (by intro u; rfl))
        | (apply goV_val _ (by intro u; rfl); · (intro u w hSw hF; go_simp; try with_reducible rfl))
      try simp only [Act.put, List.setIfInBounds_toArray, List.set_cons_zero, List.set_cons_succ]
      intro u we hxe _
      have hfin := hxd.trans hxe
      clear henv htabs
      go_wp2
      go_ret
      exact ⟨rfl, hfin⟩
    · by_cases e2 : coversP lo q = true
      · rw [Bool.eq_false_iff.2 e1] at c5
        rw [e2] at c6
        clear fin e1 e2 c7
        refine wp_region_rgs ?_
        first
          | (apply goV_skip (by intro u; rfl))
          | (apply goV_call (by intro u; rfl) c1; · (intro u w hSw hF; go_simp; try with_reducible rfl))
        try simp only [Act.put, List.setIfInBounds_toArray, List.set_cons_zero, List.set_cons_succ]
        first
          | (apply goV_skip (by intro u; rfl))
          | (apply goV_val _ (by intro u; rfl); · (intro u w hSw hF; go_simp; try with_reducible rfl))
        try simp only [Act.put, List.setIfInBounds_toArray, List.set_cons_zero, List.set_cons_succ]
        first
          | (apply goV_skip (by intro u; rfl))
          | (apply goV_loadP (by intro u; rfl) _ rfl hq gQ (by intro u; rfl))
        try simp only [Act.put, List.setIfInBounds_toArray, List.set_cons_zero, List.set_cons_succ]
        first
          | (apply goV_skip (by intro u; rfl))
          | (apply goV_loadP (by intro u; rfl) _ rfl hl gL (by intro u; rfl))
        try simp only [Act.put, List.setIfInBounds_toArray, List.set_cons_zero, List.set_cons_succ]
        first
          | (apply goV_skip (by intro u; rfl))
          | (apply goV_call (by intro u; rfl) (fun w' _ => c5 w'); · (intro u w hSw hF; go_simp; try with_reducible rfl))
        try simp only [Act.put, List.setIfInBounds_toArray, List.set_cons_zero, List.set_cons_succ]
        first
          | (apply goV_skip (by intro u; rfl))
          | (apply goV_val _ (by intro u; rfl); · (intro u w hSw hF; go_simp; try with_reducible rfl))
        try simp only [Act.put, List.setIfInBounds_toArray, List.set_cons_zero, List.set_cons_succ]
        first
          | (apply goV_skip (by intro u; rfl))
          | (apply goV_loadP (by intro u; rfl) _ rfl hl gL (by intro u; rfl))
        try simp only [Act.put, List.setIfInBounds_toArray, List.set_cons_zero, List.set_cons_succ]
        first
          | (apply goV_skip (by intro u; rfl))
          | (apply goV_loadP (by intro u; rfl) _ rfl hq gQ (by intro u; rfl))
        try simp only [Act.put, List.setIfInBounds_toArray, List.set_cons_zero, List.set_cons_succ]
        first
          | (apply goV_skip (by intro u; rfl))
          | (apply goV_call (by intro u; rfl) (fun w' _ => c6 w'); · (intro u w hSw hF; go_simp; try with_reducible rfl))
        try simp only [Act.put, List.setIfInBounds_toArray, List.set_cons_zero, List.set_cons_succ]
        first
          | (apply goV_skip (by intro u; rfl))
          | (apply goV_val _ (by intro u; rfl); · (intro u w hSw hF; go_simp; try with_reducible rfl))
        try simp only [Act.put, List.setIfInBounds_toArray, List.set_cons_zero, List.set_cons_succ]
        first
          | (apply goV_skip (by intro u; rfl))
          | (apply goV_val _ (by intro u; rfl); · (intro u w hSw hF; go_simp; try with_reducible rfl))
        try simp only [Act.put, List.setIfInBounds_toArray, List.set_cons_zero, List.set_cons_succ]
        first
          | (apply goV_skip (by intro u; rfl))
          | (apply goV_loadP (by intro u; rfl) _ rfl hq gQ (by intro u; rfl))
        try simp only [Act.put, List.setIfInBounds_toArray, List.set_cons_zero, List.set_cons_succ]
        first
          | (apply goV_skip (by intro u; rfl))
          | (apply goV_loadA (by intro u; rfl) _ rfl hy gY (by intro u; rfl))
        try simp only [Act.put, List.setIfInBounds_toArray, List.set_cons_zero, List.set_cons_succ]
        first
          | (apply goV_skip (by intro u; rfl))
          | (apply goV_call (by intro u; rfl) (fun w' _ => c7 w'); · (intro u w hSw hF; go_simp; try with_reducible rfl))
        try simp only [Act.put, List.setIfInBounds_toArray, List.set_cons_zero, List.set_cons_succ]
        first
          | (apply goV_skip (by intro u; rfl))
          | (apply goV_val _ (by intro u; rfl); · (intro u w hSw hF; go_simp; try with_reducible rfl))
        try simp only [Act.put, List.setIfInBounds_toArray, List.set_cons_zero, List.set_cons_succ]
        first
          | (apply goV_skip (by intro u; rfl))
          | (apply goV_loadP (by intro u; rfl) _ rfl hl gL (by intro u; rfl))
        try simp only [Act.put, List.setIfInBounds_toArray, List.set_cons_zero, List.set_cons_succ]
        first
          | (apply goV_skip (by intro u; rfl))
          | (apply goV_loadA (by intro u; rfl) _ rfl hy gY (by intro u; rfl))
        try simp only [Act.put, List.setIfInBounds_toArray, List.set_cons_zero, List.set_cons_succ]
        first
          | (apply goV_skip (by intro u; rfl))
          | (apply goV_call (by intro u; rfl) (fun w' _ => c3 w'); · (intro u w hSw hF; go_simp; try with_reducible rfl))
        try simp only [Act.put, List.setIfInBounds_toArray, List.set_cons_zero, List.set_cons_succ]
        first
          | (apply goV_skip (by intro u; rfl))
          | (apply goV_val _ (by intro u; rfl); · (intro u w hSw hF; go_simp; try with_reducible rfl))
        try simp only [Act.put, List.setIfInBounds_toArray, List.set_cons_zero, List.set_cons_succ]
        first
          | (apply goV_skip (by intro u; rfl))
          | (apply goV_val _ (by intro u; rfl); · (intro u w hSw hF; go_simp; try with_reducible rfl))
        try simp only [Act.put, List.setIfInBounds_toArray, List.set_cons_zero, List.set_cons_succ]
        first
          | (apply goV_skip (by intro u; rfl))
          | (apply goV_val _ (by intro u; rfl); · (intro u w hSw hF; go_simp; try with_reducible rfl))
        try simp only [Act.put, List.setIfInBounds_toArray, List.set_cons_zero, List.set_cons_succ]
        first
          | (apply goV_skip (by intro u; rfl))
          | (apply goV_val _ (by intro u; rfl); · (intro u w hSw hF; go_simp; try with_reducible rfl))
        try simp only [Act.put, List.setIfInBounds_toArray, List.set_cons_zero, List.set_cons_succ]
        first
          | (apply goV_skip (by intro u; rfl))
          | (apply goV_val _ (by intro u; rfl); · (intro u w hSw hF; go_simp; try with_reducible rfl))
        try simp only [Act.put, List.setIfInBounds_toArray, List.set_cons_zero, List.set_cons_succ]
        intro u we hxe _
        have hfin := hxd.trans hxe
        clear henv htabs
        go_wp2
        go_ret
        exact ⟨rfl, hfin⟩
      · by_cases e3 : containsP q y = true
        · have e4 : false = false := by
            rcases fin with h | h | h | h
            · exact absurd h e1
            · exact absurd h e2
            · exact absurd (e3.symm.trans h) (by decide)
            · first | exact h | rfl
          rw [Bool.eq_false_iff.2 e1] at c5
          rw [Bool.eq_false_iff.2 e2] at c6
          rw [e3] at c7
          clear fin e1 e2 e3
          first
            | (exact absurd e4 (by decide))
            | (clear e4
               refine wp_region_rgs ?_
               first
                 | (apply goV_skip (by intro u; rfl))
                 | (apply goV_call (by intro u; rfl) c1; · (intro u w hSw hF; go_simp; try with_reducible rfl))
               try simp only [Act.put, List.setIfInBounds_toArray, List.set_cons_zero, List.set_cons_succ]
               first
                 | (apply goV_skip (by intro u; rfl))
                 | (apply goV_val _ (by intro u; rfl); · (intro u w hSw hF; go_simp; try with_reducible rfl))
               try simp only [Act.put, List.setIfInBounds_toArray, List.set_cons_zero, List.set_cons_succ]
               first
                 | (apply goV_skip (by intro u; rfl))
                 | (apply goV_loadP (by intro u; rfl) _ rfl hq gQ (by intro u; rfl))
               try simp only [Act.put, List.setIfInBounds_toArray, List.set_cons_zero, List.set_cons_succ]
               first
                 | (apply goV_skip (by intro u; rfl))
                 | (apply goV_loadP (by intro u; rfl) _ rfl hl gL (by intro u; rfl))
               try simp only [Act.put, List.setIfInBounds_toArray, List.set_cons_zero, List.set_cons_succ]
               first
                 | (apply goV_skip (by intro u; rfl))
                 | (apply goV_call (by intro u; rfl) (fun w' _ => c5 w'); · (intro u w hSw hF; go_simp; try with_reducible rfl))
               try simp only [Act.put, List.setIfInBounds_toArray, List.set_cons_zero, List.set_cons_succ]
               first
                 | (apply goV_skip (by intro u; rfl))
                 | (apply goV_val _ (by intro u; rfl); · (intro u w hSw hF; go_simp; try with_reducible rfl))
               try simp only [Act.put, List.setIfInBounds_toArray, List.set_cons_zero, List.set_cons_succ]
               first
                 | (apply goV_skip (by intro u; rfl))
                 | (apply goV_loadP (by intro u; rfl) _ rfl hl gL (by intro u; rfl))
               try simp only [Act.put, List.setIfInBounds_toArray, List.set_cons_zero, List.set_cons_succ]
               first
                 | (apply goV_skip (by intro u; rfl))
                 | (apply goV_loadP (by intro u; rfl) _ rfl hq gQ (by intro u; rfl))
               try simp only [Act.put, List.setIfInBounds_toArray, List.set_cons_zero, List.set_cons_succ]
               first
                 | (apply goV_skip (by intro u; rfl))
                 | (apply goV_call (by intro u; rfl) (fun w' _ => c6 w'); · (intro u w hSw hF; go_simp; try with_reducible rfl))
               try simp only [Act.put, List.setIfInBounds_toArray, List.set_cons_zero, List.set_cons_succ]
               first
                 | (apply goV_skip (by intro u; rfl))
                 | (apply goV_val _ (by intro u; rfl); · (intro u w hSw hF; go_simp; try with_reducible rfl))
               try simp only [Act.put, List.setIfInBounds_toArray, List.set_cons_zero, List.set_cons_succ]
               first
                 | (apply goV_skip (by intro u; rfl))
                 | (apply goV_val _ (by intro u; rfl); · (intro u w hSw hF; go_simp; try with_reducible rfl))
               try simp only [Act.put, List.setIfInBounds_toArray, List.set_cons_zero, List.set_cons_succ]
               first
                 | (apply goV_skip (by intro u; rfl))
                 | (apply goV_loadP (by intro u; rfl) _ rfl hq gQ (by intro u; rfl))
               try simp only [Act.put, List.setIfInBounds_toArray, List.set_cons_zero, List.set_cons_succ]
               first
                 | (apply goV_skip (by intro u; rfl))
                 | (apply goV_loadA (by intro u; rfl) _ rfl hy gY (by intro u; rfl))
               try simp only [Act.put, List.setIfInBounds_toArray, List.set_cons_zero, List.set_cons_succ]
               first
                 | (apply goV_skip (by intro u; rfl))
                 | (apply goV_call (by intro u; rfl) (fun w' _ => c7 w'); · (intro u w hSw hF; go_simp; try with_reducible rfl))
               try simp only [Act.put, List.setIfInBounds_toArray, List.set_cons_zero, List.set_cons_succ]
               first
                 | (apply goV_skip (by intro u; rfl))
                 | (apply goV_val _ (by intro u; rfl); · (intro u w hSw hF; go_simp; try with_reducible rfl))
               try simp only [Act.put, List.setIfInBounds_toArray, List.set_cons_zero, List.set_cons_succ]
               first
                 | (apply goV_skip (by intro u; rfl))
                 | (apply goV_loadP (by intro u; rfl) _ rfl hl gL (by intro u; rfl))
               try simp only [Act.put, List.setIfInBounds_toArray, List.set_cons_zero, List.set_cons_succ]
               first
                 | (apply goV_skip (by intro u; rfl))
                 | (apply goV_loadA (by intro u; rfl) _ rfl hy gY (by intro u; rfl))
               try simp only [Act.put, List.setIfInBounds_toArray, List.set_cons_zero, List.set_cons_succ]
               first
                 | (apply goV_skip (by intro u; rfl))
                 | (apply goV_call (by intro u; rfl) (fun w' _ => c3 w'); · (intro u w hSw hF; go_simp; try with_reducible rfl))
               try simp only [Act.put, List.setIfInBounds_toArray, List.set_cons_zero, List.set_cons_succ]
               first
                 | (apply goV_skip (by intro u; rfl))
                 | (apply goV_val _ (by intro u; rfl); · (intro u w hSw hF; go_simp; try with_reducible rfl))
               try simp only [Act.put, List.setIfInBounds_toArray, List.set_cons_zero, List.set_cons_succ]
               first
                 | (apply goV_skip (by intro u; rfl))
                 | (apply goV_val _ (by intro u; rfl); · (intro u w hSw hF; go_simp; try with_reducible rfl))
               try simp only [Act.put, List.setIfInBounds_toArray, List.set_cons_zero, List.set_cons_succ]
               first
                 | (apply goV_skip (by intro u; rfl))
                 | (apply goV_val _ (by intro u; rfl); · (intro u w hSw hF; go_simp; try with_reducible rfl))
               try simp only [Act.put, List.setIfInBounds_toArray, List.set_cons_zero, List.set_cons_succ]
               first
                 | (apply goV_skip (by intro u; rfl))
                 | (apply goV_val _ (by intro u; rfl); · (intro u w hSw hF; go_simp; try with_reducible rfl))
               try simp only [Act.put, List.setIfInBounds_toArray, List.set_cons_zero, List.set_cons_succ]
               first
                 | (apply goV_skip (by intro u; rfl))
                 | (apply goV_val _ (by intro u; rfl); · (intro u w hSw hF; go_simp; try with_reducible rfl))
               try simp only [Act.put, List.setIfInBounds_toArray, List.set_cons_zero, List.set_cons_succ]
               intro u we hxe _
               have hfin := hxd.trans hxe
               clear henv htabs
               go_wp2
               go_ret
               exact ⟨rfl, hfin⟩)
        · rw [Bool.eq_false_iff.2 e1] at c5
          rw [Bool.eq_false_iff.2 e2] at c6
          rw [Bool.eq_false_iff.2 e3] at c7
          clear fin e1 e2 e3
          refine wp_region_rgs ?_
          first
            | (apply goV_skip (by intro u; rfl))
            | (apply goV_call (by intro u; rfl) c1; · (intro u w hSw hF; go_simp; try with_reducible rfl))
          try simp only [Act.put, List.setIfInBounds_toArray, List.set_cons_zero, List.set_cons_succ]
          first
            | (apply goV_skip (by intro u; rfl))
            | (apply goV_val _ (by intro u; rfl); · (intro u w hSw hF; go_simp; try with_reducible rfl))
          try simp only [Act.put, List.setIfInBounds_toArray, List.set_cons_zero, List.set_cons_succ]
          first
            | (apply goV_skip (by intro u; rfl))
            | (apply goV_loadP (by intro u; rfl) _ rfl hq gQ (by intro u; rfl))
          try simp only [Act.put, List.setIfInBounds_toArray, List.set_cons_zero, List.set_cons_succ]
          first
            | (apply goV_skip (by intro u; rfl))
            | (apply goV_loadP (by intro u; rfl) _ rfl hl gL (by intro u; rfl))
          try simp only [Act.put, List.setIfInBounds_toArray, List.set_cons_zero, List.set_cons_succ]
          first
            | (apply goV_skip (by intro u; rfl))
            | (apply goV_call (by intro u; rfl) (fun w' _ => c5 w'); · (intro u w hSw hF; go_simp; try with_reducible rfl))
          try simp only [Act.put, List.setIfInBounds_toArray, List.set_cons_zero, List.set_cons_succ]
          first
            | (apply goV_skip (by intro u; rfl))
            | (apply goV_val _ (by intro u; rfl); · (intro u w hSw hF; go_simp; try with_reducible rfl))
          try simp only [Act.put, List.setIfInBounds_toArray, List.set_cons_zero, List.set_cons_succ]
          first
            | (apply goV_skip (by intro u; rfl))
            | (apply goV_loadP (by intro u; rfl) _ rfl hl gL (by intro u; rfl))
          try simp only [Act.put, List.setIfInBounds_toArray, List.set_cons_zero, List.set_cons_succ]
          first
            | (apply goV_skip (by intro u; rfl))
            | (apply goV_loadP (by intro u; rfl) _ rfl hq gQ (by intro u; rfl))
          try simp only [Act.put, List.setIfInBounds_toArray, List.set_cons_zero, List.set_cons_succ]
          first
            | (apply goV_skip (by intro u; rfl))
            | (apply goV_call (by intro u; rfl) (fun w' _ => c6 w'); · (intro u w hSw hF; go_simp; try with_reducible rfl))
          try simp only [Act.put, List.setIfInBounds_toArray, List.set_cons_zero, List.set_cons_succ]
          first
            | (apply goV_skip (by intro u; rfl))
            | (apply goV_val _ (by intro u; rfl); · (intro u w hSw hF; go_simp; try with_reducible rfl))
          try simp only [Act.put, List.setIfInBounds_toArray, List.set_cons_zero, List.set_cons_succ]
          first
            | (apply goV_skip (by intro u; rfl))
            | (apply goV_val _ (by intro u; rfl); · (intro u w hSw hF; go_simp; try with_reducible rfl))
          try simp only [Act.put, List.setIfInBounds_toArray, List.set_cons_zero, List.set_cons_succ]
          first
            | (apply goV_skip (by intro u; rfl))
            | (apply goV_loadP (by intro u; rfl) _ rfl hq gQ (by intro u; rfl))
          try simp only [Act.put, List.setIfInBounds_toArray, List.set_cons_zero, List.set_cons_succ]
          first
            | (apply goV_skip (by intro u; rfl))
            | (apply goV_loadA (by intro u; rfl) _ rfl hy gY (by intro u; rfl))
          try simp only [Act.put, List.setIfInBounds_toArray, List.set_cons_zero, List.set_cons_succ]
          first
            | (apply goV_skip (by intro u; rfl))
            | (apply goV_call (by intro u; rfl) (fun w' _ => c7 w'); · (intro u w hSw hF; go_simp; try with_reducible rfl))
          try simp only [Act.put, List.setIfInBounds_toArray, List.set_cons_zero, List.set_cons_succ]
          first
            | (apply goV_skip (by intro u; rfl))
            | (apply goV_val _ (by intro u; rfl); · (intro u w hSw hF; go_simp; try with_reducible rfl))
          try simp only [Act.put, List.setIfInBounds_toArray, List.set_cons_zero, List.set_cons_succ]
          first
            | (apply goV_skip (by intro u; rfl))
            | (apply goV_loadP (by intro u; rfl) _ rfl hl gL (by intro u; rfl))
          try simp only [Act.put, List.setIfInBounds_toArray, List.set_cons_zero, List.set_cons_succ]
          first
            | (apply goV_skip (by intro u; rfl))
            | (apply goV_loadA (by intro u; rfl) _ rfl hy gY (by intro u; rfl))
          try simp only [Act.put, List.setIfInBounds_toArray, List.set_cons_zero, List.set_cons_succ]
          first
            | (apply goV_skip (by intro u; rfl))
            | (apply goV_call (by intro u; rfl) (fun w' _ => c3 w'); · (intro u w hSw hF; go_simp; try with_reducible rfl))
          try simp only [Act.put, List.setIfInBounds_toArray, List.set_cons_zero, List.set_cons_succ]
          first
            | (apply goV_skip (by intro u; rfl))
            | (apply goV_val _ (by intro u; rfl); · (intro u w hSw hF; go_simp; try with_reducible rfl))
          try simp only [Act.put, List.setIfInBounds_toArray, List.set_cons_zero, List.set_cons_succ]
          first
            | (apply goV_skip (by intro u; rfl))
            | (apply goV_val _ (by intro u; rfl); · (intro u w hSw hF; go_simp; try with_reducible rfl))
          try simp only [Act.put, List.setIfInBounds_toArray, List.set_cons_zero, List.set_cons_succ]
          first
            | (apply goV_skip (by intro u; rfl))
            | (apply goV_val _ (by intro u; rfl); · (intro u w hSw hF; go_simp; try with_reducible rfl))
          try simp only [Act.put, List.setIfInBounds_toArray, List.set_cons_zero, List.set_cons_succ]
          first
            | (apply goV_skip (by intro u; rfl))
            | (apply goV_val _ (by intro u; rfl); · (intro u w hSw hF; go_simp; try with_reducible rfl))
          try simp only [Act.put, List.setIfInBounds_toArray, List.set_cons_zero, List.set_cons_succ]
          first
            | (apply goV_skip (by intro u; rfl))
            | (apply goV_val _ (by intro u; rfl); · (intro u w hSw hF; go_simp; try with_reducible rfl))
          try simp only [Act.put, List.setIfInBounds_toArray, List.set_cons_zero, List.set_cons_succ]
          intro u we hxe _
          have hfin := hxd.trans hxe
          clear henv htabs
          go_wp2
          go_ret
          exact ⟨rfl, hfin⟩
  | true =>
    have he := up hd
    rw [hd] at c3 fin0
    rw [he] at c4
    have FIN := Lib.hid fin0
    clear up hd he fin0
    refine wp_region_rgs ?_
    first
      | (apply goV_skip (by intro u; rfl))
      | (apply goV_loadP (by intro u; rfl) _ rfl hl gL (by intro u; rfl))
    try simp only [Act.put, List.setIfInBounds_toArray, List.set_cons_zero, List.set_cons_succ]
    first
      | (apply goV_skip (by intro u; rfl))
      | (apply goV_loadA (by intro u; rfl) _ rfl hy gY (by intro u; rfl))
    try simp only [Act.put, List.setIfInBounds_toArray, List.set_cons_zero, List.set_cons_succ]
    first
      | (apply goV_skip (by intro u; rfl))
      | (apply goV_call (by intro u; rfl) (fun w' _ => c3 w'); · (intro u w hSw hF; go_simp; try with_reducible rfl))
    try simp only [Act.put, List.setIfInBounds_toArray, List.set_cons_zero, List.set_cons_succ]
    first
      | (apply goV_skip (by intro u; rfl))
      | (apply goV_val _ (by intro u; rfl); · (intro u w hSw hF; go_simp; try with_reducible rfl))
    try simp only [Act.put, List.setIfInBounds_toArray, List.set_cons_zero, List.set_cons_succ]
    first
      | (apply goV_skip (by intro u; rfl))
      | (apply goV_loadP (by intro u; rfl) _ rfl hs gS (by intro u; rfl))
    try simp only [Act.put, List.setIfInBounds_toArray, List.set_cons_zero, List.set_cons_succ]
    first
      | (apply goV_skip (by intro u; rfl))
      | (apply goV_loadA (by intro u; rfl) _ rfl hy gY (by intro u; rfl))
    try simp only [Act.put, List.setIfInBounds_toArray, List.set_cons_zero, List.set_cons_succ]
    first
      | (apply goV_skip (by intro u; rfl))
      | (apply goV_call (by intro u; rfl) (fun w' _ => c4 w'); · (intro u w hSw hF; go_simp; try with_reducible rfl))
    try simp only [Act.put, List.setIfInBounds_toArray, List.set_cons_zero, List.set_cons_succ]
    first
      | (apply goV_skip (by intro u; rfl))
      | (apply goV_val _ (by intro u; rfl); · (intro u w hSw hF; go_simp; try with_reducible rfl))
    try simp only [Act.put, List.setIfInBounds_toArray, List.set_cons_zero, List.set_cons_succ]
    first
      | (apply goV_skip (by intro u; rfl))
      | (apply goV_val _ (by intro u; rfl); · (intro u w hSw hF; go_simp; try with_reducible rfl))
    try simp only [Act.put, List.setIfInBounds_toArray, List.set_cons_zero, List.set_cons_succ]
    intro u wb hxb _
    have hPb := hPa.ext hxb
    have hLb := hLa.ext hxb
    have hYb := hYa.ext hxb
    have hxxb := hxa.trans hxb
    clear hPa hLa hSa hYa hxa hxb gL gS gY c4
    go_wp2_with (first | refine wpList_load_P rfl _ rfl hp hPb rfl ?_ | (go_at_call 7; refine (GP.out _).mono ?_; rintro e wc ⟨q, hq, hqv, rfl, hxc⟩; refine Hid.out ?_))
    refine Lib.hid ?_
    have hLc := hLb.ext hxc
    have hYc := hYb.ext hxc
    have hxxc := hxxb.trans hxc
    clear hPb hLb hYb hxxb hxc
    have hbf := Blk.new wc (pc zpfx) 26
    go_upto_region 11 with (refine wpList_store_P rfl _ _ rfl okP_zpfx hq hbf rfl rfl ?_)
    change Code.wp _ _ _ _ ((wc.alloc (.cells (pc zpfx) 26)).setRow wc.heap.size (pc q))
    rw [World.setRow_alloc_new]
    have hQd := Blk.new wc (pc q) 26
    have hxd := hxxc.alloc (.cells (pc q) 26)
    have hnx := (Ext.refl wc).alloc (.cells (pc q) 26)
    clear hbf
    generalize wc.alloc (.cells (pc q) 26) = wd at *
    generalize wc.heap.size = b5 at *
    have hLd := hLc.ext hnx
    have hYd := hYc.ext hnx
    clear hnx hxxc hLc hYc
    have gL : ∀ w', Ext wd w' → PBlk w' b2 lo := fun w' h => hLd.ext h
    have gQ : ∀ w', Ext wd w' → PBlk w' b5 q := fun w' h => hQd.ext h
    have gY : ∀ w', Ext wd w' → Blk w' b4 (ac y).toList 24 := fun w' h => hYd.ext h
    have c1 := fun (w' : World) (h : Ext wd w') => awake_any w' (henv.ext (hxd.trans h)) (htabs.ext (hxd.trans h))
    have c5 := fun (w' : World) => ccovers_any q lo hq hl w'
    have c6 := fun (w' : World) => ccovers_any lo q hl hq w'
    have c7 := fun (w' : World) => ccontains_any q y hq hy w'
    have fin := FIN.out q
    clear FIN GP hLd hYd hQd
    by_cases e1 : coversP q lo = true
    · rw [e1] at c5
      clear fin e1 c6 c7
      refine wp_region_rgs ?_
      first
        | (apply goV_skip (by intro u; rfl))
        | (apply goV_call (by intro u; rfl) c1; · (intro u w hSw hF; go_simp; try with_reducible rfl))
      try simp only [Act.put, List.setIfInBounds_toArray, List.set_cons_zero, List.set_cons_succ]
      first
        | (apply goV_skip (by intro u; rfl))
        | (apply goV_val _ (by intro u; rfl); · (intro u w hSw hF; go_simp; try with_reducible rfl))
      try simp only [Act.put, List.setIfInBounds_toArray, List.set_cons_zero, List.set_cons_succ]
      first
        | (apply goV_skip (by intro u; rfl))
        | (apply goV_loadP (by intro u; rfl) _ rfl hq gQ (by intro u; rfl))
      try simp only [Act.put, List.setIfInBounds_toArray, List.set_cons_zero, List.set_cons_succ]
      first
        | (apply goV_skip (by intro u; rfl))
        | (apply goV_loadP (by intro u; rfl) _ rfl hl gL (by intro u; rfl))
      try simp only [Act.put, List.setIfInBounds_toArray, List.set_cons_zero, List.set_cons_succ]
      first
        | (apply goV_skip (by intro u; rfl))
        | (apply goV_call (by intro u; rfl) (fun w' _ => c5 w'); · (intro u w hSw hF; go_simp; try with_reducible rfl))
      try simp only [Act.put, List.setIfInBounds_toArray, List.set_cons_zero, List.set_cons_succ]
      first
        | (apply goV_skip (by intro u; rfl))
        | (apply goV_val _ (by intro u; rfl); · (intro u w hSw hF; go_simp; try with_reducible rfl))
      try simp only [Act.put, List.setIfInBounds_toArray, List.set_cons_zero, List.set_cons_succ]
      first
        | (apply goV_skip (by intro u; rfl))
        | (apply goV_loadP (by intro u; rfl) _ rfl hl gL (by intro u; rfl))
      try simp only [Act.put, List.setIfInBounds_toArray, List.set_cons_zero, List.set_cons_succ]
      first
        | (apply goV_skip (by intro u; rfl))
        | (apply goV_loadP (by intro u; rfl) _ rfl hq gQ (by intro u; rfl))
      try simp only [Act.put, List.setIfInBounds_toArray, List.set_cons_zero, List.set_cons_succ]
      first
        | (apply goV_skip (by intro u; rfl))
        | (apply goV_call (by intro u; rfl) (fun w' _ => c6 w'); · (intro u w hSw hF; go_simp; try with_reducible rfl))
      try simp only [Act.put, List.setIfInBounds_toArray, List.set_cons_zero, List.set_cons_succ]
      first
        | (apply goV_skip (by intro u; rfl))
        | (apply goV_val _ (by intro u; rfl); · (intro u w hSw hF; go_simp; try with_reducible rfl))
      try simp only [Act.put, List.setIfInBounds_toArray, List.set_cons_zero, List.set_cons_succ]
      first
        | (apply goV_skip (by intro u; rfl))
        | (apply goV_val _ (by intro u; rfl); · (intro u w hSw hF; go_simp; try with_reducible rfl))
      try simp only [Act.put, List.setIfInBounds_toArray, List.set_cons_zero, List.set_cons_succ]
      first
        | (apply goV_skip (by intro u; rfl))
        | (apply goV_loadP (by intro u; rfl) _ rfl hq gQ (by intro u; rfl))
      try simp only [Act.put, List.setIfInBounds_toArray, List.set_cons_zero, List.set_cons_succ]
      first
        | (apply goV_skip (by intro u; rfl))
        | (apply goV_loadA (by intro u; rfl) _ rfl hy gY (by intro u; rfl))
      try simp only [Act.put, List.setIfInBounds_toArray, List.set_cons_zero, List.set_cons_succ]
      first
        | (apply goV_skip (by intro u; rfl))
        | (apply goV_call (by intro u; rfl) (fun w' _ => c7 w'); · (intro u w hSw hF; go_simp; try with_reducible rfl))
      try simp only [Act.put, List.setIfInBounds_toArray, List.set_cons_zero, List.set_cons_succ]
      first
        | (apply goV_skip (by intro u; rfl))
        | (apply goV_val _ (by intro u; rfl); · (intro u w hSw hF; go_simp; try with_reducible rfl))
      try simp only [Act.put, List.setIfInBounds_toArray, List.set_cons_zero, List.set_cons_succ]
      first
        | (apply goV_skip (by intro u; rfl))
        | (apply goV_loadP (by intro u; rfl) _ rfl hl gL (by intro u; rfl))
      try simp only [Act.put, List.setIfInBounds_toArray, List.set_cons_zero, List.set_cons_succ]
      first
        | (apply goV_skip (by intro u; rfl))
        | (apply goV_loadA (by intro u; rfl) _ rfl hy gY (by intro u; rfl))
      try simp only [Act.put, List.setIfInBounds_toArray, List.set_cons_zero, List.set_cons_succ]
      first
        | (apply goV_skip (by intro u; rfl))
        | (apply goV_call (by intro u; rfl) (fun w' _ => c3 w'); · (intro u w hSw hF; go_simp; try with_reducible rfl))
      try simp only [Act.put, List.setIfInBounds_toArray, List.set_cons_zero, List.set_cons_succ]
      first
        | (apply goV_skip (by intro u; rfl))
        | (apply goV_val _ (by intro u; rfl); · (intro u w hSw hF; go_simp; try with_reducible rfl))
      try simp only [Act.put, List.setIfInBounds_toArray, List.set_cons_zero, List.set_cons_succ]
      first
        | (apply goV_skip (by intro u; rfl))
        | (apply goV_val _ (by intro u; rfl); · (intro u w hSw hF; go_simp; try with_reducible rfl))
      try simp only [Act.put, List.setIfInBounds_toArray, List.set_cons_zero, List.set_cons_succ]
      first
        | (apply goV_skip (by intro u; rfl))
        | (apply goV_val _ (by intro u; rfl); · (intro u w hSw hF; go_simp; try with_reducible rfl))
      try simp only [Act.put, List.setIfInBounds_toArray, List.set_cons_zero, List.set_cons_succ]
      first
        | (apply goV_skip (by intro u; rfl))
        | (apply goV_val _ (by intro u; rfl); · (intro u w hSw hF; go_simp; try with_reducible rfl))
      try simp only [Act.put, List.setIfInBounds_toArray, List.set_cons_zero, List.set_cons_succ]
      first
        | (apply goV_skip (by intro u; rfl))
        | (apply goV_val _ (by intro u; rfl); · (intro u w hSw hF; go_simp; try with_reducible rfl))
      try simp only [Act.put, List.setIfInBounds_toArray, List.set_cons_zero, List.set_cons_succ]
      intro u we hxe _
      have hfin := hxd.trans hxe
      clear henv htabs
      go_wp2
      go_ret
      exact ⟨rfl, hfin⟩
    · by_cases e2 : coversP lo q = true
      · rw [Bool.eq_false_iff.2 e1] at c5
        rw [e2] at c6
        clear fin e1 e2 c7
        refine wp_region_rgs ?_
        first
          | (apply goV_skip (by intro u; rfl))
          | (apply goV_call (by intro u; rfl) c1; · (intro u w hSw hF; go_simp; try with_reducible rfl))
        try simp only [Act.put, List.setIfInBounds_toArray, List.set_cons_zero, List.set_cons_succ]
        first
          | (apply goV_skip (by intro u; rfl))
          | (apply goV_val _ (by intro u; rfl); · (intro u w hSw hF; go_simp; try with_reducible rfl))
        try simp only [Act.put, List.setIfInBounds_toArray, List.set_cons_zero, List.set_cons_succ]
        first
          | (apply goV_skip (by intro u; rfl))
          | (apply goV_loadP (by intro u; rfl) _ rfl hq gQ (by intro u; rfl))
        try simp only [Act.put, List.setIfInBounds_toArray, List.set_cons_zero, List.set_cons_succ]
        first
          | (apply goV_skip (by intro u; rfl))
          | (apply goV_loadP (by intro u; rfl) _ rfl hl gL (by intro u; rfl))
        try simp only [Act.put, List.setIfInBounds_toArray, List.set_cons_zero, List.set_cons_succ]
        first
          | (apply goV_skip (by intro u; rfl))
          | (apply goV_call (by intro u; rfl) (fun w' _ => c5 w'); · (intro u w hSw hF; go_simp; try with_reducible rfl))
        try simp only [Act.put, List.setIfInBounds_toArray, List.set_cons_zero, List.set_cons_succ]
        first
          | (apply goV_skip (by intro u; rfl))
          | (apply goV_val _ (by intro u; rfl); · (intro u w hSw hF; go_simp; try with_reducible rfl))
        try simp only [Act.put, List.setIfInBounds_toArray, List.set_cons_zero, List.set_cons_succ]
        first
          | (apply goV_skip (by intro u; rfl))
          | (apply goV_loadP (by intro u; rfl) _ rfl hl gL (by intro u; rfl))
        try simp only [Act.put, List.setIfInBounds_toArray, List.set_cons_zero, List.set_cons_succ]
        first
          | (apply goV_skip (by intro u; rfl))
          | (apply goV_loadP (by intro u; rfl) _ rfl hq gQ (by intro u; rfl))
        try simp only [Act.put, List.setIfInBounds_toArray, List.set_cons_zero, List.set_cons_succ]
        first
          | (apply goV_skip (by intro u; rfl))
          | (apply goV_call (by intro u; rfl) (fun w' _ => c6 w'); · (intro u w hSw hF; go_simp; try with_reducible rfl))
        try simp only [Act.put, List.setIfInBounds_toArray, List.set_cons_zero, List.set_cons_succ]
        first
          | (apply goV_skip (by intro u; rfl))
          | (apply goV_val _ (by intro u; rfl); · (intro u w hSw hF; go_simp; try with_reducible rfl))
        try simp only [Act.put, List.setIfInBounds_toArray, List.set_cons_zero, List.set_cons_succ]
        first
          | (apply goV_skip (by intro u; rfl))
          | (apply goV_val _ (by intro u; rfl); · (intro u w hSw hF; go_simp; try with_reducible rfl))
        try simp only [Act.put, List.setIfInBounds_toArray, List.set_cons_zero, List.set_cons_succ]
        first
          | (apply goV_skip (by intro u; rfl))
          | (apply goV_loadP (by intro u; rfl) _ rfl hq gQ (by intro u; rfl))
        try simp only [Act.put, List.setIfInBounds_toArray, List.set_cons_zero, List.set_cons_succ]
        first
          | (apply goV_skip (by intro u; rfl))
          | (apply goV_loadA (by intro u; rfl) _ rfl hy gY (by intro u; rfl))
        try simp only [Act.put, List.setIfInBounds_toArray, List.set_cons_zero, List.set_cons_succ]
        first
          | (apply goV_skip (by intro u; rfl))
          | (apply goV_call (by intro u; rfl) (fun w' _ => c7 w'); · (intro u w hSw hF; go_simp; try with_reducible rfl))
        try simp only [Act.put, List.setIfInBounds_toArray, List.set_cons_zero, List.set_cons_succ]
        first
          | (apply goV_skip (by intro u; rfl))
          | (apply goV_val _ (by intro u; rfl); · (intro u w hSw hF; go_simp; try with_reducible rfl))
        try simp only [Act.put, List.setIfInBounds_toArray, List.set_cons_zero, List.set_cons_succ]
        first
          | (apply goV_skip (by intro u; rfl))
          | (apply goV_loadP (by intro u; rfl) _ rfl hl gL (by intro u; rfl))
        try simp only [Act.put, List.setIfInBounds_toArray, List.set_cons_zero, List.set_cons_succ]
        first
          | (apply goV_skip (by intro u; rfl))
          | (apply goV_loadA (by intro u; rfl) _ rfl hy gY (by intro u; rfl))
        try simp only [Act.put, List.setIfInBounds_toArray, List.set_cons_zero, List.set_cons_succ]
        first
          | (apply goV_skip (by intro u; rfl))
          | (apply goV_call (by intro u; rfl) (fun w' _ => c3 w'); · (intro u w hSw hF; go_simp; try with_reducible rfl))
        try simp only [Act.put, List.setIfInBounds_toArray, List.set_cons_zero, List.set_cons_succ]
        first
          | (apply goV_skip (by intro u; rfl))
          | (apply goV_val _ (by intro u; rfl); · (intro u w hSw hF; go_simp; try with_reducible rfl))
        try simp only [Act.put, List.setIfInBounds_toArray, List.set_cons_zero, List.set_cons_succ]
        first
          | (apply goV_skip (by intro u; rfl))
          | (apply goV_val _ (by intro u; rfl); · (intro u w hSw hF; go_simp; try with_reducible rfl))
        try simp only [Act.put, List.setIfInBounds_toArray, List.set_cons_zero, List.set_cons_succ]
        first
          | (apply goV_skip (by intro u; rfl))
          | (apply goV_val _ (by intro u; rfl); · (intro u w hSw hF; go_simp; try with_reducible rfl))
        try simp only [Act.put, List.setIfInBounds_toArray, List.set_cons_zero, List.set_cons_succ]
        first
          | (apply goV_skip (by intro u; rfl))
          | (apply goV_val _ (by intro u; rfl); · (intro u w hSw hF; go_simp; try with_reducible rfl))
        try simp only [Act.put, List.setIfInBounds_toArray, List.set_cons_zero, List.set_cons_succ]
        first
          | (apply goV_skip (by intro u; rfl))
          | (apply goV_val _ (by intro u; rfl); · (intro u w hSw hF; go_simp; try with_reducible rfl))
        try simp only [Act.put, List.setIfInBounds_toArray, List.set_cons_zero, List.set_cons_succ]
        intro u we hxe _
        have hfin := hxd.trans hxe
        clear henv htabs
        go_wp2
        go_ret
        exact ⟨rfl, hfin⟩
      · by_cases e3 : containsP q y = true
        · have e4 : true = false := by
            rcases fin with h | h | h | h
            · exact absurd h e1
            · exact absurd h e2
            · exact absurd (e3.symm.trans h) (by decide)
            · first | exact h | rfl
          rw [Bool.eq_false_iff.2 e1] at c5
          rw [Bool.eq_false_iff.2 e2] at c6
          rw [e3] at c7
          clear fin e1 e2 e3
          first
            | (exact absurd e4 (by decide))
            | (clear e4
               refine wp_region_rgs ?_
               first
                 | (apply goV_skip (by intro u; rfl))
                 | (apply goV_call (by intro u; rfl) c1; · (intro u w hSw hF; go_simp; try with_reducible rfl))
               try simp only [Act.put, List.setIfInBounds_toArray, List.set_cons_zero, List.set_cons_succ]
               first
                 | (apply goV_skip (by intro u; rfl))
                 | (apply goV_val _ (by intro u; rfl); · (intro u w hSw hF; go_simp; try with_reducible rfl))
               try simp only [Act.put, List.setIfInBounds_toArray, List.set_cons_zero, List.set_cons_succ]
               first
                 | (apply goV_skip (by intro u; rfl))
                 | (apply goV_loadP (by intro u; rfl) _ rfl hq gQ (by intro u; rfl))
               try simp only [Act.put, List.setIfInBounds_toArray, List.set_cons_zero, List.set_cons_succ]
               first
                 | (apply goV_skip (by intro u; rfl))
                 | (apply goV_loadP (by intro u; rfl) _ rfl hl gL (by intro u; rfl))
               try simp only [Act.put, List.setIfInBounds_toArray, List.set_cons_zero, List.set_cons_succ]
               first
                 | (apply goV_skip (by intro u; rfl))
                 | (apply goV_call (by intro u; rfl) (fun w' _ => c5 w'); · (intro u w hSw hF; go_simp; try with_reducible rfl))
               try simp only [Act.put, List.setIfInBounds_toArray, List.set_cons_zero, List.set_cons_succ]
               first
                 | (apply goV_skip (by intro u; rfl))
                 | (apply goV_val _ (by intro u; rfl); · (intro u w hSw hF; go_simp; try with_reducible rfl))
               try simp only [Act.put, List.setIfInBounds_toArray, List.set_cons_zero, List.set_cons_succ]
               first
                 | (apply goV_skip (by intro u; rfl))
                 | (apply goV_loadP (by intro u; rfl) _ rfl hl gL (by intro u; rfl))
               try simp only [Act.put, List.setIfInBounds_toArray, List.set_cons_zero, List.set_cons_succ]
               first
                 | (apply goV_skip (by intro u; rfl))
                 | (apply goV_loadP (by intro u; rfl) _ rfl hq gQ (by intro u; rfl))
               try simp only [Act.put, List.setIfInBounds_toArray, List.set_cons_zero, List.set_cons_succ]
               first
                 | (apply goV_skip (by intro u; rfl))
                 | (apply goV_call (by intro u; rfl) (fun w' _ => c6 w'); · (intro u w hSw hF; go_simp; try with_reducible rfl))
               try simp only [Act.put, List.setIfInBounds_toArray, List.set_cons_zero, List.set_cons_succ]
               first
                 | (apply goV_skip (by intro u; rfl))
                 | (apply goV_val _ (by intro u; rfl); · (intro u w hSw hF; go_simp; try with_reducible rfl))
               try simp only [Act.put, List.setIfInBounds_toArray, List.set_cons_zero, List.set_cons_succ]
               first
                 | (apply goV_skip (by intro u; rfl))
                 | (apply goV_val _ (by intro u; rfl); · (intro u w hSw hF; go_simp; try with_reducible rfl))
               try simp only [Act.put, List.setIfInBounds_toArray, List.set_cons_zero, List.set_cons_succ]
               first
                 | (apply goV_skip (by intro u; rfl))
                 | (apply goV_loadP (by intro u; rfl) _ rfl hq gQ (by intro u; rfl))
               try simp only [Act.put, List.setIfInBounds_toArray, List.set_cons_zero, List.set_cons_succ]
               first
                 | (apply goV_skip (by intro u; rfl))
                 | (apply goV_loadA (by intro u; rfl) _ rfl hy gY (by intro u; rfl))
               try simp only [Act.put, List.setIfInBounds_toArray, List.set_cons_zero, List.set_cons_succ]
               first
                 | (apply goV_skip (by intro u; rfl))
                 | (apply goV_call (by intro u; rfl) (fun w' _ => c7 w'); · (intro u w hSw hF; go_simp; try with_reducible rfl))
               try simp only [Act.put, List.setIfInBounds_toArray, List.set_cons_zero, List.set_cons_succ]
               first
                 | (apply goV_skip (by intro u; rfl))
                 | (apply goV_val _ (by intro u; rfl); · (intro u w hSw hF; go_simp; try with_reducible rfl))
               try simp only [Act.put, List.setIfInBounds_toArray, List.set_cons_zero, List.set_cons_succ]
               first
                 | (apply goV_skip (by intro u; rfl))
                 | (apply goV_loadP (by intro u; rfl) _ rfl hl gL (by intro u; rfl))
               try simp only [Act.put, List.setIfInBounds_toArray, List.set_cons_zero, List.set_cons_succ]
               first
                 | (apply goV_skip (by intro u; rfl))
                 | (apply goV_loadA (by intro u; rfl) _ rfl hy gY (by intro u; rfl))
               try simp only [Act.put, List.setIfInBounds_toArray, List.set_cons_zero, List.set_cons_succ]
               first
                 | (apply goV_skip (by intro u; rfl))
                 | (apply goV_call (by intro u; rfl) (fun w' _ => c3 w'); · (intro u w hSw hF; go_simp; try with_reducible rfl))
               try simp only [Act.put, List.setIfInBounds_toArray, List.set_cons_zero, List.set_cons_succ]
               first
                 | (apply goV_skip (by intro u; rfl))
                 | (apply goV_val _ (by intro u; rfl); · (intro u w hSw hF; go_simp; try with_reducible rfl))
               try simp only [Act.put, List.setIfInBounds_toArray, List.set_cons_zero, List.set_cons_succ]
               first
                 | (apply goV_skip (by intro u; rfl))
                 | (apply goV_val _ (by intro u; rfl); · (intro u w hSw hF; go_simp; try with_reducible rfl))
               try simp only [Act.put, List.setIfInBounds_toArray, List.set_cons_zero, List.set_cons_succ]
               first
                 | (apply goV_skip (by intro u; rfl))
                 | (apply goV_val _ (by intro u; rfl); · (intro u w hSw hF; go_simp; try with_reducible rfl))
               try simp only [Act.put, List.setIfInBounds_toArray, List.set_cons_zero, List.set_cons_succ]
               first
                 | (apply goV_skip (by intro u; rfl))
                 | (apply goV_val _ (by intro u; rfl); · (intro u w hSw hF; go_simp; try with_reducible rfl))
               try simp only [Act.put, List.setIfInBounds_toArray, List.set_cons_zero, List.set_cons_succ]
               first
                 | (apply goV_skip (by intro u; rfl))
                 | (apply goV_val _ (by intro u; rfl); · (intro u w hSw hF; go_simp; try with_reducible rfl))
               try simp only [Act.put, List.setIfInBounds_toArray, List.set_cons_zero, List.set_cons_succ]
               intro u we hxe _
               have hfin := hxd.trans hxe
               clear henv htabs
               go_wp2
               go_ret
               exact ⟨rfl, hfin⟩)
        · rw [Bool.eq_false_iff.2 e1] at c5
          rw [Bool.eq_false_iff.2 e2] at c6
          rw [Bool.eq_false_iff.2 e3] at c7
          clear fin e1 e2 e3
          refine wp_region_rgs ?_
          first
            | (apply goV_skip (by intro u; rfl))
            | (apply goV_call (by intro u; rfl) c1; · (intro u w hSw hF; go_simp; try with_reducible rfl))
          try simp only [Act.put, List.setIfInBounds_toArray, List.set_cons_zero, List.set_cons_succ]
          first
            | (apply goV_skip (by intro u; rfl))
            | (apply goV_val _ (by intro u; rfl); · (intro u w hSw hF; go_simp; try with_reducible rfl))
          try simp only [Act.put, List.setIfInBounds_toArray, List.set_cons_zero, List.set_cons_succ]
          first
            | (apply goV_skip (by intro u; rfl))
            | (apply goV_loadP (by intro u; rfl) _ rfl hq gQ (by intro u; rfl))
          try simp only [Act.put, List.setIfInBounds_toArray, List.set_cons_zero, List.set_cons_succ]
          first
            | (apply goV_skip (by intro u; rfl))
            | (apply goV_loadP (by intro u; rfl) _ rfl hl gL (by intro u; rfl))
          try simp only [Act.put, List.setIfInBounds_toArray, List.set_cons_zero, List.set_cons_succ]
          first
            | (apply goV_skip (by intro u; rfl))
            | (apply goV_call (by intro u; rfl) (fun w' _ => c5 w'); · (intro u w hSw hF; go_simp; try with_reducible rfl))
          try simp only [Act.put, List.setIfInBounds_toArray, List.set_cons_zero, List.set_cons_succ]
          first
            | (apply goV_skip (by intro u; rfl))
            | (apply goV_val _ (by intro u; rfl); · (intro u w hSw hF; go_simp; try with_reducible rfl))
          try simp only [Act.put, List.setIfInBounds_toArray, List.set_cons_zero, List.set_cons_succ]
          first
            | (apply goV_skip (by intro u; rfl))
            | (apply goV_loadP (by intro u; rfl) _ rfl hl gL (by intro u; rfl))
          try simp only [Act.put, List.setIfInBounds_toArray, List.set_cons_zero, List.set_cons_succ]
          first
            | (apply goV_skip (by intro u; rfl))
            | (apply goV_loadP (by intro u; rfl) _ rfl hq gQ (by intro u; rfl))
          try simp only [Act.put, List.setIfInBounds_toArray, List.set_cons_zero, List.set_cons_succ]
          first
            | (apply goV_skip (by intro u; rfl))
            | (apply goV_call (by intro u; rfl) (fun w' _ => c6 w'); · (intro u w hSw hF; go_simp; try with_reducible rfl))
          try simp only [Act.put, List.setIfInBounds_toArray, List.set_cons_zero, List.set_cons_succ]
          first
            | (apply goV_skip (by intro u; rfl))
            | (apply goV_val _ (by intro u; rfl); · (intro u w hSw hF; go_simp; try with_reducible rfl))
          try simp only [Act.put, List.setIfInBounds_toArray, List.set_cons_zero, List.set_cons_succ]
          first
            | (apply goV_skip (by intro u; rfl))
            | (apply goV_val _ (by intro u; rfl); · (intro u w hSw hF; go_simp; try with_reducible rfl))
          try simp only [Act.put, List.setIfInBounds_toArray, List.set_cons_zero, List.set_cons_succ]
          first
            | (apply goV_skip (by intro u; rfl))
            | (apply goV_loadP (by intro u; rfl) _ rfl hq gQ (by intro u; rfl))
          try simp only [Act.put, List.setIfInBounds_toArray, List.set_cons_zero, List.set_cons_succ]
          first
            | (apply goV_skip (by intro u; rfl))
            | (apply goV_loadA (by intro u; rfl) _ rfl hy gY (by intro u; rfl))
          try simp only [Act.put, List.setIfInBounds_toArray, List.set_cons_zero, List.set_cons_succ]
          first
            | (apply goV_skip (by intro u; rfl))
            | (apply goV_call (by intro u; rfl) (fun w' _ => c7 w'); · (intro u w hSw hF; go_simp; try with_reducible rfl))
          try simp only [Act.put, List.setIfInBounds_toArray, List.set_cons_zero, List.set_cons_succ]
          first
            | (apply goV_skip (by intro u; rfl))
            | (apply goV_val _ (by intro u; rfl); · (intro u w hSw hF; go_simp; try with_reducible rfl))
          try simp only [Act.put, List.setIfInBounds_toArray, List.set_cons_zero, List.set_cons_succ]
          first
            | (apply goV_skip (by intro u; rfl))
            | (apply goV_loadP (by intro u; rfl) _ rfl hl gL (by intro u; rfl))
          try simp only [Act.put, List.setIfInBounds_toArray, List.set_cons_zero, List.set_cons_succ]
          first
            | (apply goV_skip (by intro u; rfl))
            | (apply goV_loadA (by intro u; rfl) _ rfl hy gY (by intro u; rfl))
          try simp only [Act.put, List.setIfInBounds_toArray, List.set_cons_zero, List.set_cons_succ]
          first
            | (apply goV_skip (by intro u; rfl))
            | (apply goV_call (by intro u; rfl) (fun w' _ => c3 w'); · (intro u w hSw hF; go_simp; try with_reducible rfl))
          try simp only [Act.put, List.setIfInBounds_toArray, List.set_cons_zero, List.set_cons_succ]
          first
            | (apply goV_skip (by intro u; rfl))
            | (apply goV_val _ (by intro u; rfl); · (intro u w hSw hF; go_simp; try with_reducible rfl))
          try simp only [Act.put, List.setIfInBounds_toArray, List.set_cons_zero, List.set_cons_succ]
          first
            | (apply goV_skip (by intro u; rfl))
            | (apply goV_val _ (by intro u; rfl); · (intro u w hSw hF; go_simp; try with_reducible rfl))
          try simp only [Act.put, List.setIfInBounds_toArray, List.set_cons_zero, List.set_cons_succ]
          first
            | (apply goV_skip (by intro u; rfl))
            | (apply goV_val _ (by intro u; rfl); · (intro u w hSw hF; go_simp; try with_reducible rfl))
          try simp only [Act.put, List.setIfInBounds_toArray, List.set_cons_zero, List.set_cons_succ]
          first
            | (apply goV_skip (by intro u; rfl))
            | (apply goV_val _ (by intro u; rfl); · (intro u w hSw hF; go_simp; try with_reducible rfl))
          try simp only [Act.put, List.setIfInBounds_toArray, List.set_cons_zero, List.set_cons_succ]
          first
            | (apply goV_skip (by intro u; rfl))
            | (apply goV_val _ (by intro u; rfl); · (intro u w hSw hF; go_simp; try with_reducible rfl))
          try simp only [Act.put, List.setIfInBounds_toArray, List.set_cons_zero, List.set_cons_succ]
          intro u we hxe _
          have hfin := hxd.trans hxe
          clear henv htabs
          go_wp2
          go_ret
          exact ⟨rfl, hfin⟩
end Go.Proofs.YtbbdcodhgbgekaaGreatDoor
