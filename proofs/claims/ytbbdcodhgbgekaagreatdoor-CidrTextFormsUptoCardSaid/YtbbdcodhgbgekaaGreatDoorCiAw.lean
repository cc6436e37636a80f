/-
  awake: the sanity check of the laws of prefixes.
-/
import Derived.Test.YtbbdcodhgbgekaaGreatDoorCiJ
set_option linter.unusedSimpArgs false
set_option linter.unusedVariables false
namespace Go.Proofs.YtbbdcodhgbgekaaGreatDoor
open Go.RowKit
def P0 : Pfx := (v4 10 0 0 0, 8)
def Q0 : Pfx := ((true, zeros), 0)
theorem okP0 : okP P0 := ⟨okA_v4 (by omega) (by omega) (by omega) (by omega), by unfold i64ok P0; omega⟩
theorem okQ0 : okP Q0 := ⟨⟨rfl, by decide⟩, by unfold i64ok Q0; omega⟩
theorem ok4 {a b c d : Nat} (h : a < 256) (h1 : b < 256) (h2 : c < 256) (h3 : d < 256) : okA (v4 a b c d) := okA_v4 (by omega) (by omega) (by omega) (by omega)
theorem aw1 : prefixOf (v4 10 1 2 3) 8 = (P0, true) := by kernel_rfl
theorem aw2 : parseP ⟨#[49, 48, 46, 48, 46, 48, 46, 49, 47, 56]⟩ = (zpfx, false) := by kernel_rfl
theorem aw3 : parseP ⟨#[58, 58, 47, 48]⟩ = (Q0, true) := by kernel_rfl
theorem aw4 : txt (fmtP P0) = ⟨#[49, 48, 46, 48, 46, 48, 46, 48, 47, 56]⟩ := by
  have h : validP P0 = true := by kernel_rfl
  unfold fmtP
  rw [if_pos h]
  have d10 : Lib.decDigits 10 = [49, 48] := by rw [Lib.decDigits_two (by decide) (by decide)]; rfl
  have d0 : Lib.decDigits 0 = [48] := by rw [Lib.decDigits_one (by decide)]; rfl
  have d8 : Lib.decDigits 8 = [56] := by rw [Lib.decDigits_one (by decide)]; rfl
  have e : fmtA P0.1 = Lib.decDigits 10 ++ [46] ++ Lib.decDigits 0 ++ [46] ++ Lib.decDigits 0 ++ [46] ++ Lib.decDigits 0 := rfl
  rw [e, d10, d0]
  show txt (_ ++ [47] ++ Lib.decDigits 8) = _
  rw [d8]; rfl
theorem aw5 : containsP Q0 (v4 1 2 3 4) = false := by kernel_rfl
theorem aw6 : containsP P0 (v4 10 9 9 9) = true := by kernel_rfl
theorem aw7 : validP P0 = true := by kernel_rfl
theorem aw8 : cmpP P0 Q0 = -1 := by kernel_rfl
theorem aw9 : coversP P0 P0 = true := by kernel_rfl
set_option maxRecDepth 8000 in
set_option maxHeartbeats 4000000 in
theorem awake_any (w : World) (henv : Env w) (htabs : Tabs w) : Calls Tryz.prog 17 #[] w fun e w' => e = .returned (.bool true) ∧ Ext w w' := by
  have okA1 := okA_v4 (a := 10) (b := 1) (c := 2) (d := 3) (by omega) (by omega) (by omega) (by omega)
  have okA2 := okA_v4 (a := 1) (b := 2) (c := 3) (d := 4) (by omega) (by omega) (by omega) (by omega)
  have okA3 := okA_v4 (a := 10) (b := 9) (c := 9) (d := 9) (by omega) (by omega) (by omega) (by omega)
  have V1 := Lib.hid (fun w => rV4_any (a := 10) (b := 1) (c := 2) (d := 3) (by omega) (by omega) (by omega) (by omega) w)
  have V2 := fun (w : World) => rV4_any (a := 1) (b := 2) (c := 3) (d := 4) (by omega) (by omega) (by omega) (by omega) w
  have V3 := fun (w : World) => rV4_any (a := 10) (b := 9) (c := 9) (d := 9) (by omega) (by omega) (by omega) (by omega) w
  have K1 := fun w => cprefix_any (v4 10 1 2 3) okA1 8 (by unfold i64ok; omega) w
  rw [aw1] at K1
  have K2 := fun w h => cparse_any ⟨#[49, 48, 46, 48, 46, 48, 46, 49, 47, 56]⟩ w h (by decide)
  rw [aw2] at K2
  have K3 := fun w h => cparse_any ⟨#[58, 58, 47, 48]⟩ w h (by decide)
  rw [aw3] at K3
  have L1 := fun w ht => cformat_any P0 okP0 w ht
  rw [aw4] at L1
  have L2 := fun w => ccontains_any Q0 (v4 1 2 3 4) okQ0 okA2 w
  rw [aw5] at L2
  have L3 := fun w => ccontains_any P0 (v4 10 9 9 9) okP0 okA3 w
  rw [aw6] at L3
  have L4 := fun w => cvalid_any P0 okP0 w
  rw [aw7] at L4
  have L5 := fun w => ccompare_any P0 Q0 okP0 okQ0 w
  rw [aw8] at L5
  have L6 := fun w => ccovers_any P0 P0 okP0 okP0 w
  rw [aw9] at L6
  have H1 := Lib.hid K1; have H2 := Lib.hid K2; have H3 := Lib.hid K3
  have G1 := Lib.hid L1; have G2 := Lib.hid L2; have G3 := Lib.hid L3; have G4 := Lib.hid L4; have G5 := Lib.hid L5; have G6 := Lib.hid L6; have G7 := Lib.hid V2; have G8 := Lib.hid V3
  clear K1 K2 K3 L1 L2 L3 L4 L5 L6 V2 V3
  have o0 := okP0; have o1 := okQ0; have oz := okP_zpfx
  go_enter Tryz.func17, Tryz.ntmps17
  go_wp2_with (first | (go_at_call 39; refine (V1.out _).mono ?_; rintro e w0 ⟨rfl, hx0⟩) | (go_at_call 18; refine (H1.out _).mono ?_; rintro e w1 ⟨rfl, hx1⟩; refine Hid.out ?_))
  refine Lib.hid ?_
  have hxx1 := hx0.trans hx1
  clear hx0 hx1
  have hbf := Blk.new w1 (pc zpfx) 26
  go_upto_region 2 with (refine wpList_store_P rfl _ _ rfl okP_zpfx o0 hbf rfl rfl ?_)
  change Code.wp _ _ _ _ ((w1.alloc (.cells (pc zpfx) 26)).setRow w1.heap.size (pc P0))
  rw [World.setRow_alloc_new]
  have hB1 := Blk.new w1 (pc P0) 26
  have hx2 := hxx1.alloc (.cells (pc P0) 26)
  have hnx := (Ext.refl w1).alloc (.cells (pc P0) 26)
  clear hbf
  generalize w1.alloc (.cells (pc P0) 26) = w2 at *
  generalize w1.heap.size = b1 at *
  clear hnx hxx1
  go_wp2_with (go_at_call 25; refine (H2.out _ (henv.ext hx2)).mono ?_; rintro e w3 ⟨rfl, hx3⟩; refine Hid.out ?_)
  refine Lib.hid ?_
  have hB1_3 := hB1.ext hx3
  have hxx3 := hx2.trans hx3
  clear hx2 hx3 hB1
  have hbf := Blk.new w3 (pc zpfx) 26
  go_upto_region 3 with (refine wpList_store_P rfl _ _ rfl okP_zpfx oz hbf rfl rfl ?_)
  change Code.wp _ _ _ _ ((w3.alloc (.cells (pc zpfx) 26)).setRow w3.heap.size (pc zpfx))
  rw [World.setRow_alloc_new]
  have hB2 := Blk.new w3 (pc zpfx) 26
  have hx4 := hxx3.alloc (.cells (pc zpfx) 26)
  have hnx := (Ext.refl w3).alloc (.cells (pc zpfx) 26)
  clear hbf
  generalize w3.alloc (.cells (pc zpfx) 26) = w4 at *
  generalize w3.heap.size = b2 at *
  have hB1_4 := hB1_3.ext hnx
  clear hnx hxx3 hB1_3
  go_wp2_with (go_at_call 25; refine (H3.out _ (henv.ext hx4)).mono ?_; rintro e w5 ⟨rfl, hx5⟩; refine Hid.out ?_)
  refine Lib.hid ?_
  have hB1_5 := hB1_4.ext hx5
  have hxx5 := hx4.trans hx5
  clear hx4 hx5 hB1_4 hB2
  have hbf := Blk.new w5 (pc zpfx) 26
  go_upto_region 4 with (refine wpList_store_P rfl _ _ rfl okP_zpfx o1 hbf rfl rfl ?_)
  change Code.wp _ _ _ _ ((w5.alloc (.cells (pc zpfx) 26)).setRow w5.heap.size (pc Q0))
  rw [World.setRow_alloc_new]
  have hB3 := Blk.new w5 (pc Q0) 26
  have hx6 := hxx5.alloc (.cells (pc Q0) 26)
  have hnx := (Ext.refl w5).alloc (.cells (pc Q0) 26)
  clear hbf
  generalize w5.alloc (.cells (pc Q0) 26) = w6 at *
  generalize w5.heap.size = b3 at *
  have hB1_6 := hB1_5.ext hnx
  clear hnx hxx5 hB1_5
  have hP : ∀ w', Ext w6 w' → PBlk w' b1 P0 := fun w' h => hB1_6.ext h
  have hQ : ∀ w', Ext w6 w' → PBlk w' b3 Q0 := fun w' h => hB3.ext h
  have C1 := fun (w' : World) (h : Ext w6 w') => G1.out w' (htabs.ext (hx6.trans h))
  have C2 := fun (w' : World) (h : Ext w6 w') => G2.out w'
  have C3 := fun (w' : World) (h : Ext w6 w') => G3.out w'
  have C4 := fun (w' : World) (h : Ext w6 w') => G4.out w'
  have C5 := fun (w' : World) (h : Ext w6 w') => G5.out w'
  have C6 := fun (w' : World) (h : Ext w6 w') => G6.out w'
  have C7 := fun (w' : World) (h : Ext w6 w') => G7.out w'
  have C8 := fun (w' : World) (h : Ext w6 w') => G8.out w'
  have hE : decide (Q0 = Q0) = true := by simp
  clear G1 G2 G3 G4 G5 G6 G7 G8 H1 H2 H3 hB1_6 hB3 henv htabs V1
  generalize v4 1 2 3 4 = A2 at *
  generalize v4 10 9 9 9 = A3 at *
  generalize P0 = p0 at *
  generalize hq0 : Q0 = q0 at *
  refine wp_region_rg w6 (by kernel_rfl) (by kernel_rfl) (Ext.refl _) ?_
  first
    | (apply goV_skip (by intro u; rfl))
    | (apply goV_val _ (by intro u; rfl); · (intro u w hSw hF; go_simp; try with_reducible rfl))
  try simp only [Act.put, List.setIfInBounds_toArray, List.set_cons_zero, List.set_cons_succ]
  first
    | (apply goV_skip (by intro u; rfl))
    | (apply goV_val _ (by intro u; rfl); · (intro u w hSw hF; go_simp; try with_reducible rfl))
  try simp only [Act.put, List.setIfInBounds_toArray, List.set_cons_zero, List.set_cons_succ]
  first
    | (apply goV_skip (by intro u; rfl))
    | (apply goV_loadP (by intro u; rfl) _ rfl o0 hP (by intro u; rfl))
  try simp only [Act.put, List.setIfInBounds_toArray, List.set_cons_zero, List.set_cons_succ]
  first
    | (apply goV_skip (by intro u; rfl))
    | (apply goV_call (by intro u; rfl) C1; · (intro u w hSw hF; go_simp; try with_reducible rfl))
  try simp only [Act.put, List.setIfInBounds_toArray, List.set_cons_zero, List.set_cons_succ]
  first
    | (apply goV_skip (by intro u; rfl))
    | (apply goV_val _ (by intro u; rfl); · (intro u w hSw hF; go_simp; try with_reducible rfl))
  try simp only [Act.put, List.setIfInBounds_toArray, List.set_cons_zero, List.set_cons_succ]
  first
    | (apply goV_skip (by intro u; rfl))
    | (apply goV_val _ (by intro u; rfl); · (intro u w hSw hF; go_simp; try with_reducible rfl))
  try simp only [Act.put, List.setIfInBounds_toArray, List.set_cons_zero, List.set_cons_succ]
  first
    | (apply goV_skip (by intro u; rfl))
    | (apply goV_val _ (by intro u; rfl); · (intro u w hSw hF; go_simp; try with_reducible rfl))
  try simp only [Act.put, List.setIfInBounds_toArray, List.set_cons_zero, List.set_cons_succ]
  first
    | (apply goV_skip (by intro u; rfl))
    | (apply goV_val _ (by intro u; rfl); · (intro u w hSw hF; go_simp; try with_reducible rfl))
  try simp only [Act.put, List.setIfInBounds_toArray, List.set_cons_zero, List.set_cons_succ]
  first
    | (apply goV_skip (by intro u; rfl))
    | (apply goV_val _ (by intro u; rfl); · (intro u w hSw hF; go_simp; try with_reducible rfl))
  try simp only [Act.put, List.setIfInBounds_toArray, List.set_cons_zero, List.set_cons_succ]
  first
    | (apply goV_skip (by intro u; rfl))
    | (apply goV_val _ (by intro u; rfl); · (intro u w hSw hF; go_simp; try with_reducible rfl))
  try simp only [Act.put, List.setIfInBounds_toArray, List.set_cons_zero, List.set_cons_succ]
  first
    | (apply goV_skip (by intro u; rfl))
    | (apply goV_val _ (by intro u; rfl); · (intro u w hSw hF; go_simp; try with_reducible rfl))
  try simp only [Act.put, List.setIfInBounds_toArray, List.set_cons_zero, List.set_cons_succ]
  first
    | (apply goV_skip (by intro u; rfl))
    | (apply goV_val _ (by intro u; rfl); · (intro u w hSw hF; go_simp; try with_reducible rfl))
  try simp only [Act.put, List.setIfInBounds_toArray, List.set_cons_zero, List.set_cons_succ]
  first
    | (apply goV_skip (by intro u; rfl))
    | (apply goV_val _ (by intro u; rfl); · (intro u w hSw hF; go_simp; try with_reducible rfl))
  try simp only [Act.put, List.setIfInBounds_toArray, List.set_cons_zero, List.set_cons_succ]
  first
    | (apply goV_skip (by intro u; rfl))
    | (apply goV_val _ (by intro u; rfl); · (intro u w hSw hF; go_simp; try with_reducible rfl))
  try simp only [Act.put, List.setIfInBounds_toArray, List.set_cons_zero, List.set_cons_succ]
  first
    | (apply goV_skip (by intro u; rfl))
    | (apply goV_loadP (by intro u; rfl) _ rfl o1 hQ (by intro u; rfl))
  try simp only [Act.put, List.setIfInBounds_toArray, List.set_cons_zero, List.set_cons_succ]
  first
    | (apply goV_skip (by intro u; rfl))
    | (apply goV_val _ (by intro u; rfl); · (intro u w hSw hF; go_simp; try with_reducible rfl))
  try simp only [Act.put, List.setIfInBounds_toArray, List.set_cons_zero, List.set_cons_succ]
  apply goV_val (.agg (pc q0)) (by intro u; rfl)
  · intro u w hSw hF
    have hq1 := hq0
    clear hq0
    go_simp
    first | done | (rw [← hq1]; rfl) | (subst hq1; rfl)
  try simp only [Act.put, List.setIfInBounds_toArray, List.set_cons_zero, List.set_cons_succ]
  first
    | (apply goV_skip (by intro u; rfl))
    | (apply goV_eqPd (by intro u; rfl) _ _ rfl o1 o1 hE (by intro u; rfl) (by intro u; rfl))
  try simp only [Act.put, List.setIfInBounds_toArray, List.set_cons_zero, List.set_cons_succ]
  first
    | (apply goV_skip (by intro u; rfl))
    | (apply goV_val _ (by intro u; rfl); · (intro u w hSw hF; go_simp; try with_reducible rfl))
  try simp only [Act.put, List.setIfInBounds_toArray, List.set_cons_zero, List.set_cons_succ]
  first
    | (apply goV_skip (by intro u; rfl))
    | (apply goV_val _ (by intro u; rfl); · (intro u w hSw hF; go_simp; try with_reducible rfl))
  try simp only [Act.put, List.setIfInBounds_toArray, List.set_cons_zero, List.set_cons_succ]
  first
    | (apply goV_skip (by intro u; rfl))
    | (apply goV_loadP (by intro u; rfl) _ rfl o1 hQ (by intro u; rfl))
  try simp only [Act.put, List.setIfInBounds_toArray, List.set_cons_zero, List.set_cons_succ]
  first
    | (apply goV_skip (by intro u; rfl))
    | (apply goV_call (by intro u; rfl) C7; · (intro u w hSw hF; go_simp; try with_reducible rfl))
  try simp only [Act.put, List.setIfInBounds_toArray, List.set_cons_zero, List.set_cons_succ]
  first
    | (apply goV_skip (by intro u; rfl))
    | (apply goV_call (by intro u; rfl) C2; · (intro u w hSw hF; go_simp; try with_reducible rfl))
  try simp only [Act.put, List.setIfInBounds_toArray, List.set_cons_zero, List.set_cons_succ]
  first
    | (apply goV_skip (by intro u; rfl))
    | (apply goV_val _ (by intro u; rfl); · (intro u w hSw hF; go_simp; try with_reducible rfl))
  try simp only [Act.put, List.setIfInBounds_toArray, List.set_cons_zero, List.set_cons_succ]
  first
    | (apply goV_skip (by intro u; rfl))
    | (apply goV_val _ (by intro u; rfl); · (intro u w hSw hF; go_simp; try with_reducible rfl))
  try simp only [Act.put, List.setIfInBounds_toArray, List.set_cons_zero, List.set_cons_succ]
  first
    | (apply goV_skip (by intro u; rfl))
    | (apply goV_val _ (by intro u; rfl); · (intro u w hSw hF; go_simp; try with_reducible rfl))
  try simp only [Act.put, List.setIfInBounds_toArray, List.set_cons_zero, List.set_cons_succ]
  first
    | (apply goV_skip (by intro u; rfl))
    | (apply goV_loadP (by intro u; rfl) _ rfl o0 hP (by intro u; rfl))
  try simp only [Act.put, List.setIfInBounds_toArray, List.set_cons_zero, List.set_cons_succ]
  first
    | (apply goV_skip (by intro u; rfl))
    | (apply goV_call (by intro u; rfl) C8; · (intro u w hSw hF; go_simp; try with_reducible rfl))
  try simp only [Act.put, List.setIfInBounds_toArray, List.set_cons_zero, List.set_cons_succ]
  first
    | (apply goV_skip (by intro u; rfl))
    | (apply goV_call (by intro u; rfl) C3; · (intro u w hSw hF; go_simp; try with_reducible rfl))
  try simp only [Act.put, List.setIfInBounds_toArray, List.set_cons_zero, List.set_cons_succ]
  first
    | (apply goV_skip (by intro u; rfl))
    | (apply goV_val _ (by intro u; rfl); · (intro u w hSw hF; go_simp; try with_reducible rfl))
  try simp only [Act.put, List.setIfInBounds_toArray, List.set_cons_zero, List.set_cons_succ]
  first
    | (apply goV_skip (by intro u; rfl))
    | (apply goV_val _ (by intro u; rfl); · (intro u w hSw hF; go_simp; try with_reducible rfl))
  try simp only [Act.put, List.setIfInBounds_toArray, List.set_cons_zero, List.set_cons_succ]
  first
    | (apply goV_skip (by intro u; rfl))
    | (apply goV_loadP (by intro u; rfl) _ rfl o0 hP (by intro u; rfl))
  try simp only [Act.put, List.setIfInBounds_toArray, List.set_cons_zero, List.set_cons_succ]
  first
    | (apply goV_skip (by intro u; rfl))
    | (apply goV_call (by intro u; rfl) C4; · (intro u w hSw hF; go_simp; try with_reducible rfl))
  try simp only [Act.put, List.setIfInBounds_toArray, List.set_cons_zero, List.set_cons_succ]
  first
    | (apply goV_skip (by intro u; rfl))
    | (apply goV_val _ (by intro u; rfl); · (intro u w hSw hF; go_simp; try with_reducible rfl))
  try simp only [Act.put, List.setIfInBounds_toArray, List.set_cons_zero, List.set_cons_succ]
  first
    | (apply goV_skip (by intro u; rfl))
    | (apply goV_val _ (by intro u; rfl); · (intro u w hSw hF; go_simp; try with_reducible rfl))
  try simp only [Act.put, List.setIfInBounds_toArray, List.set_cons_zero, List.set_cons_succ]
  first
    | (apply goV_skip (by intro u; rfl))
    | (apply goV_loadP (by intro u; rfl) _ rfl o0 hP (by intro u; rfl))
  try simp only [Act.put, List.setIfInBounds_toArray, List.set_cons_zero, List.set_cons_succ]
  first
    | (apply goV_skip (by intro u; rfl))
    | (apply goV_loadP (by intro u; rfl) _ rfl o1 hQ (by intro u; rfl))
  try simp only [Act.put, List.setIfInBounds_toArray, List.set_cons_zero, List.set_cons_succ]
  first
    | (apply goV_skip (by intro u; rfl))
    | (apply goV_call (by intro u; rfl) C5; · (intro u w hSw hF; go_simp; try with_reducible rfl))
  try simp only [Act.put, List.setIfInBounds_toArray, List.set_cons_zero, List.set_cons_succ]
  first
    | (apply goV_skip (by intro u; rfl))
    | (apply goV_val _ (by intro u; rfl); · (intro u w hSw hF; go_simp; try with_reducible rfl))
  try simp only [Act.put, List.setIfInBounds_toArray, List.set_cons_zero, List.set_cons_succ]
  first
    | (apply goV_skip (by intro u; rfl))
    | (apply goV_val _ (by intro u; rfl); · (intro u w hSw hF; go_simp; try with_reducible rfl))
  try simp only [Act.put, List.setIfInBounds_toArray, List.set_cons_zero, List.set_cons_succ]
  first
    | (apply goV_skip (by intro u; rfl))
    | (apply goV_val _ (by intro u; rfl); · (intro u w hSw hF; go_simp; try with_reducible rfl))
  try simp only [Act.put, List.setIfInBounds_toArray, List.set_cons_zero, List.set_cons_succ]
  first
    | (apply goV_skip (by intro u; rfl))
    | (apply goV_loadP (by intro u; rfl) _ rfl o0 hP (by intro u; rfl))
  try simp only [Act.put, List.setIfInBounds_toArray, List.set_cons_zero, List.set_cons_succ]
  first
    | (apply goV_skip (by intro u; rfl))
    | (apply goV_loadP (by intro u; rfl) _ rfl o0 hP (by intro u; rfl))
  try simp only [Act.put, List.setIfInBounds_toArray, List.set_cons_zero, List.set_cons_succ]
  first
    | (apply goV_skip (by intro u; rfl))
    | (apply goV_call (by intro u; rfl) C6; · (intro u w hSw hF; go_simp; try with_reducible rfl))
  try simp only [Act.put, List.setIfInBounds_toArray, List.set_cons_zero, List.set_cons_succ]
  first
    | (apply goV_skip (by intro u; rfl))
    | (apply goV_val _ (by intro u; rfl); · (intro u w hSw hF; go_simp; try with_reducible rfl))
  try simp only [Act.put, List.setIfInBounds_toArray, List.set_cons_zero, List.set_cons_succ]
  first
    | (apply goV_skip (by intro u; rfl))
    | (apply goV_val _ (by intro u; rfl); · (intro u w hSw hF; go_simp; try with_reducible rfl))
  try simp only [Act.put, List.setIfInBounds_toArray, List.set_cons_zero, List.set_cons_succ]
  intro u w9 hx9 _
  go_wp2
  go_ret
  exact ⟨rfl, hx6.trans hx9⟩
end Go.Proofs.YtbbdcodhgbgekaaGreatDoor
