/-
  agrees: the program's parsers and the reference's say the same.
-/
import Derived.Test.YtpdoddelnahlnaaGreatDoorHoAw
import Derived.Test.YtpdoddelnahlnaaGreatDoorHoQ
set_option linter.unusedSimpArgs false
set_option linter.unusedVariables false
namespace Go.Proofs.YtpdoddelnahlnaaGreatDoor
open Go.RowKit
set_option maxRecDepth 8000 in
set_option maxHeartbeats 4000000 in
theorem agrees_any (s : ByteArray) (hs : s.size < 4294967281) (w : World) (henv : Env w) : Calls Tryz.prog 12 #[.string s] w fun e w' => e = .returned (.bool true) ∧ Ext w w' := by
  have hz : s.size ≤ maxLen := by unfold maxLen; omega
  have K1 := Lib.hid (pname_any s w henv hz)
  have K2 := Lib.hid (fun w => rpname_any s w hz)
  have K3 := Lib.hid (fun w h => ptarget_any s w h hs)
  have K4 := Lib.hid (fun w => rptarget_any s w hs)
  have K5 := Lib.hid (pport_any s hz)
  have K6 := Lib.hid (rport_any s hz)
  have K7 := Lib.hid (fun w h => label_any s w h hz)
  have K8 := Lib.hid (fun w => rlabel_any s w hz)
  have hT := okT_tgtP s hz
  generalize (nameP s).1 = n1 at *
  generalize (nameP s).2 = n2 at *
  generalize (tgtP s).1 = t at *
  generalize (tgtP s).2 = tok at *
  generalize (portP s).1 = p at *
  generalize (portP s).2 = pok at *
  generalize labP s = lb at *
  go_enter Tryz.func12, Tryz.ntmps12
  go_upto_region 3 with (first | (go_at_call 28; refine K1.out.mono ?_; rintro e w1 ⟨rfl, hx1⟩) | (go_at_call 31; refine (K2.out _).mono ?_; rintro e w2 ⟨rfl, hx2⟩; refine Hid.out ?_))
  refine Lib.hid ?_
  have hxx2 := hx1.trans hx2
  clear hx1 hx2 K1 K2
  go_wp2_with (first | (go_at_call 20; refine (K3.out w2 (henv.ext hxx2)).mono ?_; rintro e w3 ⟨rfl, hx3⟩; refine Hid.out ?_))
  refine Lib.hid ?_
  have hxx3 := hxx2.trans hx3
  clear hxx2 hx3 K3
  have hbf := Blk.new w3 (tc ztgt) 32
  go_upto_region 4 with (refine wpList_store_T rfl _ _ rfl okT_ztgt hT hbf rfl rfl ?_)
  change Code.wp _ _ _ _ ((w3.alloc (.cells (tc ztgt) 32)).setRow w3.heap.size (tc t))
  rw [World.setRow_alloc_new]
  have hT4 := Blk.new w3 (tc t) 32
  have hx4 := hxx3.alloc (.cells (tc t) 32)
  have hnx := (Ext.refl w3).alloc (.cells (tc t) 32)
  clear hbf
  generalize w3.alloc (.cells (tc t) 32) = w4 at *
  generalize w3.heap.size = b4 at *
  clear hnx hxx3
  go_wp2_with (first | (go_at_call 32; refine (K4.out w4).mono ?_; rintro e w5 ⟨rfl, hx5⟩; refine Hid.out ?_))
  refine Lib.hid ?_
  have hxx5 := hx4.trans hx5
  have hT5 := hT4.ext hx5
  clear hx4 hx5 K4 hT4
  have hbf := Blk.new w5 (tc ztgt) 32
  go_upto_region 5 with (refine wpList_store_T rfl _ _ rfl okT_ztgt hT hbf rfl rfl ?_)
  change Code.wp _ _ _ _ ((w5.alloc (.cells (tc ztgt) 32)).setRow w5.heap.size (tc t))
  rw [World.setRow_alloc_new]
  have hU6 := Blk.new w5 (tc t) 32
  have hx6 := hxx5.alloc (.cells (tc t) 32)
  have hnx := (Ext.refl w5).alloc (.cells (tc t) 32)
  clear hbf
  generalize w5.alloc (.cells (tc t) 32) = w6 at *
  generalize w5.heap.size = b6 at *
  have hT6 := hT5.ext hnx
  clear hnx hxx5 hT5
  go_upto_region 7 with (first | (go_at_call 33; refine (K5.out _).mono ?_; rintro e w7 ⟨rfl, rfl⟩) | (go_at_call 34; refine (K6.out _).mono ?_; rintro e w8 ⟨rfl, rfl⟩))
  have henv6 := henv.ext hx6
  have gT : ∀ w', Ext w6 w' → TBlk w' b4 t := fun w' h => hT6.ext h
  have gU : ∀ w', Ext w6 w' → TBlk w' b6 t := fun w' h => hU6.ext h
  have hE : decide (t = t) = true := by simp
  have c1 := fun w' (h : Ext w6 w') => K7.out w' (henv6.ext h)
  have c2 := fun w' (h : Ext w6 w') => K8.out w'
  refine wp_region_rgs ?_
  first
    | (apply goV_skip (by intro u; rfl))
    | (apply goV_val _ (by intro u; rfl); · (intro u w hSw hF; go_simp; try with_reducible rfl))
  try simp only [Act.put, List.setIfInBounds_toArray, List.set_cons_zero, List.set_cons_succ]
  first
    | (apply goV_skip (by intro u; rfl))
    | (apply goV_val _ (by intro u; rfl); · (intro u w hSw hF; go_simp; try with_reducible rfl))
  try simp only [Act.put, List.setIfInBounds_toArray, List.set_cons_zero, List.set_cons_succ]
  first
    | (apply goV_skip (by intro u; rfl))
    | (apply goV_val _ (by intro u; rfl); · (intro u w hSw hF; go_simp; try with_reducible rfl))
  try simp only [Act.put, List.setIfInBounds_toArray, List.set_cons_zero, List.set_cons_succ]
  first
    | (apply goV_skip (by intro u; rfl))
    | (apply goV_val _ (by intro u; rfl); · (intro u w hSw hF; go_simp; try with_reducible rfl))
  try simp only [Act.put, List.setIfInBounds_toArray, List.set_cons_zero, List.set_cons_succ]
  first
    | (apply goV_skip (by intro u; rfl))
    | (apply goV_val _ (by intro u; rfl); · (intro u w hSw hF; go_simp; try with_reducible rfl))
  try simp only [Act.put, List.setIfInBounds_toArray, List.set_cons_zero, List.set_cons_succ]
  first
    | (apply goV_skip (by intro u; rfl))
    | (apply goV_val _ (by intro u; rfl); · (intro u w hSw hF; go_simp; try with_reducible rfl))
  try simp only [Act.put, List.setIfInBounds_toArray, List.set_cons_zero, List.set_cons_succ]
  first
    | (apply goV_skip (by intro u; rfl))
    | (apply goV_val _ (by intro u; rfl); · (intro u w hSw hF; go_simp; try with_reducible rfl))
  try simp only [Act.put, List.setIfInBounds_toArray, List.set_cons_zero, List.set_cons_succ]
  first
    | (apply goV_skip (by intro u; rfl))
    | (apply goV_val _ (by intro u; rfl); · (intro u w hSw hF; go_simp; try with_reducible rfl))
  try simp only [Act.put, List.setIfInBounds_toArray, List.set_cons_zero, List.set_cons_succ]
  first
    | (apply goV_skip (by intro u; rfl))
    | (apply goV_val _ (by intro u; rfl); · (intro u w hSw hF; go_simp; try with_reducible rfl))
  try simp only [Act.put, List.setIfInBounds_toArray, List.set_cons_zero, List.set_cons_succ]
  first
    | (apply goV_skip (by intro u; rfl))
    | (apply goV_loadT (by intro u; rfl) _ rfl hT gT (by intro u; rfl))
  try simp only [Act.put, List.setIfInBounds_toArray, List.set_cons_zero, List.set_cons_succ]
  first
    | (apply goV_skip (by intro u; rfl))
    | (apply goV_loadT (by intro u; rfl) _ rfl hT gU (by intro u; rfl))
  try simp only [Act.put, List.setIfInBounds_toArray, List.set_cons_zero, List.set_cons_succ]
  first
    | (apply goV_skip (by intro u; rfl))
    | (apply goV_eqTd (by intro u; rfl) _ _ rfl hT hT hE (by intro u; rfl) (by intro u; rfl))
  try simp only [Act.put, List.setIfInBounds_toArray, List.set_cons_zero, List.set_cons_succ]
  first
    | (apply goV_skip (by intro u; rfl))
    | (apply goV_val _ (by intro u; rfl); · (intro u w hSw hF; go_simp; try with_reducible rfl))
  try simp only [Act.put, List.setIfInBounds_toArray, List.set_cons_zero, List.set_cons_succ]
  first
    | (apply goV_skip (by intro u; rfl))
    | (apply goV_val _ (by intro u; rfl); · (intro u w hSw hF; go_simp; try with_reducible rfl))
  try simp only [Act.put, List.setIfInBounds_toArray, List.set_cons_zero, List.set_cons_succ]
  first
    | (apply goV_skip (by intro u; rfl))
    | (apply goV_val _ (by intro u; rfl); · (intro u w hSw hF; go_simp; try with_reducible rfl))
  try simp only [Act.put, List.setIfInBounds_toArray, List.set_cons_zero, List.set_cons_succ]
  first
    | (apply goV_skip (by intro u; rfl))
    | (apply goV_val _ (by intro u; rfl); · (intro u w hSw hF; go_simp; try with_reducible rfl))
  try simp only [Act.put, List.setIfInBounds_toArray, List.set_cons_zero, List.set_cons_succ]
  first
    | (apply goV_skip (by intro u; rfl))
    | (apply goV_val _ (by intro u; rfl); · (intro u w hSw hF; go_simp; try with_reducible rfl))
  try simp only [Act.put, List.setIfInBounds_toArray, List.set_cons_zero, List.set_cons_succ]
  first
    | (apply goV_skip (by intro u; rfl))
    | (apply goV_val _ (by intro u; rfl); · (intro u w hSw hF; go_simp; try with_reducible rfl))
  try simp only [Act.put, List.setIfInBounds_toArray, List.set_cons_zero, List.set_cons_succ]
  first
    | (apply goV_skip (by intro u; rfl))
    | (apply goV_val _ (by intro u; rfl); · (intro u w hSw hF; go_simp; try with_reducible rfl))
  try simp only [Act.put, List.setIfInBounds_toArray, List.set_cons_zero, List.set_cons_succ]
  first
    | (apply goV_skip (by intro u; rfl))
    | (apply goV_val _ (by intro u; rfl); · (intro u w hSw hF; go_simp; try with_reducible rfl))
  try simp only [Act.put, List.setIfInBounds_toArray, List.set_cons_zero, List.set_cons_succ]
  first
    | (apply goV_skip (by intro u; rfl))
    | (apply goV_val _ (by intro u; rfl); · (intro u w hSw hF; go_simp; try with_reducible rfl))
  try simp only [Act.put, List.setIfInBounds_toArray, List.set_cons_zero, List.set_cons_succ]
  first
    | (apply goV_skip (by intro u; rfl))
    | (apply goV_val _ (by intro u; rfl); · (intro u w hSw hF; go_simp; try with_reducible rfl))
  try simp only [Act.put, List.setIfInBounds_toArray, List.set_cons_zero, List.set_cons_succ]
  first
    | (apply goV_skip (by intro u; rfl))
    | (apply goV_val _ (by intro u; rfl); · (intro u w hSw hF; go_simp; try with_reducible rfl))
  try simp only [Act.put, List.setIfInBounds_toArray, List.set_cons_zero, List.set_cons_succ]
  first
    | (apply goV_skip (by intro u; rfl))
    | (apply goV_val _ (by intro u; rfl); · (intro u w hSw hF; go_simp; try with_reducible rfl))
  try simp only [Act.put, List.setIfInBounds_toArray, List.set_cons_zero, List.set_cons_succ]
  first
    | (apply goV_skip (by intro u; rfl))
    | (apply goV_val _ (by intro u; rfl); · (intro u w hSw hF; go_simp; try with_reducible rfl))
  try simp only [Act.put, List.setIfInBounds_toArray, List.set_cons_zero, List.set_cons_succ]
  first
    | (apply goV_skip (by intro u; rfl))
    | (apply goV_val _ (by intro u; rfl); · (intro u w hSw hF; go_simp; try with_reducible rfl))
  try simp only [Act.put, List.setIfInBounds_toArray, List.set_cons_zero, List.set_cons_succ]
  first
    | (apply goV_skip (by intro u; rfl))
    | (apply goV_val _ (by intro u; rfl); · (intro u w hSw hF; go_simp; try with_reducible rfl))
  try simp only [Act.put, List.setIfInBounds_toArray, List.set_cons_zero, List.set_cons_succ]
  first
    | (apply goV_skip (by intro u; rfl))
    | (apply goV_val _ (by intro u; rfl); · (intro u w hSw hF; go_simp; try with_reducible rfl))
  try simp only [Act.put, List.setIfInBounds_toArray, List.set_cons_zero, List.set_cons_succ]
  first
    | (apply goV_skip (by intro u; rfl))
    | (apply goV_val _ (by intro u; rfl); · (intro u w hSw hF; go_simp; try with_reducible rfl))
  try simp only [Act.put, List.setIfInBounds_toArray, List.set_cons_zero, List.set_cons_succ]
  first
    | (apply goV_skip (by intro u; rfl))
    | (apply goV_val _ (by intro u; rfl); · (intro u w hSw hF; go_simp; try with_reducible rfl))
  try simp only [Act.put, List.setIfInBounds_toArray, List.set_cons_zero, List.set_cons_succ]
  first
    | (apply goV_skip (by intro u; rfl))
    | (apply goV_call (by intro u; rfl) c1; · (intro u w hSw hF; go_simp; try with_reducible rfl))
  try simp only [Act.put, List.setIfInBounds_toArray, List.set_cons_zero, List.set_cons_succ]
  first
    | (apply goV_skip (by intro u; rfl))
    | (apply goV_val _ (by intro u; rfl); · (intro u w hSw hF; go_simp; try with_reducible rfl))
  try simp only [Act.put, List.setIfInBounds_toArray, List.set_cons_zero, List.set_cons_succ]
  first
    | (apply goV_skip (by intro u; rfl))
    | (apply goV_call (by intro u; rfl) c2; · (intro u w hSw hF; go_simp; try with_reducible rfl))
  try simp only [Act.put, List.setIfInBounds_toArray, List.set_cons_zero, List.set_cons_succ]
  first
    | (apply goV_skip (by intro u; rfl))
    | (apply goV_val _ (by intro u; rfl); · (intro u w hSw hF; go_simp; try with_reducible rfl))
  try simp only [Act.put, List.setIfInBounds_toArray, List.set_cons_zero, List.set_cons_succ]
  first
    | (apply goV_skip (by intro u; rfl))
    | (apply goV_val _ (by intro u; rfl); · (intro u w hSw hF; go_simp; try with_reducible rfl))
  try simp only [Act.put, List.setIfInBounds_toArray, List.set_cons_zero, List.set_cons_succ]
  first
    | (apply goV_skip (by intro u; rfl))
    | (apply goV_val _ (by intro u; rfl); · (intro u w hSw hF; go_simp; try with_reducible rfl))
  try simp only [Act.put, List.setIfInBounds_toArray, List.set_cons_zero, List.set_cons_succ]
  intro u w7 hx7 _
  go_wp2
  go_ret; exact ⟨rfl, hx6.trans hx7⟩
end Go.Proofs.YtpdoddelnahlnaaGreatDoor
