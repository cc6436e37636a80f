/-
  Several texts joined: HcV.
-/
import Derived.Test.YtpdoddelnahlnaaGreatDoorK39
import Derived.Test.YtpdoddelnahlnaaGreatDoorK40
/-
  agrees and awake of the laws of httpconnect.
-/
set_option linter.unusedSimpArgs false
set_option linter.unusedVariables false
namespace Go.Proofs.YtpdoddelnahlnaaGreatDoor
open Go.RowKit Go.Joins
theorem okC_fin (s : ByteArray) : okC (fin s).1 := by
  unfold fin
  have hi := inv_st s (min s.size 512) (by unfold maxLen; omega)
  generalize st s (min s.size 512) = x at *
  cases x with
  | mal => exact okC_zcr
  | run n f h b => unfold fin1; simp only; split <;> exact okC_zcr
  | done h m => exact hi.2.2
set_option maxRecDepth 8000 in
set_option maxHeartbeats 4000000 in
theorem cagrees_any (s : ByteArray) (hs : s.size ≤ 281474976710656) (w : World) (henv : Env w) : Calls Tryz.prog 23 #[.string s] w fun e w' => e = .returned (.bool true) ∧ Ext w w' := by
  have K1 := Lib.hid (hparse_any s hs w henv)
  have K2 := Lib.hid (fun w => rparse_conn s hs w)
  have hC := okC_fin s
  generalize (fin s).1 = h at *
  generalize (fin s).2.1 = m at *
  generalize (fin s).2.2 = q at *
  go_enter Tryz.func23, Tryz.ntmps23
  go_wp2_with (first | (go_at_call 25; refine K1.out.mono ?_; rintro e w1 ⟨rfl, hx1⟩; refine Hid.out ?_))
  refine Lib.hid ?_
  have hbf := Blk.new w1 (crc zcr) 46
  go_upto_region 2 with (refine wpList_store_C rfl _ _ rfl okC_zcr hC hbf rfl rfl ?_)
  change Code.wp _ _ _ _ ((w1.alloc (.cells (crc zcr) 46)).setRow w1.heap.size (crc h))
  rw [World.setRow_alloc_new]
  have hC2 := Blk.new w1 (crc h) 46
  have hx2 := hx1.alloc (.cells (crc h) 46)
  have hnx := (Ext.refl w1).alloc (.cells (crc h) 46)
  clear hbf
  generalize w1.alloc (.cells (crc h) 46) = w2 at *
  generalize w1.heap.size = b2 at *
  clear hnx
  go_wp2_with (first | (go_at_call 51; refine (K2.out w2).mono ?_; rintro e w3 ⟨rfl, hx3⟩; refine Hid.out ?_))
  refine Lib.hid ?_
  have hxx3 := hx2.trans hx3
  have hC3 := hC2.ext hx3
  clear hx2 hx3 hC2 K1 K2
  have hbf := Blk.new w3 (crc zcr) 46
  go_upto_region 3 with (refine wpList_store_C rfl _ _ rfl okC_zcr hC hbf rfl rfl ?_)
  change Code.wp _ _ _ _ ((w3.alloc (.cells (crc zcr) 46)).setRow w3.heap.size (crc h))
  rw [World.setRow_alloc_new]
  have hD4 := Blk.new w3 (crc h) 46
  have hx4 := hxx3.alloc (.cells (crc h) 46)
  have hnx := (Ext.refl w3).alloc (.cells (crc h) 46)
  clear hbf
  generalize w3.alloc (.cells (crc h) 46) = w4 at *
  generalize w3.heap.size = b4 at *
  have hC4 := hC3.ext hnx
  clear hnx hxx3 hC3
  have gC : ∀ w', Ext w4 w' → RBlk w' b2 h := fun w' hh => hC4.ext hh
  have gD : ∀ w', Ext w4 w' → RBlk w' b4 h := fun w' hh => hD4.ext hh
  have hE : decide (h = h) = true := by simp
  refine wp_region_rgs ?_
  first
    | (apply goV_skip (by intro u; rfl))
    | (apply goV_loadC (by intro u; rfl) _ rfl hC gC (by intro u; rfl))
  try simp only [Act.put, List.setIfInBounds_toArray, List.set_cons_zero, List.set_cons_succ]
  first
    | (apply goV_skip (by intro u; rfl))
    | (apply goV_loadC (by intro u; rfl) _ rfl hC gD (by intro u; rfl))
  try simp only [Act.put, List.setIfInBounds_toArray, List.set_cons_zero, List.set_cons_succ]
  first
    | (apply goV_skip (by intro u; rfl))
    | (apply goV_eqCd (by intro u; rfl) _ _ rfl hC hC hE (by intro u; rfl) (by intro u; rfl))
  try simp only [Act.put, List.setIfInBounds_toArray, List.set_cons_zero, List.set_cons_succ]
  first
    | (apply goV_skip (by intro u; rfl))
    | (apply goV_val _ (by intro u; rfl); · (intro u w hSw hF; go_simp; try with_reducible rfl))
  try simp only [Act.put, List.setIfInBounds_toArray, List.set_cons_zero, List.set_cons_succ]
  first
    | (apply goV_skip (by intro u; rfl))
    | (apply goV_val _ (by intro u; rfl); · (intro u w hSw hF; go_simp; try with_reducible rfl))
  try simp only [Act.put, List.setIfInBounds_toArray, List.set_cons_zero, List.set_cons_succ]
  first
    | (apply goV_skip (by intro u; rfl))
    | (apply goV_val _ (by intro u; rfl); · (intro u w hSw hF; go_simp; try with_reducible rfl))
  try simp only [Act.put, List.setIfInBounds_toArray, List.set_cons_zero, List.set_cons_succ]
  first
    | (apply goV_skip (by intro u; rfl))
    | (apply goV_val _ (by intro u; rfl); · (intro u w hSw hF; go_simp; try with_reducible rfl))
  try simp only [Act.put, List.setIfInBounds_toArray, List.set_cons_zero, List.set_cons_succ]
  first
    | (apply goV_skip (by intro u; rfl))
    | (apply goV_val _ (by intro u; rfl); · (intro u w hSw hF; go_simp; try with_reducible rfl))
  try simp only [Act.put, List.setIfInBounds_toArray, List.set_cons_zero, List.set_cons_succ]
  first
    | (apply goV_skip (by intro u; rfl))
    | (apply goV_val _ (by intro u; rfl); · (intro u w hSw hF; go_simp; try with_reducible rfl))
  try simp only [Act.put, List.setIfInBounds_toArray, List.set_cons_zero, List.set_cons_succ]
  first
    | (apply goV_skip (by intro u; rfl))
    | (apply goV_val _ (by intro u; rfl); · (intro u w hSw hF; go_simp; try with_reducible rfl))
  try simp only [Act.put, List.setIfInBounds_toArray, List.set_cons_zero, List.set_cons_succ]
  first
    | (apply goV_skip (by intro u; rfl))
    | (apply goV_val _ (by intro u; rfl); · (intro u w hSw hF; go_simp; try with_reducible rfl))
  try simp only [Act.put, List.setIfInBounds_toArray, List.set_cons_zero, List.set_cons_succ]
  first
    | (apply goV_skip (by intro u; rfl))
    | (apply goV_val _ (by intro u; rfl); · (intro u w hSw hF; go_simp; try with_reducible rfl))
  try simp only [Act.put, List.setIfInBounds_toArray, List.set_cons_zero, List.set_cons_succ]
  first
    | (apply goV_skip (by intro u; rfl))
    | (apply goV_val _ (by intro u; rfl); · (intro u w hSw hF; go_simp; try with_reducible rfl))
  try simp only [Act.put, List.setIfInBounds_toArray, List.set_cons_zero, List.set_cons_succ]
  first
    | (apply goV_skip (by intro u; rfl))
    | (apply goV_val _ (by intro u; rfl); · (intro u w hSw hF; go_simp; try with_reducible rfl))
  try simp only [Act.put, List.setIfInBounds_toArray, List.set_cons_zero, List.set_cons_succ]
  intro u w7 hx7 _
  go_wp2
  go_ret; exact ⟨rfl, hx4.trans hx7⟩
def awS : ByteArray := ⟨#[67, 79, 78, 78, 69, 67, 84, 32, 97, 46, 98, 58, 56, 48, 32, 72, 84, 84, 80, 47, 49, 46, 49, 13, 10, 112, 114, 111, 120, 121, 45, 97, 117, 116, 104, 111, 114, 105, 122, 97, 116, 105, 111, 110, 58, 32, 66, 97, 115, 105, 99, 32, 89, 84, 112, 105, 32, 13, 10, 13, 10, 120]⟩
def awC : Cr := ((⟨#[97, 46, 98]⟩, zadr, 80), true, ⟨#[97]⟩, ⟨#[98]⟩)
theorem okC_aw : okC awC := ⟨⟨okA_zadr, by unfold i64ok awC; simp only; omega, by decide⟩, by decide, by decide⟩
theorem hv1 : fin awS = (awC, 61, 1) := by decide +kernel
theorem hv2 : (fin ⟨#[71, 69, 84]⟩).2.2 = 2 := by decide +kernel
theorem hv3 : (fin ⟨#[67, 79, 78, 78]⟩).2.2 = 0 := by decide +kernel
set_option maxRecDepth 8000 in
set_option maxHeartbeats 4000000 in
theorem awake20 (w : World) (henv : Env w) : Calls Tryz.prog 22 #[] w fun e w' => e = .returned (.bool true) ∧ Ext w w' := by
  have K1 := Lib.hid (hparse_any awS (by decide) w henv)
  have K2 := Lib.hid (fun w h => hparse_any ⟨#[71, 69, 84]⟩ (by decide) w h)
  have K3 := Lib.hid (fun w h => hparse_any ⟨#[67, 79, 78, 78]⟩ (by decide) w h)
  rw [hv1] at K1
  rw [hv2] at K2
  rw [hv3] at K3
  have hC2 := okC_fin ⟨#[71, 69, 84]⟩
  have hC3 := okC_fin ⟨#[67, 79, 78, 78]⟩
  generalize (fin ⟨#[71, 69, 84]⟩).1 = cA at *
  generalize (fin ⟨#[71, 69, 84]⟩).2.1 = mA at *
  generalize (fin ⟨#[67, 79, 78, 78]⟩).1 = cB at *
  generalize (fin ⟨#[67, 79, 78, 78]⟩).2.1 = mB at *
  unfold awS at K1
  simp only at K1
  go_enter Tryz.func22, Tryz.ntmps22
  go_wp2_with (first | (go_at_call 25; refine K1.out.mono ?_; rintro e w1 ⟨rfl, hx1⟩; refine Hid.out ?_))
  refine Lib.hid ?_
  clear K1
  have hbf := Blk.new w1 (crc zcr) 46
  go_upto_region 2 with (refine wpList_store_C rfl _ _ rfl okC_zcr okC_aw hbf rfl rfl ?_)
  change Code.wp _ _ _ _ ((w1.alloc (.cells (crc zcr) 46)).setRow w1.heap.size (crc awC))
  rw [World.setRow_alloc_new]
  have hb2 := Blk.new w1 (crc awC) 46
  have hx2 := hx1.alloc (.cells (crc awC) 46)
  have hnx := (Ext.refl w1).alloc (.cells (crc awC) 46)
  clear hbf
  generalize w1.alloc (.cells (crc awC) 46) = w2 at *
  generalize w1.heap.size = b2 at *
  clear hnx
  go_wp2_with (first | (go_at_call 25; refine (K2.out w2 (henv.ext hx2)).mono ?_; rintro e w3 ⟨rfl, hx3⟩; refine Hid.out ?_))
  refine Lib.hid ?_
  have hxx3 := hx2.trans hx3
  have hb3 := hb2.ext hx3
  clear hx2 hx3 hb2 K2
  have hbf := Blk.new w3 (crc zcr) 46
  go_upto_region 3 with (refine wpList_store_C rfl _ _ rfl okC_zcr hC2 hbf rfl rfl ?_)
  change Code.wp _ _ _ _ ((w3.alloc (.cells (crc zcr) 46)).setRow w3.heap.size (crc cA))
  rw [World.setRow_alloc_new]
  have hd4 := Blk.new w3 (crc cA) 46
  have hx4 := hxx3.alloc (.cells (crc cA) 46)
  have hnx := (Ext.refl w3).alloc (.cells (crc cA) 46)
  clear hbf
  generalize w3.alloc (.cells (crc cA) 46) = w4 at *
  generalize w3.heap.size = b4 at *
  have hb4 := hb3.ext hnx
  clear hnx hxx3 hb3 hd4
  go_wp2_with (first | (go_at_call 25; refine (K3.out w4 (henv.ext hx4)).mono ?_; rintro e w5 ⟨rfl, hx5⟩; refine Hid.out ?_))
  refine Lib.hid ?_
  have hxx5 := hx4.trans hx5
  have hb5 := hb4.ext hx5
  clear hx4 hx5 hb4 K3
  have hbf := Blk.new w5 (crc zcr) 46
  go_upto_region 4 with (refine wpList_store_C rfl _ _ rfl okC_zcr hC3 hbf rfl rfl ?_)
  change Code.wp _ _ _ _ ((w5.alloc (.cells (crc zcr) 46)).setRow w5.heap.size (crc cB))
  rw [World.setRow_alloc_new]
  have hd6 := Blk.new w5 (crc cB) 46
  have hx6 := hxx5.alloc (.cells (crc cB) 46)
  have hnx := (Ext.refl w5).alloc (.cells (crc cB) 46)
  clear hbf
  generalize w5.alloc (.cells (crc cB) 46) = w6 at *
  generalize w5.heap.size = b6 at *
  have hb6 := hb5.ext hnx
  clear hnx hxx5 hb5 hd6
  have gC : ∀ w', Ext w6 w' → RBlk w' b2 awC := fun w' hh => hb6.ext hh
  have hE : decide (awC = awC) = true := by simp
  refine wp_region_rgs ?_
  first
    | (apply goV_skip (by intro u; rfl))
    | (apply goV_loadC (by intro u; rfl) _ rfl okC_aw gC (by intro u; rfl))
  try simp only [Act.put, List.setIfInBounds_toArray, List.set_cons_zero, List.set_cons_succ]
  first
    | (apply goV_skip (by intro u; rfl))
    | (apply goV_val _ (by intro u; rfl); · (intro u w hSw hF; go_simp; try with_reducible rfl))
  try simp only [Act.put, List.setIfInBounds_toArray, List.set_cons_zero, List.set_cons_succ]
  first
    | (apply goV_skip (by intro u; rfl))
    | (apply goV_val _ (by intro u; rfl); · (intro u w hSw hF; go_simp; try with_reducible rfl))
  try simp only [Act.put, List.setIfInBounds_toArray, List.set_cons_zero, List.set_cons_succ]
  first
    | (apply goV_skip (by intro u; rfl))
    | (apply goV_eqCd (by intro u; rfl) _ _ rfl okC_aw okC_aw hE (by intro u; rfl) (by intro u; rfl))
  try simp only [Act.put, List.setIfInBounds_toArray, List.set_cons_zero, List.set_cons_succ]
  first
    | (apply goV_skip (by intro u; rfl))
    | (apply goV_val _ (by intro u; rfl); · (intro u w hSw hF; go_simp; try with_reducible rfl))
  try simp only [Act.put, List.setIfInBounds_toArray, List.set_cons_zero, List.set_cons_succ]
  first
    | (apply goV_skip (by intro u; rfl))
    | (apply goV_val _ (by intro u; rfl); · (intro u w hSw hF; go_simp; try with_reducible rfl))
  try simp only [Act.put, List.setIfInBounds_toArray, List.set_cons_zero, List.set_cons_succ]
  first
    | (apply goV_skip (by intro u; rfl))
    | (apply goV_val _ (by intro u; rfl); · (intro u w hSw hF; go_simp; try with_reducible rfl))
  try simp only [Act.put, List.setIfInBounds_toArray, List.set_cons_zero, List.set_cons_succ]
  first
    | (apply goV_skip (by intro u; rfl))
    | (apply goV_val _ (by intro u; rfl); · (intro u w hSw hF; go_simp; try with_reducible rfl))
  try simp only [Act.put, List.setIfInBounds_toArray, List.set_cons_zero, List.set_cons_succ]
  first
    | (apply goV_skip (by intro u; rfl))
    | (apply goV_val _ (by intro u; rfl); · (intro u w hSw hF; go_simp; try with_reducible rfl))
  try simp only [Act.put, List.setIfInBounds_toArray, List.set_cons_zero, List.set_cons_succ]
  first
    | (apply goV_skip (by intro u; rfl))
    | (apply goV_val _ (by intro u; rfl); · (intro u w hSw hF; go_simp; try with_reducible rfl))
  try simp only [Act.put, List.setIfInBounds_toArray, List.set_cons_zero, List.set_cons_succ]
  first
    | (apply goV_skip (by intro u; rfl))
    | (apply goV_val _ (by intro u; rfl); · (intro u w hSw hF; go_simp; try with_reducible rfl))
  try simp only [Act.put, List.setIfInBounds_toArray, List.set_cons_zero, List.set_cons_succ]
  first
    | (apply goV_skip (by intro u; rfl))
    | (apply goV_val _ (by intro u; rfl); · (intro u w hSw hF; go_simp; try with_reducible rfl))
  try simp only [Act.put, List.setIfInBounds_toArray, List.set_cons_zero, List.set_cons_succ]
  first
    | (apply goV_skip (by intro u; rfl))
    | (apply goV_val _ (by intro u; rfl); · (intro u w hSw hF; go_simp; try with_reducible rfl))
  try simp only [Act.put, List.setIfInBounds_toArray, List.set_cons_zero, List.set_cons_succ]
  first
    | (apply goV_skip (by intro u; rfl))
    | (apply goV_val _ (by intro u; rfl); · (intro u w hSw hF; go_simp; try with_reducible rfl))
  try simp only [Act.put, List.setIfInBounds_toArray, List.set_cons_zero, List.set_cons_succ]
  first
    | (apply goV_skip (by intro u; rfl))
    | (apply goV_val _ (by intro u; rfl); · (intro u w hSw hF; go_simp; try with_reducible rfl))
  try simp only [Act.put, List.setIfInBounds_toArray, List.set_cons_zero, List.set_cons_succ]
  first
    | (apply goV_skip (by intro u; rfl))
    | (apply goV_val _ (by intro u; rfl); · (intro u w hSw hF; go_simp; try with_reducible rfl))
  try simp only [Act.put, List.setIfInBounds_toArray, List.set_cons_zero, List.set_cons_succ]
  first
    | (apply goV_skip (by intro u; rfl))
    | (apply goV_val _ (by intro u; rfl); · (intro u w hSw hF; go_simp; try with_reducible rfl))
  try simp only [Act.put, List.setIfInBounds_toArray, List.set_cons_zero, List.set_cons_succ]
  first
    | (apply goV_skip (by intro u; rfl))
    | (apply goV_val _ (by intro u; rfl); · (intro u w hSw hF; go_simp; try with_reducible rfl))
  try simp only [Act.put, List.setIfInBounds_toArray, List.set_cons_zero, List.set_cons_succ]
  first
    | (apply goV_skip (by intro u; rfl))
    | (apply goV_val _ (by intro u; rfl); · (intro u w hSw hF; go_simp; try with_reducible rfl))
  try simp only [Act.put, List.setIfInBounds_toArray, List.set_cons_zero, List.set_cons_succ]
  first
    | (apply goV_skip (by intro u; rfl))
    | (apply goV_val _ (by intro u; rfl); · (intro u w hSw hF; go_simp; try with_reducible rfl))
  try simp only [Act.put, List.setIfInBounds_toArray, List.set_cons_zero, List.set_cons_succ]
  first
    | (apply goV_skip (by intro u; rfl))
    | (apply goV_val _ (by intro u; rfl); · (intro u w hSw hF; go_simp; try with_reducible rfl))
  try simp only [Act.put, List.setIfInBounds_toArray, List.set_cons_zero, List.set_cons_succ]
  intro u w7 hx7 _
  go_wp2
  go_ret; exact ⟨rfl, hx6.trans hx7⟩
end Go.Proofs.YtpdoddelnahlnaaGreatDoor
