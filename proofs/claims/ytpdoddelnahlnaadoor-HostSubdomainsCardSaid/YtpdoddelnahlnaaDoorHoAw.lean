/-
  The law's own look (awake) for hosts.
-/
import Derived.Test.YtpdoddelnahlnaaDoorHoV
set_option linter.unusedSimpArgs false
set_option linter.unusedVariables false
namespace Go.Proofs.YtpdoddelnahlnaaDoor
open Go.RowKit
def awN : ByteArray := ⟨#[87, 87, 87, 46, 69, 120, 97, 109, 112, 108, 101, 46, 111, 114, 103, 46]⟩
def awn : ByteArray := ⟨#[119, 119, 119, 46, 101, 120, 97, 109, 112, 108, 101, 46, 111, 114, 103]⟩
def awA : ByteArray := ⟨#[91, 58, 58, 49, 93, 58, 52, 52, 51]⟩
def awB : ByteArray := ⟨#[49, 46, 50, 46, 51, 58, 52]⟩
def awT : Tgt := (⟨#[]⟩, (true, [0, 0, 0, 0, 0, 0, 0, 0, 0, 0, 0, 0, 0, 0, 0, 1]), 443)
theorem okT_aw : okT awT := ⟨⟨rfl, by decide⟩, by unfold i64ok awT; simp only; omega, Nat.zero_le _⟩
theorem hw1 : nameP awN = (awn, true) := by decide +kernel
theorem hw2 : tgtP awA = (awT, true) := by decide +kernel
theorem hw3 : (tgtP awB).2 = false := by decide +kernel
theorem hw4 : subP ⟨#[97, 46, 98, 46, 99]⟩ ⟨#[98, 46, 99]⟩ = true := by decide +kernel
theorem hw5 : subP ⟨#[97, 98, 46, 99]⟩ ⟨#[98, 46, 99]⟩ = false := by decide +kernel
theorem hw6 : labP ⟨#[97, 46, 98, 46, 99]⟩ = 3 := by decide +kernel
theorem hw7 : fmtT awT = awA := by decide +kernel
theorem hw8 : validT awT = true := by decide +kernel
set_option maxRecDepth 8000 in
set_option maxHeartbeats 4000000 in
theorem awake08 (w : World) (henv : Env w) (htabs : Tabs w) : Calls Tryd.prog 8 #[] w fun e w' => e = .returned (.bool true) ∧ Ext w w' := by
  have K1 := Lib.hid (pname_any awN w henv (by decide))
  have K2 := Lib.hid (fun w h => ptarget_any awA w h (by decide))
  have K3 := Lib.hid (fun w h => ptarget_any awB w h (by decide))
  have KS1 := Lib.hid (fun w h => isub_any ⟨#[97, 46, 98, 46, 99]⟩ ⟨#[98, 46, 99]⟩ w h (by decide) (by decide))
  have KS2 := Lib.hid (fun w h => isub_any ⟨#[97, 98, 46, 99]⟩ ⟨#[98, 46, 99]⟩ w h (by decide) (by decide))
  have KL := Lib.hid (fun w h => label_any ⟨#[97, 46, 98, 46, 99]⟩ w h (by decide))
  have KF := Lib.hid (fun w h h2 => hformat_any awT okT_aw w h h2)
  have KV := Lib.hid (fun w h => vtarget_any awT okT_aw w h)
  rw [hw1] at K1
  rw [hw2] at K2
  rw [hw3] at K3
  rw [hw4] at KS1
  rw [hw5] at KS2
  rw [hw6] at KL
  rw [hw7] at KF
  rw [hw8] at KV
  have hB := okT_tgtP awB (by decide)
  generalize (tgtP awB).1 = tb at *
  unfold awN at K1
  unfold awA at K2
  unfold awB at K3
  have hq1 : awn.toList = [119, 119, 119, 46, 101, 120, 97, 109, 112, 108, 101, 46, 111, 114, 103] := by rw [ByteArray.toList_eq]; rfl
  have hq2 : awA.toList = [91, 58, 58, 49, 93, 58, 52, 52, 51] := by rw [ByteArray.toList_eq]; rfl
  generalize awn = n1 at *
  generalize awA = n2 at *
  go_enter Tryd.func8, Tryd.ntmps8
  go_upto_region 2 with (first | (go_at_call 18; refine K1.out.mono ?_; rintro e w1 ⟨rfl, hx1⟩; refine Hid.out ?_))
  refine Lib.hid ?_
  go_wp2_with (first | (go_at_call 19; refine (K2.out w1 (henv.ext hx1)).mono ?_; rintro e w2 ⟨rfl, hx2⟩; refine Hid.out ?_))
  refine Lib.hid ?_
  have hxx2 := hx1.trans hx2
  clear hx1 hx2 K1 K2
  have hbf := Blk.new w2 (tc ztgt) 39
  go_upto_region 3 with (refine wpList_store_T rfl _ _ rfl okT_ztgt okT_aw hbf rfl rfl ?_)
  change Code.wp _ _ _ _ ((w2.alloc (.cells (tc ztgt) 39)).setRow w2.heap.size (tc awT))
  rw [World.setRow_alloc_new]
  have hT3 := Blk.new w2 (tc awT) 39
  have hx3 := hxx2.alloc (.cells (tc awT) 39)
  have hnx := (Ext.refl w2).alloc (.cells (tc awT) 39)
  clear hbf
  generalize w2.alloc (.cells (tc awT) 39) = w3 at *
  generalize w2.heap.size = b3 at *
  clear hnx hxx2
  go_wp2_with (first | (go_at_call 19; refine (K3.out w3 (henv.ext hx3)).mono ?_; rintro e w4 ⟨rfl, hx4⟩; refine Hid.out ?_))
  refine Lib.hid ?_
  have hxx4 := hx3.trans hx4
  have hT4 := hT3.ext hx4
  clear hx3 hx4 K3 hT3
  have hbf := Blk.new w4 (tc ztgt) 39
  go_upto_region 4 with (refine wpList_store_T rfl _ _ rfl okT_ztgt hB hbf rfl rfl ?_)
  change Code.wp _ _ _ _ ((w4.alloc (.cells (tc ztgt) 39)).setRow w4.heap.size (tc tb))
  rw [World.setRow_alloc_new]
  have hU5 := Blk.new w4 (tc tb) 39
  have hx5 := hxx4.alloc (.cells (tc tb) 39)
  have hnx := (Ext.refl w4).alloc (.cells (tc tb) 39)
  clear hbf
  generalize w4.alloc (.cells (tc tb) 39) = w5 at *
  generalize w4.heap.size = b5 at *
  have hT5 := hT4.ext hnx
  have henv5 := henv.ext hx5
  have htabs5 := htabs.ext hx5
  clear hnx hxx4 hT4 hU5
  have gT : ∀ w', Ext w5 w' → TBlk w' b3 awT := fun w' h => hT5.ext h
  have hE : decide (awT = awT) = true := by simp
  have c1 := fun w' (h : Ext w5 w') => KS1.out w' (henv5.ext h)
  have c2 := fun w' (h : Ext w5 w') => KS2.out w' (henv5.ext h)
  have c3 := fun w' (h : Ext w5 w') => KL.out w' (henv5.ext h)
  have c4 := fun w' (h : Ext w5 w') => KF.out w' (henv5.ext h) (htabs5.ext h)
  have c5 := fun w' (h : Ext w5 w') => KV.out w' (henv5.ext h)
  refine wp_region_rgs ?_
  first
    | (apply goV_skip (by intro u; rfl))
    | (apply goV_val _ (by intro u; rfl); · (intro u w hSw hF; go_simp; try with_reducible rfl))
  try simp only [Act.put, List.setIfInBounds_toArray, List.set_cons_zero, List.set_cons_succ]
  first
    | (apply goV_skip (by intro u; rfl))
    | (apply goV_val _ (by intro u; rfl); · (intro u w hSw hF; go_simp; try with_reducible rfl))
  try simp only [Act.put, List.setIfInBounds_toArray, List.set_cons_zero, List.set_cons_succ]
  first
    | (apply goV_skip (by intro u; rfl))
    | (apply goV_val _ (by intro u; rfl); · (intro u w hSw hF; go_simp; try with_reducible rfl))
  try simp only [Act.put, List.setIfInBounds_toArray, List.set_cons_zero, List.set_cons_succ]
  first
    | (apply goV_skip (by intro u; rfl))
    | (apply goV_val (.bool true) (by intro u; rfl); · (intro u w hSw hF; have c0 := hq1; go_simp))
  try simp only [Act.put, List.setIfInBounds_toArray, List.set_cons_zero, List.set_cons_succ]
  first
    | (apply goV_skip (by intro u; rfl))
    | (apply goV_val _ (by intro u; rfl); · (intro u w hSw hF; go_simp; try with_reducible rfl))
  try simp only [Act.put, List.setIfInBounds_toArray, List.set_cons_zero, List.set_cons_succ]
  first
    | (apply goV_skip (by intro u; rfl))
    | (apply goV_val _ (by intro u; rfl); · (intro u w hSw hF; go_simp; try with_reducible rfl))
  try simp only [Act.put, List.setIfInBounds_toArray, List.set_cons_zero, List.set_cons_succ]
  first
    | (apply goV_skip (by intro u; rfl))
    | (apply goV_val _ (by intro u; rfl); · (intro u w hSw hF; go_simp; try with_reducible rfl))
  try simp only [Act.put, List.setIfInBounds_toArray, List.set_cons_zero, List.set_cons_succ]
  first
    | (apply goV_skip (by intro u; rfl))
    | (apply goV_val _ (by intro u; rfl); · (intro u w hSw hF; go_simp; try with_reducible rfl))
  try simp only [Act.put, List.setIfInBounds_toArray, List.set_cons_zero, List.set_cons_succ]
  first
    | (apply goV_skip (by intro u; rfl))
    | (apply goV_val _ (by intro u; rfl); · (intro u w hSw hF; go_simp; try with_reducible rfl))
  try simp only [Act.put, List.setIfInBounds_toArray, List.set_cons_zero, List.set_cons_succ]
  first
    | (apply goV_skip (by intro u; rfl))
    | (apply goV_loadT (by intro u; rfl) _ rfl okT_aw gT (by intro u; rfl))
  try simp only [Act.put, List.setIfInBounds_toArray, List.set_cons_zero, List.set_cons_succ]
  first
    | (apply goV_skip (by intro u; rfl))
    | (apply goV_val _ (by intro u; rfl); · (intro u w hSw hF; go_simp; try with_reducible rfl))
  try simp only [Act.put, List.setIfInBounds_toArray, List.set_cons_zero, List.set_cons_succ]
  first
    | (apply goV_skip (by intro u; rfl))
    | (apply goV_val _ (by intro u; rfl); · (intro u w hSw hF; go_simp; try with_reducible rfl))
  try simp only [Act.put, List.setIfInBounds_toArray, List.set_cons_zero, List.set_cons_succ]
  first
    | (apply goV_skip (by intro u; rfl))
    | (apply goV_val _ (by intro u; rfl); · (intro u w hSw hF; go_simp; try with_reducible rfl))
  try simp only [Act.put, List.setIfInBounds_toArray, List.set_cons_zero, List.set_cons_succ]
  first
    | (apply goV_skip (by intro u; rfl))
    | (apply goV_eqTd (by intro u; rfl) _ _ rfl okT_aw okT_aw hE (by intro u; rfl) (by intro u; rfl))
  try simp only [Act.put, List.setIfInBounds_toArray, List.set_cons_zero, List.set_cons_succ]
  first
    | (apply goV_skip (by intro u; rfl))
    | (apply goV_val _ (by intro u; rfl); · (intro u w hSw hF; go_simp; try with_reducible rfl))
  try simp only [Act.put, List.setIfInBounds_toArray, List.set_cons_zero, List.set_cons_succ]
  first
    | (apply goV_skip (by intro u; rfl))
    | (apply goV_val _ (by intro u; rfl); · (intro u w hSw hF; go_simp; try with_reducible rfl))
  try simp only [Act.put, List.setIfInBounds_toArray, List.set_cons_zero, List.set_cons_succ]
  first
    | (apply goV_skip (by intro u; rfl))
    | (apply goV_val _ (by intro u; rfl); · (intro u w hSw hF; go_simp; try with_reducible rfl))
  try simp only [Act.put, List.setIfInBounds_toArray, List.set_cons_zero, List.set_cons_succ]
  first
    | (apply goV_skip (by intro u; rfl))
    | (apply goV_val _ (by intro u; rfl); · (intro u w hSw hF; go_simp; try with_reducible rfl))
  try simp only [Act.put, List.setIfInBounds_toArray, List.set_cons_zero, List.set_cons_succ]
  first
    | (apply goV_skip (by intro u; rfl))
    | (apply goV_val _ (by intro u; rfl); · (intro u w hSw hF; go_simp; try with_reducible rfl))
  try simp only [Act.put, List.setIfInBounds_toArray, List.set_cons_zero, List.set_cons_succ]
  first
    | (apply goV_skip (by intro u; rfl))
    | (apply goV_val _ (by intro u; rfl); · (intro u w hSw hF; go_simp; try with_reducible rfl))
  try simp only [Act.put, List.setIfInBounds_toArray, List.set_cons_zero, List.set_cons_succ]
  first
    | (apply goV_skip (by intro u; rfl))
    | (apply goV_call (by intro u; rfl) c1; · (intro u w hSw hF; go_simp; try with_reducible rfl))
  try simp only [Act.put, List.setIfInBounds_toArray, List.set_cons_zero, List.set_cons_succ]
  first
    | (apply goV_skip (by intro u; rfl))
    | (apply goV_val _ (by intro u; rfl); · (intro u w hSw hF; go_simp; try with_reducible rfl))
  try simp only [Act.put, List.setIfInBounds_toArray, List.set_cons_zero, List.set_cons_succ]
  first
    | (apply goV_skip (by intro u; rfl))
    | (apply goV_val _ (by intro u; rfl); · (intro u w hSw hF; go_simp; try with_reducible rfl))
  try simp only [Act.put, List.setIfInBounds_toArray, List.set_cons_zero, List.set_cons_succ]
  first
    | (apply goV_skip (by intro u; rfl))
    | (apply goV_call (by intro u; rfl) c2; · (intro u w hSw hF; go_simp; try with_reducible rfl))
  try simp only [Act.put, List.setIfInBounds_toArray, List.set_cons_zero, List.set_cons_succ]
  first
    | (apply goV_skip (by intro u; rfl))
    | (apply goV_val _ (by intro u; rfl); · (intro u w hSw hF; go_simp; try with_reducible rfl))
  try simp only [Act.put, List.setIfInBounds_toArray, List.set_cons_zero, List.set_cons_succ]
  first
    | (apply goV_skip (by intro u; rfl))
    | (apply goV_val _ (by intro u; rfl); · (intro u w hSw hF; go_simp; try with_reducible rfl))
  try simp only [Act.put, List.setIfInBounds_toArray, List.set_cons_zero, List.set_cons_succ]
  first
    | (apply goV_skip (by intro u; rfl))
    | (apply goV_val _ (by intro u; rfl); · (intro u w hSw hF; go_simp; try with_reducible rfl))
  try simp only [Act.put, List.setIfInBounds_toArray, List.set_cons_zero, List.set_cons_succ]
  first
    | (apply goV_skip (by intro u; rfl))
    | (apply goV_call (by intro u; rfl) c3; · (intro u w hSw hF; go_simp; try with_reducible rfl))
  try simp only [Act.put, List.setIfInBounds_toArray, List.set_cons_zero, List.set_cons_succ]
  first
    | (apply goV_skip (by intro u; rfl))
    | (apply goV_val _ (by intro u; rfl); · (intro u w hSw hF; go_simp; try with_reducible rfl))
  try simp only [Act.put, List.setIfInBounds_toArray, List.set_cons_zero, List.set_cons_succ]
  first
    | (apply goV_skip (by intro u; rfl))
    | (apply goV_val _ (by intro u; rfl); · (intro u w hSw hF; go_simp; try with_reducible rfl))
  try simp only [Act.put, List.setIfInBounds_toArray, List.set_cons_zero, List.set_cons_succ]
  first
    | (apply goV_skip (by intro u; rfl))
    | (apply goV_val _ (by intro u; rfl); · (intro u w hSw hF; go_simp; try with_reducible rfl))
  try simp only [Act.put, List.setIfInBounds_toArray, List.set_cons_zero, List.set_cons_succ]
  first
    | (apply goV_skip (by intro u; rfl))
    | (apply goV_loadT (by intro u; rfl) _ rfl okT_aw gT (by intro u; rfl))
  try simp only [Act.put, List.setIfInBounds_toArray, List.set_cons_zero, List.set_cons_succ]
  first
    | (apply goV_skip (by intro u; rfl))
    | (apply goV_call (by intro u; rfl) c4; · (intro u w hSw hF; go_simp; try with_reducible rfl))
  try simp only [Act.put, List.setIfInBounds_toArray, List.set_cons_zero, List.set_cons_succ]
  first
    | (apply goV_skip (by intro u; rfl))
    | (apply goV_val (.bool true) (by intro u; rfl); · (intro u w hSw hF; have c0 := hq2; go_simp))
  try simp only [Act.put, List.setIfInBounds_toArray, List.set_cons_zero, List.set_cons_succ]
  first
    | (apply goV_skip (by intro u; rfl))
    | (apply goV_val _ (by intro u; rfl); · (intro u w hSw hF; go_simp; try with_reducible rfl))
  try simp only [Act.put, List.setIfInBounds_toArray, List.set_cons_zero, List.set_cons_succ]
  first
    | (apply goV_skip (by intro u; rfl))
    | (apply goV_val _ (by intro u; rfl); · (intro u w hSw hF; go_simp; try with_reducible rfl))
  try simp only [Act.put, List.setIfInBounds_toArray, List.set_cons_zero, List.set_cons_succ]
  first
    | (apply goV_skip (by intro u; rfl))
    | (apply goV_loadT (by intro u; rfl) _ rfl okT_aw gT (by intro u; rfl))
  try simp only [Act.put, List.setIfInBounds_toArray, List.set_cons_zero, List.set_cons_succ]
  first
    | (apply goV_skip (by intro u; rfl))
    | (apply goV_call (by intro u; rfl) c5; · (intro u w hSw hF; go_simp; try with_reducible rfl))
  try simp only [Act.put, List.setIfInBounds_toArray, List.set_cons_zero, List.set_cons_succ]
  first
    | (apply goV_skip (by intro u; rfl))
    | (apply goV_val _ (by intro u; rfl); · (intro u w hSw hF; go_simp; try with_reducible rfl))
  try simp only [Act.put, List.setIfInBounds_toArray, List.set_cons_zero, List.set_cons_succ]
  first
    | (apply goV_skip (by intro u; rfl))
    | (apply goV_val _ (by intro u; rfl); · (intro u w hSw hF; go_simp; try with_reducible rfl))
  try simp only [Act.put, List.setIfInBounds_toArray, List.set_cons_zero, List.set_cons_succ]
  intro u w6 hx6 _
  go_wp2
  go_ret; exact ⟨rfl, hx5.trans hx6⟩
end Go.Proofs.YtpdoddelnahlnaaDoor
