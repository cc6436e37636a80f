/-
  IpFormats.
-/
import Derived.Test.YtbbdcodhgbgekaaDoorRgA
import Derived.Test.YtbbdcodhgbgekaaDoorIpRf
set_option linter.unusedSimpArgs false
set_option linter.unusedVariables false
namespace Go.Proofs.YtbbdcodhgbgekaaDoor
open Go.RowKit
set_option maxRecDepth 8000 in
set_option maxHeartbeats 4000000 in
theorem IpFormats_walk (a : Adr) (ha : okA a) (w : World) (henv : Env w) (htabs : Tabs w) :
    Calls Tryd.prog 3 #[av a] w fun e w' => e = .returned (.bool true) ∧ Ext w w' := by
  unfold av
  go_enter Tryd.func3, Tryd.ntmps3
  go_upto_region 1 with fail
  have hx := (Ext.refl w).alloc (.cells (ac a) 24)
  have hb := ABox.new ha w
  generalize hwq : w.alloc (.cells (ac a) 24) = w0 at *
  clear hwq
  have hB : ∀ w', Ext w0 w' → Blk w' w.heap.size (ac a).toList 24 := fun w' h => (hb.ext ha h).blk
  have C1 := fun (w' : World) (h : Ext w0 w') => awake_any w' (henv.ext (hx.trans h)) (htabs.ext (hx.trans h))
  have C2 := fun (w' : World) (h : Ext w0 w') => formatA_any a ha w' (htabs.ext (hx.trans h))
  have C3 := fun (w' : World) (h : Ext w0 w') => rFormat_any a ha w'
  have C4 := fun (w' : World) (h : Ext w0 w') => valid_any a ha w'
  have C5 := fun (w' : World) (h : Ext w0 w') => rValid_any a ha w'
  have C6 := fun (w' : World) (h : Ext w0 w') => unmap_any a ha w'
  have C7 := fun (w' : World) (h : Ext w0 w') => rUnmap_any a ha w'
  have C8 := fun (w' : World) (h : Ext w0 w') => bitLen_any a ha w'
  have C9 := fun (w' : World) (h : Ext w0 w') => rBitLen_any a ha w'
  have hu := okA_unmap ha
  generalize txt (fmtA a) = s at *
  generalize validA a = vb at *
  generalize unmapA a = ua at *
  generalize bitLen a = bl at *
  generalize w.heap.size = b at *
  refine wp_region_rg w0 (by kernel_rfl) (by kernel_rfl) (Ext.refl _) ?_
  apply goV_call (by intro u; rfl) C1
  · (intro u w hSw hF; go_simp; try with_reducible rfl)
  try simp only [Act.put, List.setIfInBounds_toArray, List.set_cons_zero, List.set_cons_succ]
  apply goV_val _ (by intro u; rfl)
  · (intro u w hSw hF; go_simp; try with_reducible rfl)
  try simp only [Act.put, List.setIfInBounds_toArray, List.set_cons_zero, List.set_cons_succ]
  apply goV_loadA (by intro u; rfl) _ rfl ha hB (by intro u; rfl)
  try simp only [Act.put, List.setIfInBounds_toArray, List.set_cons_zero, List.set_cons_succ]
  apply goV_call (by intro u; rfl) C2
  · (intro u w hSw hF; go_simp; try with_reducible rfl)
  try simp only [Act.put, List.setIfInBounds_toArray, List.set_cons_zero, List.set_cons_succ]
  apply goV_loadA (by intro u; rfl) _ rfl ha hB (by intro u; rfl)
  try simp only [Act.put, List.setIfInBounds_toArray, List.set_cons_zero, List.set_cons_succ]
  apply goV_call (by intro u; rfl) C3
  · (intro u w hSw hF; go_simp; try with_reducible rfl)
  try simp only [Act.put, List.setIfInBounds_toArray, List.set_cons_zero, List.set_cons_succ]
  apply goV_val _ (by intro u; rfl)
  · (intro u w hSw hF; go_simp; try with_reducible rfl)
  try simp only [Act.put, List.setIfInBounds_toArray, List.set_cons_zero, List.set_cons_succ]
  apply goV_val _ (by intro u; rfl)
  · (intro u w hSw hF; go_simp; try with_reducible rfl)
  try simp only [Act.put, List.setIfInBounds_toArray, List.set_cons_zero, List.set_cons_succ]
  apply goV_val _ (by intro u; rfl)
  · (intro u w hSw hF; go_simp; try with_reducible rfl)
  try simp only [Act.put, List.setIfInBounds_toArray, List.set_cons_zero, List.set_cons_succ]
  apply goV_loadA (by intro u; rfl) _ rfl ha hB (by intro u; rfl)
  try simp only [Act.put, List.setIfInBounds_toArray, List.set_cons_zero, List.set_cons_succ]
  apply goV_call (by intro u; rfl) C4
  · (intro u w hSw hF; go_simp; try with_reducible rfl)
  try simp only [Act.put, List.setIfInBounds_toArray, List.set_cons_zero, List.set_cons_succ]
  apply goV_loadA (by intro u; rfl) _ rfl ha hB (by intro u; rfl)
  try simp only [Act.put, List.setIfInBounds_toArray, List.set_cons_zero, List.set_cons_succ]
  apply goV_call (by intro u; rfl) C5
  · (intro u w hSw hF; go_simp; try with_reducible rfl)
  try simp only [Act.put, List.setIfInBounds_toArray, List.set_cons_zero, List.set_cons_succ]
  apply goV_val _ (by intro u; rfl)
  · (intro u w hSw hF; go_simp; try with_reducible rfl)
  try simp only [Act.put, List.setIfInBounds_toArray, List.set_cons_zero, List.set_cons_succ]
  apply goV_val _ (by intro u; rfl)
  · (intro u w hSw hF; go_simp; try with_reducible rfl)
  try simp only [Act.put, List.setIfInBounds_toArray, List.set_cons_zero, List.set_cons_succ]
  apply goV_val _ (by intro u; rfl)
  · (intro u w hSw hF; go_simp; try with_reducible rfl)
  try simp only [Act.put, List.setIfInBounds_toArray, List.set_cons_zero, List.set_cons_succ]
  apply goV_loadA (by intro u; rfl) _ rfl ha hB (by intro u; rfl)
  try simp only [Act.put, List.setIfInBounds_toArray, List.set_cons_zero, List.set_cons_succ]
  apply goV_call (by intro u; rfl) C6
  · (intro u w hSw hF; go_simp; try with_reducible rfl)
  try simp only [Act.put, List.setIfInBounds_toArray, List.set_cons_zero, List.set_cons_succ]
  apply goV_loadA (by intro u; rfl) _ rfl ha hB (by intro u; rfl)
  try simp only [Act.put, List.setIfInBounds_toArray, List.set_cons_zero, List.set_cons_succ]
  apply goV_call (by intro u; rfl) C7
  · (intro u w hSw hF; go_simp; try with_reducible rfl)
  try simp only [Act.put, List.setIfInBounds_toArray, List.set_cons_zero, List.set_cons_succ]
  apply goV_eqA (by intro u; rfl) _ _ rfl hu hu rfl (by intro u; rfl) (by intro u; rfl)
  try simp only [Act.put, List.setIfInBounds_toArray, List.set_cons_zero, List.set_cons_succ]
  apply goV_val _ (by intro u; rfl)
  · (intro u w hSw hF; go_simp; try with_reducible rfl)
  try simp only [Act.put, List.setIfInBounds_toArray, List.set_cons_zero, List.set_cons_succ]
  apply goV_val _ (by intro u; rfl)
  · (intro u w hSw hF; go_simp; try with_reducible rfl)
  try simp only [Act.put, List.setIfInBounds_toArray, List.set_cons_zero, List.set_cons_succ]
  apply goV_loadA (by intro u; rfl) _ rfl ha hB (by intro u; rfl)
  try simp only [Act.put, List.setIfInBounds_toArray, List.set_cons_zero, List.set_cons_succ]
  apply goV_call (by intro u; rfl) C8
  · (intro u w hSw hF; go_simp; try with_reducible rfl)
  try simp only [Act.put, List.setIfInBounds_toArray, List.set_cons_zero, List.set_cons_succ]
  apply goV_loadA (by intro u; rfl) _ rfl ha hB (by intro u; rfl)
  try simp only [Act.put, List.setIfInBounds_toArray, List.set_cons_zero, List.set_cons_succ]
  apply goV_call (by intro u; rfl) C9
  · (intro u w hSw hF; go_simp; try with_reducible rfl)
  try simp only [Act.put, List.setIfInBounds_toArray, List.set_cons_zero, List.set_cons_succ]
  apply goV_val _ (by intro u; rfl)
  · (intro u w hSw hF; go_simp; try with_reducible rfl)
  try simp only [Act.put, List.setIfInBounds_toArray, List.set_cons_zero, List.set_cons_succ]
  apply goV_val _ (by intro u; rfl)
  · (intro u w hSw hF; go_simp; try with_reducible rfl)
  try simp only [Act.put, List.setIfInBounds_toArray, List.set_cons_zero, List.set_cons_succ]
  apply goV_val _ (by intro u; rfl)
  · (intro u w hSw hF; go_simp; try with_reducible rfl)
  try simp only [Act.put, List.setIfInBounds_toArray, List.set_cons_zero, List.set_cons_succ]
  intro u w1 hx1 _
  go_wp2
  go_ret
  exact ⟨rfl, hx.trans hx1⟩
end Go.Proofs.YtbbdcodhgbgekaaDoor
