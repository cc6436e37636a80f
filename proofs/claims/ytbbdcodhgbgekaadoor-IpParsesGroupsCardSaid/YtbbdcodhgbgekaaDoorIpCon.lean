/-
  IpConstructors.
-/
import Derived.Test.YtbbdcodhgbgekaaDoorIpCmp
import Derived.Test.YtbbdcodhgbgekaaDoorIpEq
import Derived.Test.YtbbdcodhgbgekaaDoorIpV
set_option linter.unusedSimpArgs false
set_option linter.unusedVariables false
namespace Go.Proofs.YtbbdcodhgbgekaaDoor
open Go.RowKit


theorem Grps.ext {w w' : World} {v : Value} {gs : List Int} (h : Grps w v gs) (k : Ext w w') : Grps w' v gs := by
  obtain ⟨a, cap, e, h1, h2, h3⟩ := h
  refine ⟨a, cap, e, h1, h2, fun h8 => ?_⟩
  obtain ⟨b, off, e1, e2, e3⟩ := h3 h8
  exact ⟨b, off, e1, Nat.lt_of_lt_of_le e2 k.size, fun j x hj => by rw [k.cell (show (⟨b, off + j, none⟩ : Addr).block < _ from e2)]; exact e3 j x hj⟩
def mapped (a b c d : Int) : List Int := [0, 0, 0, 0, 0, 65535, a * 256 + b, c * 256 + d]
theorem ok_mapped {a b c d : Int} (h : 0 ≤ a ∧ a < 256) (h1 : 0 ≤ b ∧ b < 256) (h2 : 0 ≤ c ∧ c < 256) (h3 : 0 ≤ d ∧ d < 256) : ok16 (mapped a b c d) := by
  intro x hx
  simp [mapped] at hx
  omega
theorem v6_mapped {a b c d : Int} (h : 0 ≤ a ∧ a < 256) (h1 : 0 ≤ b ∧ b < 256) (h2 : 0 ≤ c ∧ c < 256) (h3 : 0 ≤ d ∧ d < 256) :
    v6 (mapped a b c d) = ((true, [0, 0, 0, 0, 0, 0, 0, 0, 0, 0, 255, 255, a, b, c, d]), true) := by
  have e1 : (a * 256 + b) / 256 = a := by omega
  have e2 : (a * 256 + b) % 256 = b := by omega
  have e3 : (c * 256 + d) / 256 = c := by omega
  have e4 : (c * 256 + d) % 256 = d := by omega
  simp [v6, mapped, hilo, e1, e2, e3, e4]
theorem unmap_mapped (a b c d : Int) : unmapA (true, [0, 0, 0, 0, 0, 0, 0, 0, 0, 0, 255, 255, a, b, c, d]) = v4 a b c d := by
  unfold unmapA X; rfl
theorem unmap_v4 (a b c d : Int) : unmapA (v4 a b c d) = v4 a b c d := by
  unfold unmapA; rw [if_neg (by simp [v4])]
theorem valid_v4 (a b c d : Int) : validA (v4 a b c d) = true := by simp [validA, v4]

set_option maxRecDepth 8000 in
set_option maxHeartbeats 4000000 in
theorem IpConstructors_walk (a b c d : Int) (v : Value) (gs : List Int) (wa : (Lit.int .u8 a).wf = true) (wb : (Lit.int .u8 b).wf = true) (wc : (Lit.int .u8 c).wf = true) (wd : (Lit.int .u8 d).wf = true)
    (w : World) (henv : Env w) (htabs : Tabs w) (hv : Grps w v gs) (hn : gs.length ≤ 140737488351232) :
    Calls Tryd.prog 8 #[.int .u8 a, .int .u8 b, .int .u8 c, .int .u8 d, v] w fun e w' => e = .returned (.bool true) ∧ Ext w w' := by
  have ha : 0 ≤ a ∧ a < 256 := by simp [Lit.wf, IntKind.min, IntKind.max, IntKind.bits, IntKind.signed] at wa; omega
  have hb : 0 ≤ b ∧ b < 256 := by simp [Lit.wf, IntKind.min, IntKind.max, IntKind.bits, IntKind.signed] at wb; omega
  have hc : 0 ≤ c ∧ c < 256 := by simp [Lit.wf, IntKind.min, IntKind.max, IntKind.bits, IntKind.signed] at wc; omega
  have hd : 0 ≤ d ∧ d < 256 := by simp [Lit.wf, IntKind.min, IntKind.max, IntKind.bits, IntKind.signed] at wd; omega
  have hv0 := hv
  obtain ⟨s, cap, rfl, hcap, h16, hcells⟩ := hv
  have hok := okA_v6 h16
  have Q1 := Lib.hid (V6_any _ gs w hv0 hn)
  have Q2 := Lib.hid (fun w' => rV6_any (.slice s gs.length cap) gs w')
  have HV := Lib.hid hv0
  clear hcells hv0 h16
  go_enter Tryd.func8, Tryd.ntmps8
  go_wp2_with (go_at_call 28; refine Q1.out.mono ?_; rintro e w1 ⟨rfl, hx1⟩; refine Hid.out ?_)
  refine Lib.hid ?_
  have hbf := Blk.new w1 (ac zadr) 24
  go_upto_region 2 with (refine wpList_store_A rfl _ _ rfl okA_zadr hok hbf rfl rfl ?_)
  change Code.wp _ _ _ _ ((w1.alloc (.cells (ac zadr) 24)).setRow w1.heap.size (ac (v6 gs).1))
  rw [World.setRow_alloc_new]
  have hP := Blk.new w1 (ac (v6 gs).1) 24
  have hx2 := hx1.alloc (.cells (ac (v6 gs).1) 24)
  have hnx := (Ext.refl w1).alloc (.cells (ac (v6 gs).1) 24)
  clear hbf
  generalize w1.alloc (.cells (ac (v6 gs).1) 24) = w2 at *
  generalize w1.heap.size = p at *
  clear hnx
  have hv2 : Grps w2 (.slice s gs.length cap) gs := Grps.ext HV.out hx2
  go_wp2_with (go_at_call 29; refine (Q2.out w2 hv2 hn).mono ?_; rintro e w3 ⟨rfl, hx3⟩; refine Hid.out ?_)
  refine Lib.hid ?_
  have hx33 := hx2.trans hx3
  have hP3 := hP.ext hx3
  have hbf := Blk.new w3 (ac zadr) 24
  go_upto_region 3 with (refine wpList_store_A rfl _ _ rfl okA_zadr hok hbf rfl rfl ?_)
  change Code.wp _ _ _ _ ((w3.alloc (.cells (ac zadr) 24)).setRow w3.heap.size (ac (v6 gs).1))
  rw [World.setRow_alloc_new]
  have hQ := Blk.new w3 (ac (v6 gs).1) 24
  have hx4 := hx33.alloc (.cells (ac (v6 gs).1) 24)
  have hnx := (Ext.refl w3).alloc (.cells (ac (v6 gs).1) 24)
  clear hbf
  generalize w3.alloc (.cells (ac (v6 gs).1) 24) = w4 at *
  generalize w3.heap.size = q at *
  have hP4 := hP3.ext hnx
  clear hnx
  go_wp2_with (go_at_call 30; refine (ipV4_any ha hb hc hd _).mono ?_; rintro e w5 ⟨rfl, hx5⟩; refine Hid.out ?_)
  refine Lib.hid ?_
  have hx55 := hx4.trans hx5
  have hP5 := hP4.ext hx5
  have hQ5 := hQ.ext hx5
  have hbf := Blk.new w5 (ac zadr) 24
  go_upto_region 4 with (refine wpList_store_A rfl _ _ rfl okA_zadr (okA_v4 ha hb hc hd) hbf rfl rfl ?_)
  change Code.wp _ _ _ _ ((w5.alloc (.cells (ac zadr) 24)).setRow w5.heap.size (ac (v4 a b c d)))
  rw [World.setRow_alloc_new]
  have hR := Blk.new w5 (ac (v4 a b c d)) 24
  have hx6 := hx55.alloc (.cells (ac (v4 a b c d)) 24)
  have hnx := (Ext.refl w5).alloc (.cells (ac (v4 a b c d)) 24)
  clear hbf
  generalize w5.alloc (.cells (ac (v4 a b c d)) 24) = w6 at *
  generalize w5.heap.size = r at *
  have hP6 := hP5.ext hnx
  have hQ6 := hQ5.ext hnx
  clear hnx
  have h6 := V6_const w6 (mapped a b c d) rfl (ok_mapped ha hb hc hd) w6.heap.size rfl
  rw [v6_mapped ha hb hc hd] at h6
  have H6 := Lib.hid h6; clear h6
  have o1 := Lib.hid (or_u16 ha.1 ha.2 hb.1 hb.2)
  have o2 := Lib.hid (or_u16 hc.1 hc.2 hd.1 hd.2)
  have okM : okA ((true, [0, 0, 0, 0, 0, 0, 0, 0, 0, 0, 255, 255, a, b, c, d]) : Adr) := ⟨rfl, fun x hx => by simp at hx; omega⟩
  have hM := Lib.hid (unmap_mapped a b c d)
  generalize ((true, [0, 0, 0, 0, 0, 0, 0, 0, 0, 0, 255, 255, a, b, c, d]) : Adr) = M at *
  go_wp2_with (go_at_call 28; rw [o1.out, o2.out]; refine H6.out.mono ?_; rintro e w7 ⟨rfl, hx7⟩; refine Hid.out ?_)
  refine Lib.hid ?_
  have hxa := (Ext.refl w6).alloc (.cells ((mapped a b c d).map (Value.int .u16)).toArray 39)
  have hx77 := hxa.trans hx7
  have hx7' := hx6.trans hx77
  have hP7 := hP6.ext hx77
  have hQ7 := hQ6.ext hx77
  have hR7 := hR.ext hx77
  have hbf := Blk.new w7 (ac zadr) 24
  go_upto_region 5 with (refine wpList_store_A rfl _ _ rfl okA_zadr okM hbf rfl rfl ?_)
  change Code.wp _ _ _ _ ((w7.alloc (.cells (ac zadr) 24)).setRow w7.heap.size (ac M))
  rw [World.setRow_alloc_new]
  have hT := Blk.new w7 (ac M) 24
  have hx8 := hx7'.alloc (.cells (ac M) 24)
  have hnx := (Ext.refl w7).alloc (.cells (ac M) 24)
  clear hbf
  generalize w7.alloc (.cells (ac M) 24) = w8 at *
  generalize w7.heap.size = t at *
  have hP8 := hP7.ext hnx
  have hQ8 := hQ7.ext hnx
  have hR8 := hR7.ext hnx
  clear hnx
  have hv4 := okA_v4 ha hb hc hd
  have hav : ∀ w', Ext w8 w' → Calls Tryd.prog 9 #[] w' fun e w'' => e = .returned (.bool true) ∧ Ext w8 w'' := fun w' h => (awake_any w' (henv.ext (hx8.trans h)) (htabs.ext (hx8.trans h))).mono fun e w2 he => ⟨he.1, h.trans he.2⟩
  have hrv : ∀ w', Ext w8 w' → Calls Tryd.prog 31 #[.int .u8 a, .int .u8 b, .int .u8 c, .int .u8 d] w' fun e w'' => e = .returned (av (v4 a b c d)) ∧ Ext w8 w'' := fun w' h => (rV4_any ha hb hc hd w').mono fun e w2 he => ⟨he.1, h.trans he.2⟩
  have hva : ∀ w', Ext w8 w' → Calls Tryd.prog 12 #[av (v4 a b c d)] w' fun e w'' => e = .returned (.bool true) ∧ Ext w8 w'' := fun w' h => (valid_any _ hv4 w').mono fun e w2 he => ⟨by rw [← valid_v4 a b c d]; exact he.1, h.trans he.2⟩
  have hum : ∀ w', Ext w8 w' → Calls Tryd.prog 14 #[av M] w' fun e w'' => e = .returned (av (v4 a b c d)) ∧ Ext w8 w'' := fun w' h => (unmap_any _ okM w').mono fun e w2 he => ⟨by rw [← hM.out]; exact he.1, h.trans he.2⟩
  have hu4 : ∀ w', Ext w8 w' → Calls Tryd.prog 14 #[av (v4 a b c d)] w' fun e w'' => e = .returned (av (v4 a b c d)) ∧ Ext w8 w'' := fun w' h => (unmap_any _ hv4 w').mono fun e w2 he => ⟨by rw [← unmap_v4 a b c d]; rw [unmap_v4] at he ⊢; exact he.1, h.trans he.2⟩
  clear HV Q1 Q2 H6 o1 o2 hM henv htabs
  generalize v4 a b c d = V at *
  refine wp_region_uni (S := fun w' => Ext w8 w') (by kernel_rfl) (by kernel_rfl) (by kernel_rfl) (fun _ _ t _ _ h => by cases t <;> exact h) (Ext.refl _).drew ?_
  apply goU_call (by rfl) hav
  · (intro w; go_simp; try with_reducible rfl)
  try simp only [Act.put, List.setIfInBounds_toArray, List.set_cons_zero, List.set_cons_succ]
  apply goU_val (by rfl)
  · (intro w hSw; go_simp; try with_reducible rfl)
  try simp only [Act.put, List.setIfInBounds_toArray, List.set_cons_zero, List.set_cons_succ]
  apply goU_loadA (by rfl) _ rfl hok (fun w' h => hP8.ext h) rfl
  try simp only [Act.put, List.setIfInBounds_toArray, List.set_cons_zero, List.set_cons_succ]
  apply goU_loadA (by rfl) _ rfl hok (fun w' h => hQ8.ext h) rfl
  try simp only [Act.put, List.setIfInBounds_toArray, List.set_cons_zero, List.set_cons_succ]
  apply goU_eqA (by rfl) _ _ rfl hok hok rfl rfl rfl
  try simp only [Act.put, List.setIfInBounds_toArray, List.set_cons_zero, List.set_cons_succ]
  apply goU_val (by rfl)
  · (intro w hSw; go_simp; try with_reducible rfl)
  try simp only [Act.put, List.setIfInBounds_toArray, List.set_cons_zero, List.set_cons_succ]
  apply goU_val (by rfl)
  · (intro w hSw; go_simp; try with_reducible rfl)
  try simp only [Act.put, List.setIfInBounds_toArray, List.set_cons_zero, List.set_cons_succ]
  apply goU_val (by rfl)
  · (intro w hSw; go_simp; try with_reducible rfl)
  try simp only [Act.put, List.setIfInBounds_toArray, List.set_cons_zero, List.set_cons_succ]
  apply goU_val (by rfl)
  · (intro w hSw; go_simp; try with_reducible rfl)
  try simp only [Act.put, List.setIfInBounds_toArray, List.set_cons_zero, List.set_cons_succ]
  apply goU_val (by rfl)
  · (intro w hSw; go_simp; try with_reducible rfl)
  try simp only [Act.put, List.setIfInBounds_toArray, List.set_cons_zero, List.set_cons_succ]
  apply goU_val (by rfl)
  · (intro w hSw; go_simp; try with_reducible rfl)
  try simp only [Act.put, List.setIfInBounds_toArray, List.set_cons_zero, List.set_cons_succ]
  apply goU_val (by rfl)
  · (intro w hSw; go_simp; try with_reducible rfl)
  try simp only [Act.put, List.setIfInBounds_toArray, List.set_cons_zero, List.set_cons_succ]
  apply goU_loadA (by rfl) _ rfl hv4 (fun w' h => hR8.ext h) rfl
  try simp only [Act.put, List.setIfInBounds_toArray, List.set_cons_zero, List.set_cons_succ]
  apply goU_val (by rfl)
  · (intro w hSw; go_simp; try with_reducible rfl)
  try simp only [Act.put, List.setIfInBounds_toArray, List.set_cons_zero, List.set_cons_succ]
  apply goU_val (by rfl)
  · (intro w hSw; go_simp; try with_reducible rfl)
  try simp only [Act.put, List.setIfInBounds_toArray, List.set_cons_zero, List.set_cons_succ]
  apply goU_val (by rfl)
  · (intro w hSw; go_simp; try with_reducible rfl)
  try simp only [Act.put, List.setIfInBounds_toArray, List.set_cons_zero, List.set_cons_succ]
  apply goU_val (by rfl)
  · (intro w hSw; go_simp; try with_reducible rfl)
  try simp only [Act.put, List.setIfInBounds_toArray, List.set_cons_zero, List.set_cons_succ]
  apply goU_call (by rfl) hrv
  · (intro w; go_simp; try with_reducible rfl)
  try simp only [Act.put, List.setIfInBounds_toArray, List.set_cons_zero, List.set_cons_succ]
  apply goU_eqA (by rfl) _ _ rfl hv4 hv4 rfl rfl rfl
  try simp only [Act.put, List.setIfInBounds_toArray, List.set_cons_zero, List.set_cons_succ]
  apply goU_val (by rfl)
  · (intro w hSw; go_simp; try with_reducible rfl)
  try simp only [Act.put, List.setIfInBounds_toArray, List.set_cons_zero, List.set_cons_succ]
  apply goU_val (by rfl)
  · (intro w hSw; go_simp; try with_reducible rfl)
  try simp only [Act.put, List.setIfInBounds_toArray, List.set_cons_zero, List.set_cons_succ]
  apply goU_loadA (by rfl) _ rfl hv4 (fun w' h => hR8.ext h) rfl
  try simp only [Act.put, List.setIfInBounds_toArray, List.set_cons_zero, List.set_cons_succ]
  apply goU_call (by rfl) hva
  · (intro w; go_simp; try with_reducible rfl)
  try simp only [Act.put, List.setIfInBounds_toArray, List.set_cons_zero, List.set_cons_succ]
  apply goU_val (by rfl)
  · (intro w hSw; go_simp; try with_reducible rfl)
  try simp only [Act.put, List.setIfInBounds_toArray, List.set_cons_zero, List.set_cons_succ]
  apply goU_val (by rfl)
  · (intro w hSw; go_simp; try with_reducible rfl)
  try simp only [Act.put, List.setIfInBounds_toArray, List.set_cons_zero, List.set_cons_succ]
  apply goU_val (by rfl)
  · (intro w hSw; go_simp; try with_reducible rfl)
  try simp only [Act.put, List.setIfInBounds_toArray, List.set_cons_zero, List.set_cons_succ]
  apply goU_val (by rfl)
  · (intro w hSw; go_simp; try with_reducible rfl)
  try simp only [Act.put, List.setIfInBounds_toArray, List.set_cons_zero, List.set_cons_succ]
  apply goU_val (by rfl)
  · (intro w hSw; go_simp; try with_reducible rfl)
  try simp only [Act.put, List.setIfInBounds_toArray, List.set_cons_zero, List.set_cons_succ]
  apply goU_loadA (by rfl) _ rfl okM (fun w' h => hT.ext h) rfl
  try simp only [Act.put, List.setIfInBounds_toArray, List.set_cons_zero, List.set_cons_succ]
  apply goU_call (by rfl) hum
  · (intro w; go_simp; try with_reducible rfl)
  try simp only [Act.put, List.setIfInBounds_toArray, List.set_cons_zero, List.set_cons_succ]
  apply goU_loadA (by rfl) _ rfl hv4 (fun w' h => hR8.ext h) rfl
  try simp only [Act.put, List.setIfInBounds_toArray, List.set_cons_zero, List.set_cons_succ]
  apply goU_eqA (by rfl) _ _ rfl hv4 hv4 rfl rfl rfl
  try simp only [Act.put, List.setIfInBounds_toArray, List.set_cons_zero, List.set_cons_succ]
  apply goU_val (by rfl)
  · (intro w hSw; go_simp; try with_reducible rfl)
  try simp only [Act.put, List.setIfInBounds_toArray, List.set_cons_zero, List.set_cons_succ]
  apply goU_val (by rfl)
  · (intro w hSw; go_simp; try with_reducible rfl)
  try simp only [Act.put, List.setIfInBounds_toArray, List.set_cons_zero, List.set_cons_succ]
  apply goU_loadA (by rfl) _ rfl hv4 (fun w' h => hR8.ext h) rfl
  try simp only [Act.put, List.setIfInBounds_toArray, List.set_cons_zero, List.set_cons_succ]
  apply goU_call (by rfl) hu4
  · (intro w; go_simp; try with_reducible rfl)
  try simp only [Act.put, List.setIfInBounds_toArray, List.set_cons_zero, List.set_cons_succ]
  apply goU_loadA (by rfl) _ rfl hv4 (fun w' h => hR8.ext h) rfl
  try simp only [Act.put, List.setIfInBounds_toArray, List.set_cons_zero, List.set_cons_succ]
  apply goU_eqA (by rfl) _ _ rfl hv4 hv4 rfl rfl rfl
  try simp only [Act.put, List.setIfInBounds_toArray, List.set_cons_zero, List.set_cons_succ]
  apply goU_val (by rfl)
  · (intro w hSw; go_simp; try with_reducible rfl)
  try simp only [Act.put, List.setIfInBounds_toArray, List.set_cons_zero, List.set_cons_succ]
  apply goU_val (by rfl)
  · (intro w hSw; go_simp; try with_reducible rfl)
  try simp only [Act.put, List.setIfInBounds_toArray, List.set_cons_zero, List.set_cons_succ]
  intro w9 hx9
  go_wp2
  go_ret
  exact ⟨rfl, hx8.trans hx9⟩
end Go.Proofs.YtbbdcodhgbgekaaDoor
