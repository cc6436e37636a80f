/-
  Several texts joined: ScF.
-/
import Derived.Test.YtmdlgfnibjcgmaaGreatDoorK17
import Derived.Test.YtmdlgfnibjcgmaaGreatDoorK27
import Derived.Test.YtmdlgfnibjcgmaaGreatDoorK06
set_option maxHeartbeats 16000000
set_option maxRecDepth 8000
set_option linter.unusedVariables false
set_option linter.unusedSimpArgs false
namespace Go.Proofs.YtmdlgfnibjcgmaaGreatDoor
open Go.RowKit
theorem callsE9 {f : FuncId} {args : Array Value} {v : Value} {w : World} (h : Calls Tryz.prog f args w fun e w' => e = .returned v /\ w = w') : Calls Tryz.prog f args w fun e w' => e = .returned v /\ Ext w w' := by
 refine h.mono ?_
 rintro e w' ⟨rfl, rfl⟩
 exact ⟨rfl, Ext.refl _⟩
theorem rvev_any (ev : Ev) (sl : Value) (ho : okE ev) {w : World} (hA : AdsIn w sl ev.ads) : Calls Tryz.prog 27 #[.agg (evl ev sl).toArray] w fun e w' => e = .returned (.bool (validE ev)) /\ Ext w w' := by
 have HV := Lib.hid (validE_eq ev)
 have KF := Lib.hid (fun w => rflds_any ev.k w)
 obtain ⟨a, cap, rfl⟩ := hA.len
 have hal : (ev.ads.length : Int) <= 9223372036854775807 := by have := ho.2.2; unfold maxLen at this; omega
 have K1 := Lib.hid (fun w => rinR_any ev.c 1048575 (flds ev.k).1 (by decide) w)
 have K2 := Lib.hid (fun w => rinR_any ev.a 64 (flds ev.k).2.1 (by decide) w)
 have K3 := Lib.hid (fun w => rinR_any ev.r 255 (flds ev.k).2.2.2.2.1 (by decide) w)
 have K4 := Lib.hid (fun w => rinR_any ev.d.size 2000 (flds ev.k).2.2.2.2.2 (by decide) w)
 have K5 := Lib.hid (fun w => rinR_any ev.ads.length 16 (flds ev.k).2.2.2.1 (by decide) w)
 obtain ⟨k, c, at_, n, v6, rs, d, ads⟩ := ev
 simp only at *
 unfold evl rfv at *
 simp only at *
 generalize flds k = f at *
 obtain ⟨f1, f2, f3, f4, f5, f6⟩ := f
 simp only at *
 generalize rng c 1048575 f1 = r1 at *
 generalize rng at_ 64 f2 = r2 at *
 generalize rng rs 255 f5 = r3 at *
 generalize rng d.size 2000 f6 = r4 at *
 generalize rng ads.length 16 f4 = r5 at *
 have HOK : Hid (decide (1 <= k /\ k <= 11) = (!decide (k < 1) && !decide (11 < k))) := Lib.hid (by rw [Bool.eq_iff_iff]; simp)
 have HA := Lib.hid hA
 clear hA ho
 go_enter Tryz.func27, Tryz.ntmps27
 go_upto_region 1 with fail
 have hx1 := (Ext.refl w).alloc (.cells #[.int .i64 k, .int .i64 c, .int .i64 at_, .int .u64 n, .bool v6, .int .i64 rs, .string d, .slice a ads.length cap] 31)
 have hE := Blk.new w #[.int .i64 k, .int .i64 c, .int .i64 at_, .int .u64 n, .bool v6, .int .i64 rs, .string d, .slice a ads.length cap] 31
 generalize w.alloc (.cells #[.int .i64 k, .int .i64 c, .int .i64 at_, .int .u64 n, .bool v6, .int .i64 rs, .string d, .slice a ads.length cap] 31) = w1 at *
 generalize w.heap.size = eb at hE ⊢
 have c0 : w1.cell? ⟨eb, 0, none⟩ = some (.int .i64 k) := hE.cell rfl
 go_upto_region 2 with (go_at_call 33; refine (KF.out _).mono ?_; rintro e w2 ⟨rfl, hx2⟩)
 have hxa := (Ext.refl w2).alloc (.cells #[.bool f1, .bool f2, .bool f3, .bool f4, .bool f5, .bool f6, .bool f4] 74)
 have hF := Blk.new w2 #[.bool f1, .bool f2, .bool f3, .bool f4, .bool f5, .bool f6, .bool f4] 74
 have hx := (hx1.trans hx2).trans hxa
 replace hE := Blk.ext (Blk.ext hE hx2) hxa
 clear hx1 hx2 hxa c0 KF
 generalize w2.alloc (.cells #[.bool f1, .bool f2, .bool f3, .bool f4, .bool f5, .bool f6, .bool f4] 74) = w3 at *
 generalize w2.heap.size = fb at hF ⊢
 have e0 : ∀ w', Ext w3 w' -> w'.cell? ⟨eb, 0, none⟩ = some (.int .i64 k) := fun w' h => (hE.ext h).cell rfl
 have e1 : ∀ w', Ext w3 w' -> w'.cell? ⟨eb, 1, none⟩ = some (.int .i64 c) := fun w' h => (hE.ext h).cell rfl
 have e2 : ∀ w', Ext w3 w' -> w'.cell? ⟨eb, 2, none⟩ = some (.int .i64 at_) := fun w' h => (hE.ext h).cell rfl
 have e3 : ∀ w', Ext w3 w' -> w'.cell? ⟨eb, 3, none⟩ = some (.int .u64 n) := fun w' h => (hE.ext h).cell rfl
 have e4 : ∀ w', Ext w3 w' -> w'.cell? ⟨eb, 4, none⟩ = some (.bool v6) := fun w' h => (hE.ext h).cell rfl
 have e5 : ∀ w', Ext w3 w' -> w'.cell? ⟨eb, 5, none⟩ = some (.int .i64 rs) := fun w' h => (hE.ext h).cell rfl
 have e6 : ∀ w', Ext w3 w' -> w'.cell? ⟨eb, 6, none⟩ = some (.string d) := fun w' h => (hE.ext h).cell rfl
 have e7 : ∀ w', Ext w3 w' -> w'.cell? ⟨eb, 7, none⟩ = some (.slice a ads.length cap) := fun w' h => (hE.ext h).cell rfl
 have g0 : ∀ w', Ext w3 w' -> w'.cell? ⟨fb, 0, none⟩ = some (.bool f1) := fun w' h => (hF.ext h).cell rfl
 have g1 : ∀ w', Ext w3 w' -> w'.cell? ⟨fb, 1, none⟩ = some (.bool f2) := fun w' h => (hF.ext h).cell rfl
 have g2 : ∀ w', Ext w3 w' -> w'.cell? ⟨fb, 2, none⟩ = some (.bool f3) := fun w' h => (hF.ext h).cell rfl
 have g3 : ∀ w', Ext w3 w' -> w'.cell? ⟨fb, 3, none⟩ = some (.bool f4) := fun w' h => (hF.ext h).cell rfl
 have g4 : ∀ w', Ext w3 w' -> w'.cell? ⟨fb, 4, none⟩ = some (.bool f5) := fun w' h => (hF.ext h).cell rfl
 have g5 : ∀ w', Ext w3 w' -> w'.cell? ⟨fb, 5, none⟩ = some (.bool f6) := fun w' h => (hF.ext h).cell rfl
 have g6 : ∀ w', Ext w3 w' -> w'.cell? ⟨fb, 6, none⟩ = some (.bool f4) := fun w' h => (hF.ext h).cell rfl
 have C1 := fun (w' : World) (h : Ext w3 w') => callsE9 (K1.out w')
 have C2 := fun (w' : World) (h : Ext w3 w') => callsE9 (K2.out w')
 have C3 := fun (w' : World) (h : Ext w3 w') => callsE9 (K3.out w')
 have C4 := fun (w' : World) (h : Ext w3 w') => callsE9 (K4.out w')
 have C5 := fun (w' : World) (h : Ext w3 w') => callsE9 (K5.out w')
 go_upto_region 2 with fail
 by_cases hk1 : k < 1
 ·have HK := Lib.hid hk1
  refine wp_region_rgs ?_
  simp only [List.append]
  first
   | (apply goV_skip (by intro u; rfl))
   | (apply goV_val _ (by intro u; rfl); · (intro u w hSw hF; go_simp; try with_reducible rfl))
  try simp only [aput, List.set]
  first
   | (apply goV_skip (by intro u; rfl))
   | (apply goV_val (.int .i64 k) (by intro u; rfl); · (intro u w hSw hF; have c0 := e0 w hSw; go_simp))
  try simp only [aput, List.set]
  iterate 3
   first
    | (apply goV_skip (by intro u; rfl))
    | (apply goV_val _ (by intro u; rfl); · (intro u w hSw hF; go_simp; try with_reducible rfl))
   try simp only [aput, List.set]
  first
   | (apply goV_skip (by intro u; rfl))
   | (apply goV_val (.int .i64 k) (by intro u; rfl); · (intro u w hSw hF; have c0 := e0 w hSw; go_simp))
  try simp only [aput, List.set]
  iterate 4
   first
    | (apply goV_skip (by intro u; rfl))
    | (apply goV_val _ (by intro u; rfl); · (intro u w hSw hF; go_simp; try with_reducible rfl))
   try simp only [aput, List.set]
  first
   | (apply goV_skip (by intro u; rfl))
   | (apply goV_val (.int .i64 c) (by intro u; rfl); · (intro u w hSw hF; have c0 := e1 w hSw; go_simp))
  try simp only [aput, List.set]
  first
   | (apply goV_skip (by intro u; rfl))
   | (apply goV_val _ (by intro u; rfl); · (intro u w hSw hF; go_simp; try with_reducible rfl))
  try simp only [aput, List.set]
  first
   | (apply goV_skip (by intro u; rfl))
   | (apply goV_val (.bool f1) (by intro u; rfl); · (intro u w hSw hF; have c0 := g0 w hSw; go_simp))
  try simp only [aput, List.set]
  first
   | (apply goV_skip (by intro u; rfl))
   | (apply goV_call (by intro u; rfl) C1; · (intro u w hSw hF; go_simp; try with_reducible rfl))
  try simp only [aput, List.set]
  iterate 4
   first
    | (apply goV_skip (by intro u; rfl))
    | (apply goV_val _ (by intro u; rfl); · (intro u w hSw hF; go_simp; try with_reducible rfl))
   try simp only [aput, List.set]
  first
   | (apply goV_skip (by intro u; rfl))
   | (apply goV_val (.int .i64 at_) (by intro u; rfl); · (intro u w hSw hF; have c0 := e2 w hSw; go_simp))
  try simp only [aput, List.set]
  first
   | (apply goV_skip (by intro u; rfl))
   | (apply goV_val _ (by intro u; rfl); · (intro u w hSw hF; go_simp; try with_reducible rfl))
  try simp only [aput, List.set]
  first
   | (apply goV_skip (by intro u; rfl))
   | (apply goV_val (.bool f2) (by intro u; rfl); · (intro u w hSw hF; have c0 := g1 w hSw; go_simp))
  try simp only [aput, List.set]
  first
   | (apply goV_skip (by intro u; rfl))
   | (apply goV_call (by intro u; rfl) C2; · (intro u w hSw hF; go_simp; try with_reducible rfl))
  try simp only [aput, List.set]
  iterate 4
   first
    | (apply goV_skip (by intro u; rfl))
    | (apply goV_val _ (by intro u; rfl); · (intro u w hSw hF; go_simp; try with_reducible rfl))
   try simp only [aput, List.set]
  first
   | (apply goV_skip (by intro u; rfl))
   | (apply goV_val (.int .i64 rs) (by intro u; rfl); · (intro u w hSw hF; have c0 := e5 w hSw; go_simp))
  try simp only [aput, List.set]
  first
   | (apply goV_skip (by intro u; rfl))
   | (apply goV_val _ (by intro u; rfl); · (intro u w hSw hF; go_simp; try with_reducible rfl))
  try simp only [aput, List.set]
  first
   | (apply goV_skip (by intro u; rfl))
   | (apply goV_val (.bool f5) (by intro u; rfl); · (intro u w hSw hF; have c0 := g4 w hSw; go_simp))
  try simp only [aput, List.set]
  first
   | (apply goV_skip (by intro u; rfl))
   | (apply goV_call (by intro u; rfl) C3; · (intro u w hSw hF; go_simp; try with_reducible rfl))
  try simp only [aput, List.set]
  iterate 4
   first
    | (apply goV_skip (by intro u; rfl))
    | (apply goV_val _ (by intro u; rfl); · (intro u w hSw hF; go_simp; try with_reducible rfl))
   try simp only [aput, List.set]
  first
   | (apply goV_skip (by intro u; rfl))
   | (apply goV_val (.string d) (by intro u; rfl); · (intro u w hSw hF; have c0 := e6 w hSw; go_simp))
  try simp only [aput, List.set]
  iterate 2
   first
    | (apply goV_skip (by intro u; rfl))
    | (apply goV_val _ (by intro u; rfl); · (intro u w hSw hF; go_simp; try with_reducible rfl))
   try simp only [aput, List.set]
  first
   | (apply goV_skip (by intro u; rfl))
   | (apply goV_val (.bool f6) (by intro u; rfl); · (intro u w hSw hF; have c0 := g5 w hSw; go_simp))
  try simp only [aput, List.set]
  first
   | (apply goV_skip (by intro u; rfl))
   | (apply goV_call (by intro u; rfl) C4; · (intro u w hSw hF; go_simp; try with_reducible rfl))
  try simp only [aput, List.set]
  iterate 4
   first
    | (apply goV_skip (by intro u; rfl))
    | (apply goV_val _ (by intro u; rfl); · (intro u w hSw hF; go_simp; try with_reducible rfl))
   try simp only [aput, List.set]
  first
   | (apply goV_skip (by intro u; rfl))
   | (apply goV_val (.slice a ads.length cap) (by intro u; rfl); · (intro u w hSw hF; have c0 := e7 w hSw; go_simp))
  try simp only [aput, List.set]
  iterate 2
   first
    | (apply goV_skip (by intro u; rfl))
    | (apply goV_val _ (by intro u; rfl); · (intro u w hSw hF; go_simp; try with_reducible rfl))
   try simp only [aput, List.set]
  first
   | (apply goV_skip (by intro u; rfl))
   | (apply goV_val (.bool f4) (by intro u; rfl); · (intro u w hSw hF; have c0 := g6 w hSw; go_simp))
  try simp only [aput, List.set]
  first
   | (apply goV_skip (by intro u; rfl))
   | (apply goV_call (by intro u; rfl) C5; · (intro u w hSw hF; go_simp; try with_reducible rfl))
  try simp only [aput, List.set]
  iterate 4
   first
    | (apply goV_skip (by intro u; rfl))
    | (apply goV_val _ (by intro u; rfl); · (intro u w hSw hF; go_simp; try with_reducible rfl))
   try simp only [aput, List.set]
  first
   | (apply goV_skip (by intro u; rfl))
   | (apply goV_val (.int .u64 n) (by intro u; rfl); · (intro u w hSw hF; have c0 := e3 w hSw; go_simp))
  try simp only [aput, List.set]
  iterate 3
   first
    | (apply goV_skip (by intro u; rfl))
    | (apply goV_val _ (by intro u; rfl); · (intro u w hSw hF; go_simp; try with_reducible rfl))
   try simp only [aput, List.set]
  first
   | (apply goV_skip (by intro u; rfl))
   | (apply goV_val (.bool f3) (by intro u; rfl); · (intro u w hSw hF; have c0 := g2 w hSw; go_simp))
  try simp only [aput, List.set]
  iterate 5
   first
    | (apply goV_skip (by intro u; rfl))
    | (apply goV_val _ (by intro u; rfl); · (intro u w hSw hF; go_simp; try with_reducible rfl))
   try simp only [aput, List.set]
  first
   | (apply goV_skip (by intro u; rfl))
   | (apply goV_val (.bool v6) (by intro u; rfl); · (intro u w hSw hF; have c0 := e4 w hSw; go_simp))
  try simp only [aput, List.set]
  iterate 2
   first
    | (apply goV_skip (by intro u; rfl))
    | (apply goV_val _ (by intro u; rfl); · (intro u w hSw hF; go_simp; try with_reducible rfl))
   try simp only [aput, List.set]
  first
   | (apply goV_skip (by intro u; rfl))
   | (apply goV_val (.bool f4) (by intro u; rfl); · (intro u w hSw hF; have c0 := g3 w hSw; go_simp))
  try simp only [aput, List.set]
  iterate 3
   first
    | (apply goV_skip (by intro u; rfl))
    | (apply goV_val _ (by intro u; rfl); · (intro u w hSw hF; go_simp; try with_reducible rfl))
   try simp only [aput, List.set]
  intro u w9 hx9 _
  go_wp2_with fail
  go_ret
  refine ⟨?_, hx.trans hx9⟩
  rw [HV.out, HOK.out, decide_eq_true HK.out]; simp
 by_cases hk2 : 11 < k
 ·have HK := Lib.hid hk2
  refine wp_region_rgs ?_
  simp only [List.append]
  first
   | (apply goV_skip (by intro u; rfl))
   | (apply goV_val _ (by intro u; rfl); · (intro u w hSw hF; go_simp; try with_reducible rfl))
  try simp only [aput, List.set]
  first
   | (apply goV_skip (by intro u; rfl))
   | (apply goV_val (.int .i64 k) (by intro u; rfl); · (intro u w hSw hF; have c0 := e0 w hSw; go_simp))
  try simp only [aput, List.set]
  iterate 3
   first
    | (apply goV_skip (by intro u; rfl))
    | (apply goV_val _ (by intro u; rfl); · (intro u w hSw hF; go_simp; try with_reducible rfl))
   try simp only [aput, List.set]
  first
   | (apply goV_skip (by intro u; rfl))
   | (apply goV_val (.int .i64 k) (by intro u; rfl); · (intro u w hSw hF; have c0 := e0 w hSw; go_simp))
  try simp only [aput, List.set]
  iterate 4
   first
    | (apply goV_skip (by intro u; rfl))
    | (apply goV_val _ (by intro u; rfl); · (intro u w hSw hF; go_simp; try with_reducible rfl))
   try simp only [aput, List.set]
  first
   | (apply goV_skip (by intro u; rfl))
   | (apply goV_val (.int .i64 c) (by intro u; rfl); · (intro u w hSw hF; have c0 := e1 w hSw; go_simp))
  try simp only [aput, List.set]
  first
   | (apply goV_skip (by intro u; rfl))
   | (apply goV_val _ (by intro u; rfl); · (intro u w hSw hF; go_simp; try with_reducible rfl))
  try simp only [aput, List.set]
  first
   | (apply goV_skip (by intro u; rfl))
   | (apply goV_val (.bool f1) (by intro u; rfl); · (intro u w hSw hF; have c0 := g0 w hSw; go_simp))
  try simp only [aput, List.set]
  first
   | (apply goV_skip (by intro u; rfl))
   | (apply goV_call (by intro u; rfl) C1; · (intro u w hSw hF; go_simp; try with_reducible rfl))
  try simp only [aput, List.set]
  iterate 4
   first
    | (apply goV_skip (by intro u; rfl))
    | (apply goV_val _ (by intro u; rfl); · (intro u w hSw hF; go_simp; try with_reducible rfl))
   try simp only [aput, List.set]
  first
   | (apply goV_skip (by intro u; rfl))
   | (apply goV_val (.int .i64 at_) (by intro u; rfl); · (intro u w hSw hF; have c0 := e2 w hSw; go_simp))
  try simp only [aput, List.set]
  first
   | (apply goV_skip (by intro u; rfl))
   | (apply goV_val _ (by intro u; rfl); · (intro u w hSw hF; go_simp; try with_reducible rfl))
  try simp only [aput, List.set]
  first
   | (apply goV_skip (by intro u; rfl))
   | (apply goV_val (.bool f2) (by intro u; rfl); · (intro u w hSw hF; have c0 := g1 w hSw; go_simp))
  try simp only [aput, List.set]
  first
   | (apply goV_skip (by intro u; rfl))
   | (apply goV_call (by intro u; rfl) C2; · (intro u w hSw hF; go_simp; try with_reducible rfl))
  try simp only [aput, List.set]
  iterate 4
   first
    | (apply goV_skip (by intro u; rfl))
    | (apply goV_val _ (by intro u; rfl); · (intro u w hSw hF; go_simp; try with_reducible rfl))
   try simp only [aput, List.set]
  first
   | (apply goV_skip (by intro u; rfl))
   | (apply goV_val (.int .i64 rs) (by intro u; rfl); · (intro u w hSw hF; have c0 := e5 w hSw; go_simp))
  try simp only [aput, List.set]
  first
   | (apply goV_skip (by intro u; rfl))
   | (apply goV_val _ (by intro u; rfl); · (intro u w hSw hF; go_simp; try with_reducible rfl))
  try simp only [aput, List.set]
  first
   | (apply goV_skip (by intro u; rfl))
   | (apply goV_val (.bool f5) (by intro u; rfl); · (intro u w hSw hF; have c0 := g4 w hSw; go_simp))
  try simp only [aput, List.set]
  first
   | (apply goV_skip (by intro u; rfl))
   | (apply goV_call (by intro u; rfl) C3; · (intro u w hSw hF; go_simp; try with_reducible rfl))
  try simp only [aput, List.set]
  iterate 4
   first
    | (apply goV_skip (by intro u; rfl))
    | (apply goV_val _ (by intro u; rfl); · (intro u w hSw hF; go_simp; try with_reducible rfl))
   try simp only [aput, List.set]
  first
   | (apply goV_skip (by intro u; rfl))
   | (apply goV_val (.string d) (by intro u; rfl); · (intro u w hSw hF; have c0 := e6 w hSw; go_simp))
  try simp only [aput, List.set]
  iterate 2
   first
    | (apply goV_skip (by intro u; rfl))
    | (apply goV_val _ (by intro u; rfl); · (intro u w hSw hF; go_simp; try with_reducible rfl))
   try simp only [aput, List.set]
  first
   | (apply goV_skip (by intro u; rfl))
   | (apply goV_val (.bool f6) (by intro u; rfl); · (intro u w hSw hF; have c0 := g5 w hSw; go_simp))
  try simp only [aput, List.set]
  first
   | (apply goV_skip (by intro u; rfl))
   | (apply goV_call (by intro u; rfl) C4; · (intro u w hSw hF; go_simp; try with_reducible rfl))
  try simp only [aput, List.set]
  iterate 4
   first
    | (apply goV_skip (by intro u; rfl))
    | (apply goV_val _ (by intro u; rfl); · (intro u w hSw hF; go_simp; try with_reducible rfl))
   try simp only [aput, List.set]
  first
   | (apply goV_skip (by intro u; rfl))
   | (apply goV_val (.slice a ads.length cap) (by intro u; rfl); · (intro u w hSw hF; have c0 := e7 w hSw; go_simp))
  try simp only [aput, List.set]
  iterate 2
   first
    | (apply goV_skip (by intro u; rfl))
    | (apply goV_val _ (by intro u; rfl); · (intro u w hSw hF; go_simp; try with_reducible rfl))
   try simp only [aput, List.set]
  first
   | (apply goV_skip (by intro u; rfl))
   | (apply goV_val (.bool f4) (by intro u; rfl); · (intro u w hSw hF; have c0 := g6 w hSw; go_simp))
  try simp only [aput, List.set]
  first
   | (apply goV_skip (by intro u; rfl))
   | (apply goV_call (by intro u; rfl) C5; · (intro u w hSw hF; go_simp; try with_reducible rfl))
  try simp only [aput, List.set]
  iterate 4
   first
    | (apply goV_skip (by intro u; rfl))
    | (apply goV_val _ (by intro u; rfl); · (intro u w hSw hF; go_simp; try with_reducible rfl))
   try simp only [aput, List.set]
  first
   | (apply goV_skip (by intro u; rfl))
   | (apply goV_val (.int .u64 n) (by intro u; rfl); · (intro u w hSw hF; have c0 := e3 w hSw; go_simp))
  try simp only [aput, List.set]
  iterate 3
   first
    | (apply goV_skip (by intro u; rfl))
    | (apply goV_val _ (by intro u; rfl); · (intro u w hSw hF; go_simp; try with_reducible rfl))
   try simp only [aput, List.set]
  first
   | (apply goV_skip (by intro u; rfl))
   | (apply goV_val (.bool f3) (by intro u; rfl); · (intro u w hSw hF; have c0 := g2 w hSw; go_simp))
  try simp only [aput, List.set]
  iterate 5
   first
    | (apply goV_skip (by intro u; rfl))
    | (apply goV_val _ (by intro u; rfl); · (intro u w hSw hF; go_simp; try with_reducible rfl))
   try simp only [aput, List.set]
  first
   | (apply goV_skip (by intro u; rfl))
   | (apply goV_val (.bool v6) (by intro u; rfl); · (intro u w hSw hF; have c0 := e4 w hSw; go_simp))
  try simp only [aput, List.set]
  iterate 2
   first
    | (apply goV_skip (by intro u; rfl))
    | (apply goV_val _ (by intro u; rfl); · (intro u w hSw hF; go_simp; try with_reducible rfl))
   try simp only [aput, List.set]
  first
   | (apply goV_skip (by intro u; rfl))
   | (apply goV_val (.bool f4) (by intro u; rfl); · (intro u w hSw hF; have c0 := g3 w hSw; go_simp))
  try simp only [aput, List.set]
  iterate 3
   first
    | (apply goV_skip (by intro u; rfl))
    | (apply goV_val _ (by intro u; rfl); · (intro u w hSw hF; go_simp; try with_reducible rfl))
   try simp only [aput, List.set]
  intro u w9 hx9 _
  go_wp2_with fail
  go_ret
  refine ⟨?_, hx.trans hx9⟩
  rw [HV.out, HOK.out, decide_eq_true HK.out]; simp
 cases r1
 case false =>
  refine wp_region_rgs ?_
  simp only [List.append]
  first
   | (apply goV_skip (by intro u; rfl))
   | (apply goV_val _ (by intro u; rfl); · (intro u w hSw hF; go_simp; try with_reducible rfl))
  try simp only [aput, List.set]
  first
   | (apply goV_skip (by intro u; rfl))
   | (apply goV_val (.int .i64 k) (by intro u; rfl); · (intro u w hSw hF; have c0 := e0 w hSw; go_simp))
  try simp only [aput, List.set]
  iterate 3
   first
    | (apply goV_skip (by intro u; rfl))
    | (apply goV_val _ (by intro u; rfl); · (intro u w hSw hF; go_simp; try with_reducible rfl))
   try simp only [aput, List.set]
  first
   | (apply goV_skip (by intro u; rfl))
   | (apply goV_val (.int .i64 k) (by intro u; rfl); · (intro u w hSw hF; have c0 := e0 w hSw; go_simp))
  try simp only [aput, List.set]
  iterate 4
   first
    | (apply goV_skip (by intro u; rfl))
    | (apply goV_val _ (by intro u; rfl); · (intro u w hSw hF; go_simp; try with_reducible rfl))
   try simp only [aput, List.set]
  first
   | (apply goV_skip (by intro u; rfl))
   | (apply goV_val (.int .i64 c) (by intro u; rfl); · (intro u w hSw hF; have c0 := e1 w hSw; go_simp))
  try simp only [aput, List.set]
  first
   | (apply goV_skip (by intro u; rfl))
   | (apply goV_val _ (by intro u; rfl); · (intro u w hSw hF; go_simp; try with_reducible rfl))
  try simp only [aput, List.set]
  first
   | (apply goV_skip (by intro u; rfl))
   | (apply goV_val (.bool f1) (by intro u; rfl); · (intro u w hSw hF; have c0 := g0 w hSw; go_simp))
  try simp only [aput, List.set]
  first
   | (apply goV_skip (by intro u; rfl))
   | (apply goV_call (by intro u; rfl) C1; · (intro u w hSw hF; go_simp; try with_reducible rfl))
  try simp only [aput, List.set]
  iterate 4
   first
    | (apply goV_skip (by intro u; rfl))
    | (apply goV_val _ (by intro u; rfl); · (intro u w hSw hF; go_simp; try with_reducible rfl))
   try simp only [aput, List.set]
  first
   | (apply goV_skip (by intro u; rfl))
   | (apply goV_val (.int .i64 at_) (by intro u; rfl); · (intro u w hSw hF; have c0 := e2 w hSw; go_simp))
  try simp only [aput, List.set]
  first
   | (apply goV_skip (by intro u; rfl))
   | (apply goV_val _ (by intro u; rfl); · (intro u w hSw hF; go_simp; try with_reducible rfl))
  try simp only [aput, List.set]
  first
   | (apply goV_skip (by intro u; rfl))
   | (apply goV_val (.bool f2) (by intro u; rfl); · (intro u w hSw hF; have c0 := g1 w hSw; go_simp))
  try simp only [aput, List.set]
  first
   | (apply goV_skip (by intro u; rfl))
   | (apply goV_call (by intro u; rfl) C2; · (intro u w hSw hF; go_simp; try with_reducible rfl))
  try simp only [aput, List.set]
  iterate 4
   first
    | (apply goV_skip (by intro u; rfl))
    | (apply goV_val _ (by intro u; rfl); · (intro u w hSw hF; go_simp; try with_reducible rfl))
   try simp only [aput, List.set]
  first
   | (apply goV_skip (by intro u; rfl))
   | (apply goV_val (.int .i64 rs) (by intro u; rfl); · (intro u w hSw hF; have c0 := e5 w hSw; go_simp))
  try simp only [aput, List.set]
  first
   | (apply goV_skip (by intro u; rfl))
   | (apply goV_val _ (by intro u; rfl); · (intro u w hSw hF; go_simp; try with_reducible rfl))
  try simp only [aput, List.set]
  first
   | (apply goV_skip (by intro u; rfl))
   | (apply goV_val (.bool f5) (by intro u; rfl); · (intro u w hSw hF; have c0 := g4 w hSw; go_simp))
  try simp only [aput, List.set]
  first
   | (apply goV_skip (by intro u; rfl))
   | (apply goV_call (by intro u; rfl) C3; · (intro u w hSw hF; go_simp; try with_reducible rfl))
  try simp only [aput, List.set]
  iterate 4
   first
    | (apply goV_skip (by intro u; rfl))
    | (apply goV_val _ (by intro u; rfl); · (intro u w hSw hF; go_simp; try with_reducible rfl))
   try simp only [aput, List.set]
  first
   | (apply goV_skip (by intro u; rfl))
   | (apply goV_val (.string d) (by intro u; rfl); · (intro u w hSw hF; have c0 := e6 w hSw; go_simp))
  try simp only [aput, List.set]
  iterate 2
   first
    | (apply goV_skip (by intro u; rfl))
    | (apply goV_val _ (by intro u; rfl); · (intro u w hSw hF; go_simp; try with_reducible rfl))
   try simp only [aput, List.set]
  first
   | (apply goV_skip (by intro u; rfl))
   | (apply goV_val (.bool f6) (by intro u; rfl); · (intro u w hSw hF; have c0 := g5 w hSw; go_simp))
  try simp only [aput, List.set]
  first
   | (apply goV_skip (by intro u; rfl))
   | (apply goV_call (by intro u; rfl) C4; · (intro u w hSw hF; go_simp; try with_reducible rfl))
  try simp only [aput, List.set]
  iterate 4
   first
    | (apply goV_skip (by intro u; rfl))
    | (apply goV_val _ (by intro u; rfl); · (intro u w hSw hF; go_simp; try with_reducible rfl))
   try simp only [aput, List.set]
  first
   | (apply goV_skip (by intro u; rfl))
   | (apply goV_val (.slice a ads.length cap) (by intro u; rfl); · (intro u w hSw hF; have c0 := e7 w hSw; go_simp))
  try simp only [aput, List.set]
  iterate 2
   first
    | (apply goV_skip (by intro u; rfl))
    | (apply goV_val _ (by intro u; rfl); · (intro u w hSw hF; go_simp; try with_reducible rfl))
   try simp only [aput, List.set]
  first
   | (apply goV_skip (by intro u; rfl))
   | (apply goV_val (.bool f4) (by intro u; rfl); · (intro u w hSw hF; have c0 := g6 w hSw; go_simp))
  try simp only [aput, List.set]
  first
   | (apply goV_skip (by intro u; rfl))
   | (apply goV_call (by intro u; rfl) C5; · (intro u w hSw hF; go_simp; try with_reducible rfl))
  try simp only [aput, List.set]
  iterate 4
   first
    | (apply goV_skip (by intro u; rfl))
    | (apply goV_val _ (by intro u; rfl); · (intro u w hSw hF; go_simp; try with_reducible rfl))
   try simp only [aput, List.set]
  first
   | (apply goV_skip (by intro u; rfl))
   | (apply goV_val (.int .u64 n) (by intro u; rfl); · (intro u w hSw hF; have c0 := e3 w hSw; go_simp))
  try simp only [aput, List.set]
  iterate 3
   first
    | (apply goV_skip (by intro u; rfl))
    | (apply goV_val _ (by intro u; rfl); · (intro u w hSw hF; go_simp; try with_reducible rfl))
   try simp only [aput, List.set]
  first
   | (apply goV_skip (by intro u; rfl))
   | (apply goV_val (.bool f3) (by intro u; rfl); · (intro u w hSw hF; have c0 := g2 w hSw; go_simp))
  try simp only [aput, List.set]
  iterate 5
   first
    | (apply goV_skip (by intro u; rfl))
    | (apply goV_val _ (by intro u; rfl); · (intro u w hSw hF; go_simp; try with_reducible rfl))
   try simp only [aput, List.set]
  first
   | (apply goV_skip (by intro u; rfl))
   | (apply goV_val (.bool v6) (by intro u; rfl); · (intro u w hSw hF; have c0 := e4 w hSw; go_simp))
  try simp only [aput, List.set]
  iterate 2
   first
    | (apply goV_skip (by intro u; rfl))
    | (apply goV_val _ (by intro u; rfl); · (intro u w hSw hF; go_simp; try with_reducible rfl))
   try simp only [aput, List.set]
  first
   | (apply goV_skip (by intro u; rfl))
   | (apply goV_val (.bool f4) (by intro u; rfl); · (intro u w hSw hF; have c0 := g3 w hSw; go_simp))
  try simp only [aput, List.set]
  iterate 3
   first
    | (apply goV_skip (by intro u; rfl))
    | (apply goV_val _ (by intro u; rfl); · (intro u w hSw hF; go_simp; try with_reducible rfl))
   try simp only [aput, List.set]
  intro u w9 hx9 _
  go_wp2_with fail
  go_ret
  refine ⟨?_, hx.trans hx9⟩
  rw [HV.out]; simp
 cases r2
 case false =>
  refine wp_region_rgs ?_
  simp only [List.append]
  first
   | (apply goV_skip (by intro u; rfl))
   | (apply goV_val _ (by intro u; rfl); · (intro u w hSw hF; go_simp; try with_reducible rfl))
  try simp only [aput, List.set]
  first
   | (apply goV_skip (by intro u; rfl))
   | (apply goV_val (.int .i64 k) (by intro u; rfl); · (intro u w hSw hF; have c0 := e0 w hSw; go_simp))
  try simp only [aput, List.set]
  iterate 3
   first
    | (apply goV_skip (by intro u; rfl))
    | (apply goV_val _ (by intro u; rfl); · (intro u w hSw hF; go_simp; try with_reducible rfl))
   try simp only [aput, List.set]
  first
   | (apply goV_skip (by intro u; rfl))
   | (apply goV_val (.int .i64 k) (by intro u; rfl); · (intro u w hSw hF; have c0 := e0 w hSw; go_simp))
  try simp only [aput, List.set]
  iterate 4
   first
    | (apply goV_skip (by intro u; rfl))
    | (apply goV_val _ (by intro u; rfl); · (intro u w hSw hF; go_simp; try with_reducible rfl))
   try simp only [aput, List.set]
  first
   | (apply goV_skip (by intro u; rfl))
   | (apply goV_val (.int .i64 c) (by intro u; rfl); · (intro u w hSw hF; have c0 := e1 w hSw; go_simp))
  try simp only [aput, List.set]
  first
   | (apply goV_skip (by intro u; rfl))
   | (apply goV_val _ (by intro u; rfl); · (intro u w hSw hF; go_simp; try with_reducible rfl))
  try simp only [aput, List.set]
  first
   | (apply goV_skip (by intro u; rfl))
   | (apply goV_val (.bool f1) (by intro u; rfl); · (intro u w hSw hF; have c0 := g0 w hSw; go_simp))
  try simp only [aput, List.set]
  first
   | (apply goV_skip (by intro u; rfl))
   | (apply goV_call (by intro u; rfl) C1; · (intro u w hSw hF; go_simp; try with_reducible rfl))
  try simp only [aput, List.set]
  iterate 4
   first
    | (apply goV_skip (by intro u; rfl))
    | (apply goV_val _ (by intro u; rfl); · (intro u w hSw hF; go_simp; try with_reducible rfl))
   try simp only [aput, List.set]
  first
   | (apply goV_skip (by intro u; rfl))
   | (apply goV_val (.int .i64 at_) (by intro u; rfl); · (intro u w hSw hF; have c0 := e2 w hSw; go_simp))
  try simp only [aput, List.set]
  first
   | (apply goV_skip (by intro u; rfl))
   | (apply goV_val _ (by intro u; rfl); · (intro u w hSw hF; go_simp; try with_reducible rfl))
  try simp only [aput, List.set]
  first
   | (apply goV_skip (by intro u; rfl))
   | (apply goV_val (.bool f2) (by intro u; rfl); · (intro u w hSw hF; have c0 := g1 w hSw; go_simp))
  try simp only [aput, List.set]
  first
   | (apply goV_skip (by intro u; rfl))
   | (apply goV_call (by intro u; rfl) C2; · (intro u w hSw hF; go_simp; try with_reducible rfl))
  try simp only [aput, List.set]
  iterate 4
   first
    | (apply goV_skip (by intro u; rfl))
    | (apply goV_val _ (by intro u; rfl); · (intro u w hSw hF; go_simp; try with_reducible rfl))
   try simp only [aput, List.set]
  first
   | (apply goV_skip (by intro u; rfl))
   | (apply goV_val (.int .i64 rs) (by intro u; rfl); · (intro u w hSw hF; have c0 := e5 w hSw; go_simp))
  try simp only [aput, List.set]
  first
   | (apply goV_skip (by intro u; rfl))
   | (apply goV_val _ (by intro u; rfl); · (intro u w hSw hF; go_simp; try with_reducible rfl))
  try simp only [aput, List.set]
  first
   | (apply goV_skip (by intro u; rfl))
   | (apply goV_val (.bool f5) (by intro u; rfl); · (intro u w hSw hF; have c0 := g4 w hSw; go_simp))
  try simp only [aput, List.set]
  first
   | (apply goV_skip (by intro u; rfl))
   | (apply goV_call (by intro u; rfl) C3; · (intro u w hSw hF; go_simp; try with_reducible rfl))
  try simp only [aput, List.set]
  iterate 4
   first
    | (apply goV_skip (by intro u; rfl))
    | (apply goV_val _ (by intro u; rfl); · (intro u w hSw hF; go_simp; try with_reducible rfl))
   try simp only [aput, List.set]
  first
   | (apply goV_skip (by intro u; rfl))
   | (apply goV_val (.string d) (by intro u; rfl); · (intro u w hSw hF; have c0 := e6 w hSw; go_simp))
  try simp only [aput, List.set]
  iterate 2
   first
    | (apply goV_skip (by intro u; rfl))
    | (apply goV_val _ (by intro u; rfl); · (intro u w hSw hF; go_simp; try with_reducible rfl))
   try simp only [aput, List.set]
  first
   | (apply goV_skip (by intro u; rfl))
   | (apply goV_val (.bool f6) (by intro u; rfl); · (intro u w hSw hF; have c0 := g5 w hSw; go_simp))
  try simp only [aput, List.set]
  first
   | (apply goV_skip (by intro u; rfl))
   | (apply goV_call (by intro u; rfl) C4; · (intro u w hSw hF; go_simp; try with_reducible rfl))
  try simp only [aput, List.set]
  iterate 4
   first
    | (apply goV_skip (by intro u; rfl))
    | (apply goV_val _ (by intro u; rfl); · (intro u w hSw hF; go_simp; try with_reducible rfl))
   try simp only [aput, List.set]
  first
   | (apply goV_skip (by intro u; rfl))
   | (apply goV_val (.slice a ads.length cap) (by intro u; rfl); · (intro u w hSw hF; have c0 := e7 w hSw; go_simp))
  try simp only [aput, List.set]
  iterate 2
   first
    | (apply goV_skip (by intro u; rfl))
    | (apply goV_val _ (by intro u; rfl); · (intro u w hSw hF; go_simp; try with_reducible rfl))
   try simp only [aput, List.set]
  first
   | (apply goV_skip (by intro u; rfl))
   | (apply goV_val (.bool f4) (by intro u; rfl); · (intro u w hSw hF; have c0 := g6 w hSw; go_simp))
  try simp only [aput, List.set]
  first
   | (apply goV_skip (by intro u; rfl))
   | (apply goV_call (by intro u; rfl) C5; · (intro u w hSw hF; go_simp; try with_reducible rfl))
  try simp only [aput, List.set]
  iterate 4
   first
    | (apply goV_skip (by intro u; rfl))
    | (apply goV_val _ (by intro u; rfl); · (intro u w hSw hF; go_simp; try with_reducible rfl))
   try simp only [aput, List.set]
  first
   | (apply goV_skip (by intro u; rfl))
   | (apply goV_val (.int .u64 n) (by intro u; rfl); · (intro u w hSw hF; have c0 := e3 w hSw; go_simp))
  try simp only [aput, List.set]
  iterate 3
   first
    | (apply goV_skip (by intro u; rfl))
    | (apply goV_val _ (by intro u; rfl); · (intro u w hSw hF; go_simp; try with_reducible rfl))
   try simp only [aput, List.set]
  first
   | (apply goV_skip (by intro u; rfl))
   | (apply goV_val (.bool f3) (by intro u; rfl); · (intro u w hSw hF; have c0 := g2 w hSw; go_simp))
  try simp only [aput, List.set]
  iterate 5
   first
    | (apply goV_skip (by intro u; rfl))
    | (apply goV_val _ (by intro u; rfl); · (intro u w hSw hF; go_simp; try with_reducible rfl))
   try simp only [aput, List.set]
  first
   | (apply goV_skip (by intro u; rfl))
   | (apply goV_val (.bool v6) (by intro u; rfl); · (intro u w hSw hF; have c0 := e4 w hSw; go_simp))
  try simp only [aput, List.set]
  iterate 2
   first
    | (apply goV_skip (by intro u; rfl))
    | (apply goV_val _ (by intro u; rfl); · (intro u w hSw hF; go_simp; try with_reducible rfl))
   try simp only [aput, List.set]
  first
   | (apply goV_skip (by intro u; rfl))
   | (apply goV_val (.bool f4) (by intro u; rfl); · (intro u w hSw hF; have c0 := g3 w hSw; go_simp))
  try simp only [aput, List.set]
  iterate 3
   first
    | (apply goV_skip (by intro u; rfl))
    | (apply goV_val _ (by intro u; rfl); · (intro u w hSw hF; go_simp; try with_reducible rfl))
   try simp only [aput, List.set]
  intro u w9 hx9 _
  go_wp2_with fail
  go_ret
  refine ⟨?_, hx.trans hx9⟩
  rw [HV.out]; simp
 cases r3
 case false =>
  refine wp_region_rgs ?_
  simp only [List.append]
  first
   | (apply goV_skip (by intro u; rfl))
   | (apply goV_val _ (by intro u; rfl); · (intro u w hSw hF; go_simp; try with_reducible rfl))
  try simp only [aput, List.set]
  first
   | (apply goV_skip (by intro u; rfl))
   | (apply goV_val (.int .i64 k) (by intro u; rfl); · (intro u w hSw hF; have c0 := e0 w hSw; go_simp))
  try simp only [aput, List.set]
  iterate 3
   first
    | (apply goV_skip (by intro u; rfl))
    | (apply goV_val _ (by intro u; rfl); · (intro u w hSw hF; go_simp; try with_reducible rfl))
   try simp only [aput, List.set]
  first
   | (apply goV_skip (by intro u; rfl))
   | (apply goV_val (.int .i64 k) (by intro u; rfl); · (intro u w hSw hF; have c0 := e0 w hSw; go_simp))
  try simp only [aput, List.set]
  iterate 4
   first
    | (apply goV_skip (by intro u; rfl))
    | (apply goV_val _ (by intro u; rfl); · (intro u w hSw hF; go_simp; try with_reducible rfl))
   try simp only [aput, List.set]
  first
   | (apply goV_skip (by intro u; rfl))
   | (apply goV_val (.int .i64 c) (by intro u; rfl); · (intro u w hSw hF; have c0 := e1 w hSw; go_simp))
  try simp only [aput, List.set]
  first
   | (apply goV_skip (by intro u; rfl))
   | (apply goV_val _ (by intro u; rfl); · (intro u w hSw hF; go_simp; try with_reducible rfl))
  try simp only [aput, List.set]
  first
   | (apply goV_skip (by intro u; rfl))
   | (apply goV_val (.bool f1) (by intro u; rfl); · (intro u w hSw hF; have c0 := g0 w hSw; go_simp))
  try simp only [aput, List.set]
  first
   | (apply goV_skip (by intro u; rfl))
   | (apply goV_call (by intro u; rfl) C1; · (intro u w hSw hF; go_simp; try with_reducible rfl))
  try simp only [aput, List.set]
  iterate 4
   first
    | (apply goV_skip (by intro u; rfl))
    | (apply goV_val _ (by intro u; rfl); · (intro u w hSw hF; go_simp; try with_reducible rfl))
   try simp only [aput, List.set]
  first
   | (apply goV_skip (by intro u; rfl))
   | (apply goV_val (.int .i64 at_) (by intro u; rfl); · (intro u w hSw hF; have c0 := e2 w hSw; go_simp))
  try simp only [aput, List.set]
  first
   | (apply goV_skip (by intro u; rfl))
   | (apply goV_val _ (by intro u; rfl); · (intro u w hSw hF; go_simp; try with_reducible rfl))
  try simp only [aput, List.set]
  first
   | (apply goV_skip (by intro u; rfl))
   | (apply goV_val (.bool f2) (by intro u; rfl); · (intro u w hSw hF; have c0 := g1 w hSw; go_simp))
  try simp only [aput, List.set]
  first
   | (apply goV_skip (by intro u; rfl))
   | (apply goV_call (by intro u; rfl) C2; · (intro u w hSw hF; go_simp; try with_reducible rfl))
  try simp only [aput, List.set]
  iterate 4
   first
    | (apply goV_skip (by intro u; rfl))
    | (apply goV_val _ (by intro u; rfl); · (intro u w hSw hF; go_simp; try with_reducible rfl))
   try simp only [aput, List.set]
  first
   | (apply goV_skip (by intro u; rfl))
   | (apply goV_val (.int .i64 rs) (by intro u; rfl); · (intro u w hSw hF; have c0 := e5 w hSw; go_simp))
  try simp only [aput, List.set]
  first
   | (apply goV_skip (by intro u; rfl))
   | (apply goV_val _ (by intro u; rfl); · (intro u w hSw hF; go_simp; try with_reducible rfl))
  try simp only [aput, List.set]
  first
   | (apply goV_skip (by intro u; rfl))
   | (apply goV_val (.bool f5) (by intro u; rfl); · (intro u w hSw hF; have c0 := g4 w hSw; go_simp))
  try simp only [aput, List.set]
  first
   | (apply goV_skip (by intro u; rfl))
   | (apply goV_call (by intro u; rfl) C3; · (intro u w hSw hF; go_simp; try with_reducible rfl))
  try simp only [aput, List.set]
  iterate 4
   first
    | (apply goV_skip (by intro u; rfl))
    | (apply goV_val _ (by intro u; rfl); · (intro u w hSw hF; go_simp; try with_reducible rfl))
   try simp only [aput, List.set]
  first
   | (apply goV_skip (by intro u; rfl))
   | (apply goV_val (.string d) (by intro u; rfl); · (intro u w hSw hF; have c0 := e6 w hSw; go_simp))
  try simp only [aput, List.set]
  iterate 2
   first
    | (apply goV_skip (by intro u; rfl))
    | (apply goV_val _ (by intro u; rfl); · (intro u w hSw hF; go_simp; try with_reducible rfl))
   try simp only [aput, List.set]
  first
   | (apply goV_skip (by intro u; rfl))
   | (apply goV_val (.bool f6) (by intro u; rfl); · (intro u w hSw hF; have c0 := g5 w hSw; go_simp))
  try simp only [aput, List.set]
  first
   | (apply goV_skip (by intro u; rfl))
   | (apply goV_call (by intro u; rfl) C4; · (intro u w hSw hF; go_simp; try with_reducible rfl))
  try simp only [aput, List.set]
  iterate 4
   first
    | (apply goV_skip (by intro u; rfl))
    | (apply goV_val _ (by intro u; rfl); · (intro u w hSw hF; go_simp; try with_reducible rfl))
   try simp only [aput, List.set]
  first
   | (apply goV_skip (by intro u; rfl))
   | (apply goV_val (.slice a ads.length cap) (by intro u; rfl); · (intro u w hSw hF; have c0 := e7 w hSw; go_simp))
  try simp only [aput, List.set]
  iterate 2
   first
    | (apply goV_skip (by intro u; rfl))
    | (apply goV_val _ (by intro u; rfl); · (intro u w hSw hF; go_simp; try with_reducible rfl))
   try simp only [aput, List.set]
  first
   | (apply goV_skip (by intro u; rfl))
   | (apply goV_val (.bool f4) (by intro u; rfl); · (intro u w hSw hF; have c0 := g6 w hSw; go_simp))
  try simp only [aput, List.set]
  first
   | (apply goV_skip (by intro u; rfl))
   | (apply goV_call (by intro u; rfl) C5; · (intro u w hSw hF; go_simp; try with_reducible rfl))
  try simp only [aput, List.set]
  iterate 4
   first
    | (apply goV_skip (by intro u; rfl))
    | (apply goV_val _ (by intro u; rfl); · (intro u w hSw hF; go_simp; try with_reducible rfl))
   try simp only [aput, List.set]
  first
   | (apply goV_skip (by intro u; rfl))
   | (apply goV_val (.int .u64 n) (by intro u; rfl); · (intro u w hSw hF; have c0 := e3 w hSw; go_simp))
  try simp only [aput, List.set]
  iterate 3
   first
    | (apply goV_skip (by intro u; rfl))
    | (apply goV_val _ (by intro u; rfl); · (intro u w hSw hF; go_simp; try with_reducible rfl))
   try simp only [aput, List.set]
  first
   | (apply goV_skip (by intro u; rfl))
   | (apply goV_val (.bool f3) (by intro u; rfl); · (intro u w hSw hF; have c0 := g2 w hSw; go_simp))
  try simp only [aput, List.set]
  iterate 5
   first
    | (apply goV_skip (by intro u; rfl))
    | (apply goV_val _ (by intro u; rfl); · (intro u w hSw hF; go_simp; try with_reducible rfl))
   try simp only [aput, List.set]
  first
   | (apply goV_skip (by intro u; rfl))
   | (apply goV_val (.bool v6) (by intro u; rfl); · (intro u w hSw hF; have c0 := e4 w hSw; go_simp))
  try simp only [aput, List.set]
  iterate 2
   first
    | (apply goV_skip (by intro u; rfl))
    | (apply goV_val _ (by intro u; rfl); · (intro u w hSw hF; go_simp; try with_reducible rfl))
   try simp only [aput, List.set]
  first
   | (apply goV_skip (by intro u; rfl))
   | (apply goV_val (.bool f4) (by intro u; rfl); · (intro u w hSw hF; have c0 := g3 w hSw; go_simp))
  try simp only [aput, List.set]
  iterate 3
   first
    | (apply goV_skip (by intro u; rfl))
    | (apply goV_val _ (by intro u; rfl); · (intro u w hSw hF; go_simp; try with_reducible rfl))
   try simp only [aput, List.set]
  intro u w9 hx9 _
  go_wp2_with fail
  go_ret
  refine ⟨?_, hx.trans hx9⟩
  rw [HV.out]; simp
 cases r4
 case false =>
  refine wp_region_rgs ?_
  simp only [List.append]
  first
   | (apply goV_skip (by intro u; rfl))
   | (apply goV_val _ (by intro u; rfl); · (intro u w hSw hF; go_simp; try with_reducible rfl))
  try simp only [aput, List.set]
  first
   | (apply goV_skip (by intro u; rfl))
   | (apply goV_val (.int .i64 k) (by intro u; rfl); · (intro u w hSw hF; have c0 := e0 w hSw; go_simp))
  try simp only [aput, List.set]
  iterate 3
   first
    | (apply goV_skip (by intro u; rfl))
    | (apply goV_val _ (by intro u; rfl); · (intro u w hSw hF; go_simp; try with_reducible rfl))
   try simp only [aput, List.set]
  first
   | (apply goV_skip (by intro u; rfl))
   | (apply goV_val (.int .i64 k) (by intro u; rfl); · (intro u w hSw hF; have c0 := e0 w hSw; go_simp))
  try simp only [aput, List.set]
  iterate 4
   first
    | (apply goV_skip (by intro u; rfl))
    | (apply goV_val _ (by intro u; rfl); · (intro u w hSw hF; go_simp; try with_reducible rfl))
   try simp only [aput, List.set]
  first
   | (apply goV_skip (by intro u; rfl))
   | (apply goV_val (.int .i64 c) (by intro u; rfl); · (intro u w hSw hF; have c0 := e1 w hSw; go_simp))
  try simp only [aput, List.set]
  first
   | (apply goV_skip (by intro u; rfl))
   | (apply goV_val _ (by intro u; rfl); · (intro u w hSw hF; go_simp; try with_reducible rfl))
  try simp only [aput, List.set]
  first
   | (apply goV_skip (by intro u; rfl))
   | (apply goV_val (.bool f1) (by intro u; rfl); · (intro u w hSw hF; have c0 := g0 w hSw; go_simp))
  try simp only [aput, List.set]
  first
   | (apply goV_skip (by intro u; rfl))
   | (apply goV_call (by intro u; rfl) C1; · (intro u w hSw hF; go_simp; try with_reducible rfl))
  try simp only [aput, List.set]
  iterate 4
   first
    | (apply goV_skip (by intro u; rfl))
    | (apply goV_val _ (by intro u; rfl); · (intro u w hSw hF; go_simp; try with_reducible rfl))
   try simp only [aput, List.set]
  first
   | (apply goV_skip (by intro u; rfl))
   | (apply goV_val (.int .i64 at_) (by intro u; rfl); · (intro u w hSw hF; have c0 := e2 w hSw; go_simp))
  try simp only [aput, List.set]
  first
   | (apply goV_skip (by intro u; rfl))
   | (apply goV_val _ (by intro u; rfl); · (intro u w hSw hF; go_simp; try with_reducible rfl))
  try simp only [aput, List.set]
  first
   | (apply goV_skip (by intro u; rfl))
   | (apply goV_val (.bool f2) (by intro u; rfl); · (intro u w hSw hF; have c0 := g1 w hSw; go_simp))
  try simp only [aput, List.set]
  first
   | (apply goV_skip (by intro u; rfl))
   | (apply goV_call (by intro u; rfl) C2; · (intro u w hSw hF; go_simp; try with_reducible rfl))
  try simp only [aput, List.set]
  iterate 4
   first
    | (apply goV_skip (by intro u; rfl))
    | (apply goV_val _ (by intro u; rfl); · (intro u w hSw hF; go_simp; try with_reducible rfl))
   try simp only [aput, List.set]
  first
   | (apply goV_skip (by intro u; rfl))
   | (apply goV_val (.int .i64 rs) (by intro u; rfl); · (intro u w hSw hF; have c0 := e5 w hSw; go_simp))
  try simp only [aput, List.set]
  first
   | (apply goV_skip (by intro u; rfl))
   | (apply goV_val _ (by intro u; rfl); · (intro u w hSw hF; go_simp; try with_reducible rfl))
  try simp only [aput, List.set]
  first
   | (apply goV_skip (by intro u; rfl))
   | (apply goV_val (.bool f5) (by intro u; rfl); · (intro u w hSw hF; have c0 := g4 w hSw; go_simp))
  try simp only [aput, List.set]
  first
   | (apply goV_skip (by intro u; rfl))
   | (apply goV_call (by intro u; rfl) C3; · (intro u w hSw hF; go_simp; try with_reducible rfl))
  try simp only [aput, List.set]
  iterate 4
   first
    | (apply goV_skip (by intro u; rfl))
    | (apply goV_val _ (by intro u; rfl); · (intro u w hSw hF; go_simp; try with_reducible rfl))
   try simp only [aput, List.set]
  first
   | (apply goV_skip (by intro u; rfl))
   | (apply goV_val (.string d) (by intro u; rfl); · (intro u w hSw hF; have c0 := e6 w hSw; go_simp))
  try simp only [aput, List.set]
  iterate 2
   first
    | (apply goV_skip (by intro u; rfl))
    | (apply goV_val _ (by intro u; rfl); · (intro u w hSw hF; go_simp; try with_reducible rfl))
   try simp only [aput, List.set]
  first
   | (apply goV_skip (by intro u; rfl))
   | (apply goV_val (.bool f6) (by intro u; rfl); · (intro u w hSw hF; have c0 := g5 w hSw; go_simp))
  try simp only [aput, List.set]
  first
   | (apply goV_skip (by intro u; rfl))
   | (apply goV_call (by intro u; rfl) C4; · (intro u w hSw hF; go_simp; try with_reducible rfl))
  try simp only [aput, List.set]
  iterate 4
   first
    | (apply goV_skip (by intro u; rfl))
    | (apply goV_val _ (by intro u; rfl); · (intro u w hSw hF; go_simp; try with_reducible rfl))
   try simp only [aput, List.set]
  first
   | (apply goV_skip (by intro u; rfl))
   | (apply goV_val (.slice a ads.length cap) (by intro u; rfl); · (intro u w hSw hF; have c0 := e7 w hSw; go_simp))
  try simp only [aput, List.set]
  iterate 2
   first
    | (apply goV_skip (by intro u; rfl))
    | (apply goV_val _ (by intro u; rfl); · (intro u w hSw hF; go_simp; try with_reducible rfl))
   try simp only [aput, List.set]
  first
   | (apply goV_skip (by intro u; rfl))
   | (apply goV_val (.bool f4) (by intro u; rfl); · (intro u w hSw hF; have c0 := g6 w hSw; go_simp))
  try simp only [aput, List.set]
  first
   | (apply goV_skip (by intro u; rfl))
   | (apply goV_call (by intro u; rfl) C5; · (intro u w hSw hF; go_simp; try with_reducible rfl))
  try simp only [aput, List.set]
  iterate 4
   first
    | (apply goV_skip (by intro u; rfl))
    | (apply goV_val _ (by intro u; rfl); · (intro u w hSw hF; go_simp; try with_reducible rfl))
   try simp only [aput, List.set]
  first
   | (apply goV_skip (by intro u; rfl))
   | (apply goV_val (.int .u64 n) (by intro u; rfl); · (intro u w hSw hF; have c0 := e3 w hSw; go_simp))
  try simp only [aput, List.set]
  iterate 3
   first
    | (apply goV_skip (by intro u; rfl))
    | (apply goV_val _ (by intro u; rfl); · (intro u w hSw hF; go_simp; try with_reducible rfl))
   try simp only [aput, List.set]
  first
   | (apply goV_skip (by intro u; rfl))
   | (apply goV_val (.bool f3) (by intro u; rfl); · (intro u w hSw hF; have c0 := g2 w hSw; go_simp))
  try simp only [aput, List.set]
  iterate 5
   first
    | (apply goV_skip (by intro u; rfl))
    | (apply goV_val _ (by intro u; rfl); · (intro u w hSw hF; go_simp; try with_reducible rfl))
   try simp only [aput, List.set]
  first
   | (apply goV_skip (by intro u; rfl))
   | (apply goV_val (.bool v6) (by intro u; rfl); · (intro u w hSw hF; have c0 := e4 w hSw; go_simp))
  try simp only [aput, List.set]
  iterate 2
   first
    | (apply goV_skip (by intro u; rfl))
    | (apply goV_val _ (by intro u; rfl); · (intro u w hSw hF; go_simp; try with_reducible rfl))
   try simp only [aput, List.set]
  first
   | (apply goV_skip (by intro u; rfl))
   | (apply goV_val (.bool f4) (by intro u; rfl); · (intro u w hSw hF; have c0 := g3 w hSw; go_simp))
  try simp only [aput, List.set]
  iterate 3
   first
    | (apply goV_skip (by intro u; rfl))
    | (apply goV_val _ (by intro u; rfl); · (intro u w hSw hF; go_simp; try with_reducible rfl))
   try simp only [aput, List.set]
  intro u w9 hx9 _
  go_wp2_with fail
  go_ret
  refine ⟨?_, hx.trans hx9⟩
  rw [HV.out]; simp
 cases r5
 case false =>
  refine wp_region_rgs ?_
  simp only [List.append]
  first
   | (apply goV_skip (by intro u; rfl))
   | (apply goV_val _ (by intro u; rfl); · (intro u w hSw hF; go_simp; try with_reducible rfl))
  try simp only [aput, List.set]
  first
   | (apply goV_skip (by intro u; rfl))
   | (apply goV_val (.int .i64 k) (by intro u; rfl); · (intro u w hSw hF; have c0 := e0 w hSw; go_simp))
  try simp only [aput, List.set]
  iterate 3
   first
    | (apply goV_skip (by intro u; rfl))
    | (apply goV_val _ (by intro u; rfl); · (intro u w hSw hF; go_simp; try with_reducible rfl))
   try simp only [aput, List.set]
  first
   | (apply goV_skip (by intro u; rfl))
   | (apply goV_val (.int .i64 k) (by intro u; rfl); · (intro u w hSw hF; have c0 := e0 w hSw; go_simp))
  try simp only [aput, List.set]
  iterate 4
   first
    | (apply goV_skip (by intro u; rfl))
    | (apply goV_val _ (by intro u; rfl); · (intro u w hSw hF; go_simp; try with_reducible rfl))
   try simp only [aput, List.set]
  first
   | (apply goV_skip (by intro u; rfl))
   | (apply goV_val (.int .i64 c) (by intro u; rfl); · (intro u w hSw hF; have c0 := e1 w hSw; go_simp))
  try simp only [aput, List.set]
  first
   | (apply goV_skip (by intro u; rfl))
   | (apply goV_val _ (by intro u; rfl); · (intro u w hSw hF; go_simp; try with_reducible rfl))
  try simp only [aput, List.set]
  first
   | (apply goV_skip (by intro u; rfl))
   | (apply goV_val (.bool f1) (by intro u; rfl); · (intro u w hSw hF; have c0 := g0 w hSw; go_simp))
  try simp only [aput, List.set]
  first
   | (apply goV_skip (by intro u; rfl))
   | (apply goV_call (by intro u; rfl) C1; · (intro u w hSw hF; go_simp; try with_reducible rfl))
  try simp only [aput, List.set]
  iterate 4
   first
    | (apply goV_skip (by intro u; rfl))
    | (apply goV_val _ (by intro u; rfl); · (intro u w hSw hF; go_simp; try with_reducible rfl))
   try simp only [aput, List.set]
  first
   | (apply goV_skip (by intro u; rfl))
   | (apply goV_val (.int .i64 at_) (by intro u; rfl); · (intro u w hSw hF; have c0 := e2 w hSw; go_simp))
  try simp only [aput, List.set]
  first
   | (apply goV_skip (by intro u; rfl))
   | (apply goV_val _ (by intro u; rfl); · (intro u w hSw hF; go_simp; try with_reducible rfl))
  try simp only [aput, List.set]
  first
   | (apply goV_skip (by intro u; rfl))
   | (apply goV_val (.bool f2) (by intro u; rfl); · (intro u w hSw hF; have c0 := g1 w hSw; go_simp))
  try simp only [aput, List.set]
  first
   | (apply goV_skip (by intro u; rfl))
   | (apply goV_call (by intro u; rfl) C2; · (intro u w hSw hF; go_simp; try with_reducible rfl))
  try simp only [aput, List.set]
  iterate 4
   first
    | (apply goV_skip (by intro u; rfl))
    | (apply goV_val _ (by intro u; rfl); · (intro u w hSw hF; go_simp; try with_reducible rfl))
   try simp only [aput, List.set]
  first
   | (apply goV_skip (by intro u; rfl))
   | (apply goV_val (.int .i64 rs) (by intro u; rfl); · (intro u w hSw hF; have c0 := e5 w hSw; go_simp))
  try simp only [aput, List.set]
  first
   | (apply goV_skip (by intro u; rfl))
   | (apply goV_val _ (by intro u; rfl); · (intro u w hSw hF; go_simp; try with_reducible rfl))
  try simp only [aput, List.set]
  first
   | (apply goV_skip (by intro u; rfl))
   | (apply goV_val (.bool f5) (by intro u; rfl); · (intro u w hSw hF; have c0 := g4 w hSw; go_simp))
  try simp only [aput, List.set]
  first
   | (apply goV_skip (by intro u; rfl))
   | (apply goV_call (by intro u; rfl) C3; · (intro u w hSw hF; go_simp; try with_reducible rfl))
  try simp only [aput, List.set]
  iterate 4
   first
    | (apply goV_skip (by intro u; rfl))
    | (apply goV_val _ (by intro u; rfl); · (intro u w hSw hF; go_simp; try with_reducible rfl))
   try simp only [aput, List.set]
  first
   | (apply goV_skip (by intro u; rfl))
   | (apply goV_val (.string d) (by intro u; rfl); · (intro u w hSw hF; have c0 := e6 w hSw; go_simp))
  try simp only [aput, List.set]
  iterate 2
   first
    | (apply goV_skip (by intro u; rfl))
    | (apply goV_val _ (by intro u; rfl); · (intro u w hSw hF; go_simp; try with_reducible rfl))
   try simp only [aput, List.set]
  first
   | (apply goV_skip (by intro u; rfl))
   | (apply goV_val (.bool f6) (by intro u; rfl); · (intro u w hSw hF; have c0 := g5 w hSw; go_simp))
  try simp only [aput, List.set]
  first
   | (apply goV_skip (by intro u; rfl))
   | (apply goV_call (by intro u; rfl) C4; · (intro u w hSw hF; go_simp; try with_reducible rfl))
  try simp only [aput, List.set]
  iterate 4
   first
    | (apply goV_skip (by intro u; rfl))
    | (apply goV_val _ (by intro u; rfl); · (intro u w hSw hF; go_simp; try with_reducible rfl))
   try simp only [aput, List.set]
  first
   | (apply goV_skip (by intro u; rfl))
   | (apply goV_val (.slice a ads.length cap) (by intro u; rfl); · (intro u w hSw hF; have c0 := e7 w hSw; go_simp))
  try simp only [aput, List.set]
  iterate 2
   first
    | (apply goV_skip (by intro u; rfl))
    | (apply goV_val _ (by intro u; rfl); · (intro u w hSw hF; go_simp; try with_reducible rfl))
   try simp only [aput, List.set]
  first
   | (apply goV_skip (by intro u; rfl))
   | (apply goV_val (.bool f4) (by intro u; rfl); · (intro u w hSw hF; have c0 := g6 w hSw; go_simp))
  try simp only [aput, List.set]
  first
   | (apply goV_skip (by intro u; rfl))
   | (apply goV_call (by intro u; rfl) C5; · (intro u w hSw hF; go_simp; try with_reducible rfl))
  try simp only [aput, List.set]
  iterate 4
   first
    | (apply goV_skip (by intro u; rfl))
    | (apply goV_val _ (by intro u; rfl); · (intro u w hSw hF; go_simp; try with_reducible rfl))
   try simp only [aput, List.set]
  first
   | (apply goV_skip (by intro u; rfl))
   | (apply goV_val (.int .u64 n) (by intro u; rfl); · (intro u w hSw hF; have c0 := e3 w hSw; go_simp))
  try simp only [aput, List.set]
  iterate 3
   first
    | (apply goV_skip (by intro u; rfl))
    | (apply goV_val _ (by intro u; rfl); · (intro u w hSw hF; go_simp; try with_reducible rfl))
   try simp only [aput, List.set]
  first
   | (apply goV_skip (by intro u; rfl))
   | (apply goV_val (.bool f3) (by intro u; rfl); · (intro u w hSw hF; have c0 := g2 w hSw; go_simp))
  try simp only [aput, List.set]
  iterate 5
   first
    | (apply goV_skip (by intro u; rfl))
    | (apply goV_val _ (by intro u; rfl); · (intro u w hSw hF; go_simp; try with_reducible rfl))
   try simp only [aput, List.set]
  first
   | (apply goV_skip (by intro u; rfl))
   | (apply goV_val (.bool v6) (by intro u; rfl); · (intro u w hSw hF; have c0 := e4 w hSw; go_simp))
  try simp only [aput, List.set]
  iterate 2
   first
    | (apply goV_skip (by intro u; rfl))
    | (apply goV_val _ (by intro u; rfl); · (intro u w hSw hF; go_simp; try with_reducible rfl))
   try simp only [aput, List.set]
  first
   | (apply goV_skip (by intro u; rfl))
   | (apply goV_val (.bool f4) (by intro u; rfl); · (intro u w hSw hF; have c0 := g3 w hSw; go_simp))
  try simp only [aput, List.set]
  iterate 3
   first
    | (apply goV_skip (by intro u; rfl))
    | (apply goV_val _ (by intro u; rfl); · (intro u w hSw hF; go_simp; try with_reducible rfl))
   try simp only [aput, List.set]
  intro u w9 hx9 _
  go_wp2_with fail
  go_ret
  refine ⟨?_, hx.trans hx9⟩
  rw [HV.out]; simp
 obtain ⟨bad, hbad⟩ : ∃ bad : Bool, bad = ((!(n == 0) && !f3) || (v6 && !f4)) := ⟨_, rfl⟩
 have HB := Lib.hid hbad
 have HV2 : Hid (validE ⟨k, c, at_, n, v6, rs, d, ads⟩ = (!bad && ads.all validA)) := Lib.hid (by
  rw [HV.out, HB.out, HOK.out]
  have q1 : decide (k < 1) = false := decide_eq_false hk1
  have q2 : decide (11 < k) = false := decide_eq_false hk2
  rw [q1, q2]
  by_cases q : n = 0 <;> cases f3 <;> cases v6 <;> cases f4 <;> simp [q])
 clear HV hbad
 go_cut [0, 76] from 5 to 75 (fun _ v wc => v = .bool bad /\ Ext w3 wc)
 case first =>
  by_cases hn : n = 0
  ·have hn1 : (n == 0) = true := by simp [hn]
   have hn2 : (n != 0) = false := by simp [hn]
   have hn3 : decide (n = 0) = true := by simp [hn]
   have HN := Lib.hid hn
   clear hn
   cases f3
   case false =>
    cases v6
    case false =>
     cases f4
     case false =>
      refine wp_region_rgs ?_
      simp only [List.append]
      first
       | (apply goV_skip (by intro u; rfl))
       | (apply goV_val _ (by intro u; rfl); · (intro u w hSw hF; go_simp; try with_reducible rfl))
      try simp only [aput, List.set]
      first
       | (apply goV_skip (by intro u; rfl))
       | (apply goV_val (.int .i64 k) (by intro u; rfl); · (intro u w hSw hF; have c0 := e0 w hSw; go_simp))
      try simp only [aput, List.set]
      iterate 3
       first
        | (apply goV_skip (by intro u; rfl))
        | (apply goV_val _ (by intro u; rfl); · (intro u w hSw hF; go_simp; try with_reducible rfl))
       try simp only [aput, List.set]
      first
       | (apply goV_skip (by intro u; rfl))
       | (apply goV_val (.int .i64 k) (by intro u; rfl); · (intro u w hSw hF; have c0 := e0 w hSw; go_simp))
      try simp only [aput, List.set]
      iterate 4
       first
        | (apply goV_skip (by intro u; rfl))
        | (apply goV_val _ (by intro u; rfl); · (intro u w hSw hF; go_simp; try with_reducible rfl))
       try simp only [aput, List.set]
      first
       | (apply goV_skip (by intro u; rfl))
       | (apply goV_val (.int .i64 c) (by intro u; rfl); · (intro u w hSw hF; have c0 := e1 w hSw; go_simp))
      try simp only [aput, List.set]
      first
       | (apply goV_skip (by intro u; rfl))
       | (apply goV_val _ (by intro u; rfl); · (intro u w hSw hF; go_simp; try with_reducible rfl))
      try simp only [aput, List.set]
      first
       | (apply goV_skip (by intro u; rfl))
       | (apply goV_val (.bool f1) (by intro u; rfl); · (intro u w hSw hF; have c0 := g0 w hSw; go_simp))
      try simp only [aput, List.set]
      first
       | (apply goV_skip (by intro u; rfl))
       | (apply goV_call (by intro u; rfl) C1; · (intro u w hSw hF; go_simp; try with_reducible rfl))
      try simp only [aput, List.set]
      iterate 4
       first
        | (apply goV_skip (by intro u; rfl))
        | (apply goV_val _ (by intro u; rfl); · (intro u w hSw hF; go_simp; try with_reducible rfl))
       try simp only [aput, List.set]
      first
       | (apply goV_skip (by intro u; rfl))
       | (apply goV_val (.int .i64 at_) (by intro u; rfl); · (intro u w hSw hF; have c0 := e2 w hSw; go_simp))
      try simp only [aput, List.set]
      first
       | (apply goV_skip (by intro u; rfl))
       | (apply goV_val _ (by intro u; rfl); · (intro u w hSw hF; go_simp; try with_reducible rfl))
      try simp only [aput, List.set]
      first
       | (apply goV_skip (by intro u; rfl))
       | (apply goV_val (.bool f2) (by intro u; rfl); · (intro u w hSw hF; have c0 := g1 w hSw; go_simp))
      try simp only [aput, List.set]
      first
       | (apply goV_skip (by intro u; rfl))
       | (apply goV_call (by intro u; rfl) C2; · (intro u w hSw hF; go_simp; try with_reducible rfl))
      try simp only [aput, List.set]
      iterate 4
       first
        | (apply goV_skip (by intro u; rfl))
        | (apply goV_val _ (by intro u; rfl); · (intro u w hSw hF; go_simp; try with_reducible rfl))
       try simp only [aput, List.set]
      first
       | (apply goV_skip (by intro u; rfl))
       | (apply goV_val (.int .i64 rs) (by intro u; rfl); · (intro u w hSw hF; have c0 := e5 w hSw; go_simp))
      try simp only [aput, List.set]
      first
       | (apply goV_skip (by intro u; rfl))
       | (apply goV_val _ (by intro u; rfl); · (intro u w hSw hF; go_simp; try with_reducible rfl))
      try simp only [aput, List.set]
      first
       | (apply goV_skip (by intro u; rfl))
       | (apply goV_val (.bool f5) (by intro u; rfl); · (intro u w hSw hF; have c0 := g4 w hSw; go_simp))
      try simp only [aput, List.set]
      first
       | (apply goV_skip (by intro u; rfl))
       | (apply goV_call (by intro u; rfl) C3; · (intro u w hSw hF; go_simp; try with_reducible rfl))
      try simp only [aput, List.set]
      iterate 4
       first
        | (apply goV_skip (by intro u; rfl))
        | (apply goV_val _ (by intro u; rfl); · (intro u w hSw hF; go_simp; try with_reducible rfl))
       try simp only [aput, List.set]
      first
       | (apply goV_skip (by intro u; rfl))
       | (apply goV_val (.string d) (by intro u; rfl); · (intro u w hSw hF; have c0 := e6 w hSw; go_simp))
      try simp only [aput, List.set]
      iterate 2
       first
        | (apply goV_skip (by intro u; rfl))
        | (apply goV_val _ (by intro u; rfl); · (intro u w hSw hF; go_simp; try with_reducible rfl))
       try simp only [aput, List.set]
      first
       | (apply goV_skip (by intro u; rfl))
       | (apply goV_val (.bool f6) (by intro u; rfl); · (intro u w hSw hF; have c0 := g5 w hSw; go_simp))
      try simp only [aput, List.set]
      first
       | (apply goV_skip (by intro u; rfl))
       | (apply goV_call (by intro u; rfl) C4; · (intro u w hSw hF; go_simp; try with_reducible rfl))
      try simp only [aput, List.set]
      iterate 4
       first
        | (apply goV_skip (by intro u; rfl))
        | (apply goV_val _ (by intro u; rfl); · (intro u w hSw hF; go_simp; try with_reducible rfl))
       try simp only [aput, List.set]
      first
       | (apply goV_skip (by intro u; rfl))
       | (apply goV_val (.slice a ads.length cap) (by intro u; rfl); · (intro u w hSw hF; have c0 := e7 w hSw; go_simp))
      try simp only [aput, List.set]
      iterate 2
       first
        | (apply goV_skip (by intro u; rfl))
        | (apply goV_val _ (by intro u; rfl); · (intro u w hSw hF; go_simp; try with_reducible rfl))
       try simp only [aput, List.set]
      first
       | (apply goV_skip (by intro u; rfl))
       | (apply goV_val (.bool false) (by intro u; rfl); · (intro u w hSw hF; have c0 := g6 w hSw; go_simp))
      try simp only [aput, List.set]
      first
       | (apply goV_skip (by intro u; rfl))
       | (apply goV_call (by intro u; rfl) C5; · (intro u w hSw hF; go_simp; try with_reducible rfl))
      try simp only [aput, List.set]
      iterate 4
       first
        | (apply goV_skip (by intro u; rfl))
        | (apply goV_val _ (by intro u; rfl); · (intro u w hSw hF; go_simp; try with_reducible rfl))
       try simp only [aput, List.set]
      first
       | (apply goV_skip (by intro u; rfl))
       | (apply goV_val (.int .u64 n) (by intro u; rfl); · (intro u w hSw hF; have c0 := e3 w hSw; go_simp))
      try simp only [aput, List.set]
      iterate 3
       first
        | (apply goV_skip (by intro u; rfl))
        | (apply goV_val _ (by intro u; rfl); · (intro u w hSw hF; go_simp; try with_reducible rfl))
       try simp only [aput, List.set]
      first
       | (apply goV_skip (by intro u; rfl))
       | (apply goV_val (.bool false) (by intro u; rfl); · (intro u w hSw hF; have c0 := g2 w hSw; go_simp))
      try simp only [aput, List.set]
      iterate 5
       first
        | (apply goV_skip (by intro u; rfl))
        | (apply goV_val _ (by intro u; rfl); · (intro u w hSw hF; go_simp; try with_reducible rfl))
       try simp only [aput, List.set]
      first
       | (apply goV_skip (by intro u; rfl))
       | (apply goV_val (.bool false) (by intro u; rfl); · (intro u w hSw hF; have c0 := e4 w hSw; go_simp))
      try simp only [aput, List.set]
      iterate 2
       first
        | (apply goV_skip (by intro u; rfl))
        | (apply goV_val _ (by intro u; rfl); · (intro u w hSw hF; go_simp; try with_reducible rfl))
       try simp only [aput, List.set]
      first
       | (apply goV_skip (by intro u; rfl))
       | (apply goV_val (.bool false) (by intro u; rfl); · (intro u w hSw hF; have c0 := g3 w hSw; go_simp))
      try simp only [aput, List.set]
      iterate 3
       first
        | (apply goV_skip (by intro u; rfl))
        | (apply goV_val _ (by intro u; rfl); · (intro u w hSw hF; go_simp; try with_reducible rfl))
       try simp only [aput, List.set]
      intro u w9 hx9 _
      go_wp2_with fail
      go_meet
      refine ⟨?_, hx9⟩
      rw [HB.out, hn1]; rfl
     case true =>
      refine wp_region_rgs ?_
      simp only [List.append]
      first
       | (apply goV_skip (by intro u; rfl))
       | (apply goV_val _ (by intro u; rfl); · (intro u w hSw hF; go_simp; try with_reducible rfl))
      try simp only [aput, List.set]
      first
       | (apply goV_skip (by intro u; rfl))
       | (apply goV_val (.int .i64 k) (by intro u; rfl); · (intro u w hSw hF; have c0 := e0 w hSw; go_simp))
      try simp only [aput, List.set]
      iterate 3
       first
        | (apply goV_skip (by intro u; rfl))
        | (apply goV_val _ (by intro u; rfl); · (intro u w hSw hF; go_simp; try with_reducible rfl))
       try simp only [aput, List.set]
      first
       | (apply goV_skip (by intro u; rfl))
       | (apply goV_val (.int .i64 k) (by intro u; rfl); · (intro u w hSw hF; have c0 := e0 w hSw; go_simp))
      try simp only [aput, List.set]
      iterate 4
       first
        | (apply goV_skip (by intro u; rfl))
        | (apply goV_val _ (by intro u; rfl); · (intro u w hSw hF; go_simp; try with_reducible rfl))
       try simp only [aput, List.set]
      first
       | (apply goV_skip (by intro u; rfl))
       | (apply goV_val (.int .i64 c) (by intro u; rfl); · (intro u w hSw hF; have c0 := e1 w hSw; go_simp))
      try simp only [aput, List.set]
      first
       | (apply goV_skip (by intro u; rfl))
       | (apply goV_val _ (by intro u; rfl); · (intro u w hSw hF; go_simp; try with_reducible rfl))
      try simp only [aput, List.set]
      first
       | (apply goV_skip (by intro u; rfl))
       | (apply goV_val (.bool f1) (by intro u; rfl); · (intro u w hSw hF; have c0 := g0 w hSw; go_simp))
      try simp only [aput, List.set]
      first
       | (apply goV_skip (by intro u; rfl))
       | (apply goV_call (by intro u; rfl) C1; · (intro u w hSw hF; go_simp; try with_reducible rfl))
      try simp only [aput, List.set]
      iterate 4
       first
        | (apply goV_skip (by intro u; rfl))
        | (apply goV_val _ (by intro u; rfl); · (intro u w hSw hF; go_simp; try with_reducible rfl))
       try simp only [aput, List.set]
      first
       | (apply goV_skip (by intro u; rfl))
       | (apply goV_val (.int .i64 at_) (by intro u; rfl); · (intro u w hSw hF; have c0 := e2 w hSw; go_simp))
      try simp only [aput, List.set]
      first
       | (apply goV_skip (by intro u; rfl))
       | (apply goV_val _ (by intro u; rfl); · (intro u w hSw hF; go_simp; try with_reducible rfl))
      try simp only [aput, List.set]
      first
       | (apply goV_skip (by intro u; rfl))
       | (apply goV_val (.bool f2) (by intro u; rfl); · (intro u w hSw hF; have c0 := g1 w hSw; go_simp))
      try simp only [aput, List.set]
      first
       | (apply goV_skip (by intro u; rfl))
       | (apply goV_call (by intro u; rfl) C2; · (intro u w hSw hF; go_simp; try with_reducible rfl))
      try simp only [aput, List.set]
      iterate 4
       first
        | (apply goV_skip (by intro u; rfl))
        | (apply goV_val _ (by intro u; rfl); · (intro u w hSw hF; go_simp; try with_reducible rfl))
       try simp only [aput, List.set]
      first
       | (apply goV_skip (by intro u; rfl))
       | (apply goV_val (.int .i64 rs) (by intro u; rfl); · (intro u w hSw hF; have c0 := e5 w hSw; go_simp))
      try simp only [aput, List.set]
      first
       | (apply goV_skip (by intro u; rfl))
       | (apply goV_val _ (by intro u; rfl); · (intro u w hSw hF; go_simp; try with_reducible rfl))
      try simp only [aput, List.set]
      first
       | (apply goV_skip (by intro u; rfl))
       | (apply goV_val (.bool f5) (by intro u; rfl); · (intro u w hSw hF; have c0 := g4 w hSw; go_simp))
      try simp only [aput, List.set]
      first
       | (apply goV_skip (by intro u; rfl))
       | (apply goV_call (by intro u; rfl) C3; · (intro u w hSw hF; go_simp; try with_reducible rfl))
      try simp only [aput, List.set]
      iterate 4
       first
        | (apply goV_skip (by intro u; rfl))
        | (apply goV_val _ (by intro u; rfl); · (intro u w hSw hF; go_simp; try with_reducible rfl))
       try simp only [aput, List.set]
      first
       | (apply goV_skip (by intro u; rfl))
       | (apply goV_val (.string d) (by intro u; rfl); · (intro u w hSw hF; have c0 := e6 w hSw; go_simp))
      try simp only [aput, List.set]
      iterate 2
       first
        | (apply goV_skip (by intro u; rfl))
        | (apply goV_val _ (by intro u; rfl); · (intro u w hSw hF; go_simp; try with_reducible rfl))
       try simp only [aput, List.set]
      first
       | (apply goV_skip (by intro u; rfl))
       | (apply goV_val (.bool f6) (by intro u; rfl); · (intro u w hSw hF; have c0 := g5 w hSw; go_simp))
      try simp only [aput, List.set]
      first
       | (apply goV_skip (by intro u; rfl))
       | (apply goV_call (by intro u; rfl) C4; · (intro u w hSw hF; go_simp; try with_reducible rfl))
      try simp only [aput, List.set]
      iterate 4
       first
        | (apply goV_skip (by intro u; rfl))
        | (apply goV_val _ (by intro u; rfl); · (intro u w hSw hF; go_simp; try with_reducible rfl))
       try simp only [aput, List.set]
      first
       | (apply goV_skip (by intro u; rfl))
       | (apply goV_val (.slice a ads.length cap) (by intro u; rfl); · (intro u w hSw hF; have c0 := e7 w hSw; go_simp))
      try simp only [aput, List.set]
      iterate 2
       first
        | (apply goV_skip (by intro u; rfl))
        | (apply goV_val _ (by intro u; rfl); · (intro u w hSw hF; go_simp; try with_reducible rfl))
       try simp only [aput, List.set]
      first
       | (apply goV_skip (by intro u; rfl))
       | (apply goV_val (.bool true) (by intro u; rfl); · (intro u w hSw hF; have c0 := g6 w hSw; go_simp))
      try simp only [aput, List.set]
      first
       | (apply goV_skip (by intro u; rfl))
       | (apply goV_call (by intro u; rfl) C5; · (intro u w hSw hF; go_simp; try with_reducible rfl))
      try simp only [aput, List.set]
      iterate 4
       first
        | (apply goV_skip (by intro u; rfl))
        | (apply goV_val _ (by intro u; rfl); · (intro u w hSw hF; go_simp; try with_reducible rfl))
       try simp only [aput, List.set]
      first
       | (apply goV_skip (by intro u; rfl))
       | (apply goV_val (.int .u64 n) (by intro u; rfl); · (intro u w hSw hF; have c0 := e3 w hSw; go_simp))
      try simp only [aput, List.set]
      iterate 3
       first
        | (apply goV_skip (by intro u; rfl))
        | (apply goV_val _ (by intro u; rfl); · (intro u w hSw hF; go_simp; try with_reducible rfl))
       try simp only [aput, List.set]
      first
       | (apply goV_skip (by intro u; rfl))
       | (apply goV_val (.bool false) (by intro u; rfl); · (intro u w hSw hF; have c0 := g2 w hSw; go_simp))
      try simp only [aput, List.set]
      iterate 5
       first
        | (apply goV_skip (by intro u; rfl))
        | (apply goV_val _ (by intro u; rfl); · (intro u w hSw hF; go_simp; try with_reducible rfl))
       try simp only [aput, List.set]
      first
       | (apply goV_skip (by intro u; rfl))
       | (apply goV_val (.bool false) (by intro u; rfl); · (intro u w hSw hF; have c0 := e4 w hSw; go_simp))
      try simp only [aput, List.set]
      iterate 2
       first
        | (apply goV_skip (by intro u; rfl))
        | (apply goV_val _ (by intro u; rfl); · (intro u w hSw hF; go_simp; try with_reducible rfl))
       try simp only [aput, List.set]
      first
       | (apply goV_skip (by intro u; rfl))
       | (apply goV_val (.bool true) (by intro u; rfl); · (intro u w hSw hF; have c0 := g3 w hSw; go_simp))
      try simp only [aput, List.set]
      iterate 3
       first
        | (apply goV_skip (by intro u; rfl))
        | (apply goV_val _ (by intro u; rfl); · (intro u w hSw hF; go_simp; try with_reducible rfl))
       try simp only [aput, List.set]
      intro u w9 hx9 _
      go_wp2_with fail
      go_meet
      refine ⟨?_, hx9⟩
      rw [HB.out, hn1]; rfl
    case true =>
     cases f4
     case false =>
      refine wp_region_rgs ?_
      simp only [List.append]
      first
       | (apply goV_skip (by intro u; rfl))
       | (apply goV_val _ (by intro u; rfl); · (intro u w hSw hF; go_simp; try with_reducible rfl))
      try simp only [aput, List.set]
      first
       | (apply goV_skip (by intro u; rfl))
       | (apply goV_val (.int .i64 k) (by intro u; rfl); · (intro u w hSw hF; have c0 := e0 w hSw; go_simp))
      try simp only [aput, List.set]
      iterate 3
       first
        | (apply goV_skip (by intro u; rfl))
        | (apply goV_val _ (by intro u; rfl); · (intro u w hSw hF; go_simp; try with_reducible rfl))
       try simp only [aput, List.set]
      first
       | (apply goV_skip (by intro u; rfl))
       | (apply goV_val (.int .i64 k) (by intro u; rfl); · (intro u w hSw hF; have c0 := e0 w hSw; go_simp))
      try simp only [aput, List.set]
      iterate 4
       first
        | (apply goV_skip (by intro u; rfl))
        | (apply goV_val _ (by intro u; rfl); · (intro u w hSw hF; go_simp; try with_reducible rfl))
       try simp only [aput, List.set]
      first
       | (apply goV_skip (by intro u; rfl))
       | (apply goV_val (.int .i64 c) (by intro u; rfl); · (intro u w hSw hF; have c0 := e1 w hSw; go_simp))
      try simp only [aput, List.set]
      first
       | (apply goV_skip (by intro u; rfl))
       | (apply goV_val _ (by intro u; rfl); · (intro u w hSw hF; go_simp; try with_reducible rfl))
      try simp only [aput, List.set]
      first
       | (apply goV_skip (by intro u; rfl))
       | (apply goV_val (.bool f1) (by intro u; rfl); · (intro u w hSw hF; have c0 := g0 w hSw; go_simp))
      try simp only [aput, List.set]
      first
       | (apply goV_skip (by intro u; rfl))
       | (apply goV_call (by intro u; rfl) C1; · (intro u w hSw hF; go_simp; try with_reducible rfl))
      try simp only [aput, List.set]
      iterate 4
       first
        | (apply goV_skip (by intro u; rfl))
        | (apply goV_val _ (by intro u; rfl); · (intro u w hSw hF; go_simp; try with_reducible rfl))
       try simp only [aput, List.set]
      first
       | (apply goV_skip (by intro u; rfl))
       | (apply goV_val (.int .i64 at_) (by intro u; rfl); · (intro u w hSw hF; have c0 := e2 w hSw; go_simp))
      try simp only [aput, List.set]
      first
       | (apply goV_skip (by intro u; rfl))
       | (apply goV_val _ (by intro u; rfl); · (intro u w hSw hF; go_simp; try with_reducible rfl))
      try simp only [aput, List.set]
      first
       | (apply goV_skip (by intro u; rfl))
       | (apply goV_val (.bool f2) (by intro u; rfl); · (intro u w hSw hF; have c0 := g1 w hSw; go_simp))
      try simp only [aput, List.set]
      first
       | (apply goV_skip (by intro u; rfl))
       | (apply goV_call (by intro u; rfl) C2; · (intro u w hSw hF; go_simp; try with_reducible rfl))
      try simp only [aput, List.set]
      iterate 4
       first
        | (apply goV_skip (by intro u; rfl))
        | (apply goV_val _ (by intro u; rfl); · (intro u w hSw hF; go_simp; try with_reducible rfl))
       try simp only [aput, List.set]
      first
       | (apply goV_skip (by intro u; rfl))
       | (apply goV_val (.int .i64 rs) (by intro u; rfl); · (intro u w hSw hF; have c0 := e5 w hSw; go_simp))
      try simp only [aput, List.set]
      first
       | (apply goV_skip (by intro u; rfl))
       | (apply goV_val _ (by intro u; rfl); · (intro u w hSw hF; go_simp; try with_reducible rfl))
      try simp only [aput, List.set]
      first
       | (apply goV_skip (by intro u; rfl))
       | (apply goV_val (.bool f5) (by intro u; rfl); · (intro u w hSw hF; have c0 := g4 w hSw; go_simp))
      try simp only [aput, List.set]
      first
       | (apply goV_skip (by intro u; rfl))
       | (apply goV_call (by intro u; rfl) C3; · (intro u w hSw hF; go_simp; try with_reducible rfl))
      try simp only [aput, List.set]
      iterate 4
       first
        | (apply goV_skip (by intro u; rfl))
        | (apply goV_val _ (by intro u; rfl); · (intro u w hSw hF; go_simp; try with_reducible rfl))
       try simp only [aput, List.set]
      first
       | (apply goV_skip (by intro u; rfl))
       | (apply goV_val (.string d) (by intro u; rfl); · (intro u w hSw hF; have c0 := e6 w hSw; go_simp))
      try simp only [aput, List.set]
      iterate 2
       first
        | (apply goV_skip (by intro u; rfl))
        | (apply goV_val _ (by intro u; rfl); · (intro u w hSw hF; go_simp; try with_reducible rfl))
       try simp only [aput, List.set]
      first
       | (apply goV_skip (by intro u; rfl))
       | (apply goV_val (.bool f6) (by intro u; rfl); · (intro u w hSw hF; have c0 := g5 w hSw; go_simp))
      try simp only [aput, List.set]
      first
       | (apply goV_skip (by intro u; rfl))
       | (apply goV_call (by intro u; rfl) C4; · (intro u w hSw hF; go_simp; try with_reducible rfl))
      try simp only [aput, List.set]
      iterate 4
       first
        | (apply goV_skip (by intro u; rfl))
        | (apply goV_val _ (by intro u; rfl); · (intro u w hSw hF; go_simp; try with_reducible rfl))
       try simp only [aput, List.set]
      first
       | (apply goV_skip (by intro u; rfl))
       | (apply goV_val (.slice a ads.length cap) (by intro u; rfl); · (intro u w hSw hF; have c0 := e7 w hSw; go_simp))
      try simp only [aput, List.set]
      iterate 2
       first
        | (apply goV_skip (by intro u; rfl))
        | (apply goV_val _ (by intro u; rfl); · (intro u w hSw hF; go_simp; try with_reducible rfl))
       try simp only [aput, List.set]
      first
       | (apply goV_skip (by intro u; rfl))
       | (apply goV_val (.bool false) (by intro u; rfl); · (intro u w hSw hF; have c0 := g6 w hSw; go_simp))
      try simp only [aput, List.set]
      first
       | (apply goV_skip (by intro u; rfl))
       | (apply goV_call (by intro u; rfl) C5; · (intro u w hSw hF; go_simp; try with_reducible rfl))
      try simp only [aput, List.set]
      iterate 4
       first
        | (apply goV_skip (by intro u; rfl))
        | (apply goV_val _ (by intro u; rfl); · (intro u w hSw hF; go_simp; try with_reducible rfl))
       try simp only [aput, List.set]
      first
       | (apply goV_skip (by intro u; rfl))
       | (apply goV_val (.int .u64 n) (by intro u; rfl); · (intro u w hSw hF; have c0 := e3 w hSw; go_simp))
      try simp only [aput, List.set]
      iterate 3
       first
        | (apply goV_skip (by intro u; rfl))
        | (apply goV_val _ (by intro u; rfl); · (intro u w hSw hF; go_simp; try with_reducible rfl))
       try simp only [aput, List.set]
      first
       | (apply goV_skip (by intro u; rfl))
       | (apply goV_val (.bool false) (by intro u; rfl); · (intro u w hSw hF; have c0 := g2 w hSw; go_simp))
      try simp only [aput, List.set]
      iterate 5
       first
        | (apply goV_skip (by intro u; rfl))
        | (apply goV_val _ (by intro u; rfl); · (intro u w hSw hF; go_simp; try with_reducible rfl))
       try simp only [aput, List.set]
      first
       | (apply goV_skip (by intro u; rfl))
       | (apply goV_val (.bool true) (by intro u; rfl); · (intro u w hSw hF; have c0 := e4 w hSw; go_simp))
      try simp only [aput, List.set]
      iterate 2
       first
        | (apply goV_skip (by intro u; rfl))
        | (apply goV_val _ (by intro u; rfl); · (intro u w hSw hF; go_simp; try with_reducible rfl))
       try simp only [aput, List.set]
      first
       | (apply goV_skip (by intro u; rfl))
       | (apply goV_val (.bool false) (by intro u; rfl); · (intro u w hSw hF; have c0 := g3 w hSw; go_simp))
      try simp only [aput, List.set]
      iterate 3
       first
        | (apply goV_skip (by intro u; rfl))
        | (apply goV_val _ (by intro u; rfl); · (intro u w hSw hF; go_simp; try with_reducible rfl))
       try simp only [aput, List.set]
      intro u w9 hx9 _
      go_wp2_with fail
      go_meet
      refine ⟨?_, hx9⟩
      rw [HB.out, hn1]; rfl
     case true =>
      refine wp_region_rgs ?_
      simp only [List.append]
      first
       | (apply goV_skip (by intro u; rfl))
       | (apply goV_val _ (by intro u; rfl); · (intro u w hSw hF; go_simp; try with_reducible rfl))
      try simp only [aput, List.set]
      first
       | (apply goV_skip (by intro u; rfl))
       | (apply goV_val (.int .i64 k) (by intro u; rfl); · (intro u w hSw hF; have c0 := e0 w hSw; go_simp))
      try simp only [aput, List.set]
      iterate 3
       first
        | (apply goV_skip (by intro u; rfl))
        | (apply goV_val _ (by intro u; rfl); · (intro u w hSw hF; go_simp; try with_reducible rfl))
       try simp only [aput, List.set]
      first
       | (apply goV_skip (by intro u; rfl))
       | (apply goV_val (.int .i64 k) (by intro u; rfl); · (intro u w hSw hF; have c0 := e0 w hSw; go_simp))
      try simp only [aput, List.set]
      iterate 4
       first
        | (apply goV_skip (by intro u; rfl))
        | (apply goV_val _ (by intro u; rfl); · (intro u w hSw hF; go_simp; try with_reducible rfl))
       try simp only [aput, List.set]
      first
       | (apply goV_skip (by intro u; rfl))
       | (apply goV_val (.int .i64 c) (by intro u; rfl); · (intro u w hSw hF; have c0 := e1 w hSw; go_simp))
      try simp only [aput, List.set]
      first
       | (apply goV_skip (by intro u; rfl))
       | (apply goV_val _ (by intro u; rfl); · (intro u w hSw hF; go_simp; try with_reducible rfl))
      try simp only [aput, List.set]
      first
       | (apply goV_skip (by intro u; rfl))
       | (apply goV_val (.bool f1) (by intro u; rfl); · (intro u w hSw hF; have c0 := g0 w hSw; go_simp))
      try simp only [aput, List.set]
      first
       | (apply goV_skip (by intro u; rfl))
       | (apply goV_call (by intro u; rfl) C1; · (intro u w hSw hF; go_simp; try with_reducible rfl))
      try simp only [aput, List.set]
      iterate 4
       first
        | (apply goV_skip (by intro u; rfl))
        | (apply goV_val _ (by intro u; rfl); · (intro u w hSw hF; go_simp; try with_reducible rfl))
       try simp only [aput, List.set]
      first
       | (apply goV_skip (by intro u; rfl))
       | (apply goV_val (.int .i64 at_) (by intro u; rfl); · (intro u w hSw hF; have c0 := e2 w hSw; go_simp))
      try simp only [aput, List.set]
      first
       | (apply goV_skip (by intro u; rfl))
       | (apply goV_val _ (by intro u; rfl); · (intro u w hSw hF; go_simp; try with_reducible rfl))
      try simp only [aput, List.set]
      first
       | (apply goV_skip (by intro u; rfl))
       | (apply goV_val (.bool f2) (by intro u; rfl); · (intro u w hSw hF; have c0 := g1 w hSw; go_simp))
      try simp only [aput, List.set]
      first
       | (apply goV_skip (by intro u; rfl))
       | (apply goV_call (by intro u; rfl) C2; · (intro u w hSw hF; go_simp; try with_reducible rfl))
      try simp only [aput, List.set]
      iterate 4
       first
        | (apply goV_skip (by intro u; rfl))
        | (apply goV_val _ (by intro u; rfl); · (intro u w hSw hF; go_simp; try with_reducible rfl))
       try simp only [aput, List.set]
      first
       | (apply goV_skip (by intro u; rfl))
       | (apply goV_val (.int .i64 rs) (by intro u; rfl); · (intro u w hSw hF; have c0 := e5 w hSw; go_simp))
      try simp only [aput, List.set]
      first
       | (apply goV_skip (by intro u; rfl))
       | (apply goV_val _ (by intro u; rfl); · (intro u w hSw hF; go_simp; try with_reducible rfl))
      try simp only [aput, List.set]
      first
       | (apply goV_skip (by intro u; rfl))
       | (apply goV_val (.bool f5) (by intro u; rfl); · (intro u w hSw hF; have c0 := g4 w hSw; go_simp))
      try simp only [aput, List.set]
      first
       | (apply goV_skip (by intro u; rfl))
       | (apply goV_call (by intro u; rfl) C3; · (intro u w hSw hF; go_simp; try with_reducible rfl))
      try simp only [aput, List.set]
      iterate 4
       first
        | (apply goV_skip (by intro u; rfl))
        | (apply goV_val _ (by intro u; rfl); · (intro u w hSw hF; go_simp; try with_reducible rfl))
       try simp only [aput, List.set]
      first
       | (apply goV_skip (by intro u; rfl))
       | (apply goV_val (.string d) (by intro u; rfl); · (intro u w hSw hF; have c0 := e6 w hSw; go_simp))
      try simp only [aput, List.set]
      iterate 2
       first
        | (apply goV_skip (by intro u; rfl))
        | (apply goV_val _ (by intro u; rfl); · (intro u w hSw hF; go_simp; try with_reducible rfl))
       try simp only [aput, List.set]
      first
       | (apply goV_skip (by intro u; rfl))
       | (apply goV_val (.bool f6) (by intro u; rfl); · (intro u w hSw hF; have c0 := g5 w hSw; go_simp))
      try simp only [aput, List.set]
      first
       | (apply goV_skip (by intro u; rfl))
       | (apply goV_call (by intro u; rfl) C4; · (intro u w hSw hF; go_simp; try with_reducible rfl))
      try simp only [aput, List.set]
      iterate 4
       first
        | (apply goV_skip (by intro u; rfl))
        | (apply goV_val _ (by intro u; rfl); · (intro u w hSw hF; go_simp; try with_reducible rfl))
       try simp only [aput, List.set]
      first
       | (apply goV_skip (by intro u; rfl))
       | (apply goV_val (.slice a ads.length cap) (by intro u; rfl); · (intro u w hSw hF; have c0 := e7 w hSw; go_simp))
      try simp only [aput, List.set]
      iterate 2
       first
        | (apply goV_skip (by intro u; rfl))
        | (apply goV_val _ (by intro u; rfl); · (intro u w hSw hF; go_simp; try with_reducible rfl))
       try simp only [aput, List.set]
      first
       | (apply goV_skip (by intro u; rfl))
       | (apply goV_val (.bool true) (by intro u; rfl); · (intro u w hSw hF; have c0 := g6 w hSw; go_simp))
      try simp only [aput, List.set]
      first
       | (apply goV_skip (by intro u; rfl))
       | (apply goV_call (by intro u; rfl) C5; · (intro u w hSw hF; go_simp; try with_reducible rfl))
      try simp only [aput, List.set]
      iterate 4
       first
        | (apply goV_skip (by intro u; rfl))
        | (apply goV_val _ (by intro u; rfl); · (intro u w hSw hF; go_simp; try with_reducible rfl))
       try simp only [aput, List.set]
      first
       | (apply goV_skip (by intro u; rfl))
       | (apply goV_val (.int .u64 n) (by intro u; rfl); · (intro u w hSw hF; have c0 := e3 w hSw; go_simp))
      try simp only [aput, List.set]
      iterate 3
       first
        | (apply goV_skip (by intro u; rfl))
        | (apply goV_val _ (by intro u; rfl); · (intro u w hSw hF; go_simp; try with_reducible rfl))
       try simp only [aput, List.set]
      first
       | (apply goV_skip (by intro u; rfl))
       | (apply goV_val (.bool false) (by intro u; rfl); · (intro u w hSw hF; have c0 := g2 w hSw; go_simp))
      try simp only [aput, List.set]
      iterate 5
       first
        | (apply goV_skip (by intro u; rfl))
        | (apply goV_val _ (by intro u; rfl); · (intro u w hSw hF; go_simp; try with_reducible rfl))
       try simp only [aput, List.set]
      first
       | (apply goV_skip (by intro u; rfl))
       | (apply goV_val (.bool true) (by intro u; rfl); · (intro u w hSw hF; have c0 := e4 w hSw; go_simp))
      try simp only [aput, List.set]
      iterate 2
       first
        | (apply goV_skip (by intro u; rfl))
        | (apply goV_val _ (by intro u; rfl); · (intro u w hSw hF; go_simp; try with_reducible rfl))
       try simp only [aput, List.set]
      first
       | (apply goV_skip (by intro u; rfl))
       | (apply goV_val (.bool true) (by intro u; rfl); · (intro u w hSw hF; have c0 := g3 w hSw; go_simp))
      try simp only [aput, List.set]
      iterate 3
       first
        | (apply goV_skip (by intro u; rfl))
        | (apply goV_val _ (by intro u; rfl); · (intro u w hSw hF; go_simp; try with_reducible rfl))
       try simp only [aput, List.set]
      intro u w9 hx9 _
      go_wp2_with fail
      go_meet
      refine ⟨?_, hx9⟩
      rw [HB.out, hn1]; rfl
   case true =>
    cases v6
    case false =>
     cases f4
     case false =>
      refine wp_region_rgs ?_
      simp only [List.append]
      first
       | (apply goV_skip (by intro u; rfl))
       | (apply goV_val _ (by intro u; rfl); · (intro u w hSw hF; go_simp; try with_reducible rfl))
      try simp only [aput, List.set]
      first
       | (apply goV_skip (by intro u; rfl))
       | (apply goV_val (.int .i64 k) (by intro u; rfl); · (intro u w hSw hF; have c0 := e0 w hSw; go_simp))
      try simp only [aput, List.set]
      iterate 3
       first
        | (apply goV_skip (by intro u; rfl))
        | (apply goV_val _ (by intro u; rfl); · (intro u w hSw hF; go_simp; try with_reducible rfl))
       try simp only [aput, List.set]
      first
       | (apply goV_skip (by intro u; rfl))
       | (apply goV_val (.int .i64 k) (by intro u; rfl); · (intro u w hSw hF; have c0 := e0 w hSw; go_simp))
      try simp only [aput, List.set]
      iterate 4
       first
        | (apply goV_skip (by intro u; rfl))
        | (apply goV_val _ (by intro u; rfl); · (intro u w hSw hF; go_simp; try with_reducible rfl))
       try simp only [aput, List.set]
      first
       | (apply goV_skip (by intro u; rfl))
       | (apply goV_val (.int .i64 c) (by intro u; rfl); · (intro u w hSw hF; have c0 := e1 w hSw; go_simp))
      try simp only [aput, List.set]
      first
       | (apply goV_skip (by intro u; rfl))
       | (apply goV_val _ (by intro u; rfl); · (intro u w hSw hF; go_simp; try with_reducible rfl))
      try simp only [aput, List.set]
      first
       | (apply goV_skip (by intro u; rfl))
       | (apply goV_val (.bool f1) (by intro u; rfl); · (intro u w hSw hF; have c0 := g0 w hSw; go_simp))
      try simp only [aput, List.set]
      first
       | (apply goV_skip (by intro u; rfl))
       | (apply goV_call (by intro u; rfl) C1; · (intro u w hSw hF; go_simp; try with_reducible rfl))
      try simp only [aput, List.set]
      iterate 4
       first
        | (apply goV_skip (by intro u; rfl))
        | (apply goV_val _ (by intro u; rfl); · (intro u w hSw hF; go_simp; try with_reducible rfl))
       try simp only [aput, List.set]
      first
       | (apply goV_skip (by intro u; rfl))
       | (apply goV_val (.int .i64 at_) (by intro u; rfl); · (intro u w hSw hF; have c0 := e2 w hSw; go_simp))
      try simp only [aput, List.set]
      first
       | (apply goV_skip (by intro u; rfl))
       | (apply goV_val _ (by intro u; rfl); · (intro u w hSw hF; go_simp; try with_reducible rfl))
      try simp only [aput, List.set]
      first
       | (apply goV_skip (by intro u; rfl))
       | (apply goV_val (.bool f2) (by intro u; rfl); · (intro u w hSw hF; have c0 := g1 w hSw; go_simp))
      try simp only [aput, List.set]
      first
       | (apply goV_skip (by intro u; rfl))
       | (apply goV_call (by intro u; rfl) C2; · (intro u w hSw hF; go_simp; try with_reducible rfl))
      try simp only [aput, List.set]
      iterate 4
       first
        | (apply goV_skip (by intro u; rfl))
        | (apply goV_val _ (by intro u; rfl); · (intro u w hSw hF; go_simp; try with_reducible rfl))
       try simp only [aput, List.set]
      first
       | (apply goV_skip (by intro u; rfl))
       | (apply goV_val (.int .i64 rs) (by intro u; rfl); · (intro u w hSw hF; have c0 := e5 w hSw; go_simp))
      try simp only [aput, List.set]
      first
       | (apply goV_skip (by intro u; rfl))
       | (apply goV_val _ (by intro u; rfl); · (intro u w hSw hF; go_simp; try with_reducible rfl))
      try simp only [aput, List.set]
      first
       | (apply goV_skip (by intro u; rfl))
       | (apply goV_val (.bool f5) (by intro u; rfl); · (intro u w hSw hF; have c0 := g4 w hSw; go_simp))
      try simp only [aput, List.set]
      first
       | (apply goV_skip (by intro u; rfl))
       | (apply goV_call (by intro u; rfl) C3; · (intro u w hSw hF; go_simp; try with_reducible rfl))
      try simp only [aput, List.set]
      iterate 4
       first
        | (apply goV_skip (by intro u; rfl))
        | (apply goV_val _ (by intro u; rfl); · (intro u w hSw hF; go_simp; try with_reducible rfl))
       try simp only [aput, List.set]
      first
       | (apply goV_skip (by intro u; rfl))
       | (apply goV_val (.string d) (by intro u; rfl); · (intro u w hSw hF; have c0 := e6 w hSw; go_simp))
      try simp only [aput, List.set]
      iterate 2
       first
        | (apply goV_skip (by intro u; rfl))
        | (apply goV_val _ (by intro u; rfl); · (intro u w hSw hF; go_simp; try with_reducible rfl))
       try simp only [aput, List.set]
      first
       | (apply goV_skip (by intro u; rfl))
       | (apply goV_val (.bool f6) (by intro u; rfl); · (intro u w hSw hF; have c0 := g5 w hSw; go_simp))
      try simp only [aput, List.set]
      first
       | (apply goV_skip (by intro u; rfl))
       | (apply goV_call (by intro u; rfl) C4; · (intro u w hSw hF; go_simp; try with_reducible rfl))
      try simp only [aput, List.set]
      iterate 4
       first
        | (apply goV_skip (by intro u; rfl))
        | (apply goV_val _ (by intro u; rfl); · (intro u w hSw hF; go_simp; try with_reducible rfl))
       try simp only [aput, List.set]
      first
       | (apply goV_skip (by intro u; rfl))
       | (apply goV_val (.slice a ads.length cap) (by intro u; rfl); · (intro u w hSw hF; have c0 := e7 w hSw; go_simp))
      try simp only [aput, List.set]
      iterate 2
       first
        | (apply goV_skip (by intro u; rfl))
        | (apply goV_val _ (by intro u; rfl); · (intro u w hSw hF; go_simp; try with_reducible rfl))
       try simp only [aput, List.set]
      first
       | (apply goV_skip (by intro u; rfl))
       | (apply goV_val (.bool false) (by intro u; rfl); · (intro u w hSw hF; have c0 := g6 w hSw; go_simp))
      try simp only [aput, List.set]
      first
       | (apply goV_skip (by intro u; rfl))
       | (apply goV_call (by intro u; rfl) C5; · (intro u w hSw hF; go_simp; try with_reducible rfl))
      try simp only [aput, List.set]
      iterate 4
       first
        | (apply goV_skip (by intro u; rfl))
        | (apply goV_val _ (by intro u; rfl); · (intro u w hSw hF; go_simp; try with_reducible rfl))
       try simp only [aput, List.set]
      first
       | (apply goV_skip (by intro u; rfl))
       | (apply goV_val (.int .u64 n) (by intro u; rfl); · (intro u w hSw hF; have c0 := e3 w hSw; go_simp))
      try simp only [aput, List.set]
      iterate 3
       first
        | (apply goV_skip (by intro u; rfl))
        | (apply goV_val _ (by intro u; rfl); · (intro u w hSw hF; go_simp; try with_reducible rfl))
       try simp only [aput, List.set]
      first
       | (apply goV_skip (by intro u; rfl))
       | (apply goV_val (.bool true) (by intro u; rfl); · (intro u w hSw hF; have c0 := g2 w hSw; go_simp))
      try simp only [aput, List.set]
      iterate 5
       first
        | (apply goV_skip (by intro u; rfl))
        | (apply goV_val _ (by intro u; rfl); · (intro u w hSw hF; go_simp; try with_reducible rfl))
       try simp only [aput, List.set]
      first
       | (apply goV_skip (by intro u; rfl))
       | (apply goV_val (.bool false) (by intro u; rfl); · (intro u w hSw hF; have c0 := e4 w hSw; go_simp))
      try simp only [aput, List.set]
      iterate 2
       first
        | (apply goV_skip (by intro u; rfl))
        | (apply goV_val _ (by intro u; rfl); · (intro u w hSw hF; go_simp; try with_reducible rfl))
       try simp only [aput, List.set]
      first
       | (apply goV_skip (by intro u; rfl))
       | (apply goV_val (.bool false) (by intro u; rfl); · (intro u w hSw hF; have c0 := g3 w hSw; go_simp))
      try simp only [aput, List.set]
      iterate 3
       first
        | (apply goV_skip (by intro u; rfl))
        | (apply goV_val _ (by intro u; rfl); · (intro u w hSw hF; go_simp; try with_reducible rfl))
       try simp only [aput, List.set]
      intro u w9 hx9 _
      go_wp2_with fail
      go_meet
      refine ⟨?_, hx9⟩
      rw [HB.out, hn1]; rfl
     case true =>
      refine wp_region_rgs ?_
      simp only [List.append]
      first
       | (apply goV_skip (by intro u; rfl))
       | (apply goV_val _ (by intro u; rfl); · (intro u w hSw hF; go_simp; try with_reducible rfl))
      try simp only [aput, List.set]
      first
       | (apply goV_skip (by intro u; rfl))
       | (apply goV_val (.int .i64 k) (by intro u; rfl); · (intro u w hSw hF; have c0 := e0 w hSw; go_simp))
      try simp only [aput, List.set]
      iterate 3
       first
        | (apply goV_skip (by intro u; rfl))
        | (apply goV_val _ (by intro u; rfl); · (intro u w hSw hF; go_simp; try with_reducible rfl))
       try simp only [aput, List.set]
      first
       | (apply goV_skip (by intro u; rfl))
       | (apply goV_val (.int .i64 k) (by intro u; rfl); · (intro u w hSw hF; have c0 := e0 w hSw; go_simp))
      try simp only [aput, List.set]
      iterate 4
       first
        | (apply goV_skip (by intro u; rfl))
        | (apply goV_val _ (by intro u; rfl); · (intro u w hSw hF; go_simp; try with_reducible rfl))
       try simp only [aput, List.set]
      first
       | (apply goV_skip (by intro u; rfl))
       | (apply goV_val (.int .i64 c) (by intro u; rfl); · (intro u w hSw hF; have c0 := e1 w hSw; go_simp))
      try simp only [aput, List.set]
      first
       | (apply goV_skip (by intro u; rfl))
       | (apply goV_val _ (by intro u; rfl); · (intro u w hSw hF; go_simp; try with_reducible rfl))
      try simp only [aput, List.set]
      first
       | (apply goV_skip (by intro u; rfl))
       | (apply goV_val (.bool f1) (by intro u; rfl); · (intro u w hSw hF; have c0 := g0 w hSw; go_simp))
      try simp only [aput, List.set]
      first
       | (apply goV_skip (by intro u; rfl))
       | (apply goV_call (by intro u; rfl) C1; · (intro u w hSw hF; go_simp; try with_reducible rfl))
      try simp only [aput, List.set]
      iterate 4
       first
        | (apply goV_skip (by intro u; rfl))
        | (apply goV_val _ (by intro u; rfl); · (intro u w hSw hF; go_simp; try with_reducible rfl))
       try simp only [aput, List.set]
      first
       | (apply goV_skip (by intro u; rfl))
       | (apply goV_val (.int .i64 at_) (by intro u; rfl); · (intro u w hSw hF; have c0 := e2 w hSw; go_simp))
      try simp only [aput, List.set]
      first
       | (apply goV_skip (by intro u; rfl))
       | (apply goV_val _ (by intro u; rfl); · (intro u w hSw hF; go_simp; try with_reducible rfl))
      try simp only [aput, List.set]
      first
       | (apply goV_skip (by intro u; rfl))
       | (apply goV_val (.bool f2) (by intro u; rfl); · (intro u w hSw hF; have c0 := g1 w hSw; go_simp))
      try simp only [aput, List.set]
      first
       | (apply goV_skip (by intro u; rfl))
       | (apply goV_call (by intro u; rfl) C2; · (intro u w hSw hF; go_simp; try with_reducible rfl))
      try simp only [aput, List.set]
      iterate 4
       first
        | (apply goV_skip (by intro u; rfl))
        | (apply goV_val _ (by intro u; rfl); · (intro u w hSw hF; go_simp; try with_reducible rfl))
       try simp only [aput, List.set]
      first
       | (apply goV_skip (by intro u; rfl))
       | (apply goV_val (.int .i64 rs) (by intro u; rfl); · (intro u w hSw hF; have c0 := e5 w hSw; go_simp))
      try simp only [aput, List.set]
      first
       | (apply goV_skip (by intro u; rfl))
       | (apply goV_val _ (by intro u; rfl); · (intro u w hSw hF; go_simp; try with_reducible rfl))
      try simp only [aput, List.set]
      first
       | (apply goV_skip (by intro u; rfl))
       | (apply goV_val (.bool f5) (by intro u; rfl); · (intro u w hSw hF; have c0 := g4 w hSw; go_simp))
      try simp only [aput, List.set]
      first
       | (apply goV_skip (by intro u; rfl))
       | (apply goV_call (by intro u; rfl) C3; · (intro u w hSw hF; go_simp; try with_reducible rfl))
      try simp only [aput, List.set]
      iterate 4
       first
        | (apply goV_skip (by intro u; rfl))
        | (apply goV_val _ (by intro u; rfl); · (intro u w hSw hF; go_simp; try with_reducible rfl))
       try simp only [aput, List.set]
      first
       | (apply goV_skip (by intro u; rfl))
       | (apply goV_val (.string d) (by intro u; rfl); · (intro u w hSw hF; have c0 := e6 w hSw; go_simp))
      try simp only [aput, List.set]
      iterate 2
       first
        | (apply goV_skip (by intro u; rfl))
        | (apply goV_val _ (by intro u; rfl); · (intro u w hSw hF; go_simp; try with_reducible rfl))
       try simp only [aput, List.set]
      first
       | (apply goV_skip (by intro u; rfl))
       | (apply goV_val (.bool f6) (by intro u; rfl); · (intro u w hSw hF; have c0 := g5 w hSw; go_simp))
      try simp only [aput, List.set]
      first
       | (apply goV_skip (by intro u; rfl))
       | (apply goV_call (by intro u; rfl) C4; · (intro u w hSw hF; go_simp; try with_reducible rfl))
      try simp only [aput, List.set]
      iterate 4
       first
        | (apply goV_skip (by intro u; rfl))
        | (apply goV_val _ (by intro u; rfl); · (intro u w hSw hF; go_simp; try with_reducible rfl))
       try simp only [aput, List.set]
      first
       | (apply goV_skip (by intro u; rfl))
       | (apply goV_val (.slice a ads.length cap) (by intro u; rfl); · (intro u w hSw hF; have c0 := e7 w hSw; go_simp))
      try simp only [aput, List.set]
      iterate 2
       first
        | (apply goV_skip (by intro u; rfl))
        | (apply goV_val _ (by intro u; rfl); · (intro u w hSw hF; go_simp; try with_reducible rfl))
       try simp only [aput, List.set]
      first
       | (apply goV_skip (by intro u; rfl))
       | (apply goV_val (.bool true) (by intro u; rfl); · (intro u w hSw hF; have c0 := g6 w hSw; go_simp))
      try simp only [aput, List.set]
      first
       | (apply goV_skip (by intro u; rfl))
       | (apply goV_call (by intro u; rfl) C5; · (intro u w hSw hF; go_simp; try with_reducible rfl))
      try simp only [aput, List.set]
      iterate 4
       first
        | (apply goV_skip (by intro u; rfl))
        | (apply goV_val _ (by intro u; rfl); · (intro u w hSw hF; go_simp; try with_reducible rfl))
       try simp only [aput, List.set]
      first
       | (apply goV_skip (by intro u; rfl))
       | (apply goV_val (.int .u64 n) (by intro u; rfl); · (intro u w hSw hF; have c0 := e3 w hSw; go_simp))
      try simp only [aput, List.set]
      iterate 3
       first
        | (apply goV_skip (by intro u; rfl))
        | (apply goV_val _ (by intro u; rfl); · (intro u w hSw hF; go_simp; try with_reducible rfl))
       try simp only [aput, List.set]
      first
       | (apply goV_skip (by intro u; rfl))
       | (apply goV_val (.bool true) (by intro u; rfl); · (intro u w hSw hF; have c0 := g2 w hSw; go_simp))
      try simp only [aput, List.set]
      iterate 5
       first
        | (apply goV_skip (by intro u; rfl))
        | (apply goV_val _ (by intro u; rfl); · (intro u w hSw hF; go_simp; try with_reducible rfl))
       try simp only [aput, List.set]
      first
       | (apply goV_skip (by intro u; rfl))
       | (apply goV_val (.bool false) (by intro u; rfl); · (intro u w hSw hF; have c0 := e4 w hSw; go_simp))
      try simp only [aput, List.set]
      iterate 2
       first
        | (apply goV_skip (by intro u; rfl))
        | (apply goV_val _ (by intro u; rfl); · (intro u w hSw hF; go_simp; try with_reducible rfl))
       try simp only [aput, List.set]
      first
       | (apply goV_skip (by intro u; rfl))
       | (apply goV_val (.bool true) (by intro u; rfl); · (intro u w hSw hF; have c0 := g3 w hSw; go_simp))
      try simp only [aput, List.set]
      iterate 3
       first
        | (apply goV_skip (by intro u; rfl))
        | (apply goV_val _ (by intro u; rfl); · (intro u w hSw hF; go_simp; try with_reducible rfl))
       try simp only [aput, List.set]
      intro u w9 hx9 _
      go_wp2_with fail
      go_meet
      refine ⟨?_, hx9⟩
      rw [HB.out, hn1]; rfl
    case true =>
     cases f4
     case false =>
      refine wp_region_rgs ?_
      simp only [List.append]
      first
       | (apply goV_skip (by intro u; rfl))
       | (apply goV_val _ (by intro u; rfl); · (intro u w hSw hF; go_simp; try with_reducible rfl))
      try simp only [aput, List.set]
      first
       | (apply goV_skip (by intro u; rfl))
       | (apply goV_val (.int .i64 k) (by intro u; rfl); · (intro u w hSw hF; have c0 := e0 w hSw; go_simp))
      try simp only [aput, List.set]
      iterate 3
       first
        | (apply goV_skip (by intro u; rfl))
        | (apply goV_val _ (by intro u; rfl); · (intro u w hSw hF; go_simp; try with_reducible rfl))
       try simp only [aput, List.set]
      first
       | (apply goV_skip (by intro u; rfl))
       | (apply goV_val (.int .i64 k) (by intro u; rfl); · (intro u w hSw hF; have c0 := e0 w hSw; go_simp))
      try simp only [aput, List.set]
      iterate 4
       first
        | (apply goV_skip (by intro u; rfl))
        | (apply goV_val _ (by intro u; rfl); · (intro u w hSw hF; go_simp; try with_reducible rfl))
       try simp only [aput, List.set]
      first
       | (apply goV_skip (by intro u; rfl))
       | (apply goV_val (.int .i64 c) (by intro u; rfl); · (intro u w hSw hF; have c0 := e1 w hSw; go_simp))
      try simp only [aput, List.set]
      first
       | (apply goV_skip (by intro u; rfl))
       | (apply goV_val _ (by intro u; rfl); · (intro u w hSw hF; go_simp; try with_reducible rfl))
      try simp only [aput, List.set]
      first
       | (apply goV_skip (by intro u; rfl))
       | (apply goV_val (.bool f1) (by intro u; rfl); · (intro u w hSw hF; have c0 := g0 w hSw; go_simp))
      try simp only [aput, List.set]
      first
       | (apply goV_skip (by intro u; rfl))
       | (apply goV_call (by intro u; rfl) C1; · (intro u w hSw hF; go_simp; try with_reducible rfl))
      try simp only [aput, List.set]
      iterate 4
       first
        | (apply goV_skip (by intro u; rfl))
        | (apply goV_val _ (by intro u; rfl); · (intro u w hSw hF; go_simp; try with_reducible rfl))
       try simp only [aput, List.set]
      first
       | (apply goV_skip (by intro u; rfl))
       | (apply goV_val (.int .i64 at_) (by intro u; rfl); · (intro u w hSw hF; have c0 := e2 w hSw; go_simp))
      try simp only [aput, List.set]
      first
       | (apply goV_skip (by intro u; rfl))
       | (apply goV_val _ (by intro u; rfl); · (intro u w hSw hF; go_simp; try with_reducible rfl))
      try simp only [aput, List.set]
      first
       | (apply goV_skip (by intro u; rfl))
       | (apply goV_val (.bool f2) (by intro u; rfl); · (intro u w hSw hF; have c0 := g1 w hSw; go_simp))
      try simp only [aput, List.set]
      first
       | (apply goV_skip (by intro u; rfl))
       | (apply goV_call (by intro u; rfl) C2; · (intro u w hSw hF; go_simp; try with_reducible rfl))
      try simp only [aput, List.set]
      iterate 4
       first
        | (apply goV_skip (by intro u; rfl))
        | (apply goV_val _ (by intro u; rfl); · (intro u w hSw hF; go_simp; try with_reducible rfl))
       try simp only [aput, List.set]
      first
       | (apply goV_skip (by intro u; rfl))
       | (apply goV_val (.int .i64 rs) (by intro u; rfl); · (intro u w hSw hF; have c0 := e5 w hSw; go_simp))
      try simp only [aput, List.set]
      first
       | (apply goV_skip (by intro u; rfl))
       | (apply goV_val _ (by intro u; rfl); · (intro u w hSw hF; go_simp; try with_reducible rfl))
      try simp only [aput, List.set]
      first
       | (apply goV_skip (by intro u; rfl))
       | (apply goV_val (.bool f5) (by intro u; rfl); · (intro u w hSw hF; have c0 := g4 w hSw; go_simp))
      try simp only [aput, List.set]
      first
       | (apply goV_skip (by intro u; rfl))
       | (apply goV_call (by intro u; rfl) C3; · (intro u w hSw hF; go_simp; try with_reducible rfl))
      try simp only [aput, List.set]
      iterate 4
       first
        | (apply goV_skip (by intro u; rfl))
        | (apply goV_val _ (by intro u; rfl); · (intro u w hSw hF; go_simp; try with_reducible rfl))
       try simp only [aput, List.set]
      first
       | (apply goV_skip (by intro u; rfl))
       | (apply goV_val (.string d) (by intro u; rfl); · (intro u w hSw hF; have c0 := e6 w hSw; go_simp))
      try simp only [aput, List.set]
      iterate 2
       first
        | (apply goV_skip (by intro u; rfl))
        | (apply goV_val _ (by intro u; rfl); · (intro u w hSw hF; go_simp; try with_reducible rfl))
       try simp only [aput, List.set]
      first
       | (apply goV_skip (by intro u; rfl))
       | (apply goV_val (.bool f6) (by intro u; rfl); · (intro u w hSw hF; have c0 := g5 w hSw; go_simp))
      try simp only [aput, List.set]
      first
       | (apply goV_skip (by intro u; rfl))
       | (apply goV_call (by intro u; rfl) C4; · (intro u w hSw hF; go_simp; try with_reducible rfl))
      try simp only [aput, List.set]
      iterate 4
       first
        | (apply goV_skip (by intro u; rfl))
        | (apply goV_val _ (by intro u; rfl); · (intro u w hSw hF; go_simp; try with_reducible rfl))
       try simp only [aput, List.set]
      first
       | (apply goV_skip (by intro u; rfl))
       | (apply goV_val (.slice a ads.length cap) (by intro u; rfl); · (intro u w hSw hF; have c0 := e7 w hSw; go_simp))
      try simp only [aput, List.set]
      iterate 2
       first
        | (apply goV_skip (by intro u; rfl))
        | (apply goV_val _ (by intro u; rfl); · (intro u w hSw hF; go_simp; try with_reducible rfl))
       try simp only [aput, List.set]
      first
       | (apply goV_skip (by intro u; rfl))
       | (apply goV_val (.bool false) (by intro u; rfl); · (intro u w hSw hF; have c0 := g6 w hSw; go_simp))
      try simp only [aput, List.set]
      first
       | (apply goV_skip (by intro u; rfl))
       | (apply goV_call (by intro u; rfl) C5; · (intro u w hSw hF; go_simp; try with_reducible rfl))
      try simp only [aput, List.set]
      iterate 4
       first
        | (apply goV_skip (by intro u; rfl))
        | (apply goV_val _ (by intro u; rfl); · (intro u w hSw hF; go_simp; try with_reducible rfl))
       try simp only [aput, List.set]
      first
       | (apply goV_skip (by intro u; rfl))
       | (apply goV_val (.int .u64 n) (by intro u; rfl); · (intro u w hSw hF; have c0 := e3 w hSw; go_simp))
      try simp only [aput, List.set]
      iterate 3
       first
        | (apply goV_skip (by intro u; rfl))
        | (apply goV_val _ (by intro u; rfl); · (intro u w hSw hF; go_simp; try with_reducible rfl))
       try simp only [aput, List.set]
      first
       | (apply goV_skip (by intro u; rfl))
       | (apply goV_val (.bool true) (by intro u; rfl); · (intro u w hSw hF; have c0 := g2 w hSw; go_simp))
      try simp only [aput, List.set]
      iterate 5
       first
        | (apply goV_skip (by intro u; rfl))
        | (apply goV_val _ (by intro u; rfl); · (intro u w hSw hF; go_simp; try with_reducible rfl))
       try simp only [aput, List.set]
      first
       | (apply goV_skip (by intro u; rfl))
       | (apply goV_val (.bool true) (by intro u; rfl); · (intro u w hSw hF; have c0 := e4 w hSw; go_simp))
      try simp only [aput, List.set]
      iterate 2
       first
        | (apply goV_skip (by intro u; rfl))
        | (apply goV_val _ (by intro u; rfl); · (intro u w hSw hF; go_simp; try with_reducible rfl))
       try simp only [aput, List.set]
      first
       | (apply goV_skip (by intro u; rfl))
       | (apply goV_val (.bool false) (by intro u; rfl); · (intro u w hSw hF; have c0 := g3 w hSw; go_simp))
      try simp only [aput, List.set]
      iterate 3
       first
        | (apply goV_skip (by intro u; rfl))
        | (apply goV_val _ (by intro u; rfl); · (intro u w hSw hF; go_simp; try with_reducible rfl))
       try simp only [aput, List.set]
      intro u w9 hx9 _
      go_wp2_with fail
      go_meet
      refine ⟨?_, hx9⟩
      rw [HB.out, hn1]; rfl
     case true =>
      refine wp_region_rgs ?_
      simp only [List.append]
      first
       | (apply goV_skip (by intro u; rfl))
       | (apply goV_val _ (by intro u; rfl); · (intro u w hSw hF; go_simp; try with_reducible rfl))
      try simp only [aput, List.set]
      first
       | (apply goV_skip (by intro u; rfl))
       | (apply goV_val (.int .i64 k) (by intro u; rfl); · (intro u w hSw hF; have c0 := e0 w hSw; go_simp))
      try simp only [aput, List.set]
      iterate 3
       first
        | (apply goV_skip (by intro u; rfl))
        | (apply goV_val _ (by intro u; rfl); · (intro u w hSw hF; go_simp; try with_reducible rfl))
       try simp only [aput, List.set]
      first
       | (apply goV_skip (by intro u; rfl))
       | (apply goV_val (.int .i64 k) (by intro u; rfl); · (intro u w hSw hF; have c0 := e0 w hSw; go_simp))
      try simp only [aput, List.set]
      iterate 4
       first
        | (apply goV_skip (by intro u; rfl))
        | (apply goV_val _ (by intro u; rfl); · (intro u w hSw hF; go_simp; try with_reducible rfl))
       try simp only [aput, List.set]
      first
       | (apply goV_skip (by intro u; rfl))
       | (apply goV_val (.int .i64 c) (by intro u; rfl); · (intro u w hSw hF; have c0 := e1 w hSw; go_simp))
      try simp only [aput, List.set]
      first
       | (apply goV_skip (by intro u; rfl))
       | (apply goV_val _ (by intro u; rfl); · (intro u w hSw hF; go_simp; try with_reducible rfl))
      try simp only [aput, List.set]
      first
       | (apply goV_skip (by intro u; rfl))
       | (apply goV_val (.bool f1) (by intro u; rfl); · (intro u w hSw hF; have c0 := g0 w hSw; go_simp))
      try simp only [aput, List.set]
      first
       | (apply goV_skip (by intro u; rfl))
       | (apply goV_call (by intro u; rfl) C1; · (intro u w hSw hF; go_simp; try with_reducible rfl))
      try simp only [aput, List.set]
      iterate 4
       first
        | (apply goV_skip (by intro u; rfl))
        | (apply goV_val _ (by intro u; rfl); · (intro u w hSw hF; go_simp; try with_reducible rfl))
       try simp only [aput, List.set]
      first
       | (apply goV_skip (by intro u; rfl))
       | (apply goV_val (.int .i64 at_) (by intro u; rfl); · (intro u w hSw hF; have c0 := e2 w hSw; go_simp))
      try simp only [aput, List.set]
      first
       | (apply goV_skip (by intro u; rfl))
       | (apply goV_val _ (by intro u; rfl); · (intro u w hSw hF; go_simp; try with_reducible rfl))
      try simp only [aput, List.set]
      first
       | (apply goV_skip (by intro u; rfl))
       | (apply goV_val (.bool f2) (by intro u; rfl); · (intro u w hSw hF; have c0 := g1 w hSw; go_simp))
      try simp only [aput, List.set]
      first
       | (apply goV_skip (by intro u; rfl))
       | (apply goV_call (by intro u; rfl) C2; · (intro u w hSw hF; go_simp; try with_reducible rfl))
      try simp only [aput, List.set]
      iterate 4
       first
        | (apply goV_skip (by intro u; rfl))
        | (apply goV_val _ (by intro u; rfl); · (intro u w hSw hF; go_simp; try with_reducible rfl))
       try simp only [aput, List.set]
      first
       | (apply goV_skip (by intro u; rfl))
       | (apply goV_val (.int .i64 rs) (by intro u; rfl); · (intro u w hSw hF; have c0 := e5 w hSw; go_simp))
      try simp only [aput, List.set]
      first
       | (apply goV_skip (by intro u; rfl))
       | (apply goV_val _ (by intro u; rfl); · (intro u w hSw hF; go_simp; try with_reducible rfl))
      try simp only [aput, List.set]
      first
       | (apply goV_skip (by intro u; rfl))
       | (apply goV_val (.bool f5) (by intro u; rfl); · (intro u w hSw hF; have c0 := g4 w hSw; go_simp))
      try simp only [aput, List.set]
      first
       | (apply goV_skip (by intro u; rfl))
       | (apply goV_call (by intro u; rfl) C3; · (intro u w hSw hF; go_simp; try with_reducible rfl))
      try simp only [aput, List.set]
      iterate 4
       first
        | (apply goV_skip (by intro u; rfl))
        | (apply goV_val _ (by intro u; rfl); · (intro u w hSw hF; go_simp; try with_reducible rfl))
       try simp only [aput, List.set]
      first
       | (apply goV_skip (by intro u; rfl))
       | (apply goV_val (.string d) (by intro u; rfl); · (intro u w hSw hF; have c0 := e6 w hSw; go_simp))
      try simp only [aput, List.set]
      iterate 2
       first
        | (apply goV_skip (by intro u; rfl))
        | (apply goV_val _ (by intro u; rfl); · (intro u w hSw hF; go_simp; try with_reducible rfl))
       try simp only [aput, List.set]
      first
       | (apply goV_skip (by intro u; rfl))
       | (apply goV_val (.bool f6) (by intro u; rfl); · (intro u w hSw hF; have c0 := g5 w hSw; go_simp))
      try simp only [aput, List.set]
      first
       | (apply goV_skip (by intro u; rfl))
       | (apply goV_call (by intro u; rfl) C4; · (intro u w hSw hF; go_simp; try with_reducible rfl))
      try simp only [aput, List.set]
      iterate 4
       first
        | (apply goV_skip (by intro u; rfl))
        | (apply goV_val _ (by intro u; rfl); · (intro u w hSw hF; go_simp; try with_reducible rfl))
       try simp only [aput, List.set]
      first
       | (apply goV_skip (by intro u; rfl))
       | (apply goV_val (.slice a ads.length cap) (by intro u; rfl); · (intro u w hSw hF; have c0 := e7 w hSw; go_simp))
      try simp only [aput, List.set]
      iterate 2
       first
        | (apply goV_skip (by intro u; rfl))
        | (apply goV_val _ (by intro u; rfl); · (intro u w hSw hF; go_simp; try with_reducible rfl))
       try simp only [aput, List.set]
      first
       | (apply goV_skip (by intro u; rfl))
       | (apply goV_val (.bool true) (by intro u; rfl); · (intro u w hSw hF; have c0 := g6 w hSw; go_simp))
      try simp only [aput, List.set]
      first
       | (apply goV_skip (by intro u; rfl))
       | (apply goV_call (by intro u; rfl) C5; · (intro u w hSw hF; go_simp; try with_reducible rfl))
      try simp only [aput, List.set]
      iterate 4
       first
        | (apply goV_skip (by intro u; rfl))
        | (apply goV_val _ (by intro u; rfl); · (intro u w hSw hF; go_simp; try with_reducible rfl))
       try simp only [aput, List.set]
      first
       | (apply goV_skip (by intro u; rfl))
       | (apply goV_val (.int .u64 n) (by intro u; rfl); · (intro u w hSw hF; have c0 := e3 w hSw; go_simp))
      try simp only [aput, List.set]
      iterate 3
       first
        | (apply goV_skip (by intro u; rfl))
        | (apply goV_val _ (by intro u; rfl); · (intro u w hSw hF; go_simp; try with_reducible rfl))
       try simp only [aput, List.set]
      first
       | (apply goV_skip (by intro u; rfl))
       | (apply goV_val (.bool true) (by intro u; rfl); · (intro u w hSw hF; have c0 := g2 w hSw; go_simp))
      try simp only [aput, List.set]
      iterate 5
       first
        | (apply goV_skip (by intro u; rfl))
        | (apply goV_val _ (by intro u; rfl); · (intro u w hSw hF; go_simp; try with_reducible rfl))
       try simp only [aput, List.set]
      first
       | (apply goV_skip (by intro u; rfl))
       | (apply goV_val (.bool true) (by intro u; rfl); · (intro u w hSw hF; have c0 := e4 w hSw; go_simp))
      try simp only [aput, List.set]
      iterate 2
       first
        | (apply goV_skip (by intro u; rfl))
        | (apply goV_val _ (by intro u; rfl); · (intro u w hSw hF; go_simp; try with_reducible rfl))
       try simp only [aput, List.set]
      first
       | (apply goV_skip (by intro u; rfl))
       | (apply goV_val (.bool true) (by intro u; rfl); · (intro u w hSw hF; have c0 := g3 w hSw; go_simp))
      try simp only [aput, List.set]
      iterate 3
       first
        | (apply goV_skip (by intro u; rfl))
        | (apply goV_val _ (by intro u; rfl); · (intro u w hSw hF; go_simp; try with_reducible rfl))
       try simp only [aput, List.set]
      intro u w9 hx9 _
      go_wp2_with fail
      go_meet
      refine ⟨?_, hx9⟩
      rw [HB.out, hn1]; rfl
  ·have hn1 : (n == 0) = false := by simp [hn]
   have hn2 : (n != 0) = true := by simp [hn]
   have hn3 : decide (n = 0) = false := by simp [hn]
   have HN := Lib.hid hn
   cases f3
   case false =>
    cases v6
    case false =>
     cases f4
     case false =>
      refine wp_region_rgs ?_
      simp only [List.append]
      first
       | (apply goV_skip (by intro u; rfl))
       | (apply goV_val _ (by intro u; rfl); · (intro u w hSw hF; go_simp; try with_reducible rfl))
      try simp only [aput, List.set]
      first
       | (apply goV_skip (by intro u; rfl))
       | (apply goV_val (.int .i64 k) (by intro u; rfl); · (intro u w hSw hF; have c0 := e0 w hSw; go_simp))
      try simp only [aput, List.set]
      iterate 3
       first
        | (apply goV_skip (by intro u; rfl))
        | (apply goV_val _ (by intro u; rfl); · (intro u w hSw hF; go_simp; try with_reducible rfl))
       try simp only [aput, List.set]
      first
       | (apply goV_skip (by intro u; rfl))
       | (apply goV_val (.int .i64 k) (by intro u; rfl); · (intro u w hSw hF; have c0 := e0 w hSw; go_simp))
      try simp only [aput, List.set]
      iterate 4
       first
        | (apply goV_skip (by intro u; rfl))
        | (apply goV_val _ (by intro u; rfl); · (intro u w hSw hF; go_simp; try with_reducible rfl))
       try simp only [aput, List.set]
      first
       | (apply goV_skip (by intro u; rfl))
       | (apply goV_val (.int .i64 c) (by intro u; rfl); · (intro u w hSw hF; have c0 := e1 w hSw; go_simp))
      try simp only [aput, List.set]
      first
       | (apply goV_skip (by intro u; rfl))
       | (apply goV_val _ (by intro u; rfl); · (intro u w hSw hF; go_simp; try with_reducible rfl))
      try simp only [aput, List.set]
      first
       | (apply goV_skip (by intro u; rfl))
       | (apply goV_val (.bool f1) (by intro u; rfl); · (intro u w hSw hF; have c0 := g0 w hSw; go_simp))
      try simp only [aput, List.set]
      first
       | (apply goV_skip (by intro u; rfl))
       | (apply goV_call (by intro u; rfl) C1; · (intro u w hSw hF; go_simp; try with_reducible rfl))
      try simp only [aput, List.set]
      iterate 4
       first
        | (apply goV_skip (by intro u; rfl))
        | (apply goV_val _ (by intro u; rfl); · (intro u w hSw hF; go_simp; try with_reducible rfl))
       try simp only [aput, List.set]
      first
       | (apply goV_skip (by intro u; rfl))
       | (apply goV_val (.int .i64 at_) (by intro u; rfl); · (intro u w hSw hF; have c0 := e2 w hSw; go_simp))
      try simp only [aput, List.set]
      first
       | (apply goV_skip (by intro u; rfl))
       | (apply goV_val _ (by intro u; rfl); · (intro u w hSw hF; go_simp; try with_reducible rfl))
      try simp only [aput, List.set]
      first
       | (apply goV_skip (by intro u; rfl))
       | (apply goV_val (.bool f2) (by intro u; rfl); · (intro u w hSw hF; have c0 := g1 w hSw; go_simp))
      try simp only [aput, List.set]
      first
       | (apply goV_skip (by intro u; rfl))
       | (apply goV_call (by intro u; rfl) C2; · (intro u w hSw hF; go_simp; try with_reducible rfl))
      try simp only [aput, List.set]
      iterate 4
       first
        | (apply goV_skip (by intro u; rfl))
        | (apply goV_val _ (by intro u; rfl); · (intro u w hSw hF; go_simp; try with_reducible rfl))
       try simp only [aput, List.set]
      first
       | (apply goV_skip (by intro u; rfl))
       | (apply goV_val (.int .i64 rs) (by intro u; rfl); · (intro u w hSw hF; have c0 := e5 w hSw; go_simp))
      try simp only [aput, List.set]
      first
       | (apply goV_skip (by intro u; rfl))
       | (apply goV_val _ (by intro u; rfl); · (intro u w hSw hF; go_simp; try with_reducible rfl))
      try simp only [aput, List.set]
      first
       | (apply goV_skip (by intro u; rfl))
       | (apply goV_val (.bool f5) (by intro u; rfl); · (intro u w hSw hF; have c0 := g4 w hSw; go_simp))
      try simp only [aput, List.set]
      first
       | (apply goV_skip (by intro u; rfl))
       | (apply goV_call (by intro u; rfl) C3; · (intro u w hSw hF; go_simp; try with_reducible rfl))
      try simp only [aput, List.set]
      iterate 4
       first
        | (apply goV_skip (by intro u; rfl))
        | (apply goV_val _ (by intro u; rfl); · (intro u w hSw hF; go_simp; try with_reducible rfl))
       try simp only [aput, List.set]
      first
       | (apply goV_skip (by intro u; rfl))
       | (apply goV_val (.string d) (by intro u; rfl); · (intro u w hSw hF; have c0 := e6 w hSw; go_simp))
      try simp only [aput, List.set]
      iterate 2
       first
        | (apply goV_skip (by intro u; rfl))
        | (apply goV_val _ (by intro u; rfl); · (intro u w hSw hF; go_simp; try with_reducible rfl))
       try simp only [aput, List.set]
      first
       | (apply goV_skip (by intro u; rfl))
       | (apply goV_val (.bool f6) (by intro u; rfl); · (intro u w hSw hF; have c0 := g5 w hSw; go_simp))
      try simp only [aput, List.set]
      first
       | (apply goV_skip (by intro u; rfl))
       | (apply goV_call (by intro u; rfl) C4; · (intro u w hSw hF; go_simp; try with_reducible rfl))
      try simp only [aput, List.set]
      iterate 4
       first
        | (apply goV_skip (by intro u; rfl))
        | (apply goV_val _ (by intro u; rfl); · (intro u w hSw hF; go_simp; try with_reducible rfl))
       try simp only [aput, List.set]
      first
       | (apply goV_skip (by intro u; rfl))
       | (apply goV_val (.slice a ads.length cap) (by intro u; rfl); · (intro u w hSw hF; have c0 := e7 w hSw; go_simp))
      try simp only [aput, List.set]
      iterate 2
       first
        | (apply goV_skip (by intro u; rfl))
        | (apply goV_val _ (by intro u; rfl); · (intro u w hSw hF; go_simp; try with_reducible rfl))
       try simp only [aput, List.set]
      first
       | (apply goV_skip (by intro u; rfl))
       | (apply goV_val (.bool false) (by intro u; rfl); · (intro u w hSw hF; have c0 := g6 w hSw; go_simp))
      try simp only [aput, List.set]
      first
       | (apply goV_skip (by intro u; rfl))
       | (apply goV_call (by intro u; rfl) C5; · (intro u w hSw hF; go_simp; try with_reducible rfl))
      try simp only [aput, List.set]
      iterate 4
       first
        | (apply goV_skip (by intro u; rfl))
        | (apply goV_val _ (by intro u; rfl); · (intro u w hSw hF; go_simp; try with_reducible rfl))
       try simp only [aput, List.set]
      first
       | (apply goV_skip (by intro u; rfl))
       | (apply goV_val (.int .u64 n) (by intro u; rfl); · (intro u w hSw hF; have c0 := e3 w hSw; go_simp))
      try simp only [aput, List.set]
      iterate 3
       first
        | (apply goV_skip (by intro u; rfl))
        | (apply goV_val _ (by intro u; rfl); · (intro u w hSw hF; go_simp; try with_reducible rfl))
       try simp only [aput, List.set]
      first
       | (apply goV_skip (by intro u; rfl))
       | (apply goV_val (.bool false) (by intro u; rfl); · (intro u w hSw hF; have c0 := g2 w hSw; go_simp))
      try simp only [aput, List.set]
      iterate 5
       first
        | (apply goV_skip (by intro u; rfl))
        | (apply goV_val _ (by intro u; rfl); · (intro u w hSw hF; go_simp; try with_reducible rfl))
       try simp only [aput, List.set]
      first
       | (apply goV_skip (by intro u; rfl))
       | (apply goV_val (.bool false) (by intro u; rfl); · (intro u w hSw hF; have c0 := e4 w hSw; go_simp))
      try simp only [aput, List.set]
      iterate 2
       first
        | (apply goV_skip (by intro u; rfl))
        | (apply goV_val _ (by intro u; rfl); · (intro u w hSw hF; go_simp; try with_reducible rfl))
       try simp only [aput, List.set]
      first
       | (apply goV_skip (by intro u; rfl))
       | (apply goV_val (.bool false) (by intro u; rfl); · (intro u w hSw hF; have c0 := g3 w hSw; go_simp))
      try simp only [aput, List.set]
      iterate 3
       first
        | (apply goV_skip (by intro u; rfl))
        | (apply goV_val _ (by intro u; rfl); · (intro u w hSw hF; go_simp; try with_reducible rfl))
       try simp only [aput, List.set]
      intro u w9 hx9 _
      go_wp2_with fail
      go_meet
      refine ⟨?_, hx9⟩
      rw [HB.out, hn1]; rfl
     case true =>
      refine wp_region_rgs ?_
      simp only [List.append]
      first
       | (apply goV_skip (by intro u; rfl))
       | (apply goV_val _ (by intro u; rfl); · (intro u w hSw hF; go_simp; try with_reducible rfl))
      try simp only [aput, List.set]
      first
       | (apply goV_skip (by intro u; rfl))
       | (apply goV_val (.int .i64 k) (by intro u; rfl); · (intro u w hSw hF; have c0 := e0 w hSw; go_simp))
      try simp only [aput, List.set]
      iterate 3
       first
        | (apply goV_skip (by intro u; rfl))
        | (apply goV_val _ (by intro u; rfl); · (intro u w hSw hF; go_simp; try with_reducible rfl))
       try simp only [aput, List.set]
      first
       | (apply goV_skip (by intro u; rfl))
       | (apply goV_val (.int .i64 k) (by intro u; rfl); · (intro u w hSw hF; have c0 := e0 w hSw; go_simp))
      try simp only [aput, List.set]
      iterate 4
       first
        | (apply goV_skip (by intro u; rfl))
        | (apply goV_val _ (by intro u; rfl); · (intro u w hSw hF; go_simp; try with_reducible rfl))
       try simp only [aput, List.set]
      first
       | (apply goV_skip (by intro u; rfl))
       | (apply goV_val (.int .i64 c) (by intro u; rfl); · (intro u w hSw hF; have c0 := e1 w hSw; go_simp))
      try simp only [aput, List.set]
      first
       | (apply goV_skip (by intro u; rfl))
       | (apply goV_val _ (by intro u; rfl); · (intro u w hSw hF; go_simp; try with_reducible rfl))
      try simp only [aput, List.set]
      first
       | (apply goV_skip (by intro u; rfl))
       | (apply goV_val (.bool f1) (by intro u; rfl); · (intro u w hSw hF; have c0 := g0 w hSw; go_simp))
      try simp only [aput, List.set]
      first
       | (apply goV_skip (by intro u; rfl))
       | (apply goV_call (by intro u; rfl) C1; · (intro u w hSw hF; go_simp; try with_reducible rfl))
      try simp only [aput, List.set]
      iterate 4
       first
        | (apply goV_skip (by intro u; rfl))
        | (apply goV_val _ (by intro u; rfl); · (intro u w hSw hF; go_simp; try with_reducible rfl))
       try simp only [aput, List.set]
      first
       | (apply goV_skip (by intro u; rfl))
       | (apply goV_val (.int .i64 at_) (by intro u; rfl); · (intro u w hSw hF; have c0 := e2 w hSw; go_simp))
      try simp only [aput, List.set]
      first
       | (apply goV_skip (by intro u; rfl))
       | (apply goV_val _ (by intro u; rfl); · (intro u w hSw hF; go_simp; try with_reducible rfl))
      try simp only [aput, List.set]
      first
       | (apply goV_skip (by intro u; rfl))
       | (apply goV_val (.bool f2) (by intro u; rfl); · (intro u w hSw hF; have c0 := g1 w hSw; go_simp))
      try simp only [aput, List.set]
      first
       | (apply goV_skip (by intro u; rfl))
       | (apply goV_call (by intro u; rfl) C2; · (intro u w hSw hF; go_simp; try with_reducible rfl))
      try simp only [aput, List.set]
      iterate 4
       first
        | (apply goV_skip (by intro u; rfl))
        | (apply goV_val _ (by intro u; rfl); · (intro u w hSw hF; go_simp; try with_reducible rfl))
       try simp only [aput, List.set]
      first
       | (apply goV_skip (by intro u; rfl))
       | (apply goV_val (.int .i64 rs) (by intro u; rfl); · (intro u w hSw hF; have c0 := e5 w hSw; go_simp))
      try simp only [aput, List.set]
      first
       | (apply goV_skip (by intro u; rfl))
       | (apply goV_val _ (by intro u; rfl); · (intro u w hSw hF; go_simp; try with_reducible rfl))
      try simp only [aput, List.set]
      first
       | (apply goV_skip (by intro u; rfl))
       | (apply goV_val (.bool f5) (by intro u; rfl); · (intro u w hSw hF; have c0 := g4 w hSw; go_simp))
      try simp only [aput, List.set]
      first
       | (apply goV_skip (by intro u; rfl))
       | (apply goV_call (by intro u; rfl) C3; · (intro u w hSw hF; go_simp; try with_reducible rfl))
      try simp only [aput, List.set]
      iterate 4
       first
        | (apply goV_skip (by intro u; rfl))
        | (apply goV_val _ (by intro u; rfl); · (intro u w hSw hF; go_simp; try with_reducible rfl))
       try simp only [aput, List.set]
      first
       | (apply goV_skip (by intro u; rfl))
       | (apply goV_val (.string d) (by intro u; rfl); · (intro u w hSw hF; have c0 := e6 w hSw; go_simp))
      try simp only [aput, List.set]
      iterate 2
       first
        | (apply goV_skip (by intro u; rfl))
        | (apply goV_val _ (by intro u; rfl); · (intro u w hSw hF; go_simp; try with_reducible rfl))
       try simp only [aput, List.set]
      first
       | (apply goV_skip (by intro u; rfl))
       | (apply goV_val (.bool f6) (by intro u; rfl); · (intro u w hSw hF; have c0 := g5 w hSw; go_simp))
      try simp only [aput, List.set]
      first
       | (apply goV_skip (by intro u; rfl))
       | (apply goV_call (by intro u; rfl) C4; · (intro u w hSw hF; go_simp; try with_reducible rfl))
      try simp only [aput, List.set]
      iterate 4
       first
        | (apply goV_skip (by intro u; rfl))
        | (apply goV_val _ (by intro u; rfl); · (intro u w hSw hF; go_simp; try with_reducible rfl))
       try simp only [aput, List.set]
      first
       | (apply goV_skip (by intro u; rfl))
       | (apply goV_val (.slice a ads.length cap) (by intro u; rfl); · (intro u w hSw hF; have c0 := e7 w hSw; go_simp))
      try simp only [aput, List.set]
      iterate 2
       first
        | (apply goV_skip (by intro u; rfl))
        | (apply goV_val _ (by intro u; rfl); · (intro u w hSw hF; go_simp; try with_reducible rfl))
       try simp only [aput, List.set]
      first
       | (apply goV_skip (by intro u; rfl))
       | (apply goV_val (.bool true) (by intro u; rfl); · (intro u w hSw hF; have c0 := g6 w hSw; go_simp))
      try simp only [aput, List.set]
      first
       | (apply goV_skip (by intro u; rfl))
       | (apply goV_call (by intro u; rfl) C5; · (intro u w hSw hF; go_simp; try with_reducible rfl))
      try simp only [aput, List.set]
      iterate 4
       first
        | (apply goV_skip (by intro u; rfl))
        | (apply goV_val _ (by intro u; rfl); · (intro u w hSw hF; go_simp; try with_reducible rfl))
       try simp only [aput, List.set]
      first
       | (apply goV_skip (by intro u; rfl))
       | (apply goV_val (.int .u64 n) (by intro u; rfl); · (intro u w hSw hF; have c0 := e3 w hSw; go_simp))
      try simp only [aput, List.set]
      iterate 3
       first
        | (apply goV_skip (by intro u; rfl))
        | (apply goV_val _ (by intro u; rfl); · (intro u w hSw hF; go_simp; try with_reducible rfl))
       try simp only [aput, List.set]
      first
       | (apply goV_skip (by intro u; rfl))
       | (apply goV_val (.bool false) (by intro u; rfl); · (intro u w hSw hF; have c0 := g2 w hSw; go_simp))
      try simp only [aput, List.set]
      iterate 5
       first
        | (apply goV_skip (by intro u; rfl))
        | (apply goV_val _ (by intro u; rfl); · (intro u w hSw hF; go_simp; try with_reducible rfl))
       try simp only [aput, List.set]
      first
       | (apply goV_skip (by intro u; rfl))
       | (apply goV_val (.bool false) (by intro u; rfl); · (intro u w hSw hF; have c0 := e4 w hSw; go_simp))
      try simp only [aput, List.set]
      iterate 2
       first
        | (apply goV_skip (by intro u; rfl))
        | (apply goV_val _ (by intro u; rfl); · (intro u w hSw hF; go_simp; try with_reducible rfl))
       try simp only [aput, List.set]
      first
       | (apply goV_skip (by intro u; rfl))
       | (apply goV_val (.bool true) (by intro u; rfl); · (intro u w hSw hF; have c0 := g3 w hSw; go_simp))
      try simp only [aput, List.set]
      iterate 3
       first
        | (apply goV_skip (by intro u; rfl))
        | (apply goV_val _ (by intro u; rfl); · (intro u w hSw hF; go_simp; try with_reducible rfl))
       try simp only [aput, List.set]
      intro u w9 hx9 _
      go_wp2_with fail
      go_meet
      refine ⟨?_, hx9⟩
      rw [HB.out, hn1]; rfl
    case true =>
     cases f4
     case false =>
      refine wp_region_rgs ?_
      simp only [List.append]
      first
       | (apply goV_skip (by intro u; rfl))
       | (apply goV_val _ (by intro u; rfl); · (intro u w hSw hF; go_simp; try with_reducible rfl))
      try simp only [aput, List.set]
      first
       | (apply goV_skip (by intro u; rfl))
       | (apply goV_val (.int .i64 k) (by intro u; rfl); · (intro u w hSw hF; have c0 := e0 w hSw; go_simp))
      try simp only [aput, List.set]
      iterate 3
       first
        | (apply goV_skip (by intro u; rfl))
        | (apply goV_val _ (by intro u; rfl); · (intro u w hSw hF; go_simp; try with_reducible rfl))
       try simp only [aput, List.set]
      first
       | (apply goV_skip (by intro u; rfl))
       | (apply goV_val (.int .i64 k) (by intro u; rfl); · (intro u w hSw hF; have c0 := e0 w hSw; go_simp))
      try simp only [aput, List.set]
      iterate 4
       first
        | (apply goV_skip (by intro u; rfl))
        | (apply goV_val _ (by intro u; rfl); · (intro u w hSw hF; go_simp; try with_reducible rfl))
       try simp only [aput, List.set]
      first
       | (apply goV_skip (by intro u; rfl))
       | (apply goV_val (.int .i64 c) (by intro u; rfl); · (intro u w hSw hF; have c0 := e1 w hSw; go_simp))
      try simp only [aput, List.set]
      first
       | (apply goV_skip (by intro u; rfl))
       | (apply goV_val _ (by intro u; rfl); · (intro u w hSw hF; go_simp; try with_reducible rfl))
      try simp only [aput, List.set]
      first
       | (apply goV_skip (by intro u; rfl))
       | (apply goV_val (.bool f1) (by intro u; rfl); · (intro u w hSw hF; have c0 := g0 w hSw; go_simp))
      try simp only [aput, List.set]
      first
       | (apply goV_skip (by intro u; rfl))
       | (apply goV_call (by intro u; rfl) C1; · (intro u w hSw hF; go_simp; try with_reducible rfl))
      try simp only [aput, List.set]
      iterate 4
       first
        | (apply goV_skip (by intro u; rfl))
        | (apply goV_val _ (by intro u; rfl); · (intro u w hSw hF; go_simp; try with_reducible rfl))
       try simp only [aput, List.set]
      first
       | (apply goV_skip (by intro u; rfl))
       | (apply goV_val (.int .i64 at_) (by intro u; rfl); · (intro u w hSw hF; have c0 := e2 w hSw; go_simp))
      try simp only [aput, List.set]
      first
       | (apply goV_skip (by intro u; rfl))
       | (apply goV_val _ (by intro u; rfl); · (intro u w hSw hF; go_simp; try with_reducible rfl))
      try simp only [aput, List.set]
      first
       | (apply goV_skip (by intro u; rfl))
       | (apply goV_val (.bool f2) (by intro u; rfl); · (intro u w hSw hF; have c0 := g1 w hSw; go_simp))
      try simp only [aput, List.set]
      first
       | (apply goV_skip (by intro u; rfl))
       | (apply goV_call (by intro u; rfl) C2; · (intro u w hSw hF; go_simp; try with_reducible rfl))
      try simp only [aput, List.set]
      iterate 4
       first
        | (apply goV_skip (by intro u; rfl))
        | (apply goV_val _ (by intro u; rfl); · (intro u w hSw hF; go_simp; try with_reducible rfl))
       try simp only [aput, List.set]
      first
       | (apply goV_skip (by intro u; rfl))
       | (apply goV_val (.int .i64 rs) (by intro u; rfl); · (intro u w hSw hF; have c0 := e5 w hSw; go_simp))
      try simp only [aput, List.set]
      first
       | (apply goV_skip (by intro u; rfl))
       | (apply goV_val _ (by intro u; rfl); · (intro u w hSw hF; go_simp; try with_reducible rfl))
      try simp only [aput, List.set]
      first
       | (apply goV_skip (by intro u; rfl))
       | (apply goV_val (.bool f5) (by intro u; rfl); · (intro u w hSw hF; have c0 := g4 w hSw; go_simp))
      try simp only [aput, List.set]
      first
       | (apply goV_skip (by intro u; rfl))
       | (apply goV_call (by intro u; rfl) C3; · (intro u w hSw hF; go_simp; try with_reducible rfl))
      try simp only [aput, List.set]
      iterate 4
       first
        | (apply goV_skip (by intro u; rfl))
        | (apply goV_val _ (by intro u; rfl); · (intro u w hSw hF; go_simp; try with_reducible rfl))
       try simp only [aput, List.set]
      first
       | (apply goV_skip (by intro u; rfl))
       | (apply goV_val (.string d) (by intro u; rfl); · (intro u w hSw hF; have c0 := e6 w hSw; go_simp))
      try simp only [aput, List.set]
      iterate 2
       first
        | (apply goV_skip (by intro u; rfl))
        | (apply goV_val _ (by intro u; rfl); · (intro u w hSw hF; go_simp; try with_reducible rfl))
       try simp only [aput, List.set]
      first
       | (apply goV_skip (by intro u; rfl))
       | (apply goV_val (.bool f6) (by intro u; rfl); · (intro u w hSw hF; have c0 := g5 w hSw; go_simp))
      try simp only [aput, List.set]
      first
       | (apply goV_skip (by intro u; rfl))
       | (apply goV_call (by intro u; rfl) C4; · (intro u w hSw hF; go_simp; try with_reducible rfl))
      try simp only [aput, List.set]
      iterate 4
       first
        | (apply goV_skip (by intro u; rfl))
        | (apply goV_val _ (by intro u; rfl); · (intro u w hSw hF; go_simp; try with_reducible rfl))
       try simp only [aput, List.set]
      first
       | (apply goV_skip (by intro u; rfl))
       | (apply goV_val (.slice a ads.length cap) (by intro u; rfl); · (intro u w hSw hF; have c0 := e7 w hSw; go_simp))
      try simp only [aput, List.set]
      iterate 2
       first
        | (apply goV_skip (by intro u; rfl))
        | (apply goV_val _ (by intro u; rfl); · (intro u w hSw hF; go_simp; try with_reducible rfl))
       try simp only [aput, List.set]
      first
       | (apply goV_skip (by intro u; rfl))
       | (apply goV_val (.bool false) (by intro u; rfl); · (intro u w hSw hF; have c0 := g6 w hSw; go_simp))
      try simp only [aput, List.set]
      first
       | (apply goV_skip (by intro u; rfl))
       | (apply goV_call (by intro u; rfl) C5; · (intro u w hSw hF; go_simp; try with_reducible rfl))
      try simp only [aput, List.set]
      iterate 4
       first
        | (apply goV_skip (by intro u; rfl))
        | (apply goV_val _ (by intro u; rfl); · (intro u w hSw hF; go_simp; try with_reducible rfl))
       try simp only [aput, List.set]
      first
       | (apply goV_skip (by intro u; rfl))
       | (apply goV_val (.int .u64 n) (by intro u; rfl); · (intro u w hSw hF; have c0 := e3 w hSw; go_simp))
      try simp only [aput, List.set]
      iterate 3
       first
        | (apply goV_skip (by intro u; rfl))
        | (apply goV_val _ (by intro u; rfl); · (intro u w hSw hF; go_simp; try with_reducible rfl))
       try simp only [aput, List.set]
      first
       | (apply goV_skip (by intro u; rfl))
       | (apply goV_val (.bool false) (by intro u; rfl); · (intro u w hSw hF; have c0 := g2 w hSw; go_simp))
      try simp only [aput, List.set]
      iterate 5
       first
        | (apply goV_skip (by intro u; rfl))
        | (apply goV_val _ (by intro u; rfl); · (intro u w hSw hF; go_simp; try with_reducible rfl))
       try simp only [aput, List.set]
      first
       | (apply goV_skip (by intro u; rfl))
       | (apply goV_val (.bool true) (by intro u; rfl); · (intro u w hSw hF; have c0 := e4 w hSw; go_simp))
      try simp only [aput, List.set]
      iterate 2
       first
        | (apply goV_skip (by intro u; rfl))
        | (apply goV_val _ (by intro u; rfl); · (intro u w hSw hF; go_simp; try with_reducible rfl))
       try simp only [aput, List.set]
      first
       | (apply goV_skip (by intro u; rfl))
       | (apply goV_val (.bool false) (by intro u; rfl); · (intro u w hSw hF; have c0 := g3 w hSw; go_simp))
      try simp only [aput, List.set]
      iterate 3
       first
        | (apply goV_skip (by intro u; rfl))
        | (apply goV_val _ (by intro u; rfl); · (intro u w hSw hF; go_simp; try with_reducible rfl))
       try simp only [aput, List.set]
      intro u w9 hx9 _
      go_wp2_with fail
      go_meet
      refine ⟨?_, hx9⟩
      rw [HB.out, hn1]; rfl
     case true =>
      refine wp_region_rgs ?_
      simp only [List.append]
      first
       | (apply goV_skip (by intro u; rfl))
       | (apply goV_val _ (by intro u; rfl); · (intro u w hSw hF; go_simp; try with_reducible rfl))
      try simp only [aput, List.set]
      first
       | (apply goV_skip (by intro u; rfl))
       | (apply goV_val (.int .i64 k) (by intro u; rfl); · (intro u w hSw hF; have c0 := e0 w hSw; go_simp))
      try simp only [aput, List.set]
      iterate 3
       first
        | (apply goV_skip (by intro u; rfl))
        | (apply goV_val _ (by intro u; rfl); · (intro u w hSw hF; go_simp; try with_reducible rfl))
       try simp only [aput, List.set]
      first
       | (apply goV_skip (by intro u; rfl))
       | (apply goV_val (.int .i64 k) (by intro u; rfl); · (intro u w hSw hF; have c0 := e0 w hSw; go_simp))
      try simp only [aput, List.set]
      iterate 4
       first
        | (apply goV_skip (by intro u; rfl))
        | (apply goV_val _ (by intro u; rfl); · (intro u w hSw hF; go_simp; try with_reducible rfl))
       try simp only [aput, List.set]
      first
       | (apply goV_skip (by intro u; rfl))
       | (apply goV_val (.int .i64 c) (by intro u; rfl); · (intro u w hSw hF; have c0 := e1 w hSw; go_simp))
      try simp only [aput, List.set]
      first
       | (apply goV_skip (by intro u; rfl))
       | (apply goV_val _ (by intro u; rfl); · (intro u w hSw hF; go_simp; try with_reducible rfl))
      try simp only [aput, List.set]
      first
       | (apply goV_skip (by intro u; rfl))
       | (apply goV_val (.bool f1) (by intro u; rfl); · (intro u w hSw hF; have c0 := g0 w hSw; go_simp))
      try simp only [aput, List.set]
      first
       | (apply goV_skip (by intro u; rfl))
       | (apply goV_call (by intro u; rfl) C1; · (intro u w hSw hF; go_simp; try with_reducible rfl))
      try simp only [aput, List.set]
      iterate 4
       first
        | (apply goV_skip (by intro u; rfl))
        | (apply goV_val _ (by intro u; rfl); · (intro u w hSw hF; go_simp; try with_reducible rfl))
       try simp only [aput, List.set]
      first
       | (apply goV_skip (by intro u; rfl))
       | (apply goV_val (.int .i64 at_) (by intro u; rfl); · (intro u w hSw hF; have c0 := e2 w hSw; go_simp))
      try simp only [aput, List.set]
      first
       | (apply goV_skip (by intro u; rfl))
       | (apply goV_val _ (by intro u; rfl); · (intro u w hSw hF; go_simp; try with_reducible rfl))
      try simp only [aput, List.set]
      first
       | (apply goV_skip (by intro u; rfl))
       | (apply goV_val (.bool f2) (by intro u; rfl); · (intro u w hSw hF; have c0 := g1 w hSw; go_simp))
      try simp only [aput, List.set]
      first
       | (apply goV_skip (by intro u; rfl))
       | (apply goV_call (by intro u; rfl) C2; · (intro u w hSw hF; go_simp; try with_reducible rfl))
      try simp only [aput, List.set]
      iterate 4
       first
        | (apply goV_skip (by intro u; rfl))
        | (apply goV_val _ (by intro u; rfl); · (intro u w hSw hF; go_simp; try with_reducible rfl))
       try simp only [aput, List.set]
      first
       | (apply goV_skip (by intro u; rfl))
       | (apply goV_val (.int .i64 rs) (by intro u; rfl); · (intro u w hSw hF; have c0 := e5 w hSw; go_simp))
      try simp only [aput, List.set]
      first
       | (apply goV_skip (by intro u; rfl))
       | (apply goV_val _ (by intro u; rfl); · (intro u w hSw hF; go_simp; try with_reducible rfl))
      try simp only [aput, List.set]
      first
       | (apply goV_skip (by intro u; rfl))
       | (apply goV_val (.bool f5) (by intro u; rfl); · (intro u w hSw hF; have c0 := g4 w hSw; go_simp))
      try simp only [aput, List.set]
      first
       | (apply goV_skip (by intro u; rfl))
       | (apply goV_call (by intro u; rfl) C3; · (intro u w hSw hF; go_simp; try with_reducible rfl))
      try simp only [aput, List.set]
      iterate 4
       first
        | (apply goV_skip (by intro u; rfl))
        | (apply goV_val _ (by intro u; rfl); · (intro u w hSw hF; go_simp; try with_reducible rfl))
       try simp only [aput, List.set]
      first
       | (apply goV_skip (by intro u; rfl))
       | (apply goV_val (.string d) (by intro u; rfl); · (intro u w hSw hF; have c0 := e6 w hSw; go_simp))
      try simp only [aput, List.set]
      iterate 2
       first
        | (apply goV_skip (by intro u; rfl))
        | (apply goV_val _ (by intro u; rfl); · (intro u w hSw hF; go_simp; try with_reducible rfl))
       try simp only [aput, List.set]
      first
       | (apply goV_skip (by intro u; rfl))
       | (apply goV_val (.bool f6) (by intro u; rfl); · (intro u w hSw hF; have c0 := g5 w hSw; go_simp))
      try simp only [aput, List.set]
      first
       | (apply goV_skip (by intro u; rfl))
       | (apply goV_call (by intro u; rfl) C4; · (intro u w hSw hF; go_simp; try with_reducible rfl))
      try simp only [aput, List.set]
      iterate 4
       first
        | (apply goV_skip (by intro u; rfl))
        | (apply goV_val _ (by intro u; rfl); · (intro u w hSw hF; go_simp; try with_reducible rfl))
       try simp only [aput, List.set]
      first
       | (apply goV_skip (by intro u; rfl))
       | (apply goV_val (.slice a ads.length cap) (by intro u; rfl); · (intro u w hSw hF; have c0 := e7 w hSw; go_simp))
      try simp only [aput, List.set]
      iterate 2
       first
        | (apply goV_skip (by intro u; rfl))
        | (apply goV_val _ (by intro u; rfl); · (intro u w hSw hF; go_simp; try with_reducible rfl))
       try simp only [aput, List.set]
      first
       | (apply goV_skip (by intro u; rfl))
       | (apply goV_val (.bool true) (by intro u; rfl); · (intro u w hSw hF; have c0 := g6 w hSw; go_simp))
      try simp only [aput, List.set]
      first
       | (apply goV_skip (by intro u; rfl))
       | (apply goV_call (by intro u; rfl) C5; · (intro u w hSw hF; go_simp; try with_reducible rfl))
      try simp only [aput, List.set]
      iterate 4
       first
        | (apply goV_skip (by intro u; rfl))
        | (apply goV_val _ (by intro u; rfl); · (intro u w hSw hF; go_simp; try with_reducible rfl))
       try simp only [aput, List.set]
      first
       | (apply goV_skip (by intro u; rfl))
       | (apply goV_val (.int .u64 n) (by intro u; rfl); · (intro u w hSw hF; have c0 := e3 w hSw; go_simp))
      try simp only [aput, List.set]
      iterate 3
       first
        | (apply goV_skip (by intro u; rfl))
        | (apply goV_val _ (by intro u; rfl); · (intro u w hSw hF; go_simp; try with_reducible rfl))
       try simp only [aput, List.set]
      first
       | (apply goV_skip (by intro u; rfl))
       | (apply goV_val (.bool false) (by intro u; rfl); · (intro u w hSw hF; have c0 := g2 w hSw; go_simp))
      try simp only [aput, List.set]
      iterate 5
       first
        | (apply goV_skip (by intro u; rfl))
        | (apply goV_val _ (by intro u; rfl); · (intro u w hSw hF; go_simp; try with_reducible rfl))
       try simp only [aput, List.set]
      first
       | (apply goV_skip (by intro u; rfl))
       | (apply goV_val (.bool true) (by intro u; rfl); · (intro u w hSw hF; have c0 := e4 w hSw; go_simp))
      try simp only [aput, List.set]
      iterate 2
       first
        | (apply goV_skip (by intro u; rfl))
        | (apply goV_val _ (by intro u; rfl); · (intro u w hSw hF; go_simp; try with_reducible rfl))
       try simp only [aput, List.set]
      first
       | (apply goV_skip (by intro u; rfl))
       | (apply goV_val (.bool true) (by intro u; rfl); · (intro u w hSw hF; have c0 := g3 w hSw; go_simp))
      try simp only [aput, List.set]
      iterate 3
       first
        | (apply goV_skip (by intro u; rfl))
        | (apply goV_val _ (by intro u; rfl); · (intro u w hSw hF; go_simp; try with_reducible rfl))
       try simp only [aput, List.set]
      intro u w9 hx9 _
      go_wp2_with fail
      go_meet
      refine ⟨?_, hx9⟩
      rw [HB.out, hn1]; rfl
   case true =>
    cases v6
    case false =>
     cases f4
     case false =>
      refine wp_region_rgs ?_
      simp only [List.append]
      first
       | (apply goV_skip (by intro u; rfl))
       | (apply goV_val _ (by intro u; rfl); · (intro u w hSw hF; go_simp; try with_reducible rfl))
      try simp only [aput, List.set]
      first
       | (apply goV_skip (by intro u; rfl))
       | (apply goV_val (.int .i64 k) (by intro u; rfl); · (intro u w hSw hF; have c0 := e0 w hSw; go_simp))
      try simp only [aput, List.set]
      iterate 3
       first
        | (apply goV_skip (by intro u; rfl))
        | (apply goV_val _ (by intro u; rfl); · (intro u w hSw hF; go_simp; try with_reducible rfl))
       try simp only [aput, List.set]
      first
       | (apply goV_skip (by intro u; rfl))
       | (apply goV_val (.int .i64 k) (by intro u; rfl); · (intro u w hSw hF; have c0 := e0 w hSw; go_simp))
      try simp only [aput, List.set]
      iterate 4
       first
        | (apply goV_skip (by intro u; rfl))
        | (apply goV_val _ (by intro u; rfl); · (intro u w hSw hF; go_simp; try with_reducible rfl))
       try simp only [aput, List.set]
      first
       | (apply goV_skip (by intro u; rfl))
       | (apply goV_val (.int .i64 c) (by intro u; rfl); · (intro u w hSw hF; have c0 := e1 w hSw; go_simp))
      try simp only [aput, List.set]
      first
       | (apply goV_skip (by intro u; rfl))
       | (apply goV_val _ (by intro u; rfl); · (intro u w hSw hF; go_simp; try with_reducible rfl))
      try simp only [aput, List.set]
      first
       | (apply goV_skip (by intro u; rfl))
       | (apply goV_val (.bool f1) (by intro u; rfl); · (intro u w hSw hF; have c0 := g0 w hSw; go_simp))
      try simp only [aput, List.set]
      first
       | (apply goV_skip (by intro u; rfl))
       | (apply goV_call (by intro u; rfl) C1; · (intro u w hSw hF; go_simp; try with_reducible rfl))
      try simp only [aput, List.set]
      iterate 4
       first
        | (apply goV_skip (by intro u; rfl))
        | (apply goV_val _ (by intro u; rfl); · (intro u w hSw hF; go_simp; try with_reducible rfl))
       try simp only [aput, List.set]
      first
       | (apply goV_skip (by intro u; rfl))
       | (apply goV_val (.int .i64 at_) (by intro u; rfl); · (intro u w hSw hF; have c0 := e2 w hSw; go_simp))
      try simp only [aput, List.set]
      first
       | (apply goV_skip (by intro u; rfl))
       | (apply goV_val _ (by intro u; rfl); · (intro u w hSw hF; go_simp; try with_reducible rfl))
      try simp only [aput, List.set]
      first
       | (apply goV_skip (by intro u; rfl))
       | (apply goV_val (.bool f2) (by intro u; rfl); · (intro u w hSw hF; have c0 := g1 w hSw; go_simp))
      try simp only [aput, List.set]
      first
       | (apply goV_skip (by intro u; rfl))
       | (apply goV_call (by intro u; rfl) C2; · (intro u w hSw hF; go_simp; try with_reducible rfl))
      try simp only [aput, List.set]
      iterate 4
       first
        | (apply goV_skip (by intro u; rfl))
        | (apply goV_val _ (by intro u; rfl); · (intro u w hSw hF; go_simp; try with_reducible rfl))
       try simp only [aput, List.set]
      first
       | (apply goV_skip (by intro u; rfl))
       | (apply goV_val (.int .i64 rs) (by intro u; rfl); · (intro u w hSw hF; have c0 := e5 w hSw; go_simp))
      try simp only [aput, List.set]
      first
       | (apply goV_skip (by intro u; rfl))
       | (apply goV_val _ (by intro u; rfl); · (intro u w hSw hF; go_simp; try with_reducible rfl))
      try simp only [aput, List.set]
      first
       | (apply goV_skip (by intro u; rfl))
       | (apply goV_val (.bool f5) (by intro u; rfl); · (intro u w hSw hF; have c0 := g4 w hSw; go_simp))
      try simp only [aput, List.set]
      first
       | (apply goV_skip (by intro u; rfl))
       | (apply goV_call (by intro u; rfl) C3; · (intro u w hSw hF; go_simp; try with_reducible rfl))
      try simp only [aput, List.set]
      iterate 4
       first
        | (apply goV_skip (by intro u; rfl))
        | (apply goV_val _ (by intro u; rfl); · (intro u w hSw hF; go_simp; try with_reducible rfl))
       try simp only [aput, List.set]
      first
       | (apply goV_skip (by intro u; rfl))
       | (apply goV_val (.string d) (by intro u; rfl); · (intro u w hSw hF; have c0 := e6 w hSw; go_simp))
      try simp only [aput, List.set]
      iterate 2
       first
        | (apply goV_skip (by intro u; rfl))
        | (apply goV_val _ (by intro u; rfl); · (intro u w hSw hF; go_simp; try with_reducible rfl))
       try simp only [aput, List.set]
      first
       | (apply goV_skip (by intro u; rfl))
       | (apply goV_val (.bool f6) (by intro u; rfl); · (intro u w hSw hF; have c0 := g5 w hSw; go_simp))
      try simp only [aput, List.set]
      first
       | (apply goV_skip (by intro u; rfl))
       | (apply goV_call (by intro u; rfl) C4; · (intro u w hSw hF; go_simp; try with_reducible rfl))
      try simp only [aput, List.set]
      iterate 4
       first
        | (apply goV_skip (by intro u; rfl))
        | (apply goV_val _ (by intro u; rfl); · (intro u w hSw hF; go_simp; try with_reducible rfl))
       try simp only [aput, List.set]
      first
       | (apply goV_skip (by intro u; rfl))
       | (apply goV_val (.slice a ads.length cap) (by intro u; rfl); · (intro u w hSw hF; have c0 := e7 w hSw; go_simp))
      try simp only [aput, List.set]
      iterate 2
       first
        | (apply goV_skip (by intro u; rfl))
        | (apply goV_val _ (by intro u; rfl); · (intro u w hSw hF; go_simp; try with_reducible rfl))
       try simp only [aput, List.set]
      first
       | (apply goV_skip (by intro u; rfl))
       | (apply goV_val (.bool false) (by intro u; rfl); · (intro u w hSw hF; have c0 := g6 w hSw; go_simp))
      try simp only [aput, List.set]
      first
       | (apply goV_skip (by intro u; rfl))
       | (apply goV_call (by intro u; rfl) C5; · (intro u w hSw hF; go_simp; try with_reducible rfl))
      try simp only [aput, List.set]
      iterate 4
       first
        | (apply goV_skip (by intro u; rfl))
        | (apply goV_val _ (by intro u; rfl); · (intro u w hSw hF; go_simp; try with_reducible rfl))
       try simp only [aput, List.set]
      first
       | (apply goV_skip (by intro u; rfl))
       | (apply goV_val (.int .u64 n) (by intro u; rfl); · (intro u w hSw hF; have c0 := e3 w hSw; go_simp))
      try simp only [aput, List.set]
      iterate 3
       first
        | (apply goV_skip (by intro u; rfl))
        | (apply goV_val _ (by intro u; rfl); · (intro u w hSw hF; go_simp; try with_reducible rfl))
       try simp only [aput, List.set]
      first
       | (apply goV_skip (by intro u; rfl))
       | (apply goV_val (.bool true) (by intro u; rfl); · (intro u w hSw hF; have c0 := g2 w hSw; go_simp))
      try simp only [aput, List.set]
      iterate 5
       first
        | (apply goV_skip (by intro u; rfl))
        | (apply goV_val _ (by intro u; rfl); · (intro u w hSw hF; go_simp; try with_reducible rfl))
       try simp only [aput, List.set]
      first
       | (apply goV_skip (by intro u; rfl))
       | (apply goV_val (.bool false) (by intro u; rfl); · (intro u w hSw hF; have c0 := e4 w hSw; go_simp))
      try simp only [aput, List.set]
      iterate 2
       first
        | (apply goV_skip (by intro u; rfl))
        | (apply goV_val _ (by intro u; rfl); · (intro u w hSw hF; go_simp; try with_reducible rfl))
       try simp only [aput, List.set]
      first
       | (apply goV_skip (by intro u; rfl))
       | (apply goV_val (.bool false) (by intro u; rfl); · (intro u w hSw hF; have c0 := g3 w hSw; go_simp))
      try simp only [aput, List.set]
      iterate 3
       first
        | (apply goV_skip (by intro u; rfl))
        | (apply goV_val _ (by intro u; rfl); · (intro u w hSw hF; go_simp; try with_reducible rfl))
       try simp only [aput, List.set]
      intro u w9 hx9 _
      go_wp2_with fail
      go_meet
      refine ⟨?_, hx9⟩
      rw [HB.out, hn1]; rfl
     case true =>
      refine wp_region_rgs ?_
      simp only [List.append]
      first
       | (apply goV_skip (by intro u; rfl))
       | (apply goV_val _ (by intro u; rfl); · (intro u w hSw hF; go_simp; try with_reducible rfl))
      try simp only [aput, List.set]
      first
       | (apply goV_skip (by intro u; rfl))
       | (apply goV_val (.int .i64 k) (by intro u; rfl); · (intro u w hSw hF; have c0 := e0 w hSw; go_simp))
      try simp only [aput, List.set]
      iterate 3
       first
        | (apply goV_skip (by intro u; rfl))
        | (apply goV_val _ (by intro u; rfl); · (intro u w hSw hF; go_simp; try with_reducible rfl))
       try simp only [aput, List.set]
      first
       | (apply goV_skip (by intro u; rfl))
       | (apply goV_val (.int .i64 k) (by intro u; rfl); · (intro u w hSw hF; have c0 := e0 w hSw; go_simp))
      try simp only [aput, List.set]
      iterate 4
       first
        | (apply goV_skip (by intro u; rfl))
        | (apply goV_val _ (by intro u; rfl); · (intro u w hSw hF; go_simp; try with_reducible rfl))
       try simp only [aput, List.set]
      first
       | (apply goV_skip (by intro u; rfl))
       | (apply goV_val (.int .i64 c) (by intro u; rfl); · (intro u w hSw hF; have c0 := e1 w hSw; go_simp))
      try simp only [aput, List.set]
      first
       | (apply goV_skip (by intro u; rfl))
       | (apply goV_val _ (by intro u; rfl); · (intro u w hSw hF; go_simp; try with_reducible rfl))
      try simp only [aput, List.set]
      first
       | (apply goV_skip (by intro u; rfl))
       | (apply goV_val (.bool f1) (by intro u; rfl); · (intro u w hSw hF; have c0 := g0 w hSw; go_simp))
      try simp only [aput, List.set]
      first
       | (apply goV_skip (by intro u; rfl))
       | (apply goV_call (by intro u; rfl) C1; · (intro u w hSw hF; go_simp; try with_reducible rfl))
      try simp only [aput, List.set]
      iterate 4
       first
        | (apply goV_skip (by intro u; rfl))
        | (apply goV_val _ (by intro u; rfl); · (intro u w hSw hF; go_simp; try with_reducible rfl))
       try simp only [aput, List.set]
      first
       | (apply goV_skip (by intro u; rfl))
       | (apply goV_val (.int .i64 at_) (by intro u; rfl); · (intro u w hSw hF; have c0 := e2 w hSw; go_simp))
      try simp only [aput, List.set]
      first
       | (apply goV_skip (by intro u; rfl))
       | (apply goV_val _ (by intro u; rfl); · (intro u w hSw hF; go_simp; try with_reducible rfl))
      try simp only [aput, List.set]
      first
       | (apply goV_skip (by intro u; rfl))
       | (apply goV_val (.bool f2) (by intro u; rfl); · (intro u w hSw hF; have c0 := g1 w hSw; go_simp))
      try simp only [aput, List.set]
      first
       | (apply goV_skip (by intro u; rfl))
       | (apply goV_call (by intro u; rfl) C2; · (intro u w hSw hF; go_simp; try with_reducible rfl))
      try simp only [aput, List.set]
      iterate 4
       first
        | (apply goV_skip (by intro u; rfl))
        | (apply goV_val _ (by intro u; rfl); · (intro u w hSw hF; go_simp; try with_reducible rfl))
       try simp only [aput, List.set]
      first
       | (apply goV_skip (by intro u; rfl))
       | (apply goV_val (.int .i64 rs) (by intro u; rfl); · (intro u w hSw hF; have c0 := e5 w hSw; go_simp))
      try simp only [aput, List.set]
      first
       | (apply goV_skip (by intro u; rfl))
       | (apply goV_val _ (by intro u; rfl); · (intro u w hSw hF; go_simp; try with_reducible rfl))
      try simp only [aput, List.set]
      first
       | (apply goV_skip (by intro u; rfl))
       | (apply goV_val (.bool f5) (by intro u; rfl); · (intro u w hSw hF; have c0 := g4 w hSw; go_simp))
      try simp only [aput, List.set]
      first
       | (apply goV_skip (by intro u; rfl))
       | (apply goV_call (by intro u; rfl) C3; · (intro u w hSw hF; go_simp; try with_reducible rfl))
      try simp only [aput, List.set]
      iterate 4
       first
        | (apply goV_skip (by intro u; rfl))
        | (apply goV_val _ (by intro u; rfl); · (intro u w hSw hF; go_simp; try with_reducible rfl))
       try simp only [aput, List.set]
      first
       | (apply goV_skip (by intro u; rfl))
       | (apply goV_val (.string d) (by intro u; rfl); · (intro u w hSw hF; have c0 := e6 w hSw; go_simp))
      try simp only [aput, List.set]
      iterate 2
       first
        | (apply goV_skip (by intro u; rfl))
        | (apply goV_val _ (by intro u; rfl); · (intro u w hSw hF; go_simp; try with_reducible rfl))
       try simp only [aput, List.set]
      first
       | (apply goV_skip (by intro u; rfl))
       | (apply goV_val (.bool f6) (by intro u; rfl); · (intro u w hSw hF; have c0 := g5 w hSw; go_simp))
      try simp only [aput, List.set]
      first
       | (apply goV_skip (by intro u; rfl))
       | (apply goV_call (by intro u; rfl) C4; · (intro u w hSw hF; go_simp; try with_reducible rfl))
      try simp only [aput, List.set]
      iterate 4
       first
        | (apply goV_skip (by intro u; rfl))
        | (apply goV_val _ (by intro u; rfl); · (intro u w hSw hF; go_simp; try with_reducible rfl))
       try simp only [aput, List.set]
      first
       | (apply goV_skip (by intro u; rfl))
       | (apply goV_val (.slice a ads.length cap) (by intro u; rfl); · (intro u w hSw hF; have c0 := e7 w hSw; go_simp))
      try simp only [aput, List.set]
      iterate 2
       first
        | (apply goV_skip (by intro u; rfl))
        | (apply goV_val _ (by intro u; rfl); · (intro u w hSw hF; go_simp; try with_reducible rfl))
       try simp only [aput, List.set]
      first
       | (apply goV_skip (by intro u; rfl))
       | (apply goV_val (.bool true) (by intro u; rfl); · (intro u w hSw hF; have c0 := g6 w hSw; go_simp))
      try simp only [aput, List.set]
      first
       | (apply goV_skip (by intro u; rfl))
       | (apply goV_call (by intro u; rfl) C5; · (intro u w hSw hF; go_simp; try with_reducible rfl))
      try simp only [aput, List.set]
      iterate 4
       first
        | (apply goV_skip (by intro u; rfl))
        | (apply goV_val _ (by intro u; rfl); · (intro u w hSw hF; go_simp; try with_reducible rfl))
       try simp only [aput, List.set]
      first
       | (apply goV_skip (by intro u; rfl))
       | (apply goV_val (.int .u64 n) (by intro u; rfl); · (intro u w hSw hF; have c0 := e3 w hSw; go_simp))
      try simp only [aput, List.set]
      iterate 3
       first
        | (apply goV_skip (by intro u; rfl))
        | (apply goV_val _ (by intro u; rfl); · (intro u w hSw hF; go_simp; try with_reducible rfl))
       try simp only [aput, List.set]
      first
       | (apply goV_skip (by intro u; rfl))
       | (apply goV_val (.bool true) (by intro u; rfl); · (intro u w hSw hF; have c0 := g2 w hSw; go_simp))
      try simp only [aput, List.set]
      iterate 5
       first
        | (apply goV_skip (by intro u; rfl))
        | (apply goV_val _ (by intro u; rfl); · (intro u w hSw hF; go_simp; try with_reducible rfl))
       try simp only [aput, List.set]
      first
       | (apply goV_skip (by intro u; rfl))
       | (apply goV_val (.bool false) (by intro u; rfl); · (intro u w hSw hF; have c0 := e4 w hSw; go_simp))
      try simp only [aput, List.set]
      iterate 2
       first
        | (apply goV_skip (by intro u; rfl))
        | (apply goV_val _ (by intro u; rfl); · (intro u w hSw hF; go_simp; try with_reducible rfl))
       try simp only [aput, List.set]
      first
       | (apply goV_skip (by intro u; rfl))
       | (apply goV_val (.bool true) (by intro u; rfl); · (intro u w hSw hF; have c0 := g3 w hSw; go_simp))
      try simp only [aput, List.set]
      iterate 3
       first
        | (apply goV_skip (by intro u; rfl))
        | (apply goV_val _ (by intro u; rfl); · (intro u w hSw hF; go_simp; try with_reducible rfl))
       try simp only [aput, List.set]
      intro u w9 hx9 _
      go_wp2_with fail
      go_meet
      refine ⟨?_, hx9⟩
      rw [HB.out, hn1]; rfl
    case true =>
     cases f4
     case false =>
      refine wp_region_rgs ?_
      simp only [List.append]
      first
       | (apply goV_skip (by intro u; rfl))
       | (apply goV_val _ (by intro u; rfl); · (intro u w hSw hF; go_simp; try with_reducible rfl))
      try simp only [aput, List.set]
      first
       | (apply goV_skip (by intro u; rfl))
       | (apply goV_val (.int .i64 k) (by intro u; rfl); · (intro u w hSw hF; have c0 := e0 w hSw; go_simp))
      try simp only [aput, List.set]
      iterate 3
       first
        | (apply goV_skip (by intro u; rfl))
        | (apply goV_val _ (by intro u; rfl); · (intro u w hSw hF; go_simp; try with_reducible rfl))
       try simp only [aput, List.set]
      first
       | (apply goV_skip (by intro u; rfl))
       | (apply goV_val (.int .i64 k) (by intro u; rfl); · (intro u w hSw hF; have c0 := e0 w hSw; go_simp))
      try simp only [aput, List.set]
      iterate 4
       first
        | (apply goV_skip (by intro u; rfl))
        | (apply goV_val _ (by intro u; rfl); · (intro u w hSw hF; go_simp; try with_reducible rfl))
       try simp only [aput, List.set]
      first
       | (apply goV_skip (by intro u; rfl))
       | (apply goV_val (.int .i64 c) (by intro u; rfl); · (intro u w hSw hF; have c0 := e1 w hSw; go_simp))
      try simp only [aput, List.set]
      first
       | (apply goV_skip (by intro u; rfl))
       | (apply goV_val _ (by intro u; rfl); · (intro u w hSw hF; go_simp; try with_reducible rfl))
      try simp only [aput, List.set]
      first
       | (apply goV_skip (by intro u; rfl))
       | (apply goV_val (.bool f1) (by intro u; rfl); · (intro u w hSw hF; have c0 := g0 w hSw; go_simp))
      try simp only [aput, List.set]
      first
       | (apply goV_skip (by intro u; rfl))
       | (apply goV_call (by intro u; rfl) C1; · (intro u w hSw hF; go_simp; try with_reducible rfl))
      try simp only [aput, List.set]
      iterate 4
       first
        | (apply goV_skip (by intro u; rfl))
        | (apply goV_val _ (by intro u; rfl); · (intro u w hSw hF; go_simp; try with_reducible rfl))
       try simp only [aput, List.set]
      first
       | (apply goV_skip (by intro u; rfl))
       | (apply goV_val (.int .i64 at_) (by intro u; rfl); · (intro u w hSw hF; have c0 := e2 w hSw; go_simp))
      try simp only [aput, List.set]
      first
       | (apply goV_skip (by intro u; rfl))
       | (apply goV_val _ (by intro u; rfl); · (intro u w hSw hF; go_simp; try with_reducible rfl))
      try simp only [aput, List.set]
      first
       | (apply goV_skip (by intro u; rfl))
       | (apply goV_val (.bool f2) (by intro u; rfl); · (intro u w hSw hF; have c0 := g1 w hSw; go_simp))
      try simp only [aput, List.set]
      first
       | (apply goV_skip (by intro u; rfl))
       | (apply goV_call (by intro u; rfl) C2; · (intro u w hSw hF; go_simp; try with_reducible rfl))
      try simp only [aput, List.set]
      iterate 4
       first
        | (apply goV_skip (by intro u; rfl))
        | (apply goV_val _ (by intro u; rfl); · (intro u w hSw hF; go_simp; try with_reducible rfl))
       try simp only [aput, List.set]
      first
       | (apply goV_skip (by intro u; rfl))
       | (apply goV_val (.int .i64 rs) (by intro u; rfl); · (intro u w hSw hF; have c0 := e5 w hSw; go_simp))
      try simp only [aput, List.set]
      first
       | (apply goV_skip (by intro u; rfl))
       | (apply goV_val _ (by intro u; rfl); · (intro u w hSw hF; go_simp; try with_reducible rfl))
      try simp only [aput, List.set]
      first
       | (apply goV_skip (by intro u; rfl))
       | (apply goV_val (.bool f5) (by intro u; rfl); · (intro u w hSw hF; have c0 := g4 w hSw; go_simp))
      try simp only [aput, List.set]
      first
       | (apply goV_skip (by intro u; rfl))
       | (apply goV_call (by intro u; rfl) C3; · (intro u w hSw hF; go_simp; try with_reducible rfl))
      try simp only [aput, List.set]
      iterate 4
       first
        | (apply goV_skip (by intro u; rfl))
        | (apply goV_val _ (by intro u; rfl); · (intro u w hSw hF; go_simp; try with_reducible rfl))
       try simp only [aput, List.set]
      first
       | (apply goV_skip (by intro u; rfl))
       | (apply goV_val (.string d) (by intro u; rfl); · (intro u w hSw hF; have c0 := e6 w hSw; go_simp))
      try simp only [aput, List.set]
      iterate 2
       first
        | (apply goV_skip (by intro u; rfl))
        | (apply goV_val _ (by intro u; rfl); · (intro u w hSw hF; go_simp; try with_reducible rfl))
       try simp only [aput, List.set]
      first
       | (apply goV_skip (by intro u; rfl))
       | (apply goV_val (.bool f6) (by intro u; rfl); · (intro u w hSw hF; have c0 := g5 w hSw; go_simp))
      try simp only [aput, List.set]
      first
       | (apply goV_skip (by intro u; rfl))
       | (apply goV_call (by intro u; rfl) C4; · (intro u w hSw hF; go_simp; try with_reducible rfl))
      try simp only [aput, List.set]
      iterate 4
       first
        | (apply goV_skip (by intro u; rfl))
        | (apply goV_val _ (by intro u; rfl); · (intro u w hSw hF; go_simp; try with_reducible rfl))
       try simp only [aput, List.set]
      first
       | (apply goV_skip (by intro u; rfl))
       | (apply goV_val (.slice a ads.length cap) (by intro u; rfl); · (intro u w hSw hF; have c0 := e7 w hSw; go_simp))
      try simp only [aput, List.set]
      iterate 2
       first
        | (apply goV_skip (by intro u; rfl))
        | (apply goV_val _ (by intro u; rfl); · (intro u w hSw hF; go_simp; try with_reducible rfl))
       try simp only [aput, List.set]
      first
       | (apply goV_skip (by intro u; rfl))
       | (apply goV_val (.bool false) (by intro u; rfl); · (intro u w hSw hF; have c0 := g6 w hSw; go_simp))
      try simp only [aput, List.set]
      first
       | (apply goV_skip (by intro u; rfl))
       | (apply goV_call (by intro u; rfl) C5; · (intro u w hSw hF; go_simp; try with_reducible rfl))
      try simp only [aput, List.set]
      iterate 4
       first
        | (apply goV_skip (by intro u; rfl))
        | (apply goV_val _ (by intro u; rfl); · (intro u w hSw hF; go_simp; try with_reducible rfl))
       try simp only [aput, List.set]
      first
       | (apply goV_skip (by intro u; rfl))
       | (apply goV_val (.int .u64 n) (by intro u; rfl); · (intro u w hSw hF; have c0 := e3 w hSw; go_simp))
      try simp only [aput, List.set]
      iterate 3
       first
        | (apply goV_skip (by intro u; rfl))
        | (apply goV_val _ (by intro u; rfl); · (intro u w hSw hF; go_simp; try with_reducible rfl))
       try simp only [aput, List.set]
      first
       | (apply goV_skip (by intro u; rfl))
       | (apply goV_val (.bool true) (by intro u; rfl); · (intro u w hSw hF; have c0 := g2 w hSw; go_simp))
      try simp only [aput, List.set]
      iterate 5
       first
        | (apply goV_skip (by intro u; rfl))
        | (apply goV_val _ (by intro u; rfl); · (intro u w hSw hF; go_simp; try with_reducible rfl))
       try simp only [aput, List.set]
      first
       | (apply goV_skip (by intro u; rfl))
       | (apply goV_val (.bool true) (by intro u; rfl); · (intro u w hSw hF; have c0 := e4 w hSw; go_simp))
      try simp only [aput, List.set]
      iterate 2
       first
        | (apply goV_skip (by intro u; rfl))
        | (apply goV_val _ (by intro u; rfl); · (intro u w hSw hF; go_simp; try with_reducible rfl))
       try simp only [aput, List.set]
      first
       | (apply goV_skip (by intro u; rfl))
       | (apply goV_val (.bool false) (by intro u; rfl); · (intro u w hSw hF; have c0 := g3 w hSw; go_simp))
      try simp only [aput, List.set]
      iterate 3
       first
        | (apply goV_skip (by intro u; rfl))
        | (apply goV_val _ (by intro u; rfl); · (intro u w hSw hF; go_simp; try with_reducible rfl))
       try simp only [aput, List.set]
      intro u w9 hx9 _
      go_wp2_with fail
      go_meet
      refine ⟨?_, hx9⟩
      rw [HB.out, hn1]; rfl
     case true =>
      refine wp_region_rgs ?_
      simp only [List.append]
      first
       | (apply goV_skip (by intro u; rfl))
       | (apply goV_val _ (by intro u; rfl); · (intro u w hSw hF; go_simp; try with_reducible rfl))
      try simp only [aput, List.set]
      first
       | (apply goV_skip (by intro u; rfl))
       | (apply goV_val (.int .i64 k) (by intro u; rfl); · (intro u w hSw hF; have c0 := e0 w hSw; go_simp))
      try simp only [aput, List.set]
      iterate 3
       first
        | (apply goV_skip (by intro u; rfl))
        | (apply goV_val _ (by intro u; rfl); · (intro u w hSw hF; go_simp; try with_reducible rfl))
       try simp only [aput, List.set]
      first
       | (apply goV_skip (by intro u; rfl))
       | (apply goV_val (.int .i64 k) (by intro u; rfl); · (intro u w hSw hF; have c0 := e0 w hSw; go_simp))
      try simp only [aput, List.set]
      iterate 4
       first
        | (apply goV_skip (by intro u; rfl))
        | (apply goV_val _ (by intro u; rfl); · (intro u w hSw hF; go_simp; try with_reducible rfl))
       try simp only [aput, List.set]
      first
       | (apply goV_skip (by intro u; rfl))
       | (apply goV_val (.int .i64 c) (by intro u; rfl); · (intro u w hSw hF; have c0 := e1 w hSw; go_simp))
      try simp only [aput, List.set]
      first
       | (apply goV_skip (by intro u; rfl))
       | (apply goV_val _ (by intro u; rfl); · (intro u w hSw hF; go_simp; try with_reducible rfl))
      try simp only [aput, List.set]
      first
       | (apply goV_skip (by intro u; rfl))
       | (apply goV_val (.bool f1) (by intro u; rfl); · (intro u w hSw hF; have c0 := g0 w hSw; go_simp))
      try simp only [aput, List.set]
      first
       | (apply goV_skip (by intro u; rfl))
       | (apply goV_call (by intro u; rfl) C1; · (intro u w hSw hF; go_simp; try with_reducible rfl))
      try simp only [aput, List.set]
      iterate 4
       first
        | (apply goV_skip (by intro u; rfl))
        | (apply goV_val _ (by intro u; rfl); · (intro u w hSw hF; go_simp; try with_reducible rfl))
       try simp only [aput, List.set]
      first
       | (apply goV_skip (by intro u; rfl))
       | (apply goV_val (.int .i64 at_) (by intro u; rfl); · (intro u w hSw hF; have c0 := e2 w hSw; go_simp))
      try simp only [aput, List.set]
      first
       | (apply goV_skip (by intro u; rfl))
       | (apply goV_val _ (by intro u; rfl); · (intro u w hSw hF; go_simp; try with_reducible rfl))
      try simp only [aput, List.set]
      first
       | (apply goV_skip (by intro u; rfl))
       | (apply goV_val (.bool f2) (by intro u; rfl); · (intro u w hSw hF; have c0 := g1 w hSw; go_simp))
      try simp only [aput, List.set]
      first
       | (apply goV_skip (by intro u; rfl))
       | (apply goV_call (by intro u; rfl) C2; · (intro u w hSw hF; go_simp; try with_reducible rfl))
      try simp only [aput, List.set]
      iterate 4
       first
        | (apply goV_skip (by intro u; rfl))
        | (apply goV_val _ (by intro u; rfl); · (intro u w hSw hF; go_simp; try with_reducible rfl))
       try simp only [aput, List.set]
      first
       | (apply goV_skip (by intro u; rfl))
       | (apply goV_val (.int .i64 rs) (by intro u; rfl); · (intro u w hSw hF; have c0 := e5 w hSw; go_simp))
      try simp only [aput, List.set]
      first
       | (apply goV_skip (by intro u; rfl))
       | (apply goV_val _ (by intro u; rfl); · (intro u w hSw hF; go_simp; try with_reducible rfl))
      try simp only [aput, List.set]
      first
       | (apply goV_skip (by intro u; rfl))
       | (apply goV_val (.bool f5) (by intro u; rfl); · (intro u w hSw hF; have c0 := g4 w hSw; go_simp))
      try simp only [aput, List.set]
      first
       | (apply goV_skip (by intro u; rfl))
       | (apply goV_call (by intro u; rfl) C3; · (intro u w hSw hF; go_simp; try with_reducible rfl))
      try simp only [aput, List.set]
      iterate 4
       first
        | (apply goV_skip (by intro u; rfl))
        | (apply goV_val _ (by intro u; rfl); · (intro u w hSw hF; go_simp; try with_reducible rfl))
       try simp only [aput, List.set]
      first
       | (apply goV_skip (by intro u; rfl))
       | (apply goV_val (.string d) (by intro u; rfl); · (intro u w hSw hF; have c0 := e6 w hSw; go_simp))
      try simp only [aput, List.set]
      iterate 2
       first
        | (apply goV_skip (by intro u; rfl))
        | (apply goV_val _ (by intro u; rfl); · (intro u w hSw hF; go_simp; try with_reducible rfl))
       try simp only [aput, List.set]
      first
       | (apply goV_skip (by intro u; rfl))
       | (apply goV_val (.bool f6) (by intro u; rfl); · (intro u w hSw hF; have c0 := g5 w hSw; go_simp))
      try simp only [aput, List.set]
      first
       | (apply goV_skip (by intro u; rfl))
       | (apply goV_call (by intro u; rfl) C4; · (intro u w hSw hF; go_simp; try with_reducible rfl))
      try simp only [aput, List.set]
      iterate 4
       first
        | (apply goV_skip (by intro u; rfl))
        | (apply goV_val _ (by intro u; rfl); · (intro u w hSw hF; go_simp; try with_reducible rfl))
       try simp only [aput, List.set]
      first
       | (apply goV_skip (by intro u; rfl))
       | (apply goV_val (.slice a ads.length cap) (by intro u; rfl); · (intro u w hSw hF; have c0 := e7 w hSw; go_simp))
      try simp only [aput, List.set]
      iterate 2
       first
        | (apply goV_skip (by intro u; rfl))
        | (apply goV_val _ (by intro u; rfl); · (intro u w hSw hF; go_simp; try with_reducible rfl))
       try simp only [aput, List.set]
      first
       | (apply goV_skip (by intro u; rfl))
       | (apply goV_val (.bool true) (by intro u; rfl); · (intro u w hSw hF; have c0 := g6 w hSw; go_simp))
      try simp only [aput, List.set]
      first
       | (apply goV_skip (by intro u; rfl))
       | (apply goV_call (by intro u; rfl) C5; · (intro u w hSw hF; go_simp; try with_reducible rfl))
      try simp only [aput, List.set]
      iterate 4
       first
        | (apply goV_skip (by intro u; rfl))
        | (apply goV_val _ (by intro u; rfl); · (intro u w hSw hF; go_simp; try with_reducible rfl))
       try simp only [aput, List.set]
      first
       | (apply goV_skip (by intro u; rfl))
       | (apply goV_val (.int .u64 n) (by intro u; rfl); · (intro u w hSw hF; have c0 := e3 w hSw; go_simp))
      try simp only [aput, List.set]
      iterate 3
       first
        | (apply goV_skip (by intro u; rfl))
        | (apply goV_val _ (by intro u; rfl); · (intro u w hSw hF; go_simp; try with_reducible rfl))
       try simp only [aput, List.set]
      first
       | (apply goV_skip (by intro u; rfl))
       | (apply goV_val (.bool true) (by intro u; rfl); · (intro u w hSw hF; have c0 := g2 w hSw; go_simp))
      try simp only [aput, List.set]
      iterate 5
       first
        | (apply goV_skip (by intro u; rfl))
        | (apply goV_val _ (by intro u; rfl); · (intro u w hSw hF; go_simp; try with_reducible rfl))
       try simp only [aput, List.set]
      first
       | (apply goV_skip (by intro u; rfl))
       | (apply goV_val (.bool true) (by intro u; rfl); · (intro u w hSw hF; have c0 := e4 w hSw; go_simp))
      try simp only [aput, List.set]
      iterate 2
       first
        | (apply goV_skip (by intro u; rfl))
        | (apply goV_val _ (by intro u; rfl); · (intro u w hSw hF; go_simp; try with_reducible rfl))
       try simp only [aput, List.set]
      first
       | (apply goV_skip (by intro u; rfl))
       | (apply goV_val (.bool true) (by intro u; rfl); · (intro u w hSw hF; have c0 := g3 w hSw; go_simp))
      try simp only [aput, List.set]
      iterate 3
       first
        | (apply goV_skip (by intro u; rfl))
        | (apply goV_val _ (by intro u; rfl); · (intro u w hSw hF; go_simp; try with_reducible rfl))
       try simp only [aput, List.set]
      intro u w9 hx9 _
      go_wp2_with fail
      go_meet
      refine ⟨?_, hx9⟩
      rw [HB.out, hn1]; rfl
 case rest =>
  obtain ⟨rfl, hwe⟩ := hcut
  rename World => wz
  replace hx := hx.trans hwe
  replace hE := hE.ext hwe
  clear C1 C2 C3 C4 C5 K1 K2 K3 K4 K5 HB e0 e1 e2 e3 e4 e5 e6 HOK hk1 hk2 g0 g1 g2 g3 g4 g5 g6 hF hwe
  cases bad
  case true =>
   go_wp2_with fail
   go_ret
   exact ⟨by rw [HV2.out]; rfl, hx⟩
  go_wp2_with fail
  have HA3 := Lib.hid (HA.out.ext hx)
  go_loopw [4] (fun i wr => ∃ k : Nat, i = .int .i64 k /\ k <= ads.length /\ (∀ x ∈ ads.take k, validA x = true) /\ Ext wz wr) (fun i _ => ads.length - (intOf i).toNat)
  case atStart => exact ⟨0, rfl, Nat.zero_le _, fun x h => by simp at h, Ext.refl _⟩
  case round =>
   obtain ⟨j, rfl, hj, hall, hxr⟩ := hrel
   have HALL := Lib.hid hall
   clear hall
   by_cases hlt : j < ads.length
   ·have hlt' : (j : Int) < ads.length := by omega
    obtain ⟨x, hjx⟩ : ∃ x, ads[j]? = some x := ⟨ads[j]'hlt, List.getElem?_eq_getElem hlt⟩
    obtain ⟨ab, off, rfl, hab, hokx, hrx, hcap⟩ := (HA3.out.ext hxr).get hjx
    have HJX := Lib.hid hjx
    clear hjx
    have KV := Lib.hid (fun w => rValid_any x hokx w)
    have hj1 : IntKind.i64.wrap ((j : Int) + 1) = ((j + 1 : Nat) : Int) := by rw [IntWalk.i64_in _ (by omega)]; omega
    have e7r : wr.cell? ⟨eb, 7, none⟩ = some (.slice (some ⟨ab, off, none⟩) ads.length cap) := hE.ext hxr |>.cell rfl
    cases hv : validA x
    case false =>
     have KV2 := Lib.hid KV.out
     rw [hv] at KV2
     go_wp2_with (first | refine wpList_loadS (cs := (ac x).toList) Tryz.underlying72 (by rw [info_Ad, Array.length_toList, ac_size hokx]) rfl _ rfl hrx rfl ?_ | (go_at_call 49; refine (KV2.out _).mono ?_; rintro e w5 ⟨rfl, hx5⟩))
     go_ret
     refine ⟨?_, (hx.trans hxr).trans hx5⟩
     have hf : ads.all validA = false := by
      rw [List.all_eq_false]
      exact ⟨x, List.mem_of_getElem? HJX.out, by rw [hv]; simp⟩
     rw [HV2.out, hf]; rfl
    have KV2 := Lib.hid KV.out
    rw [hv] at KV2
    have HVX := Lib.hid hv
    clear hv KV
    go_wp2_with (first | refine wpList_loadS (cs := (ac x).toList) Tryz.underlying72 (by rw [info_Ad, Array.length_toList, ac_size hokx]) rfl _ rfl hrx rfl ?_ | (go_at_call 49; refine (KV2.out _).mono ?_; rintro e w5 ⟨rfl, hx5⟩))
    refine ⟨⟨j + 1, by go_num, by omega, fun y hy => ?_, hxr.trans hx5⟩, ?_⟩
    ·have hjl : j < ads.length := hlt
     rw [List.take_add_one, HJX.out] at hy
     rcases List.mem_append.1 hy with q | q
     ·exact HALL.out y q
     ·simp at q; rw [q]; exact HVX.out
    ·simp [intOf]; omega
   ·obtain rfl : j = ads.length := by omega
    have e7r : wr.cell? ⟨eb, 7, none⟩ = some (.slice a ads.length cap) := hE.ext hxr |>.cell rfl
    go_wp2_with fail
    go_ret
    exact ⟨by rw [HV2.out, List.all_eq_true.2 (fun x hx => HALL.out x (by rw [List.take_length]; exact hx))]; rfl, hx.trans hxr⟩
end Go.Proofs.YtmdlgfnibjcgmaaGreatDoor
