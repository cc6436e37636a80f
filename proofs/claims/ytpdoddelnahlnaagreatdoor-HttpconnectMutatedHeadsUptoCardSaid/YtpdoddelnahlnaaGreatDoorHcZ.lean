/-
  HttpconnectMutatedHeads.
-/
import Derived.Test.YtpdoddelnahlnaaGreatDoorHcX
set_option linter.unusedSimpArgs false
set_option linter.unusedVariables false
namespace Go.Proofs.YtpdoddelnahlnaaGreatDoor
open Go.RowKit Go.Joins
set_option maxRecDepth 8000 in
set_option maxHeartbeats 8000000 in
theorem HttpconnectMutatedHeads_walk (n : Int) (la : Option Addr) (ln lc : Nat) (xs : List ByteArray) (a : Option Addr) (kn kc : Nat) (x : ByteArray) (at_ c : Int) (out : Bool)
    (_ : (Lit.int .i64 n).wf = true) (hln : ln ≤ 140737488351232) (hxn : x.size = kn) (hxs : x.size ≤ 140737488351232) (_ : (Lit.int .i64 at_).wf = true) (wc : (Lit.int .u8 c).wf = true)
    (w : World) (henv : Env w) (htabs : Tabs w) (hl : StrsIn w la ln lc xs) (hbl : BigL xs) (hin : OctsIn w a kn kc x) :
    Calls Tryz.prog 7 #[.int .i64 n, .slice la ln lc, .slice a kn kc, .int .i64 at_, .int .u8 c, .bool out] w fun e w' => e = .returned (.bool true) ∧ Ext w w' := by
  have KB := Lib.hid (bhead_any n la ln lc xs a kn kc x w hln (by omega) hbl hl hin)
  clear hl hbl hin hxn hxs hln
  go_enter Tryz.func7, Tryz.ntmps7
  go_wp2_with (first | (go_at_call 21; refine KB.out.mono ?_; rintro e w1 ⟨t, ht2, ht, rfl, hx1⟩; refine Hid.out ?_))
  refine Lib.hid ?_
  have KM := Lib.hid (fun w => mod_any at_ (t.size : Int) w (u64_ne (by omega) (by omega)))
  have hm := modI_bd at_ (n := (t.size : Int)) (by omega) (by omega)
  obtain ⟨k, hk⟩ : ∃ k : Nat, modI at_ t.size = k := ⟨(modI at_ t.size).toNat, by omega⟩
  rw [hk] at KM hm
  clear hk
  go_upto_region 3 with (first | (go_at_call 24; refine (KM.out _).mono ?_; rintro e w2 ⟨rfl, hx2⟩))
  have hx4 := hx1.trans hx2
  have q1 : (k : Int) ≤ t.size := by omega
  have q2 : (k : Int) + 1 ≤ t.size := by omega
  have q3 : (0 : Int) ≤ (k : Int) + 1 := by omega
  have q4 : ((k : Int) + 1).toNat = k + 1 := by omega
  have q5 : IntKind.i64.wrap ((k : Int) + 1) = (k : Int) + 1 := IntWalk.i64_in _ (by omega)
  have z1 : (t.extract 0 k).size = k := by rw [ByteArray.size_extract]; omega
  have z2 : (t.extract (k + 1) t.size).size = t.size - (k + 1) := by rw [ByteArray.size_extract]; omega
  have y1 : ¬ 9223372036854775807 < k + 1 := by omega
  have y2 : ¬ 9223372036854775807 < k + 1 + (t.size - (k + 1)) := by omega
  have y3 : ¬ 9223372036854775807 < k + (t.size - (k + 1)) := by omega
  go_region
  have hx5 := (hx4.alloc (.cells #[Value.int .u8 c] 5)).drew
  generalize (w2.alloc (.cells #[Value.int .u8 c] 5)).drew = w5 at *
  cases out
  · go_upto_region 6 with fail
    have henv4 := henv.ext hx5
    have hU : ((t.extract 0 k ++ str1 c ++ t.extract (k + 1) t.size)).size ≤ 281474976710656 := by simp only [size_app, z1, z2]; show (k + 1 + (t.size - (k + 1))) ≤ _; omega
    have c0 := fun (w' : World) (h : Ext w5 w') => awake20 w' (henv4.ext h)
    have c2 := fun (w' : World) (h : Ext w5 w') => cagrees_any ((t.extract 0 k ++ str1 c ++ t.extract (k + 1) t.size)) hU w' (henv4.ext h)
    clear z1 z2 q4 q5
    refine wp_region_rgs ?_
    first
      | (apply goV_skip (by intro u; rfl))
      | (apply goV_call (by intro u; rfl) c0; · (intro u w hSw hF; go_simp; try with_reducible rfl))
    try simp only [Act.put, List.setIfInBounds_toArray, List.set_cons_zero, List.set_cons_succ]
    first
      | (apply goV_skip (by intro u; rfl))
      | (apply goV_val _ (by intro u; rfl); · (intro u w hSw hF; go_simp; try with_reducible rfl))
    try simp only [Act.put, List.setIfInBounds_toArray, List.set_cons_zero, List.set_cons_succ]
    first
      | (apply goV_skip (by intro u; rfl))
      | (apply goV_val _ (by intro u; rfl); · (intro u w hSw hF; go_simp; try with_reducible rfl))
    try simp only [Act.put, List.setIfInBounds_toArray, List.set_cons_zero, List.set_cons_succ]
    first
      | (apply goV_skip (by intro u; rfl))
      | (apply goV_call (by intro u; rfl) c2; · (intro u w hSw hF; go_simp; try with_reducible rfl))
    try simp only [Act.put, List.setIfInBounds_toArray, List.set_cons_zero, List.set_cons_succ]
    first
      | (apply goV_skip (by intro u; rfl))
      | (apply goV_val _ (by intro u; rfl); · (intro u w hSw hF; go_simp; try with_reducible rfl))
    try simp only [Act.put, List.setIfInBounds_toArray, List.set_cons_zero, List.set_cons_succ]
    first
      | (apply goV_skip (by intro u; rfl))
      | (apply goV_val _ (by intro u; rfl); · (intro u w hSw hF; go_simp; try with_reducible rfl))
    try simp only [Act.put, List.setIfInBounds_toArray, List.set_cons_zero, List.set_cons_succ]
    intro u w7 hx7 _
    go_wp2
    go_ret; exact ⟨rfl, (hx5).trans hx7⟩
  · go_upto_region 5 with fail
    go_region
    have hx6 := hx5.drew
    generalize w5.drew = w6 at *
    go_upto_region 6 with fail
    have henv4 := henv.ext hx6
    have hU : ((t.extract 0 k ++ t.extract (k + 1) t.size)).size ≤ 281474976710656 := by simp only [size_app, z1, z2]; show (k + (t.size - (k + 1))) ≤ _; omega
    have c0 := fun (w' : World) (h : Ext w6 w') => awake20 w' (henv4.ext h)
    have c2 := fun (w' : World) (h : Ext w6 w') => cagrees_any ((t.extract 0 k ++ t.extract (k + 1) t.size)) hU w' (henv4.ext h)
    clear z1 z2 q4 q5
    refine wp_region_rgs ?_
    first
      | (apply goV_skip (by intro u; rfl))
      | (apply goV_call (by intro u; rfl) c0; · (intro u w hSw hF; go_simp; try with_reducible rfl))
    try simp only [Act.put, List.setIfInBounds_toArray, List.set_cons_zero, List.set_cons_succ]
    first
      | (apply goV_skip (by intro u; rfl))
      | (apply goV_val _ (by intro u; rfl); · (intro u w hSw hF; go_simp; try with_reducible rfl))
    try simp only [Act.put, List.setIfInBounds_toArray, List.set_cons_zero, List.set_cons_succ]
    first
      | (apply goV_skip (by intro u; rfl))
      | (apply goV_val _ (by intro u; rfl); · (intro u w hSw hF; go_simp; try with_reducible rfl))
    try simp only [Act.put, List.setIfInBounds_toArray, List.set_cons_zero, List.set_cons_succ]
    first
      | (apply goV_skip (by intro u; rfl))
      | (apply goV_call (by intro u; rfl) c2; · (intro u w hSw hF; go_simp; try with_reducible rfl))
    try simp only [Act.put, List.setIfInBounds_toArray, List.set_cons_zero, List.set_cons_succ]
    first
      | (apply goV_skip (by intro u; rfl))
      | (apply goV_val _ (by intro u; rfl); · (intro u w hSw hF; go_simp; try with_reducible rfl))
    try simp only [Act.put, List.setIfInBounds_toArray, List.set_cons_zero, List.set_cons_succ]
    first
      | (apply goV_skip (by intro u; rfl))
      | (apply goV_val _ (by intro u; rfl); · (intro u w hSw hF; go_simp; try with_reducible rfl))
    try simp only [Act.put, List.setIfInBounds_toArray, List.set_cons_zero, List.set_cons_succ]
    intro u w7 hx7 _
    go_wp2
    go_ret; exact ⟨rfl, (hx6).trans hx7⟩
end Go.Proofs.YtpdoddelnahlnaaGreatDoor
