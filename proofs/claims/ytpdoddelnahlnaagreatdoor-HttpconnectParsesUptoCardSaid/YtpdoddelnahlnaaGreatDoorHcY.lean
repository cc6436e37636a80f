/-
  HttpconnectParses.
-/
import Derived.Test.YtpdoddelnahlnaaGreatDoorHcX
set_option linter.unusedSimpArgs false
set_option linter.unusedVariables false
namespace Go.Proofs.YtpdoddelnahlnaaGreatDoor
open Go.RowKit Go.Joins
set_option maxRecDepth 8000 in
set_option maxHeartbeats 8000000 in
theorem HttpconnectParses_walk (s : ByteArray) (n : Int) (la : Option Addr) (ln lc : Nat) (xs : List ByteArray) (a : Option Addr) (kn kc : Nat) (x : ByteArray) (cut : Int)
    (_ : s.size ≤ 140737488351232) (_ : (Lit.int .i64 n).wf = true) (hln : ln ≤ 140737488351232) (hxn : x.size = kn) (hxs : x.size ≤ 140737488351232) (_ : (Lit.int .i64 cut).wf = true)
    (w : World) (henv : Env w) (htabs : Tabs w) (hs0 : s.size < 1048576) (hl : StrsIn w la ln lc xs) (hbl : BigL xs) (hin : OctsIn w a kn kc x) :
    Calls Tryz.prog 6 #[.string s, .int .i64 n, .slice la ln lc, .slice a kn kc, .int .i64 cut] w fun e w' => e = .returned (.bool true) ∧ Ext w w' := by
  have KB := Lib.hid (bhead_any n la ln lc xs a kn kc x w hln (by omega) hbl hl hin)
  clear hl hbl hin hxn hxs hln
  go_enter Tryz.func6, Tryz.ntmps6
  go_wp2_with (first | (go_at_call 21; refine KB.out.mono ?_; rintro e w1 ⟨t, ht2, ht, rfl, hx1⟩; refine Hid.out ?_))
  refine Lib.hid ?_
  have y1 : ¬ 9223372036854775807 < t.size + s.size := by omega
  go_upto_region 2 with fail
  have hT : (t ++ s).size ≤ 22000000 := by rw [size_app]; omega
  generalize t ++ s = T at *
  have henv1 := henv.ext hx1
  have c0 := fun (w' : World) (h : Ext w1 w') => awake20 w' (henv1.ext h)
  have c1 := fun (w' : World) (h : Ext w1 w') => cagrees_any s (by omega) w' (henv1.ext h)
  have c2 := fun (w' : World) (h : Ext w1 w') => cagrees_any T (by omega) w' (henv1.ext h)
  have c4 := fun (w' : World) (h : Ext w1 w') => cagrees_any (⟨#[67, 79, 78, 78, 69, 67, 84, 32]⟩ ++ s) (by rw [size_app]; show 8 + s.size ≤ _; omega) w' (henv1.ext h)
  have y2 : ¬ 9223372036854775807 < 8 + s.size := by omega
  have eW : IntKind.u64.wrap ((T.size : Int) + 1) = (T.size : Int) + 1 := by rw [IntKind.wrap_u64]; omega
  have eW1 : IntKind.i64.wrap ((T.size : Int) + 1) = (T.size : Int) + 1 := IntWalk.i64_in _ (by omega)
  have hq := modI_bd cut (n := (T.size : Int) + 1) (by omega) (by omega)
  unfold modI at hq
  rw [eW] at hq
  obtain ⟨q, hqe⟩ : ∃ q : Nat, IntKind.i64.wrap ((IntKind.u64.wrap cut).tmod ((T.size : Int) + 1)) = (q : Int) := ⟨(IntKind.i64.wrap ((IntKind.u64.wrap cut).tmod ((T.size : Int) + 1))).toNat, by
    have : IntKind.i64.wrap ((IntKind.u64.wrap cut).tmod ((T.size : Int) + 1)) = wrap64 ((IntKind.u64.wrap cut).tmod ((T.size : Int) + 1)) := IntWalk.i64_left _
    rw [this]; omega⟩
  have hq2 : (q : Int) ≤ T.size := by
    have : IntKind.i64.wrap ((IntKind.u64.wrap cut).tmod ((T.size : Int) + 1)) = wrap64 ((IntKind.u64.wrap cut).tmod ((T.size : Int) + 1)) := IntWalk.i64_left _
    rw [this] at hqe; omega
  have hq3 : (0 : Int) ≤ q := by omega
  have c3 := fun (w' : World) (h : Ext w1 w') => cagrees_any (T.extract 0 q) (Nat.le_trans (extract_le _ _ _) (by omega)) w' (henv1.ext h)
  clear hq
  have hne : ((T.size : Int) + 1 == 0) = false := by rw [beq_eq_false_iff_ne]; omega
  have hne2 : ¬ ((T.size : Int) + 1 = 0) := by omega
  clear ht2 ht hs0 y1
  refine wp_region_rgs ?_
  first
    | (apply goV_skip (by intro u; rfl))
    | (apply goV_call (by intro u; rfl) c0; · (intro u w hSw hF; go_simp; try with_reducible rfl))
  try simp only [Act.put, List.setIfInBounds_toArray, List.set_cons_zero, List.set_cons_succ]
  first
    | (apply goV_skip (by intro u; rfl))
    | (apply goV_val _ (by intro u; rfl); · (intro u w hSw hF; go_simp; try with_reducible rfl))
  try simp only [Act.put, List.setIfInBounds_toArray, List.set_cons_zero, List.set_cons_succ]
  first
    | (apply goV_skip (by intro u; rfl))
    | (apply goV_val _ (by intro u; rfl); · (intro u w hSw hF; go_simp; try with_reducible rfl))
  try simp only [Act.put, List.setIfInBounds_toArray, List.set_cons_zero, List.set_cons_succ]
  first
    | (apply goV_skip (by intro u; rfl))
    | (apply goV_call (by intro u; rfl) c1; · (intro u w hSw hF; go_simp; try with_reducible rfl))
  try simp only [Act.put, List.setIfInBounds_toArray, List.set_cons_zero, List.set_cons_succ]
  first
    | (apply goV_skip (by intro u; rfl))
    | (apply goV_val _ (by intro u; rfl); · (intro u w hSw hF; go_simp; try with_reducible rfl))
  try simp only [Act.put, List.setIfInBounds_toArray, List.set_cons_zero, List.set_cons_succ]
  first
    | (apply goV_skip (by intro u; rfl))
    | (apply goV_val _ (by intro u; rfl); · (intro u w hSw hF; go_simp; try with_reducible rfl))
  try simp only [Act.put, List.setIfInBounds_toArray, List.set_cons_zero, List.set_cons_succ]
  first
    | (apply goV_skip (by intro u; rfl))
    | (apply goV_val _ (by intro u; rfl); · (intro u w hSw hF; go_simp; try with_reducible rfl))
  try simp only [Act.put, List.setIfInBounds_toArray, List.set_cons_zero, List.set_cons_succ]
  first
    | (apply goV_skip (by intro u; rfl))
    | (apply goV_call (by intro u; rfl) c2; · (intro u w hSw hF; go_simp; try with_reducible rfl))
  try simp only [Act.put, List.setIfInBounds_toArray, List.set_cons_zero, List.set_cons_succ]
  first
    | (apply goV_skip (by intro u; rfl))
    | (apply goV_val _ (by intro u; rfl); · (intro u w hSw hF; go_simp; try with_reducible rfl))
  try simp only [Act.put, List.setIfInBounds_toArray, List.set_cons_zero, List.set_cons_succ]
  first
    | (apply goV_skip (by intro u; rfl))
    | (apply goV_val _ (by intro u; rfl); · (intro u w hSw hF; go_simp; try with_reducible rfl))
  try simp only [Act.put, List.setIfInBounds_toArray, List.set_cons_zero, List.set_cons_succ]
  first
    | (apply goV_skip (by intro u; rfl))
    | (apply goV_val _ (by intro u; rfl); · (intro u w hSw hF; go_simp; try with_reducible rfl))
  try simp only [Act.put, List.setIfInBounds_toArray, List.set_cons_zero, List.set_cons_succ]
  first
    | (apply goV_skip (by intro u; rfl))
    | (apply goV_val _ (by intro u; rfl); · (intro u w hSw hF; go_simp; try with_reducible rfl))
  try simp only [Act.put, List.setIfInBounds_toArray, List.set_cons_zero, List.set_cons_succ]
  first
    | (apply goV_skip (by intro u; rfl))
    | (apply goV_val _ (by intro u; rfl); · (intro u w hSw hF; go_simp; try with_reducible rfl))
  try simp only [Act.put, List.setIfInBounds_toArray, List.set_cons_zero, List.set_cons_succ]
  first
    | (apply goV_skip (by intro u; rfl))
    | (apply goV_val _ (by intro u; rfl); · (intro u w hSw hF; go_simp; try with_reducible rfl))
  try simp only [Act.put, List.setIfInBounds_toArray, List.set_cons_zero, List.set_cons_succ]
  first
    | (apply goV_skip (by intro u; rfl))
    | (apply goV_val _ (by intro u; rfl); · (intro u w hSw hF; go_simp; try with_reducible rfl))
  try simp only [Act.put, List.setIfInBounds_toArray, List.set_cons_zero, List.set_cons_succ]
  first
    | (apply goV_skip (by intro u; rfl))
    | (apply goV_val _ (by intro u; rfl); · (intro u w hSw hF; go_simp; try with_reducible rfl))
  try simp only [Act.put, List.setIfInBounds_toArray, List.set_cons_zero, List.set_cons_succ]
  first
    | (apply goV_skip (by intro u; rfl))
    | (apply goV_val _ (by intro u; rfl); · (intro u w hSw hF; go_simp; try with_reducible rfl))
  try simp only [Act.put, List.setIfInBounds_toArray, List.set_cons_zero, List.set_cons_succ]
  first
    | (apply goV_skip (by intro u; rfl))
    | (apply goV_val _ (by intro u; rfl); · (intro u w hSw hF; go_simp; try with_reducible rfl))
  try simp only [Act.put, List.setIfInBounds_toArray, List.set_cons_zero, List.set_cons_succ]
  first
    | (apply goV_skip (by intro u; rfl))
    | (apply goV_val _ (by intro u; rfl); · (intro u w hSw hF; go_simp; try with_reducible rfl))
  try simp only [Act.put, List.setIfInBounds_toArray, List.set_cons_zero, List.set_cons_succ]
  first
    | (apply goV_skip (by intro u; rfl))
    | (apply goV_val _ (by intro u; rfl); · (intro u w hSw hF; go_simp; try with_reducible rfl))
  try simp only [Act.put, List.setIfInBounds_toArray, List.set_cons_zero, List.set_cons_succ]
  first
    | (apply goV_skip (by intro u; rfl))
    | (apply goV_call (by intro u; rfl) c3; · (intro u w hSw hF; go_simp; try with_reducible rfl))
  try simp only [Act.put, List.setIfInBounds_toArray, List.set_cons_zero, List.set_cons_succ]
  first
    | (apply goV_skip (by intro u; rfl))
    | (apply goV_val _ (by intro u; rfl); · (intro u w hSw hF; go_simp; try with_reducible rfl))
  try simp only [Act.put, List.setIfInBounds_toArray, List.set_cons_zero, List.set_cons_succ]
  first
    | (apply goV_skip (by intro u; rfl))
    | (apply goV_val _ (by intro u; rfl); · (intro u w hSw hF; go_simp; try with_reducible rfl))
  try simp only [Act.put, List.setIfInBounds_toArray, List.set_cons_zero, List.set_cons_succ]
  first
    | (apply goV_skip (by intro u; rfl))
    | (apply goV_val _ (by intro u; rfl); · (intro u w hSw hF; go_simp; try with_reducible rfl))
  try simp only [Act.put, List.setIfInBounds_toArray, List.set_cons_zero, List.set_cons_succ]
  first
    | (apply goV_skip (by intro u; rfl))
    | (apply goV_val _ (by intro u; rfl); · (intro u w hSw hF; go_simp; try with_reducible rfl))
  try simp only [Act.put, List.setIfInBounds_toArray, List.set_cons_zero, List.set_cons_succ]
  first
    | (apply goV_skip (by intro u; rfl))
    | (apply goV_call (by intro u; rfl) c4; · (intro u w hSw hF; go_simp; try with_reducible rfl))
  try simp only [Act.put, List.setIfInBounds_toArray, List.set_cons_zero, List.set_cons_succ]
  first
    | (apply goV_skip (by intro u; rfl))
    | (apply goV_val _ (by intro u; rfl); · (intro u w hSw hF; go_simp; try with_reducible rfl))
  try simp only [Act.put, List.setIfInBounds_toArray, List.set_cons_zero, List.set_cons_succ]
  first
    | (apply goV_skip (by intro u; rfl))
    | (apply goV_val _ (by intro u; rfl); · (intro u w hSw hF; go_simp; try with_reducible rfl))
  try simp only [Act.put, List.setIfInBounds_toArray, List.set_cons_zero, List.set_cons_succ]
  intro u w7 hx7 _
  go_wp2
  go_ret; exact ⟨rfl, hx1.trans hx7⟩
end Go.Proofs.YtpdoddelnahlnaaGreatDoor
