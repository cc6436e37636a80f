/-
  HostSubdomains.
-/
import Derived.Test.YtpdoddelnahlnaaDoorHoRt
import Derived.Test.YtpdoddelnahlnaaDoorHoAw
set_option linter.unusedSimpArgs false
set_option linter.unusedVariables false
namespace Go.Proofs.YtpdoddelnahlnaaDoor
open Go.RowKit
theorem parts_join (x y : ByteArray) : parts 46 (x ++ ⟨#[46]⟩ ++ y) = parts 46 x ++ parts 46 y := by
  unfold parts
  have e : (x ++ (⟨#[46]⟩ : ByteArray) ++ y).data.toList = x.data.toList ++ 46 :: y.data.toList := by
    rw [data_append, data_append, List.append_assoc]; rfl
  rw [e, splitc_app, List.map_append]
theorem okName_join {x y : ByteArray} (hx : okName x = true) (hy : okName y = true) (hz : x.size + y.size ≤ 252) : okName (x ++ ⟨#[46]⟩ ++ y) = true := by
  unfold okName at *
  rw [Bool.and_eq_true, Bool.and_eq_true] at *
  have e : lastL (parts 46 x ++ parts 46 y) = lastL (parts 46 y) := by
    unfold lastL
    rw [List.getLast?_append]
    have := parts_pos 46 y
    cases h : (parts 46 y).getLast? with
    | none => rw [List.getLast?_eq_none_iff] at h; rw [h] at this; simp at this
    | some q => rfl
  rw [parts_join, e]
  refine ⟨⟨decide_eq_true ?_, ?_⟩, hy.2⟩
  · rw [ByteArray.size_append, ByteArray.size_append]; show x.size + 1 + y.size ≤ 253; omega
  · rw [List.all_append, hx.1.2, hy.1.2]; rfl
theorem sub_join {x y : ByteArray} (hx : okName (x ++ ⟨#[46]⟩ ++ y) = true) (hy : okName y = true) : subP (x ++ ⟨#[46]⟩ ++ y) y = true := by
  unfold subP
  rw [hx, hy]
  have : Lib.hasSuffix (x ++ (⟨#[46]⟩ : ByteArray) ++ y).data.toList (46 :: y.data.toList) = true := by
    have e : (x ++ (⟨#[46]⟩ : ByteArray) ++ y).data.toList = x.data.toList ++ 46 :: y.data.toList := by
      rw [data_append, data_append, List.append_assoc]; rfl
    unfold Lib.hasSuffix
    rw [e, List.isSuffixOf_iff_suffix]
    exact List.suffix_append _ _
  rw [this]; simp
theorem sub_self {y : ByteArray} (hy : okName y = true) : subP y y = true := by unfold subP; rw [hy]; simp
theorem sub_long {y z : ByteArray} (h : y.size < z.size) : subP y z = false := by
  unfold subP
  have h1 : decide (y = z) = false := decide_eq_false (fun e => by rw [e] at h; omega)
  have h2 : Lib.hasSuffix y.data.toList (46 :: z.data.toList) = false := by
    rw [← Lib.hasSuffix_of_drop, List.length_cons, ← size_list, ← size_list, decide_eq_false (by omega)]; rfl
  rw [h1, h2]; simp
theorem sub_k (y : ByteArray) : subP (⟨#[107]⟩ ++ y) y = false := by
  unfold subP
  have hz : ((⟨#[107]⟩ : ByteArray) ++ y).size = 1 + y.size := by rw [ByteArray.size_append]; rfl
  have h1 : decide ((⟨#[107]⟩ : ByteArray) ++ y = y) = false := decide_eq_false (fun e => by rw [e] at hz; omega)
  have h2 : Lib.hasSuffix ((⟨#[107]⟩ : ByteArray) ++ y).data.toList (46 :: y.data.toList) = false := by
    have e : ((⟨#[107]⟩ : ByteArray) ++ y).data.toList = 107 :: y.data.toList := by rw [data_append]; rfl
    rw [e]
    cases h : Lib.hasSuffix (107 :: y.data.toList) (46 :: y.data.toList) with
    | false => rfl
    | true =>
      unfold Lib.hasSuffix at h
      rw [List.isSuffixOf_iff_suffix] at h
      have := h.eq_of_length (by simp)
      injection this with h3 _
      cases h3
  rw [h1, h2]; simp
theorem lab_join {x y : ByteArray} (hx : okName x = true) (hy : okName y = true) (hz : okName (x ++ ⟨#[46]⟩ ++ y) = true) : labP (x ++ ⟨#[46]⟩ ++ y) = labP x + labP y := by
  unfold labP
  rw [if_pos hx, if_pos hy, if_pos hz, parts_join, List.length_append]; omega
theorem labP_bd (x : ByteArray) : 0 ≤ labP x ∧ labP x ≤ 254 := by
  unfold labP
  split
  · rename_i h
    have := okName_size h
    have := parts_len 46 x
    omega
  · omega
theorem nameP_ok {s : ByteArray} (h : (nameP s).2 = true) : okName (nameP s).1 = true := by
  unfold nameP at *
  split at h
  · rename_i q; rw [if_pos q]; exact q
  · cases h
theorem nameP_len (s : ByteArray) : (nameP s).1.size ≤ 253 := by
  unfold nameP
  split
  · rename_i q; exact okName_size q
  · exact Nat.zero_le _
set_option maxRecDepth 8000 in
set_option maxHeartbeats 8000000 in
theorem HostSubdomains_walk (a b c : ByteArray) (ha : a.size ≤ 140737488351232) (hb : b.size ≤ 140737488351232) (hc : c.size ≤ 140737488351232) (w : World) (henv : Env w) (htabs : Tabs w) :
    Calls Tryd.prog 3 #[.string a, .string b, .string c] w fun e w' => e = .returned (.bool true) ∧ Ext w w' := by
  have ha' : a.size ≤ maxLen := by unfold maxLen; omega
  have hb' : b.size ≤ maxLen := by unfold maxLen; omega
  have hc' : c.size ≤ maxLen := by unfold maxLen; omega
  have KA := Lib.hid (fun w => rpname_any a w ha')
  have KB := Lib.hid (fun w => rpname_any b w hb')
  have I1 := Lib.hid (fun w h => isub_any a b w h ha' hb')
  have R1 := Lib.hid (fun w => risub_any a b w ha' hb')
  have I2 := Lib.hid (fun w h => isub_any b c w h hb' hc')
  have R2 := Lib.hid (fun w => risub_any b c w hb' hc')
  have hx := @nameP_ok a
  have hy := @nameP_ok b
  have zx := nameP_len a
  have zy := nameP_len b
  clear ha hb hc
  generalize subP a b = s1 at *
  generalize subP b c = s2 at *
  generalize (nameP a).1 = x at *
  generalize (nameP a).2 = xok at *
  generalize (nameP b).1 = y at *
  generalize (nameP b).2 = yok at *
  cases xok
  case false =>
    go_enter Tryd.func3, Tryd.ntmps3
    go_upto_region 3 with (first | (go_at_call 5; first | (with_reducible refine (KA.out w).mono ?_; rintro e w1 ⟨rfl, hx1⟩; clear KA) | (with_reducible refine (KB.out w1).mono ?_; rintro e w2 ⟨rfl, hx2⟩; refine Hid.out ?_)))
    refine Lib.hid ?_
    go_upto_region 3 with fail
    have hxx2 := hx1.trans hx2
    clear hx1 hx2 KB
    have c1 := fun (w' : World) (h : Ext w2 w') => I1.out w' (henv.ext (hxx2.trans h))
    have c2 := fun (w' : World) (h : Ext w2 w') => R1.out w'
    have c3 := fun (w' : World) (h : Ext w2 w') => I2.out w' (henv.ext (hxx2.trans h))
    have c4 := fun (w' : World) (h : Ext w2 w') => R2.out w'
    refine wp_region_rgs ?_
    first
      | (apply goV_skip (by intro u; rfl))
      | (apply goV_val _ (by intro u; rfl); · (intro u w hSw hF; go_simp; try with_reducible rfl))
    try simp only [Act.put, List.setIfInBounds_toArray, List.set_cons_zero, List.set_cons_succ]
    first
      | (apply goV_skip (by intro u; rfl))
      | (apply goV_val _ (by intro u; rfl); · (intro u w hSw hF; go_simp; try with_reducible rfl))
    try simp only [Act.put, List.setIfInBounds_toArray, List.set_cons_zero, List.set_cons_succ]
    first
      | (apply goV_skip (by intro u; rfl))
      | (apply goV_call (by intro u; rfl) c1; · (intro u w hSw hF; go_simp; try with_reducible rfl))
    try simp only [Act.put, List.setIfInBounds_toArray, List.set_cons_zero, List.set_cons_succ]
    first
      | (apply goV_skip (by intro u; rfl))
      | (apply goV_val _ (by intro u; rfl); · (intro u w hSw hF; go_simp; try with_reducible rfl))
    try simp only [Act.put, List.setIfInBounds_toArray, List.set_cons_zero, List.set_cons_succ]
    first
      | (apply goV_skip (by intro u; rfl))
      | (apply goV_val _ (by intro u; rfl); · (intro u w hSw hF; go_simp; try with_reducible rfl))
    try simp only [Act.put, List.setIfInBounds_toArray, List.set_cons_zero, List.set_cons_succ]
    first
      | (apply goV_skip (by intro u; rfl))
      | (apply goV_call (by intro u; rfl) c2; · (intro u w hSw hF; go_simp; try with_reducible rfl))
    try simp only [Act.put, List.setIfInBounds_toArray, List.set_cons_zero, List.set_cons_succ]
    first
      | (apply goV_skip (by intro u; rfl))
      | (apply goV_val _ (by intro u; rfl); · (intro u w hSw hF; go_simp; try with_reducible rfl))
    try simp only [Act.put, List.setIfInBounds_toArray, List.set_cons_zero, List.set_cons_succ]
    first
      | (apply goV_skip (by intro u; rfl))
      | (apply goV_val _ (by intro u; rfl); · (intro u w hSw hF; go_simp; try with_reducible rfl))
    try simp only [Act.put, List.setIfInBounds_toArray, List.set_cons_zero, List.set_cons_succ]
    first
      | (apply goV_skip (by intro u; rfl))
      | (apply goV_val _ (by intro u; rfl); · (intro u w hSw hF; go_simp; try with_reducible rfl))
    try simp only [Act.put, List.setIfInBounds_toArray, List.set_cons_zero, List.set_cons_succ]
    first
      | (apply goV_skip (by intro u; rfl))
      | (apply goV_val _ (by intro u; rfl); · (intro u w hSw hF; go_simp; try with_reducible rfl))
    try simp only [Act.put, List.setIfInBounds_toArray, List.set_cons_zero, List.set_cons_succ]
    first
      | (apply goV_skip (by intro u; rfl))
      | (apply goV_call (by intro u; rfl) c3; · (intro u w hSw hF; go_simp; try with_reducible rfl))
    try simp only [Act.put, List.setIfInBounds_toArray, List.set_cons_zero, List.set_cons_succ]
    first
      | (apply goV_skip (by intro u; rfl))
      | (apply goV_val _ (by intro u; rfl); · (intro u w hSw hF; go_simp; try with_reducible rfl))
    try simp only [Act.put, List.setIfInBounds_toArray, List.set_cons_zero, List.set_cons_succ]
    first
      | (apply goV_skip (by intro u; rfl))
      | (apply goV_val _ (by intro u; rfl); · (intro u w hSw hF; go_simp; try with_reducible rfl))
    try simp only [Act.put, List.setIfInBounds_toArray, List.set_cons_zero, List.set_cons_succ]
    first
      | (apply goV_skip (by intro u; rfl))
      | (apply goV_call (by intro u; rfl) c4; · (intro u w hSw hF; go_simp; try with_reducible rfl))
    try simp only [Act.put, List.setIfInBounds_toArray, List.set_cons_zero, List.set_cons_succ]
    first
      | (apply goV_skip (by intro u; rfl))
      | (apply goV_val _ (by intro u; rfl); · (intro u w hSw hF; go_simp; try with_reducible rfl))
    try simp only [Act.put, List.setIfInBounds_toArray, List.set_cons_zero, List.set_cons_succ]
    first
      | (apply goV_skip (by intro u; rfl))
      | (apply goV_val _ (by intro u; rfl); · (intro u w hSw hF; go_simp; try with_reducible rfl))
    try simp only [Act.put, List.setIfInBounds_toArray, List.set_cons_zero, List.set_cons_succ]
    intro u w3 hx3 _
    have hxx3 := hxx2.trans hx3
    clear c1 c2 c3 c4 hxx2 hx3 I1 I2 R1 R2
    go_wp2_with (first | (go_at_call 8; refine (awake08 w3 (henv.ext hxx3) (htabs.ext hxx3)).mono ?_; rintro e w4 ⟨rfl, hx4⟩))
    go_ret
    exact ⟨rfl, hxx3.trans hx4⟩
  cases yok
  case false =>
    go_enter Tryd.func3, Tryd.ntmps3
    go_upto_region 3 with (first | (go_at_call 5; first | (with_reducible refine (KA.out w).mono ?_; rintro e w1 ⟨rfl, hx1⟩; clear KA) | (with_reducible refine (KB.out w1).mono ?_; rintro e w2 ⟨rfl, hx2⟩; refine Hid.out ?_)))
    refine Lib.hid ?_
    go_upto_region 3 with fail
    have hxx2 := hx1.trans hx2
    clear hx1 hx2 KB
    have c1 := fun (w' : World) (h : Ext w2 w') => I1.out w' (henv.ext (hxx2.trans h))
    have c2 := fun (w' : World) (h : Ext w2 w') => R1.out w'
    have c3 := fun (w' : World) (h : Ext w2 w') => I2.out w' (henv.ext (hxx2.trans h))
    have c4 := fun (w' : World) (h : Ext w2 w') => R2.out w'
    refine wp_region_rgs ?_
    first
      | (apply goV_skip (by intro u; rfl))
      | (apply goV_val _ (by intro u; rfl); · (intro u w hSw hF; go_simp; try with_reducible rfl))
    try simp only [Act.put, List.setIfInBounds_toArray, List.set_cons_zero, List.set_cons_succ]
    first
      | (apply goV_skip (by intro u; rfl))
      | (apply goV_val _ (by intro u; rfl); · (intro u w hSw hF; go_simp; try with_reducible rfl))
    try simp only [Act.put, List.setIfInBounds_toArray, List.set_cons_zero, List.set_cons_succ]
    first
      | (apply goV_skip (by intro u; rfl))
      | (apply goV_call (by intro u; rfl) c1; · (intro u w hSw hF; go_simp; try with_reducible rfl))
    try simp only [Act.put, List.setIfInBounds_toArray, List.set_cons_zero, List.set_cons_succ]
    first
      | (apply goV_skip (by intro u; rfl))
      | (apply goV_val _ (by intro u; rfl); · (intro u w hSw hF; go_simp; try with_reducible rfl))
    try simp only [Act.put, List.setIfInBounds_toArray, List.set_cons_zero, List.set_cons_succ]
    first
      | (apply goV_skip (by intro u; rfl))
      | (apply goV_val _ (by intro u; rfl); · (intro u w hSw hF; go_simp; try with_reducible rfl))
    try simp only [Act.put, List.setIfInBounds_toArray, List.set_cons_zero, List.set_cons_succ]
    first
      | (apply goV_skip (by intro u; rfl))
      | (apply goV_call (by intro u; rfl) c2; · (intro u w hSw hF; go_simp; try with_reducible rfl))
    try simp only [Act.put, List.setIfInBounds_toArray, List.set_cons_zero, List.set_cons_succ]
    first
      | (apply goV_skip (by intro u; rfl))
      | (apply goV_val _ (by intro u; rfl); · (intro u w hSw hF; go_simp; try with_reducible rfl))
    try simp only [Act.put, List.setIfInBounds_toArray, List.set_cons_zero, List.set_cons_succ]
    first
      | (apply goV_skip (by intro u; rfl))
      | (apply goV_val _ (by intro u; rfl); · (intro u w hSw hF; go_simp; try with_reducible rfl))
    try simp only [Act.put, List.setIfInBounds_toArray, List.set_cons_zero, List.set_cons_succ]
    first
      | (apply goV_skip (by intro u; rfl))
      | (apply goV_val _ (by intro u; rfl); · (intro u w hSw hF; go_simp; try with_reducible rfl))
    try simp only [Act.put, List.setIfInBounds_toArray, List.set_cons_zero, List.set_cons_succ]
    first
      | (apply goV_skip (by intro u; rfl))
      | (apply goV_val _ (by intro u; rfl); · (intro u w hSw hF; go_simp; try with_reducible rfl))
    try simp only [Act.put, List.setIfInBounds_toArray, List.set_cons_zero, List.set_cons_succ]
    first
      | (apply goV_skip (by intro u; rfl))
      | (apply goV_call (by intro u; rfl) c3; · (intro u w hSw hF; go_simp; try with_reducible rfl))
    try simp only [Act.put, List.setIfInBounds_toArray, List.set_cons_zero, List.set_cons_succ]
    first
      | (apply goV_skip (by intro u; rfl))
      | (apply goV_val _ (by intro u; rfl); · (intro u w hSw hF; go_simp; try with_reducible rfl))
    try simp only [Act.put, List.setIfInBounds_toArray, List.set_cons_zero, List.set_cons_succ]
    first
      | (apply goV_skip (by intro u; rfl))
      | (apply goV_val _ (by intro u; rfl); · (intro u w hSw hF; go_simp; try with_reducible rfl))
    try simp only [Act.put, List.setIfInBounds_toArray, List.set_cons_zero, List.set_cons_succ]
    first
      | (apply goV_skip (by intro u; rfl))
      | (apply goV_call (by intro u; rfl) c4; · (intro u w hSw hF; go_simp; try with_reducible rfl))
    try simp only [Act.put, List.setIfInBounds_toArray, List.set_cons_zero, List.set_cons_succ]
    first
      | (apply goV_skip (by intro u; rfl))
      | (apply goV_val _ (by intro u; rfl); · (intro u w hSw hF; go_simp; try with_reducible rfl))
    try simp only [Act.put, List.setIfInBounds_toArray, List.set_cons_zero, List.set_cons_succ]
    first
      | (apply goV_skip (by intro u; rfl))
      | (apply goV_val _ (by intro u; rfl); · (intro u w hSw hF; go_simp; try with_reducible rfl))
    try simp only [Act.put, List.setIfInBounds_toArray, List.set_cons_zero, List.set_cons_succ]
    intro u w3 hx3 _
    have hxx3 := hxx2.trans hx3
    clear c1 c2 c3 c4 hxx2 hx3 I1 I2 R1 R2
    go_wp2_with (first | (go_at_call 8; refine (awake08 w3 (henv.ext hxx3) (htabs.ext hxx3)).mono ?_; rintro e w4 ⟨rfl, hx4⟩))
    go_ret
    exact ⟨rfl, hxx3.trans hx4⟩
  replace hx := hx rfl
  replace hy := hy rfl
  by_cases hl : (120 : Int) < (x.size : Int) + y.size
  · clear hx hy
    go_enter Tryd.func3, Tryd.ntmps3
    go_upto_region 3 with (first | (go_at_call 5; first | (with_reducible refine (KA.out w).mono ?_; rintro e w1 ⟨rfl, hx1⟩; clear KA) | (with_reducible refine (KB.out w1).mono ?_; rintro e w2 ⟨rfl, hx2⟩; refine Hid.out ?_)))
    refine Lib.hid ?_
    go_upto_region 3 with fail
    have hxx2 := hx1.trans hx2
    clear hx1 hx2 KB
    have c1 := fun (w' : World) (h : Ext w2 w') => I1.out w' (henv.ext (hxx2.trans h))
    have c2 := fun (w' : World) (h : Ext w2 w') => R1.out w'
    have c3 := fun (w' : World) (h : Ext w2 w') => I2.out w' (henv.ext (hxx2.trans h))
    have c4 := fun (w' : World) (h : Ext w2 w') => R2.out w'
    refine wp_region_rgs ?_
    first
      | (apply goV_skip (by intro u; rfl))
      | (apply goV_val _ (by intro u; rfl); · (intro u w hSw hF; go_simp; try with_reducible rfl))
    try simp only [Act.put, List.setIfInBounds_toArray, List.set_cons_zero, List.set_cons_succ]
    first
      | (apply goV_skip (by intro u; rfl))
      | (apply goV_val _ (by intro u; rfl); · (intro u w hSw hF; go_simp; try with_reducible rfl))
    try simp only [Act.put, List.setIfInBounds_toArray, List.set_cons_zero, List.set_cons_succ]
    first
      | (apply goV_skip (by intro u; rfl))
      | (apply goV_call (by intro u; rfl) c1; · (intro u w hSw hF; go_simp; try with_reducible rfl))
    try simp only [Act.put, List.setIfInBounds_toArray, List.set_cons_zero, List.set_cons_succ]
    first
      | (apply goV_skip (by intro u; rfl))
      | (apply goV_val _ (by intro u; rfl); · (intro u w hSw hF; go_simp; try with_reducible rfl))
    try simp only [Act.put, List.setIfInBounds_toArray, List.set_cons_zero, List.set_cons_succ]
    first
      | (apply goV_skip (by intro u; rfl))
      | (apply goV_val _ (by intro u; rfl); · (intro u w hSw hF; go_simp; try with_reducible rfl))
    try simp only [Act.put, List.setIfInBounds_toArray, List.set_cons_zero, List.set_cons_succ]
    first
      | (apply goV_skip (by intro u; rfl))
      | (apply goV_call (by intro u; rfl) c2; · (intro u w hSw hF; go_simp; try with_reducible rfl))
    try simp only [Act.put, List.setIfInBounds_toArray, List.set_cons_zero, List.set_cons_succ]
    first
      | (apply goV_skip (by intro u; rfl))
      | (apply goV_val _ (by intro u; rfl); · (intro u w hSw hF; go_simp; try with_reducible rfl))
    try simp only [Act.put, List.setIfInBounds_toArray, List.set_cons_zero, List.set_cons_succ]
    first
      | (apply goV_skip (by intro u; rfl))
      | (apply goV_val _ (by intro u; rfl); · (intro u w hSw hF; go_simp; try with_reducible rfl))
    try simp only [Act.put, List.setIfInBounds_toArray, List.set_cons_zero, List.set_cons_succ]
    first
      | (apply goV_skip (by intro u; rfl))
      | (apply goV_val _ (by intro u; rfl); · (intro u w hSw hF; go_simp; try with_reducible rfl))
    try simp only [Act.put, List.setIfInBounds_toArray, List.set_cons_zero, List.set_cons_succ]
    first
      | (apply goV_skip (by intro u; rfl))
      | (apply goV_val _ (by intro u; rfl); · (intro u w hSw hF; go_simp; try with_reducible rfl))
    try simp only [Act.put, List.setIfInBounds_toArray, List.set_cons_zero, List.set_cons_succ]
    first
      | (apply goV_skip (by intro u; rfl))
      | (apply goV_call (by intro u; rfl) c3; · (intro u w hSw hF; go_simp; try with_reducible rfl))
    try simp only [Act.put, List.setIfInBounds_toArray, List.set_cons_zero, List.set_cons_succ]
    first
      | (apply goV_skip (by intro u; rfl))
      | (apply goV_val _ (by intro u; rfl); · (intro u w hSw hF; go_simp; try with_reducible rfl))
    try simp only [Act.put, List.setIfInBounds_toArray, List.set_cons_zero, List.set_cons_succ]
    first
      | (apply goV_skip (by intro u; rfl))
      | (apply goV_val _ (by intro u; rfl); · (intro u w hSw hF; go_simp; try with_reducible rfl))
    try simp only [Act.put, List.setIfInBounds_toArray, List.set_cons_zero, List.set_cons_succ]
    first
      | (apply goV_skip (by intro u; rfl))
      | (apply goV_call (by intro u; rfl) c4; · (intro u w hSw hF; go_simp; try with_reducible rfl))
    try simp only [Act.put, List.setIfInBounds_toArray, List.set_cons_zero, List.set_cons_succ]
    first
      | (apply goV_skip (by intro u; rfl))
      | (apply goV_val _ (by intro u; rfl); · (intro u w hSw hF; go_simp; try with_reducible rfl))
    try simp only [Act.put, List.setIfInBounds_toArray, List.set_cons_zero, List.set_cons_succ]
    first
      | (apply goV_skip (by intro u; rfl))
      | (apply goV_val _ (by intro u; rfl); · (intro u w hSw hF; go_simp; try with_reducible rfl))
    try simp only [Act.put, List.setIfInBounds_toArray, List.set_cons_zero, List.set_cons_succ]
    intro u w3 hx3 _
    have hxx3 := hxx2.trans hx3
    clear c1 c2 c3 c4 hxx2 hx3 I1 I2 R1 R2
    go_wp2_with (first | (go_at_call 8; refine (awake08 w3 (henv.ext hxx3) (htabs.ext hxx3)).mono ?_; rintro e w4 ⟨rfl, hx4⟩))
    go_ret
    exact ⟨rfl, hxx3.trans hx4⟩
  have hz := okName_join hx hy (by omega)
  have hzz : (x ++ (⟨#[46]⟩ : ByteArray) ++ y).size = x.size + 1 + y.size := by rw [ByteArray.size_append, ByteArray.size_append]; rfl
  have hk := okName_join (x := ⟨#[107]⟩) (by decide +kernel) hz (by rw [hzz]; show 1 + _ ≤ _; omega)
  have b1 := sub_join hz hy
  have b2 := sub_self hy
  have b3 := sub_long (y := y) (z := x ++ ⟨#[46]⟩ ++ y) (by rw [hzz]; omega)
  have b4 : subP (⟨#[107, 46]⟩ ++ (x ++ ⟨#[46]⟩ ++ y)) y = true := by
    have e : (⟨#[107, 46]⟩ : ByteArray) ++ (x ++ ⟨#[46]⟩ ++ y) = (⟨#[107]⟩ ++ ⟨#[46]⟩ ++ x) ++ ⟨#[46]⟩ ++ y := by
      refine BA_ext ?_
      simp only [data_append]
      simp
    rw [e]
    refine sub_join ?_ hy
    have e2 : (⟨#[107]⟩ ++ ⟨#[46]⟩ ++ x) ++ (⟨#[46]⟩ : ByteArray) ++ y = ⟨#[107]⟩ ++ ⟨#[46]⟩ ++ (x ++ ⟨#[46]⟩ ++ y) := by
      refine BA_ext ?_
      simp only [data_append, List.append_assoc]
    rw [e2]; exact hk
  have b5 := sub_k y
  have b6 := lab_join hx hy hz
  have zm : (x ++ (⟨#[46]⟩ : ByteArray) ++ y).size ≤ maxLen := by rw [hzz]; unfold maxLen; omega
  have ym : y.size ≤ maxLen := by unfold maxLen; omega
  have xm : x.size ≤ maxLen := by unfold maxLen; omega
  have J1 := Lib.hid (fun w h => isub_any _ y w h zm ym)
  have J2 := Lib.hid (fun w h => isub_any y y w h ym ym)
  have J3 := Lib.hid (fun w h => isub_any y _ w h ym zm)
  have J4 := Lib.hid (fun w h => isub_any (⟨#[107, 46]⟩ ++ (x ++ ⟨#[46]⟩ ++ y)) y w h (by rw [ByteArray.size_append, hzz]; show 2 + _ ≤ _; unfold maxLen; omega) ym)
  have J5 := Lib.hid (fun w h => isub_any (⟨#[107]⟩ ++ y) y w h (by rw [ByteArray.size_append]; show 1 + _ ≤ _; unfold maxLen; omega) ym)
  have L1 := Lib.hid (fun w h => label_any _ w h zm)
  have L2 := Lib.hid (fun w => rlabel_any x w xm)
  have L3 := Lib.hid (fun w => rlabel_any y w ym)
  have J6 := Lib.hid (fun w h => isub_any _ c w h zm hc')
  have J7 := Lib.hid (fun w => risub_any _ c w zm hc')
  rw [b1] at J1
  rw [b2] at J2
  rw [b3] at J3
  rw [b4] at J4
  rw [b5] at J5
  rw [b6] at L1
  have lx := labP_bd x
  have ly := labP_bd y
  have y1 : ¬ 9223372036854775807 < x.size + 1 := by omega
  have y2 : ¬ 9223372036854775807 < x.size + 1 + y.size := by omega
  have y3 : ¬ 9223372036854775807 < 2 + (x ++ (⟨#[46]⟩ : ByteArray) ++ y).size := by rw [hzz]; omega
  have y3b : ¬ 9223372036854775807 < 2 + (x.size + 1 + y.size) := by omega
  have y4 : ¬ 9223372036854775807 < 1 + y.size := by omega
  clear hz hk b1 b2 b3 b4 b5 b6 hx hy zm ym xm hc' hb' ha' hzz
  go_enter Tryd.func3, Tryd.ntmps3
  go_upto_region 3 with (first | (go_at_call 5; first | (with_reducible refine (KA.out w).mono ?_; rintro e w1 ⟨rfl, hx1⟩; clear KA) | (with_reducible refine (KB.out w1).mono ?_; rintro e w2 ⟨rfl, hx2⟩; refine Hid.out ?_)))
  refine Lib.hid ?_
  go_upto_region 3 with fail
  have hxx2 := hx1.trans hx2
  clear hx1 hx2 KB
  have c1 := fun (w' : World) (h : Ext w2 w') => I1.out w' (henv.ext (hxx2.trans h))
  have c2 := fun (w' : World) (h : Ext w2 w') => R1.out w'
  have c3 := fun (w' : World) (h : Ext w2 w') => I2.out w' (henv.ext (hxx2.trans h))
  have c4 := fun (w' : World) (h : Ext w2 w') => R2.out w'
  refine wp_region_rgs ?_
  first
    | (apply goV_skip (by intro u; rfl))
    | (apply goV_val _ (by intro u; rfl); · (intro u w hSw hF; go_simp; try with_reducible rfl))
  try simp only [Act.put, List.setIfInBounds_toArray, List.set_cons_zero, List.set_cons_succ]
  first
    | (apply goV_skip (by intro u; rfl))
    | (apply goV_val _ (by intro u; rfl); · (intro u w hSw hF; go_simp; try with_reducible rfl))
  try simp only [Act.put, List.setIfInBounds_toArray, List.set_cons_zero, List.set_cons_succ]
  first
    | (apply goV_skip (by intro u; rfl))
    | (apply goV_call (by intro u; rfl) c1; · (intro u w hSw hF; go_simp; try with_reducible rfl))
  try simp only [Act.put, List.setIfInBounds_toArray, List.set_cons_zero, List.set_cons_succ]
  first
    | (apply goV_skip (by intro u; rfl))
    | (apply goV_val _ (by intro u; rfl); · (intro u w hSw hF; go_simp; try with_reducible rfl))
  try simp only [Act.put, List.setIfInBounds_toArray, List.set_cons_zero, List.set_cons_succ]
  first
    | (apply goV_skip (by intro u; rfl))
    | (apply goV_val _ (by intro u; rfl); · (intro u w hSw hF; go_simp; try with_reducible rfl))
  try simp only [Act.put, List.setIfInBounds_toArray, List.set_cons_zero, List.set_cons_succ]
  first
    | (apply goV_skip (by intro u; rfl))
    | (apply goV_call (by intro u; rfl) c2; · (intro u w hSw hF; go_simp; try with_reducible rfl))
  try simp only [Act.put, List.setIfInBounds_toArray, List.set_cons_zero, List.set_cons_succ]
  first
    | (apply goV_skip (by intro u; rfl))
    | (apply goV_val _ (by intro u; rfl); · (intro u w hSw hF; go_simp; try with_reducible rfl))
  try simp only [Act.put, List.setIfInBounds_toArray, List.set_cons_zero, List.set_cons_succ]
  first
    | (apply goV_skip (by intro u; rfl))
    | (apply goV_val _ (by intro u; rfl); · (intro u w hSw hF; go_simp; try with_reducible rfl))
  try simp only [Act.put, List.setIfInBounds_toArray, List.set_cons_zero, List.set_cons_succ]
  first
    | (apply goV_skip (by intro u; rfl))
    | (apply goV_val _ (by intro u; rfl); · (intro u w hSw hF; go_simp; try with_reducible rfl))
  try simp only [Act.put, List.setIfInBounds_toArray, List.set_cons_zero, List.set_cons_succ]
  first
    | (apply goV_skip (by intro u; rfl))
    | (apply goV_val _ (by intro u; rfl); · (intro u w hSw hF; go_simp; try with_reducible rfl))
  try simp only [Act.put, List.setIfInBounds_toArray, List.set_cons_zero, List.set_cons_succ]
  first
    | (apply goV_skip (by intro u; rfl))
    | (apply goV_call (by intro u; rfl) c3; · (intro u w hSw hF; go_simp; try with_reducible rfl))
  try simp only [Act.put, List.setIfInBounds_toArray, List.set_cons_zero, List.set_cons_succ]
  first
    | (apply goV_skip (by intro u; rfl))
    | (apply goV_val _ (by intro u; rfl); · (intro u w hSw hF; go_simp; try with_reducible rfl))
  try simp only [Act.put, List.setIfInBounds_toArray, List.set_cons_zero, List.set_cons_succ]
  first
    | (apply goV_skip (by intro u; rfl))
    | (apply goV_val _ (by intro u; rfl); · (intro u w hSw hF; go_simp; try with_reducible rfl))
  try simp only [Act.put, List.setIfInBounds_toArray, List.set_cons_zero, List.set_cons_succ]
  first
    | (apply goV_skip (by intro u; rfl))
    | (apply goV_call (by intro u; rfl) c4; · (intro u w hSw hF; go_simp; try with_reducible rfl))
  try simp only [Act.put, List.setIfInBounds_toArray, List.set_cons_zero, List.set_cons_succ]
  first
    | (apply goV_skip (by intro u; rfl))
    | (apply goV_val _ (by intro u; rfl); · (intro u w hSw hF; go_simp; try with_reducible rfl))
  try simp only [Act.put, List.setIfInBounds_toArray, List.set_cons_zero, List.set_cons_succ]
  first
    | (apply goV_skip (by intro u; rfl))
    | (apply goV_val _ (by intro u; rfl); · (intro u w hSw hF; go_simp; try with_reducible rfl))
  try simp only [Act.put, List.setIfInBounds_toArray, List.set_cons_zero, List.set_cons_succ]
  intro u w3 hx3 _
  have hxx3 := hxx2.trans hx3
  clear c1 c2 c3 c4 hxx2 hx3 I1 I2 R1 R2
  generalize hzg : x ++ (⟨#[46]⟩ : ByteArray) ++ y = z at *
  generalize subP z c = s3 at *
  generalize labP x = l1 at *
  generalize labP y = l2 at *
  go_upto_region 8 with fail
  have c0 := fun w' (h : Ext w3 w') => awake08 w' (henv.ext (hxx3.trans h)) (htabs.ext (hxx3.trans h))
  have j1 := fun w' (h : Ext w3 w') => J1.out w' (henv.ext (hxx3.trans h))
  have j2 := fun w' (h : Ext w3 w') => J2.out w' (henv.ext (hxx3.trans h))
  have j3 := fun w' (h : Ext w3 w') => J3.out w' (henv.ext (hxx3.trans h))
  have j4 := fun w' (h : Ext w3 w') => J4.out w' (henv.ext (hxx3.trans h))
  have j5 := fun w' (h : Ext w3 w') => J5.out w' (henv.ext (hxx3.trans h))
  have j6 := fun w' (h : Ext w3 w') => J6.out w' (henv.ext (hxx3.trans h))
  have j7 := fun w' (h : Ext w3 w') => J7.out w'
  have k1 := fun w' (h : Ext w3 w') => L1.out w' (henv.ext (hxx3.trans h))
  have k2 := fun w' (h : Ext w3 w') => L2.out w'
  have k3 := fun w' (h : Ext w3 w') => L3.out w'
  have z1 : wrap64 (l1 + l2) = l1 + l2 := IntWalk.wrap64_in _ (by omega)
  have z2 : IntKind.i64.wrap (l1 + l2) = l1 + l2 := IntWalk.i64_in _ (by omega)
  have z3 := lx.1
  have z4 := lx.2
  have z5 := ly.1
  have z6 := ly.2
  clear J1 J2 J3 J4 J5 J6 J7 L1 L2 L3 hzg lx ly hl zx zy
  refine wp_region_rgs ?_
  first
    | (apply goV_skip (by intro u; rfl))
    | (apply goV_call (by intro u; rfl) c0; · (intro u w hSw hF; go_simp; try with_reducible rfl))
  try simp only [Act.put, List.setIfInBounds_toArray, List.set_cons_zero, List.set_cons_succ]
  first
    | (apply goV_skip (by intro u; rfl))
    | (apply goV_val _ (by intro u; rfl); · (intro u w hSw hF; go_simp; try with_reducible rfl))
  try simp only [Act.put, List.setIfInBounds_toArray, List.set_cons_zero, List.set_cons_succ]
  first
    | (apply goV_skip (by intro u; rfl))
    | (apply goV_val _ (by intro u; rfl); · (intro u w hSw hF; go_simp; try with_reducible rfl))
  try simp only [Act.put, List.setIfInBounds_toArray, List.set_cons_zero, List.set_cons_succ]
  first
    | (apply goV_skip (by intro u; rfl))
    | (apply goV_val _ (by intro u; rfl); · (intro u w hSw hF; go_simp; try with_reducible rfl))
  try simp only [Act.put, List.setIfInBounds_toArray, List.set_cons_zero, List.set_cons_succ]
  first
    | (apply goV_skip (by intro u; rfl))
    | (apply goV_call (by intro u; rfl) j1; · (intro u w hSw hF; go_simp; try with_reducible rfl))
  try simp only [Act.put, List.setIfInBounds_toArray, List.set_cons_zero, List.set_cons_succ]
  first
    | (apply goV_skip (by intro u; rfl))
    | (apply goV_val _ (by intro u; rfl); · (intro u w hSw hF; go_simp; try with_reducible rfl))
  try simp only [Act.put, List.setIfInBounds_toArray, List.set_cons_zero, List.set_cons_succ]
  first
    | (apply goV_skip (by intro u; rfl))
    | (apply goV_val _ (by intro u; rfl); · (intro u w hSw hF; go_simp; try with_reducible rfl))
  try simp only [Act.put, List.setIfInBounds_toArray, List.set_cons_zero, List.set_cons_succ]
  first
    | (apply goV_skip (by intro u; rfl))
    | (apply goV_val _ (by intro u; rfl); · (intro u w hSw hF; go_simp; try with_reducible rfl))
  try simp only [Act.put, List.setIfInBounds_toArray, List.set_cons_zero, List.set_cons_succ]
  first
    | (apply goV_skip (by intro u; rfl))
    | (apply goV_val _ (by intro u; rfl); · (intro u w hSw hF; go_simp; try with_reducible rfl))
  try simp only [Act.put, List.setIfInBounds_toArray, List.set_cons_zero, List.set_cons_succ]
  first
    | (apply goV_skip (by intro u; rfl))
    | (apply goV_call (by intro u; rfl) j2; · (intro u w hSw hF; go_simp; try with_reducible rfl))
  try simp only [Act.put, List.setIfInBounds_toArray, List.set_cons_zero, List.set_cons_succ]
  first
    | (apply goV_skip (by intro u; rfl))
    | (apply goV_val _ (by intro u; rfl); · (intro u w hSw hF; go_simp; try with_reducible rfl))
  try simp only [Act.put, List.setIfInBounds_toArray, List.set_cons_zero, List.set_cons_succ]
  first
    | (apply goV_skip (by intro u; rfl))
    | (apply goV_val _ (by intro u; rfl); · (intro u w hSw hF; go_simp; try with_reducible rfl))
  try simp only [Act.put, List.setIfInBounds_toArray, List.set_cons_zero, List.set_cons_succ]
  first
    | (apply goV_skip (by intro u; rfl))
    | (apply goV_val _ (by intro u; rfl); · (intro u w hSw hF; go_simp; try with_reducible rfl))
  try simp only [Act.put, List.setIfInBounds_toArray, List.set_cons_zero, List.set_cons_succ]
  first
    | (apply goV_skip (by intro u; rfl))
    | (apply goV_val _ (by intro u; rfl); · (intro u w hSw hF; go_simp; try with_reducible rfl))
  try simp only [Act.put, List.setIfInBounds_toArray, List.set_cons_zero, List.set_cons_succ]
  first
    | (apply goV_skip (by intro u; rfl))
    | (apply goV_call (by intro u; rfl) j3; · (intro u w hSw hF; go_simp; try with_reducible rfl))
  try simp only [Act.put, List.setIfInBounds_toArray, List.set_cons_zero, List.set_cons_succ]
  first
    | (apply goV_skip (by intro u; rfl))
    | (apply goV_val _ (by intro u; rfl); · (intro u w hSw hF; go_simp; try with_reducible rfl))
  try simp only [Act.put, List.setIfInBounds_toArray, List.set_cons_zero, List.set_cons_succ]
  first
    | (apply goV_skip (by intro u; rfl))
    | (apply goV_val _ (by intro u; rfl); · (intro u w hSw hF; go_simp; try with_reducible rfl))
  try simp only [Act.put, List.setIfInBounds_toArray, List.set_cons_zero, List.set_cons_succ]
  first
    | (apply goV_skip (by intro u; rfl))
    | (apply goV_val _ (by intro u; rfl); · (intro u w hSw hF; go_simp; try with_reducible rfl))
  try simp only [Act.put, List.setIfInBounds_toArray, List.set_cons_zero, List.set_cons_succ]
  first
    | (apply goV_skip (by intro u; rfl))
    | (apply goV_val _ (by intro u; rfl); · (intro u w hSw hF; go_simp; try with_reducible rfl))
  try simp only [Act.put, List.setIfInBounds_toArray, List.set_cons_zero, List.set_cons_succ]
  first
    | (apply goV_skip (by intro u; rfl))
    | (apply goV_val _ (by intro u; rfl); · (intro u w hSw hF; go_simp; try with_reducible rfl))
  try simp only [Act.put, List.setIfInBounds_toArray, List.set_cons_zero, List.set_cons_succ]
  first
    | (apply goV_skip (by intro u; rfl))
    | (apply goV_val _ (by intro u; rfl); · (intro u w hSw hF; go_simp; try with_reducible rfl))
  try simp only [Act.put, List.setIfInBounds_toArray, List.set_cons_zero, List.set_cons_succ]
  first
    | (apply goV_skip (by intro u; rfl))
    | (apply goV_call (by intro u; rfl) j4; · (intro u w hSw hF; go_simp; try with_reducible rfl))
  try simp only [Act.put, List.setIfInBounds_toArray, List.set_cons_zero, List.set_cons_succ]
  first
    | (apply goV_skip (by intro u; rfl))
    | (apply goV_val _ (by intro u; rfl); · (intro u w hSw hF; go_simp; try with_reducible rfl))
  try simp only [Act.put, List.setIfInBounds_toArray, List.set_cons_zero, List.set_cons_succ]
  first
    | (apply goV_skip (by intro u; rfl))
    | (apply goV_val _ (by intro u; rfl); · (intro u w hSw hF; go_simp; try with_reducible rfl))
  try simp only [Act.put, List.setIfInBounds_toArray, List.set_cons_zero, List.set_cons_succ]
  first
    | (apply goV_skip (by intro u; rfl))
    | (apply goV_val _ (by intro u; rfl); · (intro u w hSw hF; go_simp; try with_reducible rfl))
  try simp only [Act.put, List.setIfInBounds_toArray, List.set_cons_zero, List.set_cons_succ]
  first
    | (apply goV_skip (by intro u; rfl))
    | (apply goV_val _ (by intro u; rfl); · (intro u w hSw hF; go_simp; try with_reducible rfl))
  try simp only [Act.put, List.setIfInBounds_toArray, List.set_cons_zero, List.set_cons_succ]
  first
    | (apply goV_skip (by intro u; rfl))
    | (apply goV_val _ (by intro u; rfl); · (intro u w hSw hF; go_simp; try with_reducible rfl))
  try simp only [Act.put, List.setIfInBounds_toArray, List.set_cons_zero, List.set_cons_succ]
  first
    | (apply goV_skip (by intro u; rfl))
    | (apply goV_call (by intro u; rfl) j5; · (intro u w hSw hF; go_simp; try with_reducible rfl))
  try simp only [Act.put, List.setIfInBounds_toArray, List.set_cons_zero, List.set_cons_succ]
  first
    | (apply goV_skip (by intro u; rfl))
    | (apply goV_val _ (by intro u; rfl); · (intro u w hSw hF; go_simp; try with_reducible rfl))
  try simp only [Act.put, List.setIfInBounds_toArray, List.set_cons_zero, List.set_cons_succ]
  first
    | (apply goV_skip (by intro u; rfl))
    | (apply goV_val _ (by intro u; rfl); · (intro u w hSw hF; go_simp; try with_reducible rfl))
  try simp only [Act.put, List.setIfInBounds_toArray, List.set_cons_zero, List.set_cons_succ]
  first
    | (apply goV_skip (by intro u; rfl))
    | (apply goV_val _ (by intro u; rfl); · (intro u w hSw hF; go_simp; try with_reducible rfl))
  try simp only [Act.put, List.setIfInBounds_toArray, List.set_cons_zero, List.set_cons_succ]
  first
    | (apply goV_skip (by intro u; rfl))
    | (apply goV_val _ (by intro u; rfl); · (intro u w hSw hF; go_simp; try with_reducible rfl))
  try simp only [Act.put, List.setIfInBounds_toArray, List.set_cons_zero, List.set_cons_succ]
  first
    | (apply goV_skip (by intro u; rfl))
    | (apply goV_call (by intro u; rfl) k1; · (intro u w hSw hF; go_simp; try with_reducible rfl))
  try simp only [Act.put, List.setIfInBounds_toArray, List.set_cons_zero, List.set_cons_succ]
  first
    | (apply goV_skip (by intro u; rfl))
    | (apply goV_val _ (by intro u; rfl); · (intro u w hSw hF; go_simp; try with_reducible rfl))
  try simp only [Act.put, List.setIfInBounds_toArray, List.set_cons_zero, List.set_cons_succ]
  first
    | (apply goV_skip (by intro u; rfl))
    | (apply goV_call (by intro u; rfl) k2; · (intro u w hSw hF; go_simp; try with_reducible rfl))
  try simp only [Act.put, List.setIfInBounds_toArray, List.set_cons_zero, List.set_cons_succ]
  first
    | (apply goV_skip (by intro u; rfl))
    | (apply goV_val _ (by intro u; rfl); · (intro u w hSw hF; go_simp; try with_reducible rfl))
  try simp only [Act.put, List.setIfInBounds_toArray, List.set_cons_zero, List.set_cons_succ]
  first
    | (apply goV_skip (by intro u; rfl))
    | (apply goV_call (by intro u; rfl) k3; · (intro u w hSw hF; go_simp; try with_reducible rfl))
  try simp only [Act.put, List.setIfInBounds_toArray, List.set_cons_zero, List.set_cons_succ]
  first
    | (apply goV_skip (by intro u; rfl))
    | (apply goV_val _ (by intro u; rfl); · (intro u w hSw hF; go_simp; try with_reducible rfl))
  try simp only [Act.put, List.setIfInBounds_toArray, List.set_cons_zero, List.set_cons_succ]
  first
    | (apply goV_skip (by intro u; rfl))
    | (apply goV_val _ (by intro u; rfl); · (intro u w hSw hF; go_simp; try with_reducible rfl))
  try simp only [Act.put, List.setIfInBounds_toArray, List.set_cons_zero, List.set_cons_succ]
  first
    | (apply goV_skip (by intro u; rfl))
    | (apply goV_val _ (by intro u; rfl); · (intro u w hSw hF; go_simp; try with_reducible rfl))
  try simp only [Act.put, List.setIfInBounds_toArray, List.set_cons_zero, List.set_cons_succ]
  first
    | (apply goV_skip (by intro u; rfl))
    | (apply goV_val _ (by intro u; rfl); · (intro u w hSw hF; go_simp; try with_reducible rfl))
  try simp only [Act.put, List.setIfInBounds_toArray, List.set_cons_zero, List.set_cons_succ]
  first
    | (apply goV_skip (by intro u; rfl))
    | (apply goV_val _ (by intro u; rfl); · (intro u w hSw hF; go_simp; try with_reducible rfl))
  try simp only [Act.put, List.setIfInBounds_toArray, List.set_cons_zero, List.set_cons_succ]
  first
    | (apply goV_skip (by intro u; rfl))
    | (apply goV_val _ (by intro u; rfl); · (intro u w hSw hF; go_simp; try with_reducible rfl))
  try simp only [Act.put, List.setIfInBounds_toArray, List.set_cons_zero, List.set_cons_succ]
  first
    | (apply goV_skip (by intro u; rfl))
    | (apply goV_call (by intro u; rfl) j6; · (intro u w hSw hF; go_simp; try with_reducible rfl))
  try simp only [Act.put, List.setIfInBounds_toArray, List.set_cons_zero, List.set_cons_succ]
  first
    | (apply goV_skip (by intro u; rfl))
    | (apply goV_val _ (by intro u; rfl); · (intro u w hSw hF; go_simp; try with_reducible rfl))
  try simp only [Act.put, List.setIfInBounds_toArray, List.set_cons_zero, List.set_cons_succ]
  first
    | (apply goV_skip (by intro u; rfl))
    | (apply goV_val _ (by intro u; rfl); · (intro u w hSw hF; go_simp; try with_reducible rfl))
  try simp only [Act.put, List.setIfInBounds_toArray, List.set_cons_zero, List.set_cons_succ]
  first
    | (apply goV_skip (by intro u; rfl))
    | (apply goV_call (by intro u; rfl) j7; · (intro u w hSw hF; go_simp; try with_reducible rfl))
  try simp only [Act.put, List.setIfInBounds_toArray, List.set_cons_zero, List.set_cons_succ]
  first
    | (apply goV_skip (by intro u; rfl))
    | (apply goV_val _ (by intro u; rfl); · (intro u w hSw hF; go_simp; try with_reducible rfl))
  try simp only [Act.put, List.setIfInBounds_toArray, List.set_cons_zero, List.set_cons_succ]
  first
    | (apply goV_skip (by intro u; rfl))
    | (apply goV_val _ (by intro u; rfl); · (intro u w hSw hF; go_simp; try with_reducible rfl))
  try simp only [Act.put, List.setIfInBounds_toArray, List.set_cons_zero, List.set_cons_succ]
  first
    | (apply goV_skip (by intro u; rfl))
    | (apply goV_val _ (by intro u; rfl); · (intro u w hSw hF; go_simp; try with_reducible rfl))
  try simp only [Act.put, List.setIfInBounds_toArray, List.set_cons_zero, List.set_cons_succ]
  intro u w9 hx9 _
  have hfin := hxx3.trans hx9
  go_wp2
  go_ret
  exact ⟨rfl, hfin⟩
end Go.Proofs.YtpdoddelnahlnaaDoor
