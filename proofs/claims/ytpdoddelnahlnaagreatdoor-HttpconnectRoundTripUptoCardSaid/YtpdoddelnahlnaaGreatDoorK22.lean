/-
  Several texts joined: IpRf.
-/
import Derived.Test.YtpdoddelnahlnaaGreatDoorK20
import Derived.Test.YtpdoddelnahlnaaGreatDoorK21
/-
  Contract of the reference's Format.
-/
set_option linter.unusedSimpArgs false
set_option linter.unusedVariables false
namespace Go.Proofs.YtpdoddelnahlnaaGreatDoor
open Go.RowKit

set_option maxRecDepth 8000 in
set_option maxHeartbeats 4000000 in
theorem rFormat_bad (a : Adr) (ha : okA a) (hv : validA a = false) (w : World) :
    Calls Tryz.prog 42 #[av a] w fun e w' => e = .returned (.string (txt (fmtA a))) ∧ Ext w w' := by
  have hfm : fmtA a = [] := by unfold fmtA; rw [hv]; rfl
  have HFM := Lib.hid hfm; clear hfm
  have hcall := fun w => rValid_any a ha w
  rw [hv] at hcall
  have HC := Lib.hid hcall; clear hcall
  unfold av
  go_enter Tryz.func42, Tryz.ntmps42
  go_upto_region 1 with fail
  have hx := (Ext.refl w).alloc (.cells (ac a) 30)
  have hb := ABox.new ha w
  generalize hwq : w.alloc (.cells (ac a) 30) = w0 at *
  clear hwq
  go_wp2_with (first | refine wpList_load_A rfl _ rfl ha hb.blk rfl ?_ | (go_at_call 38; refine (HC.out _).mono ?_; rintro e w1 ⟨rfl, hx1⟩; refine Hid.out ?_))
  refine Lib.hid ?_
  go_wp2_with fail
  go_ret
  exact ⟨by rw [HFM.out]; rfl, hx.trans hx1⟩
set_option maxRecDepth 8000 in
set_option maxHeartbeats 4000000 in
theorem rFormat4_any (a : Adr) (ha : okA a) (hf : a.1 = false) (hv : validA a = true) (w : World) :
    Calls Tryz.prog 42 #[av a] w fun e w' => e = .returned (.string (txt (fmtA a))) ∧ Ext w w' := by
  have hfm : fmtA a = fmt4 a.2 := by unfold fmtA; rw [hv, hf]; rfl
  have HFM := Lib.hid hfm; clear hfm
  have hcall := fun w => rValid_any a ha w
  rw [hv] at hcall
  have HC := Lib.hid hcall; clear hcall
  unfold av
  go_enter Tryz.func42, Tryz.ntmps42
  go_upto_region 1 with fail
  have hx := (Ext.refl w).alloc (.cells (ac a) 30)
  have hb := ABox.new ha w
  generalize hwq : w.alloc (.cells (ac a) 30) = w0 at *
  clear hwq
  go_wp2_with (first | refine wpList_load_A rfl _ rfl ha hb.blk rfl ?_ | (go_at_call 38; refine (HC.out _).mono ?_; rintro e w1 ⟨rfl, hx1⟩; refine Hid.out ?_))
  refine Lib.hid ?_
  have hb1 := hb.ext ha hx1
  have hx11 := hx.trans hx1
  have hfam := hb1.fam
  rw [hf] at hfam
  clear hb hx hx1 HC
  have key : ∀ j, ∃ n : Nat, X a j = n ∧ n < 256 ∧ a.2.getD j 0 = n := fun j => ⟨(X a j).toNat, by have := X_bd ha j; omega, by have := X_bd ha j; omega, by have := X_bd ha j; unfold X at *; omega⟩
  obtain ⟨n0, k0, l0, m0⟩ := key 0
  obtain ⟨n1, k1, l1, m1⟩ := key 1
  obtain ⟨n2, k2, l2, m2⟩ := key 2
  obtain ⟨n3, k3, l3, m3⟩ := key 3
  have H0 := Lib.hid (fdec_any n0 (by omega))
  have H1 := Lib.hid (fdec_any n1 (by omega))
  have H2 := Lib.hid (fdec_any n2 (by omega))
  have H3 := Lib.hid (fdec_any n3 (by omega))
  have hsz : ∀ n, n < 256 → (txt (Lib.decDigits n)).size ≤ 21 := fun n hn => by
    rw [txt_size]
    have := Lib.itoa_length_le (n : Int) (by omega) (by omega)
    rw [Lib.itoa_nonneg] at this
    exact this
  have z0 := hsz n0 l0
  have z1 := hsz n1 l1
  have z2 := hsz n2 l2
  have z3 := hsz n3 l3
  have hres : txt (fmtA a) = txt (Lib.decDigits n0) ++ ⟨#[46]⟩ ++ txt (Lib.decDigits n1) ++ ⟨#[46]⟩ ++ txt (Lib.decDigits n2) ++ ⟨#[46]⟩ ++ txt (Lib.decDigits n3) := by
    rw [HFM.out]; unfold fmt4; rw [m0, m1, m2, m3]
    simp only [Int.toNat_natCast, txt_append]; rfl
  have HR := Lib.hid hres
  clear hres hsz key m0 m1 m2 m3
  generalize txt (Lib.decDigits n0) = s0 at *
  generalize txt (Lib.decDigits n1) = s1 at *
  generalize txt (Lib.decDigits n2) = s2 at *
  generalize txt (Lib.decDigits n3) = s3 at *
  have y1 : ¬ 9223372036854775807 < s0.size + 1 := by omega
  have y2 : ¬ 9223372036854775807 < s0.size + 1 + s1.size := by omega
  have y3 : ¬ 9223372036854775807 < s0.size + 1 + s1.size + 1 := by omega
  have y4 : ¬ 9223372036854775807 < s0.size + 1 + s1.size + 1 + s2.size := by omega
  have y5 : ¬ 9223372036854775807 < s0.size + 1 + s1.size + 1 + s2.size + 1 := by omega
  have y6 : ¬ 9223372036854775807 < s0.size + 1 + s1.size + 1 + s2.size + 1 + s3.size := by omega
  go_wp2_with fail
  refine wp_region_rg w1 (by kernel_rfl) (by kernel_rfl) (Ext.refl _) ?_
  apply goV_val _ (by intro u; rfl)
  · (intro u w hSw hF; go_simp; try with_reducible rfl)
  try simp only [Act.put, List.setIfInBounds_toArray, List.set_cons_zero, List.set_cons_succ]
  apply goV_val _ (by intro u; rfl)
  · (intro u w hSw hF; go_simp; try with_reducible rfl)
  try simp only [Act.put, List.setIfInBounds_toArray, List.set_cons_zero, List.set_cons_succ]
  apply goV_val (.int .u8 (n0 : Int)) (by intro u; rfl)
  · (intro u w hSw hF; have c0 := (hb1.ext ha hSw).num 0 1 rfl (by decide); rw [k0] at c0; go_simp)
  try simp only [Act.put, List.setIfInBounds_toArray, List.set_cons_zero, List.set_cons_succ]
  apply goV_val (.int .i64 (n0 : Int)) (by intro u; rfl)
  · (intro u w hSw hF; have c1 : IntKind.i64.wrap (n0 : Int) = n0 := IntWalk.i64_in _ (by omega); go_simp)
  try simp only [Act.put, List.setIfInBounds_toArray, List.set_cons_zero, List.set_cons_succ]
  apply goV_call (by intro u; rfl) (fun w hw => H0.out w)
  · (intro u w hSw hF; go_simp; try with_reducible rfl)
  try simp only [Act.put, List.setIfInBounds_toArray, List.set_cons_zero, List.set_cons_succ]
  apply goV_val _ (by intro u; rfl)
  · (intro u w hSw hF; go_simp; try with_reducible rfl)
  try simp only [Act.put, List.setIfInBounds_toArray, List.set_cons_zero, List.set_cons_succ]
  apply goV_val _ (by intro u; rfl)
  · (intro u w hSw hF; go_simp; try with_reducible rfl)
  try simp only [Act.put, List.setIfInBounds_toArray, List.set_cons_zero, List.set_cons_succ]
  apply goV_val _ (by intro u; rfl)
  · (intro u w hSw hF; go_simp; try with_reducible rfl)
  try simp only [Act.put, List.setIfInBounds_toArray, List.set_cons_zero, List.set_cons_succ]
  apply goV_val (.int .u8 (n1 : Int)) (by intro u; rfl)
  · (intro u w hSw hF; have c0 := (hb1.ext ha hSw).num 1 2 rfl (by decide); rw [k1] at c0; go_simp)
  try simp only [Act.put, List.setIfInBounds_toArray, List.set_cons_zero, List.set_cons_succ]
  apply goV_val (.int .i64 (n1 : Int)) (by intro u; rfl)
  · (intro u w hSw hF; have c1 : IntKind.i64.wrap (n1 : Int) = n1 := IntWalk.i64_in _ (by omega); go_simp)
  try simp only [Act.put, List.setIfInBounds_toArray, List.set_cons_zero, List.set_cons_succ]
  apply goV_call (by intro u; rfl) (fun w hw => H1.out w)
  · (intro u w hSw hF; go_simp; try with_reducible rfl)
  try simp only [Act.put, List.setIfInBounds_toArray, List.set_cons_zero, List.set_cons_succ]
  apply goV_val _ (by intro u; rfl)
  · (intro u w hSw hF; go_simp; try with_reducible rfl)
  try simp only [Act.put, List.setIfInBounds_toArray, List.set_cons_zero, List.set_cons_succ]
  apply goV_val _ (by intro u; rfl)
  · (intro u w hSw hF; go_simp; try with_reducible rfl)
  try simp only [Act.put, List.setIfInBounds_toArray, List.set_cons_zero, List.set_cons_succ]
  apply goV_val _ (by intro u; rfl)
  · (intro u w hSw hF; go_simp; try with_reducible rfl)
  try simp only [Act.put, List.setIfInBounds_toArray, List.set_cons_zero, List.set_cons_succ]
  apply goV_val _ (by intro u; rfl)
  · (intro u w hSw hF; go_simp; try with_reducible rfl)
  try simp only [Act.put, List.setIfInBounds_toArray, List.set_cons_zero, List.set_cons_succ]
  apply goV_val (.int .u8 (n2 : Int)) (by intro u; rfl)
  · (intro u w hSw hF; have c0 := (hb1.ext ha hSw).num 2 3 rfl (by decide); rw [k2] at c0; go_simp)
  try simp only [Act.put, List.setIfInBounds_toArray, List.set_cons_zero, List.set_cons_succ]
  apply goV_val (.int .i64 (n2 : Int)) (by intro u; rfl)
  · (intro u w hSw hF; have c1 : IntKind.i64.wrap (n2 : Int) = n2 := IntWalk.i64_in _ (by omega); go_simp)
  try simp only [Act.put, List.setIfInBounds_toArray, List.set_cons_zero, List.set_cons_succ]
  apply goV_call (by intro u; rfl) (fun w hw => H2.out w)
  · (intro u w hSw hF; go_simp; try with_reducible rfl)
  try simp only [Act.put, List.setIfInBounds_toArray, List.set_cons_zero, List.set_cons_succ]
  apply goV_val _ (by intro u; rfl)
  · (intro u w hSw hF; go_simp; try with_reducible rfl)
  try simp only [Act.put, List.setIfInBounds_toArray, List.set_cons_zero, List.set_cons_succ]
  apply goV_val _ (by intro u; rfl)
  · (intro u w hSw hF; go_simp; try with_reducible rfl)
  try simp only [Act.put, List.setIfInBounds_toArray, List.set_cons_zero, List.set_cons_succ]
  apply goV_val _ (by intro u; rfl)
  · (intro u w hSw hF; go_simp; try with_reducible rfl)
  try simp only [Act.put, List.setIfInBounds_toArray, List.set_cons_zero, List.set_cons_succ]
  apply goV_val _ (by intro u; rfl)
  · (intro u w hSw hF; go_simp; try with_reducible rfl)
  try simp only [Act.put, List.setIfInBounds_toArray, List.set_cons_zero, List.set_cons_succ]
  apply goV_val (.int .u8 (n3 : Int)) (by intro u; rfl)
  · (intro u w hSw hF; have c0 := (hb1.ext ha hSw).num 3 4 rfl (by decide); rw [k3] at c0; go_simp)
  try simp only [Act.put, List.setIfInBounds_toArray, List.set_cons_zero, List.set_cons_succ]
  apply goV_val (.int .i64 (n3 : Int)) (by intro u; rfl)
  · (intro u w hSw hF; have c1 : IntKind.i64.wrap (n3 : Int) = n3 := IntWalk.i64_in _ (by omega); go_simp)
  try simp only [Act.put, List.setIfInBounds_toArray, List.set_cons_zero, List.set_cons_succ]
  apply goV_call (by intro u; rfl) (fun w hw => H3.out w)
  · (intro u w hSw hF; go_simp; try with_reducible rfl)
  try simp only [Act.put, List.setIfInBounds_toArray, List.set_cons_zero, List.set_cons_succ]
  apply goV_val _ (by intro u; rfl)
  · (intro u w hSw hF; go_simp; try with_reducible rfl)
  try simp only [Act.put, List.setIfInBounds_toArray, List.set_cons_zero, List.set_cons_succ]
  apply goV_val _ (by intro u; rfl)
  · (intro u w hSw hF; go_simp; try with_reducible rfl)
  try simp only [Act.put, List.setIfInBounds_toArray, List.set_cons_zero, List.set_cons_succ]
  intro u w2 hx2 _
  go_wp2
  go_ret
  exact ⟨by rw [HR.out]; rfl, hx11.trans hx2⟩
def LC (F M : Int) (i : Nat) (pr : List UInt8) : Prop := (i = 0 ∧ pr = []) ∨ (0 < i ∧ ∃ l c, pr = l ++ [c] ∧ (c = 58 ↔ (i : Int) = F + M))
theorem hexT_snoc (n : Nat) : ∃ l c, hexT n = l ++ [c] ∧ c ≠ 58 := by
  by_cases h : n < 16
  · exact ⟨[], hexc n, by rw [hexT_small h]; rfl, (hexc_chr ⟨n, h⟩).2.1⟩
  · exact ⟨hexT (n / 16), hexc (n % 16), by rw [hexT_big h], (hexc_chr ⟨n % 16, by omega⟩).2.1⟩
theorem LC_hex {F M : Int} {i : Nat} (pr : List UInt8) (n : Nat) (h : ((i + 1 : Nat) : Int) ≠ F + M) : LC F M (i + 1) (pr ++ hexT n) := by
  obtain ⟨l, c, e, hc⟩ := hexT_snoc n
  exact .inr ⟨by omega, pr ++ l, c, by rw [e, List.append_assoc], ⟨fun h' => absurd h' hc, fun h' => absurd h' h⟩⟩
set_option maxRecDepth 8000 in
set_option maxHeartbeats 8000000 in
theorem rFormat6_any (a : Adr) (ha : okA a) (hf : a.1 = true) (w : World) :
    Calls Tryz.prog 42 #[av a] w fun e w' => e = .returned (.string (txt (fmtA a))) ∧ Ext w w' := by
  have hv : validA a = true := by unfold validA; rw [hf]; rfl
  have hfm : fmtA a = tail6 a.2 (best a.2 8).1 (best a.2 8).2 9 0 := by unfold fmtA; rw [hv, hf]; rfl
  have HFM := Lib.hid hfm; clear hfm
  have hcall := fun w => rValid_any a ha w
  rw [hv] at hcall
  have HC := Lib.hid hcall; clear hcall
  unfold av
  go_enter Tryz.func42, Tryz.ntmps42
  go_upto_region 1 with fail
  have hx := (Ext.refl w).alloc (.cells (ac a) 30)
  have hb := ABox.new ha w
  generalize hwq : w.alloc (.cells (ac a) 30) = w0 at *
  clear hwq
  go_wp2_with (first | refine wpList_load_A rfl _ rfl ha hb.blk rfl ?_ | (go_at_call 38; refine (HC.out _).mono ?_; rintro e w1 ⟨rfl, hx1⟩; refine Hid.out ?_))
  refine Lib.hid ?_
  have hb1 := hb.ext ha hx1
  have hx11 := hx.trans hx1
  have hfam := hb1.fam
  rw [hf] at hfam
  clear hb hx hx1 HC
  go_wp2_with fail
  go_loopw [3, 4, 5] (fun f m c wr => ∃ i : Nat, i ≤ 8 ∧ f = .int .i64 (best a.2 i).1 ∧ m = .int .i64 (best a.2 i).2 ∧ c = .int .i64 i ∧ ABox wr w.heap.size a ∧ Ext w wr) (fun _ _ c _ => 8 - (intOf c).toNat)
  case atStart => exact ⟨0, Nat.zero_le _, rfl, rfl, rfl, hb1, hx11⟩
  case round =>
    obtain ⟨i, hi, rfl, rfl, rfl, hb, hx⟩ := hrel
    by_cases hlt : i < 8
    · have hlt' : (i : Int) < 8 := by omega
      obtain ⟨wo, hwo⟩ : ∃ wo : World, wo = wr := ⟨_, rfl⟩
      rw [← hwo]; rw [← hwo] at hb hx
      clear hwo
      generalize hF : (best a.2 i).1 = F at *
      generalize hM : (best a.2 i).2 = M at *
      have HF := Lib.hid hF; have HM := Lib.hid hM; clear hF hM
      go_wp2_with fail
      go_loopw [6] (fun n wr => ∃ j : Nat, i + j ≤ 8 ∧ n = .int .i64 j ∧ ABox wr w.heap.size a ∧ Ext w wr ∧ Hid (∀ q, i ≤ q → q < i + j → grp a.2 q = 0)) (fun n _ => 8 - (intOf n).toNat)
      case atStart => exact ⟨0, hi, rfl, hb, hx, Lib.hid fun q h1 h2 => by omega⟩
      case round =>
        obtain ⟨j, hj, rfl, hb, hx, hz⟩ := hrel
        by_cases hlt2 : i + j < 8
        · have hlt3 : (i : Int) + (j : Int) < 8 := by omega
          have hcall := Group_any a ha (i + j) hlt2 wr
          rw [Int.natCast_add] at hcall
          have HC := Lib.hid hcall; clear hcall
          have hjd : decide ((i : Int) + (j : Int) < 8) = true := decide_eq_true hlt3
          by_cases hg : grp a.2 (i + j) = 0
          · have hgb : (grp a.2 (i + j) == 0) = true := by rw [beq_iff_eq]; exact hg
            have HG := Lib.hid hg; clear hg
            go_wp2_with (first | refine wpList_load_Ag (by first | rfl | simp [Region.wanted, yielded, hjd]) _ rfl ha hb.blk rfl ?_ | (go_at_call 73; refine HC.out.mono ?_; rintro e w3 ⟨rfl, hx3⟩))
            refine ⟨⟨j + 1, by omega, by go_num, hb.ext ha hx3, hx.trans hx3, Lib.hid fun q h1 h2 => ?_⟩, by simp [intOf]; omega⟩
            by_cases h : q = i + j
            · subst h; exact HG.out
            · exact hz.out q h1 (by omega)
          · have hgb : (grp a.2 (i + j) == 0) = false := by rw [beq_eq_false_iff_ne]; exact hg
            have hzr : zr a.2 i = j := by have := zr_stop (Nat.le_add_right i j) hj hz.out (.inr hg); omega
            have HZR := Lib.hid hzr; clear hzr hg
            go_upto_region 12 with (first | refine wpList_load_Ag (by first | rfl | simp [Region.wanted, yielded, hjd]) _ rfl ha hb.blk rfl ?_ | (go_at_call 73; refine HC.out.mono ?_; rintro e w3 ⟨rfl, hx3⟩))
            have hb3 := hb.ext ha hx3
            have hxx := hx.trans hx3
            have hcmp := Nat.lt_or_ge
            by_cases hc : M < (zr a.2 i : Int)
            · have hs : best a.2 (i + 1) = ((i : Int), (zr a.2 i : Int)) := by rw [best, HM.out, if_pos hc]
              have HS := Lib.hid hs; clear hs
              have hcd : decide (M < (zr a.2 i : Int)) = true := decide_eq_true hc
              rw [HZR.out] at hcd hc HS
              clear HZR
              go_wp2_with fail
              refine ⟨⟨i + 1, by omega, by rw [HS.out], by rw [HS.out], by go_num, hb3, hxx⟩, by simp [intOf]; omega⟩
            · have hs : best a.2 (i + 1) = best a.2 i := by rw [best, HM.out, if_neg hc]
              have HS := Lib.hid hs; clear hs
              have hcd : decide (M < (zr a.2 i : Int)) = false := decide_eq_false hc
              rw [HZR.out] at hcd hc
              clear HZR
              go_wp2_with fail
              refine ⟨⟨i + 1, by omega, by rw [HS.out, HF.out], by rw [HS.out, HM.out], by go_num, hb3, hxx⟩, by simp [intOf]; omega⟩
        · have hj8 : i + j = 8 := by omega
          have hjd : decide ((i : Int) + (j : Int) < 8) = false := decide_eq_false (by omega)
          have hzr : zr a.2 i = j := by have := zr_stop (Nat.le_add_right i j) hj hz.out (.inl hj8); omega
          have HZR := Lib.hid hzr; clear hzr
          go_upto_region 12 with fail
          have hb3 := hb
          have hxx := hx
          have hcmp := Nat.lt_or_ge
          by_cases hc : M < (zr a.2 i : Int)
          · have hs : best a.2 (i + 1) = ((i : Int), (zr a.2 i : Int)) := by rw [best, HM.out, if_pos hc]
            have HS := Lib.hid hs; clear hs
            have hcd : decide (M < (zr a.2 i : Int)) = true := decide_eq_true hc
            rw [HZR.out] at hcd hc HS
            clear HZR
            go_wp2_with fail
            refine ⟨⟨i + 1, by omega, by rw [HS.out], by rw [HS.out], by go_num, hb3, hxx⟩, by simp [intOf]; omega⟩
          · have hs : best a.2 (i + 1) = best a.2 i := by rw [best, HM.out, if_neg hc]
            have HS := Lib.hid hs; clear hs
            have hcd : decide (M < (zr a.2 i : Int)) = false := decide_eq_false hc
            rw [HZR.out] at hcd hc
            clear HZR
            go_wp2_with fail
            refine ⟨⟨i + 1, by omega, by rw [HS.out, HF.out], by rw [HS.out, HM.out], by go_num, hb3, hxx⟩, by simp [intOf]; omega⟩
    · have hi8 : i = 8 := by omega
      clear hb1 hx11 hfam hlt
      have hbb := best_bd a.2 i hi
      rw [← hi8] at HFM
      obtain ⟨F, hF⟩ : ∃ F, (best a.2 i).1 = F := ⟨_, rfl⟩
      obtain ⟨M, hM⟩ : ∃ M, (best a.2 i).2 = M := ⟨_, rfl⟩
      have hcase : (F = -1 ∧ M = 1) ∨ (0 ≤ F ∧ F < 8 ∧ 2 ≤ M ∧ F + M ≤ 8) := by
        rw [← hF, ← hM]
        rcases hbb with h | ⟨h1, h2, h3, h4⟩
        · left; rw [h]; exact ⟨rfl, rfl⟩
        · exact .inr ⟨h1, by omega, h3, h4⟩
      have hi8' : ¬ (i : Int) < 8 := by omega
      clear hi8 hi
      generalize (i : Int) = z8 at *
      have HCS := Lib.hid hcase
      rw [hF, hM] at HFM
      rw [hF, hM]
      clear hF hM hbb hcase
      obtain ⟨wo, hwo⟩ : ∃ wo : World, wo = wr := ⟨_, rfl⟩
      rw [← hwo]; rw [← hwo] at hb hx
      clear hwo
      go_wp2_with fail
      go_loopw [7, 8] (fun v c wr => ∃ (i : Nat) (pr : List UInt8) (fuel : Nat), i ≤ 8 ∧ c = .int .i64 i ∧ v = .string (txt pr) ∧ pr.length ≤ 5 * i ∧ ABox wr w.heap.size a ∧ Ext w wr ∧ Hid (fmtA a = pr ++ tail6 a.2 F M fuel i) ∧ 9 ≤ fuel + i ∧ Hid (LC F M i pr) ∧ Hid (F < 0 ∨ (i : Int) ≤ F ∨ F + M ≤ i)) (fun _ c _ => 8 - (intOf c).toNat)
      case atStart => exact ⟨0, [], 9, Nat.zero_le _, rfl, rfl, Nat.le_refl _, hb, hx, HFM, Nat.le_refl _, Lib.hid (.inl ⟨rfl, rfl⟩), Lib.hid (by have := HCS.out; omega)⟩
      case round =>
        obtain ⟨i, pr, fuel, hi, rfl, rfl, hpl, hb, hx, hT, hfu, hlc, hpos⟩ := hrel
        by_cases hlt : i < 8
        · have hlt' : (i : Int) < 8 := by omega
          obtain ⟨fuel, rfl⟩ : ∃ f, fuel = f + 1 := ⟨fuel - 1, by omega⟩
          have hsl := txt_size pr
          by_cases hiF : (i : Int) = F
          · have hiFb : ((i : Int) == F) = true := by rw [beq_iff_eq]; exact hiF
            have HTX : Hid (fmtA a = pr ++ ([58, 58] ++ tail6 a.2 F M fuel (i + M.toNat))) := Lib.hid (by rw [hT.out, tail6_at hlt hiF])
            have hTm : 2 ≤ M ∧ (i : Int) + M ≤ 8 := by have := HCS.out; omega
            obtain ⟨m, hm⟩ : ∃ m : Nat, M = m := ⟨M.toNat, by omega⟩
            have hm2 : 2 ≤ m ∧ i + m ≤ 8 := by omega
            have HM := Lib.hid hm
            have HIF := Lib.hid hiF
            clear hTm hiF hlc hpos hT
            have TA := Lib.hid (txt_append pr [58, 58])
            generalize txt pr = s at *
            have y1 : ¬ 9223372036854775807 < s.size + 2 := by omega
            have hM1 : IntKind.i64.wrap (M - 1) = M - 1 := IntWalk.i64_in _ (by omega)
            have hM2 : IntKind.i64.wrap ((i : Int) + (M - 1)) = (i : Int) + (M - 1) := IntWalk.i64_in _ (by omega)
            have hM3 : wrap64 ((i : Int) + (M - 1) + 1) = (i : Int) + M := by rw [IntWalk.wrap64_in _ (by omega)]; omega
            clear hm
            go_wp2_with fail
            go_roundw
            case rel =>
              have hmm := HM.out
              rw [hM3]
              refine ⟨i + m, pr ++ [58, 58], fuel, hm2.2, by (have := HM.out; congr 1; omega), by rw [TA.out]; rfl, by simp; omega, hb, hx, Lib.hid ?_, by omega, Lib.hid (.inr ⟨by omega, pr ++ [58], 58, by simp, ⟨fun _ => by have := HIF.out; omega, fun _ => rfl⟩⟩), Lib.hid (by have := HIF.out; omega)⟩
              rw [HTX.out, HM.out]; simp
            case measure => rw [hM3]; have := HM.out; simp [intOf]; omega
          · have hiFb : ((i : Int) == F) = false := by rw [beq_eq_false_iff_ne]; exact hiF
            have htx : fmtA a = pr ++ ((if 0 < i ∧ (i : Int) ≠ F + M then [58] else []) ++ hexT (grp a.2 i).toNat ++ tail6 a.2 F M fuel (i + 1)) := by rw [hT.out, tail6_no hlt hiF]
            have hnx : ((i + 1 : Nat) : Int) ≠ F + M := by have := HCS.out; have := hpos.out; omega
            have HNX := Lib.hid hnx
            have HPO : Hid (F < 0 ∨ ((i + 1 : Nat) : Int) ≤ F ∨ F + M ≤ ((i + 1 : Nat) : Int)) := Lib.hid (by have := hpos.out; omega)
            clear hnx hpos hiF hT
            have hgb := grp_bd ha i
            obtain ⟨N, hN⟩ : ∃ N : Nat, grp a.2 i = N := ⟨(grp a.2 i).toNat, by omega⟩
            rw [hN] at hgb htx
            rw [Int.toNat_natCast] at htx
            have hcall := Group_any a ha i hlt
            rw [hN] at hcall
            have HG := Lib.hid hcall
            have HH := Lib.hid (fhex_any N (by omega))
            have hhl := txt_size (hexT N)
            have hh4 := hexT_len (show N < 65536 by omega)
            clear hcall hN
            rcases hlc.out with ⟨h0, hp0⟩ | ⟨h0, l, c, hp0, hc58⟩
            · rw [if_neg (by omega), List.nil_append] at htx
              have HTX : Hid (fmtA a = pr ++ hexT N ++ tail6 a.2 F M fuel (i + 1)) := Lib.hid (by rw [htx, List.append_assoc])
              have hs0 : ((txt pr).size : Int) < 1 := by rw [hsl, hp0]; decide
              clear htx hlc hsl
              have TX : Hid (txt (pr ++ hexT N) = txt pr ++ txt (hexT N)) := Lib.hid (txt_append _ _)
              have LCN := Lib.hid (LC_hex pr N HNX.out)
              clear hp0 h0
              generalize hsq : txt pr = s at *
              generalize hhq : txt (hexT N) = hs at *
              have y0 : ¬ 9223372036854775807 < s.size + 1 := by omega
              have y1 : ¬ 9223372036854775807 < s.size + hs.size := by omega
              have y2 : ¬ 9223372036854775807 < s.size + 1 + hs.size := by omega
              go_wp2_with (first | refine wpList_load_A rfl _ rfl ha hb.blk rfl ?_ | (go_at_call 73; refine (HG.out _).mono ?_; rintro e w3 ⟨rfl, hx3⟩) | (go_at_call 74; refine (HH.out _).mono ?_; rintro e w4 ⟨rfl, hx4⟩))
              go_roundw
              case rel => exact ⟨i + 1, pr ++ hexT N, fuel, by omega, by go_num, by rw [TX.out], by simp; omega, (hb.ext ha hx3).ext ha hx4, (hx.trans hx3).trans hx4, Lib.hid (by first | exact HTX.out | (rw [HTX.out]; simp)), by omega, LCN, HPO⟩
              case measure => simp [intOf]; omega
            · have hi0 : (0 : Int) < i := by omega
              have HB : Hid (B (txt pr) l.length = (c.toNat : Int)) := Lib.hid (by rw [hp0]; exact B_snoc l c)
              have hln : pr.length = l.length + 1 := by rw [hp0]; simp
              have hln2 : ¬ (txt pr).size < 1 := by omega
              by_cases hcol : (i : Int) = F + M
              · rw [if_neg (by omega), List.nil_append] at htx
                have hx58 : (B (txt pr) l.length != 58) = false := by rw [HB.out, hc58.2 hcol]; rfl
                have HTX := Lib.hid htx; clear htx hlc hc58 hcol HB
                have TX : Hid (txt (pr ++ hexT N) = txt pr ++ txt (hexT N)) := Lib.hid (txt_append _ _)
                have LCN := Lib.hid (LC_hex pr N HNX.out)
                generalize hsq : txt pr = s at *
                generalize hhq : txt (hexT N) = hs at *
                have y0 : ¬ 9223372036854775807 < s.size + 1 := by omega
                have y1 : ¬ 9223372036854775807 < s.size + hs.size := by omega
                have y2 : ¬ 9223372036854775807 < s.size + 1 + hs.size := by omega
                go_wp2_with (first | refine wpList_load_A rfl _ rfl ha hb.blk rfl ?_ | (go_at_call 73; refine (HG.out _).mono ?_; rintro e w3 ⟨rfl, hx3⟩) | (go_at_call 74; refine (HH.out _).mono ?_; rintro e w4 ⟨rfl, hx4⟩))
                go_roundw
                case rel => exact ⟨i + 1, pr ++ hexT N, fuel, by omega, by go_num, by rw [TX.out], by simp; omega, (hb.ext ha hx3).ext ha hx4, (hx.trans hx3).trans hx4, Lib.hid (by first | exact HTX.out | (rw [HTX.out]; simp)), by omega, LCN, HPO⟩
                case measure => simp [intOf]; omega
              · rw [if_pos ⟨h0, hcol⟩] at htx
                have hx58 : (B (txt pr) l.length != 58) = true := by rw [bne_iff_ne, HB.out]; intro h; exact hcol (hc58.1 (UInt8.toNat_inj.1 (by show c.toNat = 58; omega)))
                have HTX := Lib.hid htx; clear htx hlc hc58 hcol HB
                have TX : Hid (txt (pr ++ [58] ++ hexT N) = txt pr ++ ⟨#[58]⟩ ++ txt (hexT N)) := Lib.hid (by rw [txt_append, txt_append]; rfl)
                have LCN := Lib.hid (LC_hex (pr ++ [58]) N HNX.out)
                generalize hsq : txt pr = s at *
                generalize hhq : txt (hexT N) = hs at *
                have y0 : ¬ 9223372036854775807 < s.size + 1 := by omega
                have y1 : ¬ 9223372036854775807 < s.size + hs.size := by omega
                have y2 : ¬ 9223372036854775807 < s.size + 1 + hs.size := by omega
                go_wp2_with (first | refine wpList_load_A rfl _ rfl ha hb.blk rfl ?_ | (go_at_call 73; refine (HG.out _).mono ?_; rintro e w3 ⟨rfl, hx3⟩) | (go_at_call 74; refine (HH.out _).mono ?_; rintro e w4 ⟨rfl, hx4⟩))
                go_roundw
                case rel => exact ⟨i + 1, pr ++ [58] ++ hexT N, fuel, by omega, by go_num, by rw [TX.out], by simp; omega, (hb.ext ha hx3).ext ha hx4, (hx.trans hx3).trans hx4, Lib.hid (by first | exact HTX.out | (rw [HTX.out]; simp)), by omega, LCN, HPO⟩
                case measure => simp [intOf]; omega
        · obtain rfl : i = 8 := by omega
          have E : Hid (fmtA a = pr) := Lib.hid (by rw [hT.out, tail6_end (Nat.le_refl _), List.append_nil])
          go_wp2_with fail
          go_ret
          exact ⟨by rw [E.out]; rfl, hx⟩
theorem rFormat_any (a : Adr) (ha : okA a) (w : World) :
    Calls Tryz.prog 42 #[av a] w fun e w' => e = .returned (.string (txt (fmtA a))) ∧ Ext w w' := by
  cases hv : validA a with
  | false => exact rFormat_bad a ha hv w
  | true =>
    cases hf : a.1 with
    | true => exact rFormat6_any a ha hf w
    | false => exact rFormat4_any a ha hf hv w
set_option maxRecDepth 8000 in
set_option maxHeartbeats 4000000 in
theorem format_bad (a : Adr) (ha : okA a) (hv : validA a = false) (w : World) :
    Calls Tryz.prog 41 #[av a] w fun e w' => e = .returned (.string (txt (fmtA a))) ∧ Ext w w' := by
  have hfm : fmtA a = [] := by unfold fmtA; rw [hv]; rfl
  have HFM := Lib.hid hfm; clear hfm
  have hcall := fun w => valid_any a ha w
  rw [hv] at hcall
  have HC := Lib.hid hcall; clear hcall
  unfold av
  go_enter Tryz.func41, Tryz.ntmps41
  go_upto_region 1 with fail
  have hx := (Ext.refl w).alloc (.cells (ac a) 30)
  have hb := ABox.new ha w
  generalize hwq : w.alloc (.cells (ac a) 30) = w0 at *
  clear hwq
  go_wp2_with (first | refine wpList_load_A rfl _ rfl ha hb.blk rfl ?_ | (go_at_call 36; refine (HC.out _).mono ?_; rintro e w1 ⟨rfl, hx1⟩; refine Hid.out ?_))
  refine Lib.hid ?_
  go_wp2_with fail
  go_ret
  exact ⟨by rw [HFM.out]; rfl, hx.trans hx1⟩
theorem formatA_any (a : Adr) (ha : okA a) (w : World) (htabs : Tabs w) :
    Calls Tryz.prog 41 #[av a] w fun e w' => e = .returned (.string (txt (fmtA a))) ∧ Ext w w' := by
  cases hv : validA a with
  | false => exact format_bad a ha hv w
  | true => exact format_any a ha hv w htabs
end Go.Proofs.YtpdoddelnahlnaaGreatDoor
