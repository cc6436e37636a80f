/-
  Several texts joined: HcI, HcJ.
-/
import Derived.Test.YtpdoddelnahlnaaGreatDoorK36
import Derived.Test.YtpdoddelnahlnaaGreatDoorK31
/-
  Contracts of the reference's parseRequestLine and parseHeader.
-/
set_option linter.unusedSimpArgs false
set_option linter.unusedVariables false
namespace Go.Proofs.YtpdoddelnahlnaaGreatDoor
open Go.RowKit Go.Joins
set_option maxRecDepth 8000 in
set_option maxHeartbeats 4000000 in
theorem rrq_any (s : ByteArray) (w : World) (hs : s.size ≤ 1000000) : Calls Tryz.prog 108 #[.string s] w fun e w' => ∃ t, okT t ∧ e = .returned (.tuple #[tv t, .bool (rqP s).isSome]) ∧ (∀ u, rqP s = some u → u = t) ∧ Ext w w' := by
  have KS0 := fun w => rsplit_any s 32 w (by omega)
  have R0 := rr_eq s
  have hlen := parts_len_le 32 s
  have hpp := parts_pos 32 s
  have hpz : ∀ x ∈ parts 32 s, x.size ≤ 1000000 := fun x hx => Nat.le_trans (parts_size hx) hs
  unfold okRr at R0
  generalize parts 32 s = l at *
  go_enter Tryz.func108, Tryz.ntmps108
  go_upto_region 1 with fail
  rw [← tc_zero]
  have hx := (Ext.refl w).alloc (.cells (tc ztgt) 32)
  have hr := Blk.new w (tc ztgt) 32
  generalize w.alloc (.cells (tc ztgt) 32) = w0 at *
  generalize hbb : w.heap.size = b at hr ⊢
  have hwb := Nat.le_of_eq hbb
  clear hbb
  have KS := Lib.hid (KS0 w0)
  clear KS0
  by_cases h3 : l.length = 3
  · obtain ⟨x0, x1, x2, rfl⟩ : ∃ a b c, l = [a, b, c] := by
      match l, h3 with
      | [a, b, c], _ => exact ⟨a, b, c, rfl⟩
    have z1 : x1.size ≤ 1000000 := hpz x1 (by simp)
    clear h3 hlen hpp hpz
    simp only [List.length_cons, List.length_nil, decide_true, Bool.true_and, List.getD_cons_zero, List.getD_cons_succ] at R0
    have b0 : (x0.toList == [67, 79, 78, 78, 69, 67, 84]) = decide (x0 = connW) := toList_is connW rfl
    have b1 : (x2.toList == [72, 84, 84, 80, 47, 49, 46, 49]) = decide (x2 = v11) := toList_is v11 rfl
    have b2 : (x2.toList == [72, 84, 84, 80, 47, 49, 46, 48]) = decide (x2 = v10) := toList_is v10 rfl
    cases d0 : decide (x0 = connW)
    · have R : Hid (rqP s = none) := Lib.hid (by rw [← R0, d0]; rfl)
      rw [d0] at b0
      clear R0 b1 b2 d0
      go_wp2_with (first | (go_at_call 64; refine KS.out.mono ?_; rintro e w1 ⟨g, cap, rfl, hg, hcs, hcap, hx1⟩; have s0 := hcs.2 0 x0 rfl; have s1 := hcs.2 1 x1 rfl; have s2 := hcs.2 2 x2 rfl; have hcap3 : 3 ≤ cap := hcap; clear hcs; have hrr := Blk.ext hr hx1; have hxx := hx.trans hx1) | refine wpList_store_T rfl _ _ rfl okT_ztgt okT_ztgt hrr rfl rfl ?_)
      refine bodyPost_ret (res_T2 rfl rfl okT_ztgt (hrr.row _)) rfl ⟨ztgt, okT_ztgt, by rw [R.out]; rfl, (fun u q => by rw [R.out] at q; cases q), hxx.setRow hwb _⟩
    · by_cases hv : x2 = v11 ∨ x2 = v10
      · have R1 : (if (tgtP x1).2 = true then some (tgtP x1).1 else none) = rqP s := by
          rw [← R0]
          have : (decide (x2 = v11) || decide (x2 = v10)) = true := by rw [Bool.or_eq_true, decide_eq_true_eq, decide_eq_true_eq]; exact hv
          rw [d0, this]; rfl
        have R := Lib.hid R1
        have KT := Lib.hid (fun w => rptarget_any x1 w (by omega))
        have hT : okT (tgtP x1).1 := okT_tgtP x1 (by unfold maxLen; omega)
        generalize (tgtP x1).1 = t at *
        generalize (tgtP x1).2 = tok at *
        rw [d0] at b0
        clear R0 R1 d0
        rcases hv with hv | hv
        · have c1 : decide (x2 = v11) = true := decide_eq_true hv
          rw [c1] at b1
          clear hv c1 b2
          go_wp2_with (first | (go_at_call 64; refine KS.out.mono ?_; rintro e w1 ⟨g, cap, rfl, hg, hcs, hcap, hx1⟩; have s0 := hcs.2 0 x0 rfl; have s1 := hcs.2 1 x1 rfl; have s2 := hcs.2 2 x2 rfl; have hcap3 : 3 ≤ cap := hcap; clear hcs; have hrr := Blk.ext hr hx1; have hxx := hx.trans hx1) | (go_at_call 32; refine (KT.out _).mono ?_; rintro e w2 ⟨rfl, hx2⟩; have hr2 := Blk.ext hrr hx2; have hxx2 := hxx.trans hx2) | refine wpList_store_T rfl _ _ rfl okT_ztgt hT hr2 rfl rfl ?_)
          refine bodyPost_ret (res_T2 rfl rfl hT (hr2.row _)) rfl ⟨t, hT, by rw [← R.out]; cases tok <;> rfl, (fun u q => by rw [← R.out] at q; split at q <;> first | (injection q with q; exact q.symm) | cases q), hxx2.setRow hwb _⟩
        · have c1 : decide (x2 = v11) = false := by rw [hv]; decide +kernel
          have c0 : decide (x2 = v10) = true := decide_eq_true hv
          rw [c1] at b1
          rw [c0] at b2
          clear hv c1 c0
          go_wp2_with (first | (go_at_call 64; refine KS.out.mono ?_; rintro e w1 ⟨g, cap, rfl, hg, hcs, hcap, hx1⟩; have s0 := hcs.2 0 x0 rfl; have s1 := hcs.2 1 x1 rfl; have s2 := hcs.2 2 x2 rfl; have hcap3 : 3 ≤ cap := hcap; clear hcs; have hrr := Blk.ext hr hx1; have hxx := hx.trans hx1) | (go_at_call 32; refine (KT.out _).mono ?_; rintro e w2 ⟨rfl, hx2⟩; have hr2 := Blk.ext hrr hx2; have hxx2 := hxx.trans hx2) | refine wpList_store_T rfl _ _ rfl okT_ztgt hT hr2 rfl rfl ?_)
          refine bodyPost_ret (res_T2 rfl rfl hT (hr2.row _)) rfl ⟨t, hT, by rw [← R.out]; cases tok <;> rfl, (fun u q => by rw [← R.out] at q; split at q <;> first | (injection q with q; exact q.symm) | cases q), hxx2.setRow hwb _⟩
      · have c1 : decide (x2 = v11) = false := decide_eq_false (fun q => hv (.inl q))
        have c0 : decide (x2 = v10) = false := decide_eq_false (fun q => hv (.inr q))
        have R : Hid (rqP s = none) := Lib.hid (by rw [← R0, d0, c1, c0]; rfl)
        rw [d0] at b0
        rw [c1] at b1
        rw [c0] at b2
        clear hv R0 c1 c0 d0
        go_wp2_with (first | (go_at_call 64; refine KS.out.mono ?_; rintro e w1 ⟨g, cap, rfl, hg, hcs, hcap, hx1⟩; have s0 := hcs.2 0 x0 rfl; have s1 := hcs.2 1 x1 rfl; have s2 := hcs.2 2 x2 rfl; have hcap3 : 3 ≤ cap := hcap; clear hcs; have hrr := Blk.ext hr hx1; have hxx := hx.trans hx1) | refine wpList_store_T rfl _ _ rfl okT_ztgt okT_ztgt hrr rfl rfl ?_)
        refine bodyPost_ret (res_T2 rfl rfl okT_ztgt (hrr.row _)) rfl ⟨ztgt, okT_ztgt, by rw [R.out]; rfl, (fun u q => by rw [R.out] at q; cases q), hxx.setRow hwb _⟩
  · have R : Hid (rqP s = none) := Lib.hid (by rw [← R0, decide_eq_false h3]; rfl)
    have hnb : ((l.length : Int) != 3) = true := by rw [bne_iff_ne]; omega
    clear h3 R0 hpp hpz
    go_wp2_with (first | (go_at_call 64; refine KS.out.mono ?_; rintro e w1 ⟨g, cap, rfl, hg, hcs, hcap, hx1⟩; have HCS := Lib.hid hcs; clear hcs; have hrr := Blk.ext hr hx1; have hxx := hx.trans hx1) | refine wpList_store_T rfl _ _ rfl okT_ztgt okT_ztgt hrr rfl rfl ?_)
    refine bodyPost_ret (res_T2 rfl rfl okT_ztgt (hrr.row _)) rfl ⟨ztgt, okT_ztgt, by rw [R.out]; rfl, (fun u q => by rw [R.out] at q; cases q), hxx.setRow hwb _⟩
end Go.Proofs.YtpdoddelnahlnaaGreatDoor
/-
  Contracts of the reference's parseHeader and acceptLine.
-/
set_option linter.unusedSimpArgs false
set_option linter.unusedVariables false
namespace Go.Proofs.YtpdoddelnahlnaaGreatDoor
open Go.RowKit Go.Joins
theorem hdP_bad {s : ByteArray} {k : Nat} (hk : k < idxB s 58) (h : hch (B s k) = false) : hdP s = none := by
  unfold hdP
  rw [if_neg (fun q => by have := allB_iff.1 q.2.2 k hk; rw [h] at this; cases this)]
theorem hdP_no {s : ByteArray} (h : idxB s 58 = 0 ∨ idxB s 58 = s.size) : hdP s = none := by
  unfold hdP
  rw [if_neg (fun q => by have := q.1; have := q.2.1; omega)]
theorem hdP_yes {s : ByteArray} {k : Nat} (e : idxB s 58 = k) (h0 : 0 < k) (h1 : k < s.size) (h : ∀ j, j < k → hch (B s j) = true) : hdP s = some (s.extract 0 k, trimB (s.extract (k + 1) s.size)) := by
  unfold hdP
  rw [e, if_pos ⟨h0, h1, allB_iff.2 h⟩]
def hdR (o : Option (ByteArray × ByteArray)) : Value := match o with
  | none => .tuple #[.string ⟨#[]⟩, .string ⟨#[]⟩, .bool false]
  | some (k, v) => .tuple #[.string k, .string v, .bool true]
theorem rtrim_ext (s : ByteArray) (hs : s.size ≤ maxLen) (w : World) : Calls Tryz.prog 130 #[.string s] w fun e w' => e = .returned (.string (trimB s)) ∧ Ext w w' :=
  (rtrim_any s hs w).mono fun e w' ⟨h1, h2⟩ => ⟨h1, h2 ▸ Ext.refl _⟩
theorem hch_no {x : Int} (h : ¬ ((97 ≤ x ∧ x ≤ 122) ∨ (65 ≤ x ∧ x ≤ 90) ∨ (48 ≤ x ∧ x ≤ 57) ∨ x = 45)) : hch x = false := by
  cases e : hch x with
  | false => rfl
  | true => exact absurd (hch_iff x |>.1 e) h
set_option maxRecDepth 8000 in
set_option maxHeartbeats 4000000 in
theorem rhd_any (s : ByteArray) (w : World) (hs : s.size ≤ 1000000) : Calls Tryz.prog 109 #[.string s] w fun e w' => e = .returned (hdR (hdP s)) ∧ Ext w w' := by
  have HB := Lib.hid (fun k => @hdP_bad s k)
  have HN := Lib.hid (@hdP_no s)
  have HY := Lib.hid (fun k => @hdP_yes s k)
  have HI1 := Lib.hid (idxB_le s 58)
  have HI2 := Lib.hid (fun k => @idxB_is s 58 k)
  have HI4 := Lib.hid (@idxB_at s 58)
  go_enter Tryz.func109, Tryz.ntmps109
  go_wp2_with fail
  go_loopw [5, 6] (fun n _ wr => ∃ k : Nat, k ≤ s.size ∧ n = .int .i64 k ∧ (∀ j, j < k → hch (B s j) = true ∧ B s j ≠ 58) ∧ Ext w wr) (fun n _ _ => s.size - (intOf n).toNat)
  case atStart => exact ⟨0, Nat.zero_le _, rfl, fun j hj => by omega, Ext.refl _⟩
  case round =>
    obtain ⟨k, hk, rfl, hj, hx⟩ := hrel
    have HJ := Lib.hid hj
    clear hj
    by_cases hlt : k < s.size
    · have hlt' : (k : Int) < s.size := by omega
      by_cases hc : B s k = 58
      · have hc' : (B s k != 58) = false := by rw [bne_eq_false_iff_eq]; exact hc
        have HE : Hid (idxB s 58 = k) := Lib.hid (HI2.out k hlt hc (fun j hj => (HJ.out j hj).2))
        have hk1 : (k : Int) + 1 ≤ s.size := by omega
        have hk2 : (k : Int) ≤ s.size := by omega
        have hk0 : (0 : Int) ≤ (k : Int) + 1 := by omega
        have ek : (k : Int).toNat = k := rfl
        have ek1 : ((k : Int) + 1).toNat = k + 1 := by omega
        have ew : IntKind.i64.wrap ((k : Int) + 1) = (k : Int) + 1 := IntWalk.i64_in _ (by omega)
        clear hc
        by_cases h0 : k = 0
        · have R : Hid (hdP s = none) := Lib.hid (HN.out (.inl (by rw [HE.out, h0])))
          have h0' : ((k : Int) == 0) = true := by rw [beq_iff_eq]; omega
          clear h0
          go_wp2_with fail
          refine bodyPost_ret (res3 rfl) rfl ⟨by rw [R.out]; rfl, hx⟩
        · have R : Hid (hdP s = some (s.extract 0 k, trimB (s.extract (k + 1) s.size))) := Lib.hid (HY.out k HE.out (by omega) hlt (fun j hj => (HJ.out j hj).1))
          have h0' : ((k : Int) == 0) = false := by rw [beq_eq_false_iff_ne]; omega
          have h1' : ((k : Int) == s.size) = false := by rw [beq_eq_false_iff_ne]; omega
          have hez := extract_le s (k + 1) s.size
          have KT := fun w' (_ : Ext wr w') => rtrim_ext (s.extract (k + 1) s.size) (by unfold maxLen; omega) w'
          clear h0
          go_upto_region 9 with fail
          refine wp_region_rg wr (by kernel_rfl) (by kernel_rfl) (Ext.refl _) ?_
          first
            | (apply goV_skip (by intro u; rfl))
            | (apply goV_val _ (by intro u; rfl); · (intro u w hSw hF; go_simp; try with_reducible rfl))
          try simp only [Act.put, List.setIfInBounds_toArray, List.set_cons_zero, List.set_cons_succ]
          first
            | (apply goV_skip (by intro u; rfl))
            | (apply goV_val _ (by intro u; rfl); · (intro u w hSw hF; go_simp; try with_reducible rfl))
          try simp only [Act.put, List.setIfInBounds_toArray, List.set_cons_zero, List.set_cons_succ]
          first
            | (apply goV_skip (by intro u; rfl))
            | (apply goV_val _ (by intro u; rfl); · (intro u w hSw hF; go_simp; try with_reducible rfl))
          try simp only [Act.put, List.setIfInBounds_toArray, List.set_cons_zero, List.set_cons_succ]
          first
            | (apply goV_skip (by intro u; rfl))
            | (apply goV_val _ (by intro u; rfl); · (intro u w hSw hF; go_simp; try with_reducible rfl))
          try simp only [Act.put, List.setIfInBounds_toArray, List.set_cons_zero, List.set_cons_succ]
          first
            | (apply goV_skip (by intro u; rfl))
            | (apply goV_val _ (by intro u; rfl); · (intro u w hSw hF; go_simp; try with_reducible rfl))
          try simp only [Act.put, List.setIfInBounds_toArray, List.set_cons_zero, List.set_cons_succ]
          first
            | (apply goV_skip (by intro u; rfl))
            | (apply goV_val _ (by intro u; rfl); · (intro u w hSw hF; go_simp; try with_reducible rfl))
          try simp only [Act.put, List.setIfInBounds_toArray, List.set_cons_zero, List.set_cons_succ]
          first
            | (apply goV_skip (by intro u; rfl))
            | (apply goV_val _ (by intro u; rfl); · (intro u w hSw hF; go_simp; try with_reducible rfl))
          try simp only [Act.put, List.setIfInBounds_toArray, List.set_cons_zero, List.set_cons_succ]
          first
            | (apply goV_skip (by intro u; rfl))
            | (apply goV_call (by intro u; rfl) KT; · (intro u w hSw hF; go_simp; try with_reducible rfl))
          try simp only [Act.put, List.setIfInBounds_toArray, List.set_cons_zero, List.set_cons_succ]
          first
            | (apply goV_skip (by intro u; rfl))
            | (apply goV_val _ (by intro u; rfl); · (intro u w hSw hF; go_simp; try with_reducible rfl))
          try simp only [Act.put, List.setIfInBounds_toArray, List.set_cons_zero, List.set_cons_succ]
          first
            | (apply goV_skip (by intro u; rfl))
            | (apply goV_val _ (by intro u; rfl); · (intro u w hSw hF; go_simp; try with_reducible rfl))
          try simp only [Act.put, List.setIfInBounds_toArray, List.set_cons_zero, List.set_cons_succ]
          first
            | (apply goV_skip (by intro u; rfl))
            | (apply goV_val _ (by intro u; rfl); · (intro u w hSw hF; go_simp; try with_reducible rfl))
          try simp only [Act.put, List.setIfInBounds_toArray, List.set_cons_zero, List.set_cons_succ]
          intro u w5 hx5 _
          go_wp2_with fail
          refine bodyPost_ret (res3 rfl) rfl ⟨by rw [R.out]; rfl, hx.trans hx5⟩
      · have hc' : (B s k != 58) = true := by rw [bne_iff_ne]; exact hc
        have HBAD : Hid (hch (B s k) = false → hdP s = none) := Lib.hid (fun h => HB.out k (by
          rcases Nat.lt_or_ge k (idxB s 58) with q | q
          · exact q
          · exfalso
            have q2 : idxB s 58 = k := by
              rcases Nat.lt_or_ge (idxB s 58) k with q3 | q3
              · exact absurd (HI4.out (by omega)) ((HJ.out _ q3).2)
              · omega
            have := HI4.out (by omega)
            rw [q2] at this
            exact hc this) h)
        have HGO : Hid (hch (B s k) = true → ∀ j, j < k + 1 → hch (B s j) = true ∧ B s j ≠ 58) := Lib.hid (fun h j hj => by
          by_cases q : j = k
          · subst q; exact ⟨h, hc⟩
          · exact HJ.out j (by omega))
        have HIF := Lib.hid (hch_iff (B s k))
        have HNO := Lib.hid (@hch_no (B s k))
        clear hc
        go_upto_region 4 with fail
        generalize B s k = x at *
        go_cut [46] from 20 to 47 (fun v wc => v = .bool (!hch x) ∧ wc = wr)
        case first =>
          by_cases a1 : 97 ≤ x
          · by_cases a2 : x ≤ 122
            · have E := Lib.hid (HIF.out.2 (.inl ⟨a1, a2⟩))
              go_wp2_with fail
              go_meet
              exact ⟨by rw [E.out]; rfl, rfl⟩
            · have E := Lib.hid (HNO.out (by omega))
              have d1 : decide (x ≤ 122) = false := decide_eq_false (by omega)
              have d2 : 65 ≤ x := by omega
              have d3 : decide (x ≤ 90) = false := decide_eq_false (by omega)
              have d4 : 48 ≤ x := by omega
              have d5 : decide (x ≤ 57) = false := decide_eq_false (by omega)
              have d6 : (x == 45) = false := by rw [beq_eq_false_iff_ne]; omega
              go_wp2_with fail
              go_meet
              exact ⟨by rw [E.out]; rfl, rfl⟩
          · have d0 : x < 97 := by omega
            clear a1
            by_cases a1 : 65 ≤ x
            · by_cases a2 : x ≤ 90
              · have E := Lib.hid (HIF.out.2 (.inr (.inl ⟨a1, a2⟩)))
                go_wp2_with fail
                go_meet
                exact ⟨by rw [E.out]; rfl, rfl⟩
              · have E := Lib.hid (HNO.out (by omega))
                have d3 : decide (x ≤ 90) = false := decide_eq_false (by omega)
                have d4 : 48 ≤ x := by omega
                have d5 : decide (x ≤ 57) = false := decide_eq_false (by omega)
                have d6 : (x == 45) = false := by rw [beq_eq_false_iff_ne]; omega
                go_wp2_with fail
                go_meet
                exact ⟨by rw [E.out]; rfl, rfl⟩
            · have d1 : x < 65 := by omega
              clear a1
              by_cases a1 : 48 ≤ x
              · by_cases a2 : x ≤ 57
                · have E := Lib.hid (HIF.out.2 (.inr (.inr (.inl ⟨a1, a2⟩))))
                  go_wp2_with fail
                  go_meet
                  exact ⟨by rw [E.out]; rfl, rfl⟩
                · have E := Lib.hid (HNO.out (by omega))
                  have d5 : decide (x ≤ 57) = false := decide_eq_false (by omega)
                  have d6 : (x == 45) = false := by rw [beq_eq_false_iff_ne]; omega
                  go_wp2_with fail
                  go_meet
                  exact ⟨by rw [E.out]; rfl, rfl⟩
              · have d5 : x < 48 := by omega
                clear a1
                by_cases a1 : x = 45
                · have E := Lib.hid (HIF.out.2 (.inr (.inr (.inr a1))))
                  subst a1
                  go_wp2_with fail
                  go_meet
                  exact ⟨by rw [E.out]; rfl, rfl⟩
                · have E := Lib.hid (HNO.out (by omega))
                  have d6 : (x == 45) = false := by rw [beq_eq_false_iff_ne]; omega
                  clear a1
                  go_wp2_with fail
                  go_meet
                  exact ⟨by rw [E.out]; rfl, rfl⟩
        case rest =>
          obtain ⟨rfl, rfl⟩ := hcut
          cases q : hch x
          · have R := Lib.hid (HBAD.out q)
            clear q
            go_wp2_with fail
            refine bodyPost_ret (res3 rfl) rfl ⟨by rw [R.out]; rfl, hx⟩
          · have R := Lib.hid (HGO.out q)
            clear q
            go_wp2_with fail
            go_roundw
            case rel => exact ⟨k + 1, by omega, by go_num, R.out, hx⟩
            case measure => simp [intOf]; omega
    · obtain rfl : k = s.size := by omega
      have R : Hid (hdP s = none) := Lib.hid (HN.out (.inr (by
        rcases Nat.lt_or_ge (idxB s 58) s.size with q | q
        · exact absurd (HI4.out q) ((HJ.out _ q).2)
        · have := HI1.out; omega)))
      have hnl : ¬ ((s.size : Nat) : Int) < s.size := by omega
      have h1' : ((s.size : Int) == s.size) = true := by rw [beq_iff_eq]
      by_cases h0 : (s.size : Int) < 1
      · have h0' : ((s.size : Int) == 0) = true := by rw [beq_iff_eq]; omega
        go_wp2_with fail
        refine bodyPost_ret (res3 rfl) rfl ⟨by rw [R.out]; rfl, hx⟩
      · have h0' : ((s.size : Int) == 0) = false := by rw [beq_eq_false_iff_ne]; omega
        go_wp2_with fail
        refine bodyPost_ret (res3 rfl) rfl ⟨by rw [R.out]; rfl, hx⟩
end Go.Proofs.YtpdoddelnahlnaaGreatDoor
