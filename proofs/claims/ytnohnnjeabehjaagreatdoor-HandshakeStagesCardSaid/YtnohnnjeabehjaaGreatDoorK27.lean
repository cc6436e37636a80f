/-
  Several texts joined: HsN, HcI, HcJ, HcK.
-/
import Derived.Test.YtnohnnjeabehjaaGreatDoorK22
import Derived.Test.YtnohnnjeabehjaaGreatDoorK24
import Derived.Test.YtnohnnjeabehjaaGreatDoorK19
set_option maxHeartbeats 4000000
set_option maxRecDepth 8000
set_option linter.unusedVariables false
set_option linter.unusedSimpArgs false
namespace Go.Proofs.YtnohnnjeabehjaaGreatDoor
inductive Steps (x : Txt) (tn : Tns) : Hst -> ByteArray -> Nat -> ByteArray -> Hst -> Prop
 | refl (s : Hst) (z : ByteArray) : Steps x tn s z 0 ⟨#[]⟩ s
 | step {s : Hst} {z : ByteArray} {a : Int × ByteArray × Hst} {n : Nat} {o : ByteArray} {s' : Hst} (h0 : s.1 ≠ 5) (h : hstep x tn s z = some a) (r : Steps x tn a.2.2 (z.extract a.1.toNat z.size) n o s') : Steps x tn s z (a.1.toNat + n) (a.2.1 ++ o) s'
def Stuck (x : Txt) (tn : Tns) (s : Hst) (z : ByteArray) : Prop := s.1 = 5 ∨ hstep x tn s z = none
theorem ext_ext (z : ByteArray) {a b : Nat} (h : a + b <= z.size) : (z.extract a z.size).extract b (z.extract a z.size).size = z.extract (a + b) z.size := by
 have e : (z.extract a z.size).size = z.size - a := by rw [ByteArray.size_extract]; omega
 rw [e, extract_extract _ _ _ _ _ (by omega), show a + (z.size - a) = z.size by omega]
theorem Steps.le {x : Txt} {tn : Tns} {s s' : Hst} {z o : ByteArray} {n : Nat} (h : Steps x tn s z n o s') : n <= z.size := by
 induction h with
 | refl => exact Nat.zero_le _
 | step h0 h r ih =>
  have := hstep_n h
  rw [ByteArray.size_extract] at ih
  omega
theorem ext_appR (z r : ByteArray) {a : Nat} (h : a <= z.size) : (z ++ r).extract a (z ++ r).size = z.extract a z.size ++ r := by
 have hz : (z ++ r).size = z.size + r.size := ByteArray.size_append
 have e : (z.extract a z.size).size = z.size - a := by rw [ByteArray.size_extract]; omega
 have e2 : (z.extract a z.size ++ r).size = z.size - a + r.size := by rw [ByteArray.size_append, e]
 refine BA_B (by rw [ByteArray.size_extract, hz, e2]; omega) fun j hj => ?_
 rw [ByteArray.size_extract] at hj
 rw [B_extract _ _ _ _ (by omega)]
 rcases Nat.lt_or_ge (a + j) z.size with q | q
 ·rw [B_append_left _ _ _ q, B_append_left _ _ _ (by omega), B_extract _ _ _ _ (by omega)]
 ·rw [B_append_right _ _ _ q, B_append_right _ _ _ (by omega), e, show a + j - z.size = j - (z.size - a) by omega]
theorem Steps.app {x : Txt} {tn : Tns} {s s' : Hst} {z o : ByteArray} {n : Nat} (h : Steps x tn s z n o s') (r : ByteArray) : Steps x tn s (z ++ r) n o s' := by
 induction h with
 | refl => exact .refl _ _
 | step h0 h t ih =>
  have hn := hstep_n h
  refine .step h0 (hstep_app r h) ?_
  rw [ext_appR _ _ (by omega)]
  exact ih
theorem BA_nil (o : ByteArray) : (⟨#[]⟩ : ByteArray) ++ o = o := ByteArray.empty_append
theorem ext_zero (z : ByteArray) : z.extract 0 z.size = z := BA_ext (by rw [data_extract, List.drop_zero, List.take_of_length_le (by rw [← size_list]; exact Nat.le_refl _)])
theorem Steps.trans {x : Txt} {tn : Tns} {s s1 s2 : Hst} {z o o' : ByteArray} {n m : Nat} (h : Steps x tn s z n o s1) (k : Steps x tn s1 (z.extract n z.size) m o' s2) : Steps x tn s z (n + m) (o ++ o') s2 := by
 induction h with
 | refl =>
  rw [ext_zero] at k
  rw [Nat.zero_add, BA_nil]; exact k
 | step h0 h r ih =>
  have hn := hstep_n h
  have hl := r.le
  rw [ByteArray.size_extract] at hl
  rw [Nat.add_assoc, ByteArray.append_assoc]
  refine .step h0 h (ih ?_)
  rw [ext_ext _ (by omega)]
  exact k
theorem Steps.same {x : Txt} {tn : Tns} {s s1 s2 : Hst} {z o o' : ByteArray} {n m : Nat} (h : Steps x tn s z n o s1) (hs : Stuck x tn s1 (z.extract n z.size)) (k : Steps x tn s z m o' s2) (ks : Stuck x tn s2 (z.extract m z.size)) : n = m /\ o = o' /\ s1 = s2 := by
 induction h generalizing m o' s2 with
 | refl =>
  rw [ext_zero] at hs
  cases k with
  | refl => exact ⟨rfl, rfl, rfl⟩
  | step k0 kh kr =>
   exfalso
   rcases hs with q | q
   ·exact k0 q
   ·rw [q] at kh; cases kh
 | step h0 h r ih =>
  have hn := hstep_n h
  have hl := r.le
  rw [ByteArray.size_extract] at hl
  cases k with
  | refl =>
   exfalso
   rw [ext_zero] at ks
   rcases ks with q | q
   ·exact h0 q
   ·rw [q] at h; cases h
  | step k0 kh kr =>
   rw [h] at kh
   injection kh with kh
   subst kh
   have hl2 := kr.le
   rw [ByteArray.size_extract] at hl2
   have := ih (by rw [ext_ext _ (by omega)]; exact hs) kr (by rw [ext_ext _ (by omega)]; exact ks)
   exact ⟨by rw [this.1], by rw [this.2.1], this.2.2⟩
def Fed (x : Txt) (tn : Tns) (s : Hst) (z : ByteArray) (n : Nat) (o : ByteArray) (s' : Hst) : Prop := Steps x tn s z n o s' /\ Stuck x tn s' (z.extract n z.size)
theorem Fed.more {x : Txt} {tn : Tns} {s0 s1 s2 : Hst} {S o t : ByteArray} {used at_ to_ n : Nat} (h : Steps x tn s0 (S.extract 0 at_) used o s1) (h1 : at_ <= to_) (h2 : to_ <= S.size) (k : Fed x tn s1 (S.extract used to_) n t s2) :
  Steps x tn s0 (S.extract 0 to_) (used + n) (o ++ t) s2 /\ Stuck x tn s2 (S.extract (used + n) to_) := by
 have hu := h.le
 have hk := k.1.le
 rw [ByteArray.size_extract] at hu hk
 have e1 : S.extract 0 to_ = S.extract 0 at_ ++ S.extract at_ to_ := by
  refine BA_B (by rw [ByteArray.size_append, ByteArray.size_extract, ByteArray.size_extract, ByteArray.size_extract]; omega) fun j hj => ?_
  rw [ByteArray.size_extract] at hj
  have e : (S.extract 0 at_).size = at_ := by rw [ByteArray.size_extract]; omega
  rw [B_extract _ _ _ _ (by omega), Nat.zero_add]
  rcases Nat.lt_or_ge j at_ with q | q
  ·rw [B_append_left _ _ _ (by omega), B_extract _ _ _ _ (by omega), Nat.zero_add]
  ·rw [B_append_right _ _ _ (by omega), e, B_extract _ _ _ _ (by omega), show at_ + (j - at_) = j by omega]
 have ez : (S.extract 0 to_).size = to_ := by rw [ByteArray.size_extract]; omega
 have e2 : (S.extract 0 to_).extract used (S.extract 0 to_).size = S.extract used to_ := by
  rw [ez, extract_extract _ _ _ _ _ (by omega), Nat.zero_add, Nat.zero_add]
 have ez2 : (S.extract used to_).size = to_ - used := by rw [ByteArray.size_extract]; omega
 have e3 : (S.extract used to_).extract n (S.extract used to_).size = S.extract (used + n) to_ := by
  rw [ez2, extract_extract _ _ _ _ _ (by omega), show used + (to_ - used) = to_ by omega]
 refine ⟨?_, by have := k.2; rw [e3] at this; exact this⟩
 have hA := h.app (S.extract at_ to_)
 rw [← e1] at hA
 exact hA.trans (by rw [e2]; exact k.1)
open Go.RowKit Go.Joins
theorem rrq_any (s : ByteArray) (w : World) (hs : s.size <= 1000000) : Calls Tryz.prog 152 #[.string s] w fun e w' => ∃ t, okT t /\ e = .returned (.tuple #[tv t, .bool (rqP s).isSome]) /\ (∀ u, rqP s = some u -> u = t) /\ Ext w w' := by
 have KS0 := fun w => rsplit_any s 32 w (by omega)
 have R0 := rr_eq s
 have hlen := parts_len_le 32 s
 have hpp := parts_pos 32 s
 have hpz : ∀ x ∈ parts 32 s, x.size <= 1000000 := fun x hx => Nat.le_trans (parts_size hx) hs
 unfold okRr at R0
 generalize parts 32 s = l at *
 go_enter Tryz.func152, Tryz.ntmps152
 go_upto_region 1 with fail
 rw [← tc_zero]
 have hx := (Ext.refl w).alloc (.cells (tc ztgt) 43)
 have hr := Blk.new w (tc ztgt) 43
 generalize w.alloc (.cells (tc ztgt) 43) = w0 at *
 generalize hbb : w.heap.size = b at hr ⊢
 have hwb := Nat.le_of_eq hbb
 clear hbb
 have KS := Lib.hid (KS0 w0)
 clear KS0
 by_cases h3 : l.length = 3
 ·obtain ⟨x0, x1, x2, rfl⟩ : ∃ a b c, l = [a, b, c] := by
   match l, h3 with
   | [a, b, c], _ => exact ⟨a, b, c, rfl⟩
  have z1 : x1.size <= 1000000 := hpz x1 (by simp)
  clear h3 hlen hpp hpz
  simp only [List.length_cons, List.length_nil, decide_true, Bool.true_and, List.getD_cons_zero, List.getD_cons_succ] at R0
  have b0 : (x0.toList == [67, 79, 78, 78, 69, 67, 84]) = decide (x0 = connW) := toList_is connW rfl
  have b1 : (x2.toList == [72, 84, 84, 80, 47, 49, 46, 49]) = decide (x2 = v11) := toList_is v11 rfl
  have b2 : (x2.toList == [72, 84, 84, 80, 47, 49, 46, 48]) = decide (x2 = v10) := toList_is v10 rfl
  cases d0 : decide (x0 = connW)
  ·have R : Hid (rqP s = none) := Lib.hid (by rw [← R0, d0]; rfl)
   rw [d0] at b0
   clear R0 b1 b2 d0
   go_wp2_with (first | (go_at_call 80; refine KS.out.mono ?_; rintro e w1 ⟨g, cap, rfl, hg, hcs, hcap, hx1⟩; have s0 := hcs.2 0 x0 rfl; have s1 := hcs.2 1 x1 rfl; have s2 := hcs.2 2 x2 rfl; have hcap3 : 3 <= cap := hcap; clear hcs; have hrr := Blk.ext hr hx1; have hxx := hx.trans hx1) | refine wpList_store_T rfl _ _ rfl okT_ztgt okT_ztgt hrr rfl rfl ?_)
   refine bodyPost_ret (res_T2 rfl rfl okT_ztgt (hrr.row _)) rfl ⟨ztgt, okT_ztgt, by rw [R.out]; rfl, (fun u q => by rw [R.out] at q; cases q), hxx.setRow hwb _⟩
  ·by_cases hv : x2 = v11 ∨ x2 = v10
   ·have R1 : (if (tgtP x1).2 = true then some (tgtP x1).1 else none) = rqP s := by
     rw [← R0]
     have : (decide (x2 = v11) || decide (x2 = v10)) = true := by rw [Bool.or_eq_true, decide_eq_true_eq, decide_eq_true_eq]; exact hv
     rw [d0, this]; rfl
    have R := Lib.hid R1
    have KT := Lib.hid (fun w => rptarget_any x1 w (by omega))
    have hT : okT (tgtP x1).1 := okT_tgtP x1 (by unfold maxLen; omega)
    generalize (tgtP x1).1 = t at *
    generalize (tgtP x1).2 = tok at *
    rw [d0] at b0
    clear R0 R1 d0
    rcases hv with hv | hv
    ·have c1 : decide (x2 = v11) = true := decide_eq_true hv
     rw [c1] at b1
     clear hv c1 b2
     go_wp2_with (first | (go_at_call 80; refine KS.out.mono ?_; rintro e w1 ⟨g, cap, rfl, hg, hcs, hcap, hx1⟩; have s0 := hcs.2 0 x0 rfl; have s1 := hcs.2 1 x1 rfl; have s2 := hcs.2 2 x2 rfl; have hcap3 : 3 <= cap := hcap; clear hcs; have hrr := Blk.ext hr hx1; have hxx := hx.trans hx1) | (go_at_call 180; refine (KT.out _).mono ?_; rintro e w2 ⟨rfl, hx2⟩; have hr2 := Blk.ext hrr hx2; have hxx2 := hxx.trans hx2) | refine wpList_store_T rfl _ _ rfl okT_ztgt hT hr2 rfl rfl ?_)
     refine bodyPost_ret (res_T2 rfl rfl hT (hr2.row _)) rfl ⟨t, hT, by rw [← R.out]; cases tok <;> rfl, (fun u q => by rw [← R.out] at q; split at q <;> first | (injection q with q; exact q.symm) | cases q), hxx2.setRow hwb _⟩
    ·have c1 : decide (x2 = v11) = false := by rw [hv]; decide +kernel
     have c0 : decide (x2 = v10) = true := decide_eq_true hv
     rw [c1] at b1
     rw [c0] at b2
     clear hv c1 c0
     go_wp2_with (first | (go_at_call 80; refine KS.out.mono ?_; rintro e w1 ⟨g, cap, rfl, hg, hcs, hcap, hx1⟩; have s0 := hcs.2 0 x0 rfl; have s1 := hcs.2 1 x1 rfl; have s2 := hcs.2 2 x2 rfl; have hcap3 : 3 <= cap := hcap; clear hcs; have hrr := Blk.ext hr hx1; have hxx := hx.trans hx1) | (go_at_call 180; refine (KT.out _).mono ?_; rintro e w2 ⟨rfl, hx2⟩; have hr2 := Blk.ext hrr hx2; have hxx2 := hxx.trans hx2) | refine wpList_store_T rfl _ _ rfl okT_ztgt hT hr2 rfl rfl ?_)
     refine bodyPost_ret (res_T2 rfl rfl hT (hr2.row _)) rfl ⟨t, hT, by rw [← R.out]; cases tok <;> rfl, (fun u q => by rw [← R.out] at q; split at q <;> first | (injection q with q; exact q.symm) | cases q), hxx2.setRow hwb _⟩
   ·have c1 : decide (x2 = v11) = false := decide_eq_false (fun q => hv (.inl q))
    have c0 : decide (x2 = v10) = false := decide_eq_false (fun q => hv (.inr q))
    have R : Hid (rqP s = none) := Lib.hid (by rw [← R0, d0, c1, c0]; rfl)
    rw [d0] at b0
    rw [c1] at b1
    rw [c0] at b2
    clear hv R0 c1 c0 d0
    go_wp2_with (first | (go_at_call 80; refine KS.out.mono ?_; rintro e w1 ⟨g, cap, rfl, hg, hcs, hcap, hx1⟩; have s0 := hcs.2 0 x0 rfl; have s1 := hcs.2 1 x1 rfl; have s2 := hcs.2 2 x2 rfl; have hcap3 : 3 <= cap := hcap; clear hcs; have hrr := Blk.ext hr hx1; have hxx := hx.trans hx1) | refine wpList_store_T rfl _ _ rfl okT_ztgt okT_ztgt hrr rfl rfl ?_)
    refine bodyPost_ret (res_T2 rfl rfl okT_ztgt (hrr.row _)) rfl ⟨ztgt, okT_ztgt, by rw [R.out]; rfl, (fun u q => by rw [R.out] at q; cases q), hxx.setRow hwb _⟩
 ·have R : Hid (rqP s = none) := Lib.hid (by rw [← R0, decide_eq_false h3]; rfl)
  have hnb : ((l.length : Int) != 3) = true := by rw [bne_iff_ne]; omega
  clear h3 R0 hpp hpz
  go_wp2_with (first | (go_at_call 80; refine KS.out.mono ?_; rintro e w1 ⟨g, cap, rfl, hg, hcs, hcap, hx1⟩; have HCS := Lib.hid hcs; clear hcs; have hrr := Blk.ext hr hx1; have hxx := hx.trans hx1) | refine wpList_store_T rfl _ _ rfl okT_ztgt okT_ztgt hrr rfl rfl ?_)
  refine bodyPost_ret (res_T2 rfl rfl okT_ztgt (hrr.row _)) rfl ⟨ztgt, okT_ztgt, by rw [R.out]; rfl, (fun u q => by rw [R.out] at q; cases q), hxx.setRow hwb _⟩
open Go.RowKit Go.Joins
theorem hdP_bad {s : ByteArray} {k : Nat} (hk : k < idxB s 58) (h : hch (B s k) = false) : hdP s = none := by
 unfold hdP
 rw [if_neg (fun q => by have := allB_iff.1 q.2.2 k hk; rw [h] at this; cases this)]
theorem hdP_no {s : ByteArray} (h : idxB s 58 = 0 ∨ idxB s 58 = s.size) : hdP s = none := by
 unfold hdP
 rw [if_neg (fun q => by have := q.1; have := q.2.1; omega)]
theorem hdP_yes {s : ByteArray} {k : Nat} (e : idxB s 58 = k) (h0 : 0 < k) (h1 : k < s.size) (h : ∀ j, j < k -> hch (B s j) = true) : hdP s = some (s.extract 0 k, trimB (s.extract (k + 1) s.size)) := by
 unfold hdP
 rw [e, if_pos ⟨h0, h1, allB_iff.2 h⟩]
def hdR (o : Option (ByteArray × ByteArray)) : Value := match o with
 | none => .tuple #[.string ⟨#[]⟩, .string ⟨#[]⟩, .bool false]
 | some (k, v) => .tuple #[.string k, .string v, .bool true]
theorem rtrim_ext (s : ByteArray) (hs : s.size <= maxLen) (w : World) : Calls Tryz.prog 181 #[.string s] w fun e w' => e = .returned (.string (trimB s)) /\ Ext w w' :=
 (rtrim_any s hs w).mono fun e w' ⟨h1, h2⟩ => ⟨h1, h2 ▸ Ext.refl _⟩
theorem hch_no {x : Int} (h : ¬ ((97 <= x /\ x <= 122) ∨ (65 <= x /\ x <= 90) ∨ (48 <= x /\ x <= 57) ∨ x = 45)) : hch x = false := by
 cases e : hch x with
 | false => rfl
 | true => exact absurd (hch_iff x |>.1 e) h
theorem rhd_any (s : ByteArray) (w : World) (hs : s.size <= 1000000) : Calls Tryz.prog 153 #[.string s] w fun e w' => e = .returned (hdR (hdP s)) /\ Ext w w' := by
 have HB := Lib.hid (fun k => @hdP_bad s k)
 have HN := Lib.hid (@hdP_no s)
 have HY := Lib.hid (fun k => @hdP_yes s k)
 have HI1 := Lib.hid (idxB_le s 58)
 have HI2 := Lib.hid (fun k => @idxB_is s 58 k)
 have HI4 := Lib.hid (@idxB_at s 58)
 go_enter Tryz.func153, Tryz.ntmps153
 go_wp2_with fail
 go_loopw [5, 6] (fun n _ wr => ∃ k : Nat, k <= s.size /\ n = .int .i64 k /\ (∀ j, j < k -> hch (B s j) = true /\ B s j ≠ 58) /\ Ext w wr) (fun n _ _ => s.size - (intOf n).toNat)
 case atStart => exact ⟨0, Nat.zero_le _, rfl, fun j hj => by omega, Ext.refl _⟩
 case round =>
  obtain ⟨k, hk, rfl, hj, hx⟩ := hrel
  have HJ := Lib.hid hj
  clear hj
  by_cases hlt : k < s.size
  ·have hlt' : (k : Int) < s.size := by omega
   by_cases hc : B s k = 58
   ·have hc' : (B s k != 58) = false := by rw [bne_eq_false_iff_eq]; exact hc
    have HE : Hid (idxB s 58 = k) := Lib.hid (HI2.out k hlt hc (fun j hj => (HJ.out j hj).2))
    have hk1 : (k : Int) + 1 <= s.size := by omega
    have hk2 : (k : Int) <= s.size := by omega
    have hk0 : (0 : Int) <= (k : Int) + 1 := by omega
    have ek : (k : Int).toNat = k := rfl
    have ek1 : ((k : Int) + 1).toNat = k + 1 := by omega
    have ew : IntKind.i64.wrap ((k : Int) + 1) = (k : Int) + 1 := IntWalk.i64_in _ (by omega)
    clear hc
    by_cases h0 : k = 0
    ·have R : Hid (hdP s = none) := Lib.hid (HN.out (.inl (by rw [HE.out, h0])))
     have h0' : ((k : Int) == 0) = true := by rw [beq_iff_eq]; omega
     clear h0
     go_wp2_with fail
     refine bodyPost_ret (res3 rfl) rfl ⟨by rw [R.out]; rfl, hx⟩
    ·have R : Hid (hdP s = some (s.extract 0 k, trimB (s.extract (k + 1) s.size))) := Lib.hid (HY.out k HE.out (by omega) hlt (fun j hj => (HJ.out j hj).1))
     have h0' : ((k : Int) == 0) = false := by rw [beq_eq_false_iff_ne]; omega
     have h1' : ((k : Int) == s.size) = false := by rw [beq_eq_false_iff_ne]; omega
     have hez := extract_le s (k + 1) s.size
     have KT := fun w' (_ : Ext wr w') => rtrim_ext (s.extract (k + 1) s.size) (by unfold maxLen; omega) w'
     clear h0
     go_upto_region 9 with fail
     refine wp_region_rg wr (by kernel_rfl) (by kernel_rfl) (Ext.refl _) ?_
     iterate 7
      first
       | (apply goV_skip (by intro u; rfl))
       | (apply goV_val _ (by intro u; rfl); · (intro u w hSw hF; go_simp; try with_reducible rfl))
      try simp only [aput, List.set]
     first
      | (apply goV_skip (by intro u; rfl))
      | (apply goV_call (by intro u; rfl) KT; · (intro u w hSw hF; go_simp; try with_reducible rfl))
     try simp only [aput, List.set]
     iterate 3
      first
       | (apply goV_skip (by intro u; rfl))
       | (apply goV_val _ (by intro u; rfl); · (intro u w hSw hF; go_simp; try with_reducible rfl))
      try simp only [aput, List.set]
     intro u w5 hx5 _
     go_wp2_with fail
     refine bodyPost_ret (res3 rfl) rfl ⟨by rw [R.out]; rfl, hx.trans hx5⟩
   ·have hc' : (B s k != 58) = true := by rw [bne_iff_ne]; exact hc
    have HBAD : Hid (hch (B s k) = false -> hdP s = none) := Lib.hid (fun h => HB.out k (by
     rcases Nat.lt_or_ge k (idxB s 58) with q | q
     ·exact q
     ·exfalso
      have q2 : idxB s 58 = k := by
       rcases Nat.lt_or_ge (idxB s 58) k with q3 | q3
       ·exact absurd (HI4.out (by omega)) ((HJ.out _ q3).2)
       ·omega
      have := HI4.out (by omega)
      rw [q2] at this
      exact hc this) h)
    have HGO : Hid (hch (B s k) = true -> ∀ j, j < k + 1 -> hch (B s j) = true /\ B s j ≠ 58) := Lib.hid (fun h j hj => by
     by_cases q : j = k
     ·subst q; exact ⟨h, hc⟩
     ·exact HJ.out j (by omega))
    have HIF := Lib.hid (hch_iff (B s k))
    have HNO := Lib.hid (@hch_no (B s k))
    clear hc
    go_upto_region 4 with fail
    generalize B s k = x at *
    go_cut [46] from 20 to 47 (fun v wc => v = .bool (!hch x) /\ wc = wr)
    case first =>
     by_cases a1 : 97 <= x
     ·by_cases a2 : x <= 122
      ·have E := Lib.hid (HIF.out.2 (.inl ⟨a1, a2⟩))
       go_wp2_with fail
       go_meet
       exact ⟨by rw [E.out]; rfl, rfl⟩
      ·have E := Lib.hid (HNO.out (by omega))
       have d1 : decide (x <= 122) = false := decide_eq_false (by omega)
       have d2 : 65 <= x := by omega
       have d3 : decide (x <= 90) = false := decide_eq_false (by omega)
       have d4 : 48 <= x := by omega
       have d5 : decide (x <= 57) = false := decide_eq_false (by omega)
       have d6 : (x == 45) = false := by rw [beq_eq_false_iff_ne]; omega
       go_wp2_with fail
       go_meet
       exact ⟨by rw [E.out]; rfl, rfl⟩
     ·have d0 : x < 97 := by omega
      clear a1
      by_cases a1 : 65 <= x
      ·by_cases a2 : x <= 90
       ·have E := Lib.hid (HIF.out.2 (.inr (.inl ⟨a1, a2⟩)))
        go_wp2_with fail
        go_meet
        exact ⟨by rw [E.out]; rfl, rfl⟩
       ·have E := Lib.hid (HNO.out (by omega))
        have d3 : decide (x <= 90) = false := decide_eq_false (by omega)
        have d4 : 48 <= x := by omega
        have d5 : decide (x <= 57) = false := decide_eq_false (by omega)
        have d6 : (x == 45) = false := by rw [beq_eq_false_iff_ne]; omega
        go_wp2_with fail
        go_meet
        exact ⟨by rw [E.out]; rfl, rfl⟩
      ·have d1 : x < 65 := by omega
       clear a1
       by_cases a1 : 48 <= x
       ·by_cases a2 : x <= 57
        ·have E := Lib.hid (HIF.out.2 (.inr (.inr (.inl ⟨a1, a2⟩))))
         go_wp2_with fail
         go_meet
         exact ⟨by rw [E.out]; rfl, rfl⟩
        ·have E := Lib.hid (HNO.out (by omega))
         have d5 : decide (x <= 57) = false := decide_eq_false (by omega)
         have d6 : (x == 45) = false := by rw [beq_eq_false_iff_ne]; omega
         go_wp2_with fail
         go_meet
         exact ⟨by rw [E.out]; rfl, rfl⟩
       ·have d5 : x < 48 := by omega
        clear a1
        by_cases a1 : x = 45
        ·have E := Lib.hid (HIF.out.2 (.inr (.inr (.inr a1))))
         subst a1
         go_wp2_with fail
         go_meet
         exact ⟨by rw [E.out]; rfl, rfl⟩
        ·have E := Lib.hid (HNO.out (by omega))
         have d6 : (x == 45) = false := by rw [beq_eq_false_iff_ne]; omega
         clear a1
         go_wp2_with fail
         go_meet
         exact ⟨by rw [E.out]; rfl, rfl⟩
    case rest =>
     obtain ⟨rfl, rfl⟩ := hcut
     cases q : hch x
     ·have R := Lib.hid (HBAD.out q)
      clear q
      go_wp2_with fail
      refine bodyPost_ret (res3 rfl) rfl ⟨by rw [R.out]; rfl, hx⟩
     ·have R := Lib.hid (HGO.out q)
      clear q
      go_wp2_with fail
      go_roundw
      case rel => exact ⟨k + 1, by omega, by go_num, R.out, hx⟩
      case measure => simp [intOf]; omega
  ·obtain rfl : k = s.size := by omega
   have R : Hid (hdP s = none) := Lib.hid (HN.out (.inr (by
    rcases Nat.lt_or_ge (idxB s 58) s.size with q | q
    ·exact absurd (HI4.out q) ((HJ.out _ q).2)
    ·have := HI1.out; omega)))
   have hnl : ¬ ((s.size : Nat) : Int) < s.size := by omega
   have h1' : ((s.size : Int) == s.size) = true := by rw [beq_iff_eq]
   by_cases h0 : (s.size : Int) < 1
   ·have h0' : ((s.size : Int) == 0) = true := by rw [beq_iff_eq]; omega
    go_wp2_with fail
    refine bodyPost_ret (res3 rfl) rfl ⟨by rw [R.out]; rfl, hx⟩
   ·have h0' : ((s.size : Int) == 0) = false := by rw [beq_eq_false_iff_ne]; omega
    go_wp2_with fail
    refine bodyPost_ret (res3 rfl) rfl ⟨by rw [R.out]; rfl, hx⟩
open Go.RowKit Go.Joins
theorem lineP_n {s : ByteArray} {n : Nat} {h : Cr} {b : Bool} (h0 : n ≠ 0) : lineP s n h b = lineH s h b := by
 unfold lineP lineH; rw [if_neg h0]; cases hdP s <;> rfl
theorem racc_any (s : ByteArray) (hs : s.size <= 1000000) {w0 w : World} (hx0 : Ext w0 w) {b c : Nat} (hwb : w0.heap.size <= b) (hwc : w0.heap.size <= c) (hbc : b ≠ c) {n : Nat} (hn : n <= 1000000) {h : Cr} {sn : Bool} (ho : okC h) (hb : RBlk w b h) (hc : Blk w c [.bool sn] 4) :
  Calls Tryz.prog 136 #[.pointer (some ⟨b, 0, none⟩), .pointer (some ⟨c, 0, none⟩), .string s, .int .i64 n] w fun e w' => e = .returned (.bool (lineP s n h sn).isSome) /\ Left w0 w w' [b, c] /\
   ∀ g b', lineP s n h sn = some (g, b') -> RBlk w' b g /\ Blk w' c [.bool b'] 4 := by
 have hlb : b < w.heap.size := Blk.lt hb
 have hlc : c < w.heap.size := Blk.lt hc
 by_cases h0 : n = 0
 ·subst h0
  have R : Hid (lineP s 0 h sn = (rqP s).map fun t => ((t, h.2), sn)) := Lib.hid rfl
  have KR := Lib.hid (rrq_any s w hs)
  go_enter Tryz.func136, Tryz.ntmps136
  go_wp2_with (first | (go_at_call 152; refine KR.out.mono ?_; rintro e w1 ⟨t, hT, rfl, hu, hx1⟩; refine Hid.out ?_))
  refine Lib.hid ?_
  have HU := Lib.hid hu
  clear hu
  have hbf := Blk.new w1 (tc ztgt) 43
  go_upto_region 3 with (refine wpList_store_T rfl _ _ rfl okT_ztgt hT hbf rfl rfl ?_)
  change Code.wp _ _ _ _ ((w1.alloc (.cells (tc ztgt) 43)).setRow w1.heap.size (tc t))
  rw [World.setRow_alloc_new]
  have hT4 := Blk.new w1 (tc t) 43
  have hx2 := hx1.alloc (.cells (tc t) 43)
  have hnx := (Ext.refl w1).alloc (.cells (tc t) 43)
  clear hbf
  generalize w1.alloc (.cells (tc t) 43) = w2 at *
  generalize w1.heap.size = b4 at *
  clear hnx
  have hb2 := Blk.ext hb hx2
  have hc2 := Blk.ext hc hx2
  have hth := RBlk.thereT ho hb2
  have HB2 := Lib.hid hb2
  have HC2 := Lib.hid hc2
  clear hb2 hc2
  go_wp2_with (first | refine wpList_load_T rfl _ rfl hT hT4 rfl ?_ | refine wpList_store_Tm rfl _ _ rfl hT hth rfl rfl ?_)
  go_ret
  refine ⟨by rw [R.out, Option.isSome_map]; rfl, ⟨Keep.setCells (.inl (by simp)) _ _ _ (hx2.keep _), Ext.setCells hwb _ _ _ (hx0.trans hx2)⟩, fun g b' q => ?_⟩
  rw [R.out] at q
  cases hr : rqP s with
  | none => rw [hr] at q; cases q
  | some u =>
   rw [hr] at q
   injection q with q
   injection q with q1 q2
   subst q1 q2
   have := HU.out u hr
   subst this
   exact ⟨RBlk.setTgt ho HB2.out hT, HC2.out.of_heap (heap_setCells _ _ _ (fun e => hbc e.symm) _)⟩
 ·have R0 : lineP s n h sn = lineH s h sn := lineP_n h0
  have h0' : ((n : Int) == 0) = false := by rw [beq_eq_false_iff_ne]; omega
  clear h0
  have KH := Lib.hid (fun w => rhd_any s w hs)
  rw [lineH] at R0
  cases hh : hdP s with
  | none =>
   have R : Hid (lineP s n h sn = none) := Lib.hid (by rw [R0, hh])
   rw [hh] at KH
   clear hh R0
   unfold hdR at KH
   go_enter Tryz.func136, Tryz.ntmps136
   go_wp2_with (first | (go_at_call 153; refine (KH.out _).mono ?_; rintro e w1 ⟨rfl, hx1⟩; have hb1 := Blk.ext hb hx1; have hc1 := Blk.ext hc hx1; have hxx1 := hx0.trans hx1; have cs := Blk.cell hc1 (i := 0) rfl; have fs := Blk.free hc1 0; have HB1 := Lib.hid hb1; have HC1 := Lib.hid hc1; clear hb1 hc1))
   go_ret
   exact ⟨by rw [R.out]; rfl, .of_ext hx0 hx1, fun g b' q => by rw [R.out] at q; cases q⟩
  | some kv =>
   obtain ⟨key, val⟩ := kv
   have hz := hdP_size hh
   have R1 : lineP s n h sn = if lowB key = authS then (if sn = true then none else some ((h.1, (authP val).2.2, (authP val).1, (authP val).2.1), true)) else some (h, sn) := by rw [R0, hh]
   rw [hh] at KH
   clear hh R0
   unfold hdR at KH
   simp only at KH
   have KE : Hid (∀ w, Calls Tryz.prog 154 #[.string key, .string ⟨#[112, 114, 111, 120, 121, 45, 97, 117, 116, 104, 111, 114, 105, 122, 97, 116, 105, 111, 110]⟩] w fun e w' => e = .returned (.bool (decide (lowB key = authS))) /\ w = w') :=
    Lib.hid (fun w => efold_any key authS (by unfold maxLen; omega) w)
   cases hd : decide (lowB key = authS)
   ·have R : Hid (lineP s n h sn = some (h, sn)) := Lib.hid (by rw [R1, if_neg (of_decide_eq_false hd)])
    rw [hd] at KE
    clear R1 hd
    go_enter Tryz.func136, Tryz.ntmps136
    go_wp2_with (first | (go_at_call 153; refine (KH.out _).mono ?_; rintro e w1 ⟨rfl, hx1⟩; have hb1 := Blk.ext hb hx1; have hc1 := Blk.ext hc hx1; have hxx1 := hx0.trans hx1; have cs := Blk.cell hc1 (i := 0) rfl; have fs := Blk.free hc1 0; have HB1 := Lib.hid hb1; have HC1 := Lib.hid hc1; clear hb1 hc1) | (go_at_call 154; refine (KE.out _).mono ?_; rintro e w2 ⟨rfl, rfl⟩))
    go_ret
    refine ⟨by rw [R.out]; rfl, .of_ext hx0 hx1, fun g b' q => ?_⟩
    rw [R.out] at q
    injection q with q
    injection q with q1 q2
    subst q1 q2
    exact ⟨HB1.out, HC1.out⟩
   rw [if_pos (of_decide_eq_true hd)] at R1
   rw [hd] at KE
   clear hd
   cases sn
   ·rw [if_neg (by simp)] at R1
    have KA := Lib.hid (fun w => rauth_any val w (by omega))
    have R := Lib.hid R1
    have hza := authP_size val
    clear R1
    generalize (authP val).1 = us at *
    generalize (authP val).2.1 = ps at *
    generalize (authP val).2.2 = hs8 at *
    go_enter Tryz.func136, Tryz.ntmps136
    go_upto_region 12 with (first | (go_at_call 153; refine (KH.out _).mono ?_; rintro e w1 ⟨rfl, hx1⟩; have hb1 := Blk.ext hb hx1; have hc1 := Blk.ext hc hx1; have hxx1 := hx0.trans hx1; have cs := Blk.cell hc1 (i := 0) rfl; have fs := Blk.free hc1 0; have HB1 := Lib.hid hb1; have HC1 := Lib.hid hc1; clear hb1 hc1) | (go_at_call 154; refine (KE.out _).mono ?_; rintro e w2 ⟨rfl, rfl⟩))
    have hc5 := Blk.set HC1.out 0 (.bool true)
    have hb5 := Blk.set_ne HB1.out ⟨c, 0, none⟩ (fun e => hbc e.symm) (.bool true)
    have hk5 : Keep [b, c] w (w1.setCell ⟨c, 0, none⟩ (.bool true)) := Keep.setCell (hx1.keep [b, c]) (.inl (by simp)) _
    have hx5 : Ext w0 (w1.setCell ⟨c, 0, none⟩ (.bool true)) := Ext.setCell hxx1 hwc _
    clear cs fs HB1 HC1 hxx1 hx1
    generalize w1.setCell ⟨c, 0, none⟩ (.bool true) = w5 at *
    go_wp2_with (first | (go_at_call 155; refine (KA.out _).mono ?_; rintro e w7 ⟨rfl, hx7⟩; have hb7 := Blk.ext hb5 hx7; have hc7 := Blk.ext hc5 hx7; have f19 := Blk.free hb7 19; have f20 := Blk.free hb7 20; have f21 := Blk.free hb7 21; have c19 := RBlk.has ho hb7; have c20 := RBlk.user ho hb7; have c21 := RBlk.pass ho hb7; have HB7 := Lib.hid hb7; have HC7 := Lib.hid hc7; clear hc7))
    go_ret
    refine ⟨by rw [R.out]; rfl, ⟨?_, ?_⟩, fun g b' q => ?_⟩
    ·exact Keep.setCell (Keep.setCell (Keep.setCell (hk5.trans (hx7.keep _)) (.inl (by simp)) _) (.inl (by simp)) _) (.inl (by simp)) _
    ·exact Ext.setCell (Ext.setCell (Ext.setCell (hx5.trans hx7) hwb _) hwb _) hwb _
    ·rw [R.out] at q
     injection q with q
     injection q with q1 q2
     subst q1 q2
     have h1 := RBlk.setUser ho HB7.out us
     have o1 : okC (h.1, h.2.1, us, h.2.2.2) := ⟨ho.1, by show us.size <= _; unfold maxLen; omega, ho.2.2⟩
     have h2 := RBlk.setPass o1 h1 ps
     have o2 : okC (h.1, h.2.1, us, ps) := ⟨ho.1, by show us.size <= _; unfold maxLen; omega, by show ps.size <= _; unfold maxLen; omega⟩
     exact ⟨RBlk.setHas o2 h2 hs8, Blk.set_ne (Blk.set_ne (Blk.set_ne HC7.out ⟨b, 20, none⟩ hbc _) ⟨b, 21, none⟩ hbc _) ⟨b, 19, none⟩ hbc _⟩
   ·have R : Hid (lineP s n h true = none) := Lib.hid (by rw [R1, if_pos rfl])
    clear R1
    go_enter Tryz.func136, Tryz.ntmps136
    go_wp2_with (first | (go_at_call 153; refine (KH.out _).mono ?_; rintro e w1 ⟨rfl, hx1⟩; have hb1 := Blk.ext hb hx1; have hc1 := Blk.ext hc hx1; have hxx1 := hx0.trans hx1; have cs := Blk.cell hc1 (i := 0) rfl; have fs := Blk.free hc1 0; have HB1 := Lib.hid hb1; have HC1 := Lib.hid hc1; clear hb1 hc1) | (go_at_call 154; refine (KE.out _).mono ?_; rintro e w2 ⟨rfl, rfl⟩))
    go_ret
    exact ⟨by rw [R.out]; rfl, .of_ext hx0 hx1, fun g b' q => by rw [R.out] at q; cases q⟩
end Go.Proofs.YtnohnnjeabehjaaGreatDoor
