/-
  Several texts joined: HtE, Rst, HtF, HtJ.
-/
import Derived.Test.YtnohnnjeabehjaaGreatDoorK25
import Derived.Test.YtnohnnjeabehjaaGreatDoorK33
import Derived.Test.YtnohnnjeabehjaaGreatDoorK24
import Derived.Test.YtnohnnjeabehjaaGreatDoorK01
import Derived.Test.YtnohnnjeabehjaaGreatDoorK28
import Derived.Test.YtnohnnjeabehjaaGreatDoorK29
import Derived.Test.YtnohnnjeabehjaaGreatDoorK26
set_option maxHeartbeats 4000000
set_option maxRecDepth 4000
set_option linter.unusedVariables false
set_option linter.unusedSimpArgs false
namespace Go.Proofs.YtnohnnjeabehjaaGreatDoor
open Go.RowKit Go.Joins
theorem hgreet_any (z : ByteArray) (hz : z.size <= 281474976710656) (tn : Tns) {w0 w : World} (hx0 : Ext w0 w) {c : Nat} (hc : w0.heap.size <= c) {reg : Value} {s : Hst} (ho : okH s) (h1 : s.1 = 1) (hb : HBlk TH w c reg s) :
  Calls Tryz.prog 76 #[.pointer (some ⟨c, 0, none⟩), .string z] w fun e w' => StepP w0 w c reg s (hstep txt3 tn s z) e w' := by
 have hcl := HBlk.lt hb
 have HS : Hid (hstep txt3 tn s z = if (gparse z).2.2 = 0 then none else if (gparse z).2.2 = 2 then some (0, str2 5 255, hfail s 10) else if gsel (gparse z).1 2 = 255 then some ((gparse z).2.1, str2 5 255, hfail s 11) else some ((gparse z).2.1, str2 5 2, hgo s 2)) := Lib.hid (by unfold hstep; rw [if_neg (by omega), if_pos h1])
 clear h1
 have KP := Lib.hid (fun w => gparse_any z w (by unfold maxLen; omega))
 have hst := gparse_st z
 have hgs := gsel_two (gparse z).1
 have KS := Lib.hid (fun w => gsel_any (gparse z).1 2 w (by omega) (by omega))
 have KR1 := Lib.hid (fun w => gmeth_any 255 w)
 have KR2 := Lib.hid (fun w => gmeth_any 2 w)
 generalize (gparse z).2.2 = q at *
 generalize (gparse z).2.1 = n at *
 generalize (gparse z).1 = m at *
 go_enter Tryz.func76, Tryz.ntmps76
 go_upto_region 1 with fail
 rw [← scl_zero]
 have hx := (Ext.refl w).alloc (.cells (scl 0 ⟨#[]⟩ false).toArray 101)
 have hr := Blk.new w (scl 0 ⟨#[]⟩ false).toArray 101
 have hwb : (w).heap.size <= (w).heap.size := Nat.le_refl _
 generalize (w).alloc (.cells (scl 0 ⟨#[]⟩ false).toArray 101) = w1 at *
 generalize hbb : (w).heap.size = b at hr ⊢
 replace hwb := Nat.le_of_eq hbb
 clear hbb
 have hb1 := HBlk.ext hb hx
 have hcb : c ≠ b := by omega
 have hbw : w0.heap.size <= b := Nat.le_trans hx0.size hwb
 rcases hst with rfl | rfl | rfl
 ·have R : Hid (hstep txt3 tn s z = none) := Lib.hid (by rw [HS.out]; rfl)
  have KM := Lib.hid more_any
  clear HS
  go_wp2_with (first | (go_at_call 101; refine (KP.out _).mono ?_; rintro e w2 ⟨rfl, rfl⟩) | (go_at_call 99; refine (KM.out _).mono ?_; rintro e w4 ⟨rfl, hx4⟩; have hr4 := Blk.ext hr hx4) | refine wpList_store_S (a := 0) (o1 := ⟨#[]⟩) (m := true) rfl _ _ rfl hr4 rfl rfl ?_)
  refine bodyPost_ret (res_S rfl rfl (Blk.row hr4 _)) rfl ?_
  unfold StepP
  rw [R.out]
  exact ⟨Left.row (Left.of_ext hx0 (hx.trans hx4)) hwb hbw _, rfl, HBlk.row_ne (HBlk.ext hb1 hx4) hcb _⟩
 ·have HS2 : Hid (hstep txt3 tn s z = if gsel m 2 = 255 then some (n, str2 5 255, hfail s 11) else some (n, str2 5 2, hgo s 2)) := Lib.hid (by rw [HS.out]; rfl)
  clear HS
  generalize gsel m 2 = g at *
  rcases hgs with rfl | rfl
  ·have R : Hid (hstep txt3 tn s z = some (n, str2 5 2, hgo s 2)) := Lib.hid (by rw [HS2.out]; rfl)
   have c1 := HBlk.stage hb1
   have f1 := HBlk.free hb1 1
   have K1 := Lib.hid (HBlk.setStage hb1 2)
   have KR3 := Lib.hid (Blk.set_ne hr ⟨c, 1, none⟩ hcb (.int .i64 2))
   have KL : Hid (Left w0 w (w1.setCell ⟨c, 1, none⟩ (.int .i64 2)) [c]) := Lib.hid ⟨Keep.setCell (hx.keep [c]) (.inl (by simp)) _, Ext.setCell (hx0.trans hx) hc _⟩
   clear HS2 hr
   go_upto_region 11 with (first | (go_at_call 101; refine (KP.out _).mono ?_; rintro e w2 ⟨rfl, rfl⟩) | (go_at_call 102; refine (KS.out _).mono ?_; rintro e w3 ⟨rfl, rfl⟩))
   generalize w1.setCell ⟨c, 1, none⟩ (.int .i64 2) = w2 at *
   go_wp2_with (first | (go_at_call 45; refine (KR2.out _).mono ?_; rintro e w4 ⟨rfl, hx4⟩; have hr4 := Blk.ext KR3.out hx4) | refine wpList_store_S (a := n) (o1 := str2 5 2) (m := false) rfl _ _ rfl hr4 rfl rfl ?_)
   refine bodyPost_ret (res_S rfl rfl (Blk.row hr4 _)) rfl ?_
   unfold StepP
   rw [R.out]
   exact ⟨Left.row ⟨KL.out.1.trans (hx4.keep _), KL.out.2.trans hx4⟩ hwb hbw _, rfl, HBlk.row_ne (HBlk.ext K1.out hx4) hcb _⟩
  ·have R : Hid (hstep txt3 tn s z = some (n, str2 5 255, hfail s 11)) := Lib.hid (by rw [HS2.out]; rfl)
   clear HS2
   go_wp2_with (first | (go_at_call 101; refine (KP.out _).mono ?_; rintro e w2 ⟨rfl, rfl⟩) | (go_at_call 102; refine (KS.out _).mono ?_; rintro e w3 ⟨rfl, rfl⟩) | (go_at_call 45; refine (KR1.out _).mono ?_; rintro e w4 ⟨rfl, hx4⟩; have hb4 := HBlk.ext hb1 hx4; have KF := Lib.hid (hfail_any 11 n (str2 5 255) (hx0.trans (hx.trans hx4)) hc ho hb4)) | (go_at_call 100; refine KF.out.mono ?_; rintro e w5 ⟨rfl, hl5, hb5⟩; have hr5 := Blk.keep (Blk.ext hr hx4) hl5.1 (by simp; exact fun q => hcb q.symm)) | refine wpList_store_S (a := n) (o1 := str2 5 255) (m := false) rfl _ _ rfl hr5 rfl rfl ?_)
   refine bodyPost_ret (res_S rfl rfl (Blk.row hr5 _)) rfl ?_
   unfold StepP
   rw [R.out]
   exact ⟨Left.row (Left.trans_ext (hx.trans hx4) hl5) hwb hbw _, rfl, HBlk.row_ne hb5 hcb _⟩
 ·have R : Hid (hstep txt3 tn s z = some (0, str2 5 255, hfail s 10)) := Lib.hid (by rw [HS.out]; rfl)
  clear HS
  go_wp2_with (first | (go_at_call 101; refine (KP.out _).mono ?_; rintro e w2 ⟨rfl, rfl⟩) | (go_at_call 45; refine (KR1.out _).mono ?_; rintro e w4 ⟨rfl, hx4⟩; have hb4 := HBlk.ext hb1 hx4; have KF := Lib.hid (hfail_any 10 0 (str2 5 255) (hx0.trans (hx.trans hx4)) hc ho hb4)) | (go_at_call 100; refine KF.out.mono ?_; rintro e w5 ⟨rfl, hl5, hb5⟩; have hr5 := Blk.keep (Blk.ext hr hx4) hl5.1 (by simp; exact fun q => hcb q.symm)) | refine wpList_store_S (a := 0) (o1 := str2 5 255) (m := false) rfl _ _ rfl hr5 rfl rfl ?_)
  refine bodyPost_ret (res_S rfl rfl (Blk.row hr5 _)) rfl ?_
  unfold StepP
  rw [R.out]
  exact ⟨Left.row (Left.trans_ext (hx.trans hx4) hl5) hwb hbw _, rfl, HBlk.row_ne hb5 hcb _⟩
theorem huser_any (z : ByteArray) (hz : z.size <= 281474976710656) (tn : Tns) (htn : tn.length <= 1000000) {w0 w : World} (hx0 : Ext w0 w) {c g : Nat} (hc : w0.heap.size <= c) (hrg0 : RegP w0 g tn) {s : Hst} (ho : okH s) (h2 : s.1 = 2) (hb : HBlk TH w c (.pointer (some ⟨g, 0, none⟩)) s) :
  Calls Tryz.prog 77 #[.pointer (some ⟨c, 0, none⟩), .string z] w fun e w' => StepP w0 w c (.pointer (some ⟨g, 0, none⟩)) s (hstep txt3 tn s z) e w' := by
 have hcl := HBlk.lt hb
 have hrg := hrg0.ext hx0
 have HS : Hid (hstep txt3 tn s z = if (uparse z).2.2.2 = 0 then none else if (uparse z).2.2.2 = 2 then some (0, str2 1 1, hfail s 10) else match authT (uparse z).1 (uparse z).2.1 tn 0 with
   | none => some ((uparse z).2.2.1, str2 1 1, hfail s 11)
   | some i => some ((uparse z).2.2.1, str2 1 0, (3, s.2.1, s.2.2.1, (i : Int), s.2.2.2.2))) := Lib.hid (by unfold hstep; rw [if_neg (by omega), if_neg (by omega), if_pos h2]; rfl)
 clear h2
 have KP := Lib.hid (fun w => uparse_any z w (by unfold maxLen; omega))
 have hst := uparse_st z
 have KA := Lib.hid (fun w hr => pauth_any (uparse z).1 (uparse z).2.1 tn htn g w hr)
 have KR1 : Hid (∀ w, Calls Tryz.prog 46 #[.bool false] w fun e w' => e = .returned (.string (str2 1 1)) /\ w = w') := Lib.hid (fun w => by rw [str2_11]; exact ureply_any false w)
 have KR2 : Hid (∀ w, Calls Tryz.prog 46 #[.bool true] w fun e w' => e = .returned (.string (str2 1 0)) /\ w = w') := Lib.hid (fun w => by rw [str2_10]; exact ureply_any true w)
 generalize (uparse z).2.2.2 = q at *
 generalize (uparse z).2.2.1 = n at *
 generalize (uparse z).2.1 = ps at *
 generalize (uparse z).1 = us at *
 go_enter Tryz.func77, Tryz.ntmps77
 go_upto_region 1 with fail
 rw [← scl_zero]
 have hx := (Ext.refl w).alloc (.cells (scl 0 ⟨#[]⟩ false).toArray 101)
 have hr := Blk.new w (scl 0 ⟨#[]⟩ false).toArray 101
 have hwb : (w).heap.size <= (w).heap.size := Nat.le_refl _
 generalize (w).alloc (.cells (scl 0 ⟨#[]⟩ false).toArray 101) = w1 at *
 generalize hbb : (w).heap.size = b at hr ⊢
 replace hwb := Nat.le_of_eq hbb
 clear hbb
 have hb1 := HBlk.ext hb hx
 have hcb : c ≠ b := by omega
 have hbw : w0.heap.size <= b := Nat.le_trans hx0.size hwb
 rcases hst with rfl | rfl | rfl
 ·have R : Hid (hstep txt3 tn s z = none) := Lib.hid (by rw [HS.out]; rfl)
  have KM := Lib.hid more_any
  clear HS
  go_wp2_with (first | (go_at_call 103; refine (KP.out _).mono ?_; rintro e w2 ⟨rfl, hd2⟩; have hx2 := Ext.of_dr hd2; clear hd2; have hrg2 := (hrg.ext hx).ext hx2; have KA2 := Lib.hid (KA.out _ hrg2); clear hrg2; have c0 := HBlk.regc (HBlk.ext hb1 hx2)) | (go_at_call 99; refine (KM.out _).mono ?_; rintro e w4 ⟨rfl, hx4⟩; have hr4 := Blk.ext (Blk.ext hr hx2) hx4) | refine wpList_store_S (a := 0) (o1 := ⟨#[]⟩) (m := true) rfl _ _ rfl hr4 rfl rfl ?_)
  refine bodyPost_ret (res_S rfl rfl (Blk.row hr4 _)) rfl ?_
  unfold StepP
  rw [R.out]
  exact ⟨Left.row (Left.of_ext hx0 ((hx.trans hx2).trans hx4)) hwb hbw _, rfl, HBlk.row_ne (HBlk.ext (HBlk.ext hb1 hx2) hx4) hcb _⟩
 ·have HS2 : Hid (hstep txt3 tn s z = match authT us ps tn 0 with
   | none => some (n, str2 1 1, hfail s 11)
   | some i => some (n, str2 1 0, (3, s.2.1, s.2.2.1, (i : Int), s.2.2.2.2))) := Lib.hid (by rw [HS.out]; rfl)
  clear HS
  generalize authT us ps tn 0 = au at *
  cases au with
  | none =>
   have R : Hid (hstep txt3 tn s z = some (n, str2 1 1, hfail s 11)) := Lib.hid (by rw [HS2.out])
   clear HS2
   unfold authV2 at KA
   simp only at KA
   go_wp2_with (first | (go_at_call 103; refine (KP.out _).mono ?_; rintro e w2 ⟨rfl, hd2⟩; have hx2 := Ext.of_dr hd2; clear hd2; have hrg2 := (hrg.ext hx).ext hx2; have KA2 := Lib.hid (KA.out _ hrg2); clear hrg2; have c0 := HBlk.regc (HBlk.ext hb1 hx2)) | (go_at_call 104; refine KA2.out.mono ?_; rintro e w3 ⟨rfl, rfl⟩) | (go_at_call 46; refine (KR1.out _).mono ?_; rintro e w4 ⟨rfl, rfl⟩) | (go_at_call 100; refine (hfail_any 11 n (str2 1 1) (hx0.trans (hx.trans hx2)) hc ho (HBlk.ext hb1 hx2)).mono ?_; rintro e w5 ⟨rfl, hl5, hb5⟩; have hr5 := Blk.keep (Blk.ext hr hx2) hl5.1 (by simp; exact fun q => hcb q.symm)) | refine wpList_store_S (a := n) (o1 := str2 1 1) (m := false) rfl _ _ rfl hr5 rfl rfl ?_)
   refine bodyPost_ret (res_S rfl rfl (Blk.row hr5 _)) rfl ?_
   unfold StepP
   rw [R.out]
   exact ⟨Left.row (Left.trans_ext (hx.trans hx2) hl5) hwb hbw _, rfl, HBlk.row_ne hb5 hcb _⟩
  | some i =>
   have R : Hid (hstep txt3 tn s z = some (n, str2 1 0, (3, s.2.1, s.2.2.1, (i : Int), s.2.2.2.2))) := Lib.hid (by rw [HS2.out])
   clear HS2
   unfold authV2 at KA
   simp only at KA
   go_upto_region 10 with (first | (go_at_call 103; refine (KP.out _).mono ?_; rintro e w2 ⟨rfl, hd2⟩; have hx2 := Ext.of_dr hd2; clear hd2; have hrg2 := (hrg.ext hx).ext hx2; have KA2 := Lib.hid (KA.out _ hrg2); clear hrg2; have c0 := HBlk.regc (HBlk.ext hb1 hx2)) | (go_at_call 104; refine KA2.out.mono ?_; rintro e w3 ⟨rfl, rfl⟩))
   have hb2 := HBlk.ext hb1 hx2
   have c1 := HBlk.stage hb2
   have c4 := HBlk.tenant hb2
   have f1 := HBlk.free hb2 1
   have f4 := HBlk.free hb2 4
   have K1 := Lib.hid (HBlk.setTenant (HBlk.setStage hb2 3) i)
   have KR3 := Lib.hid (Blk.set_ne (Blk.set_ne (Blk.ext hr hx2) ⟨c, 1, none⟩ hcb (.int .i64 3)) ⟨c, 4, none⟩ hcb (.int .i64 i))
   have hx02 := (hx0.trans hx).trans hx2
   have KL : Hid (Left w0 w ((w2.setCell ⟨c, 1, none⟩ (.int .i64 3)).setCell ⟨c, 4, none⟩ (.int .i64 i)) [c]) := Lib.hid ⟨Keep.setCell (Keep.setCell ((hx.trans hx2).keep [c]) (.inl (by simp)) _) (.inl (by simp)) _, Ext.setCell (Ext.setCell hx02 hc _) hc _⟩
   clear hr KA2
   go_upto_region 11 with fail
   generalize (w2.setCell ⟨c, 1, none⟩ (.int .i64 3)).setCell ⟨c, 4, none⟩ (.int .i64 i) = w4 at *
   have hr4 := KR3.out
   go_wp2_with (first | (go_at_call 46; refine (KR2.out _).mono ?_; rintro e w5 ⟨rfl, rfl⟩) | refine wpList_store_S (a := n) (o1 := str2 1 0) (m := false) rfl _ _ rfl hr4 rfl rfl ?_)
   refine bodyPost_ret (res_S rfl rfl (Blk.row hr4 _)) rfl ?_
   unfold StepP
   rw [R.out]
   exact ⟨Left.row KL.out hwb hbw _, rfl, HBlk.row_ne K1.out hcb _⟩
 ·have R : Hid (hstep txt3 tn s z = some (0, str2 1 1, hfail s 10)) := Lib.hid (by rw [HS.out]; rfl)
  clear HS
  go_wp2_with (first | (go_at_call 103; refine (KP.out _).mono ?_; rintro e w2 ⟨rfl, hd2⟩; have hx2 := Ext.of_dr hd2; clear hd2; have hrg2 := (hrg.ext hx).ext hx2; have KA2 := Lib.hid (KA.out _ hrg2); clear hrg2; have c0 := HBlk.regc (HBlk.ext hb1 hx2)) | (go_at_call 46; refine (KR1.out _).mono ?_; rintro e w4 ⟨rfl, rfl⟩) | (go_at_call 100; refine (hfail_any 10 0 (str2 1 1) (hx0.trans (hx.trans hx2)) hc ho (HBlk.ext hb1 hx2)).mono ?_; rintro e w5 ⟨rfl, hl5, hb5⟩; have hr5 := Blk.keep (Blk.ext hr hx2) hl5.1 (by simp; exact fun q => hcb q.symm)) | refine wpList_store_S (a := 0) (o1 := str2 1 1) (m := false) rfl _ _ rfl hr5 rfl rfl ?_)
  refine bodyPost_ret (res_S rfl rfl (Blk.row hr5 _)) rfl ?_
  unfold StepP
  rw [R.out]
  exact ⟨Left.row (Left.trans_ext (hx.trans hx2) hl5) hwb hbw _, rfl, HBlk.row_ne hb5 hcb _⟩
def isSt (o : Oper) : Bool := match o.op with
 | .store _ _ _ => true
 | _ => false
def stAt (l : List Oper) (j : Nat) : Bool := match l[j]? with
 | some o => isSt o
 | none => false
theorem countP_upd {p q : Nat -> Bool} {i : Nat} (hp : p i = false) (hq : q i = true) : ∀ {l : List Nat}, l.Nodup -> i ∈ l -> (∀ j ∈ l, j ≠ i -> q j = p j) -> l.countP q = l.countP p + 1
 | [], _, hi, _ => by cases hi
 | x :: l, hn, hi, h => by
  rw [List.nodup_cons] at hn
  by_cases hx : x = i
  ·subst hx
   have e : l.countP q = l.countP p := List.countP_congr fun j hj => by rw [h j (by simp [hj]) (fun e => hn.1 (e ▸ hj))]
   rw [List.countP_cons_of_pos hq, List.countP_cons_of_neg (by simp [hp]), e]
  ·have ih := countP_upd hp hq hn.2 ((List.mem_cons.1 hi).resolve_left (fun e => hx e.symm)) (fun j hj => h j (by simp [hj]))
   simp only [List.countP_cons, h x (by simp) hx, ih]
   omega
section
variable {P : Program} {ops : Array Oper} {Q : Exit -> Act -> World -> Prop} {md : Region.Mode} {W : Nat -> World} {K : Nat}
def goS (P : Program) (Q : Exit -> Act -> World -> Prop) (W : Nat -> World) (K : Nat) : List Oper -> Nat -> Act -> Prop
 | [], k, a => k = K /\ Q .normal a (W K)
 | o :: rest, k, a => o.guard = none /\ ∃ v, (isSt o = false -> ∀ m, m <= K -> (execOp a.eval o).run P (W m) = .ok (.value v) (W m)) /\
   (isSt o = true -> v = undef /\ (execOp a.eval o).run P (W k) = .ok .skip (W (k + 1))) /\ goS P Q W K rest (if isSt o = true then k + 1 else k) (a.put o.dst v)
def before (l : List Oper) (j : Nat) : Nat := (List.range l.length).countP fun m => decide (m < j) && stAt l m
theorem goS_spec (l0 : List Oper) (a0 : Act) : ∀ (l : List Oper) (i k : Nat) (ss : List Yld), l0.drop i = l -> i <= l0.length -> ss.length = i -> (∀ s ∈ ss, ∃ v, s = .val v) -> k = before l0 i -> goS P Q W K l k (canon (fun _ => undef) (l0.take i) ss 0 a0) ->
  (∀ (j : Nat) (o : Oper), j < i -> l0[j]? = some o -> o.guard = none /\ ∃ v, ss[j]? = some (.val v) /\ (isSt o = false -> ∀ m, m <= K -> (execOp (canon (fun _ => undef) (l0.take j) (ss.take j) 0 a0).eval o).run P (W m) = .ok (.value v) (W m)) /\
   (isSt o = true -> v = undef /\ (execOp (canon (fun _ => undef) (l0.take j) (ss.take j) 0 a0).eval o).run P (W (before l0 j)) = .ok .skip (W (before l0 j + 1)))) ->
  ∃ ss : List Yld, ss.length = l0.length /\ (∀ s ∈ ss, ∃ v, s = .val v) /\ before l0 l0.length = K /\
   (∀ (j : Nat) (o : Oper), l0[j]? = some o -> o.guard = none /\ ∃ v, ss[j]? = some (.val v) /\ (isSt o = false -> ∀ m, m <= K -> (execOp (canon (fun _ => undef) (l0.take j) (ss.take j) 0 a0).eval o).run P (W m) = .ok (.value v) (W m)) /\
    (isSt o = true -> v = undef /\ (execOp (canon (fun _ => undef) (l0.take j) (ss.take j) 0 a0).eval o).run P (W (before l0 j)) = .ok .skip (W (before l0 j + 1)))) /\
   Q .normal (canon (fun _ => undef) l0 ss 0 a0) (W K)
 | [], i, k, ss, hd, hi, hl, hs, hk, h, hh => by
  have hil : i = l0.length := by
   have := congrArg List.length hd
   rw [List.length_drop, List.length_nil] at this; omega
  subst hil
  rw [List.take_length] at h
  exact ⟨ss, hl, hs, by rw [← hk]; exact h.1, fun j o hj => hh j o (List.getElem?_eq_some_iff.1 hj).1 hj, h.2⟩
 | o :: rest, i, k, ss, hd, hi, hl, hs, hk, h, hh => by
  obtain ⟨hg, v, h1, h2, h3⟩ := h
  have hil : i < l0.length := by
   have := congrArg List.length hd
   rw [List.length_drop, List.length_cons] at this; omega
  have hoi : l0[i]? = some o := by
   have := congrArg (fun l => l[0]?) hd
   simpa using this
  have hd2 : l0.drop (i + 1) = rest := by
   have := congrArg (List.drop 1) hd
   rw [List.drop_drop] at this
   simpa [Nat.add_comm] using this
  have e1 : l0.take (i + 1) = l0.take i ++ [o] := by rw [List.take_add_one, hoi]; rfl
  have e3 : (if isSt o = true then k + 1 else k) = before l0 (i + 1) := by
   unfold before
   split
   ·rename_i q
    rw [hk]
    unfold before
    refine (countP_upd (i := i) (by simp) (by simp only [stAt, hoi, q]; simp) List.nodup_range (List.mem_range.2 hil) fun j _ hj => ?_).symm
    congr 1
    exact decide_eq_decide.2 (by omega)
   ·rename_i q
    rw [hk]
    unfold before
    refine List.countP_congr fun j _ => ?_
    by_cases e : j = i
    ·subst e
     have : stAt l0 j = false := by simp only [stAt, hoi]; simpa using q
     rw [this, Bool.and_false, Bool.and_false]
    ·rw [show decide (j < i) = decide (j < i + 1) from decide_eq_decide.2 (by omega)]
  rw [e3] at h3
  refine goS_spec l0 a0 rest (i + 1) _ (ss ++ [.val v]) hd2 (by omega) (by simp [hl]) (fun s hs' => ?_) rfl ?_ fun j p hj hp => ?_
  ·rcases List.mem_append.1 hs' with q | q
   ·exact hs s q
   ·rw [List.mem_singleton] at q; exact ⟨v, q⟩
  ·rw [e1, canon_snoc _ _ _ _ _ _ _ (by rw [List.length_take]; omega)]
   exact h3
  ·by_cases e : j = i
   ·subst e
    rw [hoi] at hp; cases hp
    refine ⟨hg, v, by rw [← hl, List.getElem?_concat_length], ?_, ?_⟩
    ·rw [List.take_left' hl]; exact h1
    ·rw [List.take_left' hl, ← hk]; exact h2
   ·obtain ⟨g1, u, g2, g3, g4⟩ := hh j p (by omega) hp
    have : (ss ++ [Yld.val v]).take j = ss.take j := List.take_append_of_le_length (by omega)
    rw [this]
    exact ⟨g1, u, by rw [List.getElem?_append_left (by omega)]; exact g2, g3, g4⟩
def rstOK (md : Region.Mode) (l : List Oper) : Bool :=
 rgOK md l && (List.range l.length).all fun i => match l[i]? with
  | none => true
  | some o => !isSt o || (List.range i).all fun j => !stAt l j || (depsOf md o).contains j
theorem wpAny_rst {l : List Oper} (hops : ops = l.toArray) {a0 : Act} (hok : rstOK md l = true) {ss : List Yld} (hl : ss.length = l.length) (hss : ∀ s ∈ ss, ∃ v, s = .val v) (hK : before l l.length = K)
  (hob : ∀ (j : Nat) (o : Oper), l[j]? = some o -> o.guard = none /\ ∃ v, ss[j]? = some (.val v) /\ (isSt o = false -> ∀ m, m <= K -> (execOp (canon (fun _ => undef) (l.take j) (ss.take j) 0 a0).eval o).run P (W m) = .ok (.value v) (W m)) /\
   (isSt o = true -> v = undef /\ (execOp (canon (fun _ => undef) (l.take j) (ss.take j) 0 a0).eval o).run P (W (before l j)) = .ok .skip (W (before l j + 1))))
  (hend : Q .normal (canon (fun _ => undef) l ss 0 a0) (W K)) :
  ∀ (fuel : Nat) (listed : Array Bool) (a : Act) (k : Nat), listed.size = l.length -> (List.range l.length).countP (fun j => !listed.getD j false) <= fuel -> k = (List.range l.length).countP (fun j => listed.getD j false && stAt l j) ->
   (∀ j o, l[j]? = some o -> listed.getD j false = true -> ∀ k ∈ depsOf md o, listed.getD k false = true) ->
   Rep l (fun j => if listed.getD j false = true then (ss[j]?).map (·.at undef) else none) a0 a -> wpAny P md ops Q fuel listed a (W k) := by
 have hok0 : rgOK md l = true := by unfold rstOK at hok; rw [Bool.and_eq_true] at hok; exact hok.1
 have hstd : ∀ (i j : Nat) (o p : Oper), l[i]? = some o -> l[j]? = some p -> isSt o = true -> isSt p = true -> j < i -> j ∈ depsOf md o := by
  intro i j o p hi hj hio hjp hlt
  unfold rstOK at hok
  rw [Bool.and_eq_true, List.all_eq_true] at hok
  have h1 := hok.2 i (List.mem_range.2 (List.getElem?_eq_some_iff.1 hi).1)
  rw [hi] at h1
  simp only [hio, Bool.not_true, Bool.false_or, List.all_eq_true] at h1
  have h2 := h1 j (List.mem_range.2 hlt)
  simpa [stAt, hj, hjp] using h2
 obtain ⟨hdist, htop, hlook⟩ := rgOK_spec hok0
 have hns : ∀ (j : Nat) (o : Oper) cs b, ops[j]? = some o -> o.op ≠ .select cs b := by
  have := hok0
  unfold rgOK at this
  rw [Bool.and_eq_true] at this
  rw [hops]
  exact Region.noSelect_spec this.1
 have hget : ∀ j, ops[j]? = l[j]? := fun j => by rw [hops, List.getElem?_toArray]
 have done : ∀ (listed : Array Bool) (a : Act) (k : Nat), listed.size = l.length -> Region.ready md ops listed = [] -> k = (List.range l.length).countP (fun j => listed.getD j false && stAt l j) ->
   Rep l (fun j => if listed.getD j false = true then (ss[j]?).map (·.at undef) else none) a0 a -> Q .normal a (W k) := by
  intro listed a k hsz hr hk hrep
  have hall : ∀ j, j < l.length -> listed.getD j false = true := by
   intro j
   induction j using Nat.strongRecOn with
   | _ j ih =>
    intro hj
    cases hlj : listed.getD j false with
    | true => rfl
    | false =>
     have : j ∈ Region.ready md ops listed := mem_ready.2 ⟨by
      rw [Array.getD_eq_getD_getElem?, Array.getElem?_eq_getElem (by omega)] at hlj ⊢
      exact hlj, l[j], by rw [hget, List.getElem?_eq_getElem hj], fun e he hb => by
      have hlt := htop j l[j] (List.getElem?_eq_getElem hj) e.on (mem_deps.2 ⟨e, he, hb, rfl⟩)
      exact ih e.on hlt (by omega)⟩
     rw [hr] at this; cases this
  have hkK : k = K := by
   rw [hk, ← hK]
   unfold before
   refine List.countP_congr fun j hj => ?_
   rw [List.mem_range] at hj
   rw [hall j hj, decide_eq_true hj]
  have hc := canon_rep hl (fun _ => undef) a0 l.length (Nat.le_refl _)
  rw [List.take_length, ← hl, List.take_length] at hc
  have ea : a = canon (fun _ => undef) l ss 0 a0 := by
   have et : a.tmps = (canon (fun _ => undef) l ss 0 a0).tmps := by
    apply Array.ext_getElem?
    intro d
    refine Rep.eq hdist hrep hc d fun j o hj ho => ?_
    have hjl : j < l.length := (List.getElem?_eq_some_iff.1 hj).1
    rw [if_pos (hall j hjl), if_pos (by omega)]
   have ed : a.defers = (canon (fun _ => undef) l ss 0 a0).defers := by rw [hrep.1, hc.1]
   generalize canon (fun _ => undef) l ss 0 a0 = c at *
   cases a; cases c
   simp only at et ed
   subst et ed; rfl
  rw [ea, hkK]
  exact hend
 intro fuel
 induction fuel with
 | zero =>
  intro listed a k hsz hcnt hk hcl hrep
  have hr : Region.ready md ops listed = [] := by
   cases hr : Region.ready md ops listed with
   | nil => rfl
   | cons j js =>
    have hj : j ∈ Region.ready md ops listed := by rw [hr]; simp
    obtain ⟨h1, o, h2, _⟩ := mem_ready.1 hj
    rw [hget] at h2
    have hjl : j < l.length := (List.getElem?_eq_some_iff.1 h2).1
    have := (List.countP_pos_iff (p := fun j => !listed.getD j false) (l := List.range l.length)).2 ⟨j, List.mem_range.2 hjl, by
     rw [Array.getD_eq_getD_getElem?, Array.getElem?_eq_getElem (by omega)] at h1 ⊢
     simpa using h1⟩
    omega
  exact ⟨hr, done listed a k hsz hr hk hrep⟩
 | succ fuel ih =>
  intro listed a k hsz hcnt hk hcl hrep
  refine ⟨fun hr => done listed a k hsz hr hk hrep, fun i hi => ?_⟩
  obtain ⟨hun, o, ho, hdeps⟩ := mem_ready.1 hi
  have hol : l[i]? = some o := by rw [← hget]; exact ho
  have hil : i < l.length := (List.getElem?_eq_some_iff.1 hol).1
  have hun' : listed.getD i false = false := by
   rw [Array.getD_eq_getD_getElem?, Array.getElem?_eq_getElem (by omega)] at hun ⊢
   exact hun
  have hd : ∀ j ∈ depsOf md o, listed.getD j false = true := fun j hj => by
   obtain ⟨e, he, hb, rfl⟩ := mem_deps.1 hj
   exact hdeps e he hb
  obtain ⟨hg, v, hsv, hv1, hv2⟩ := hob i o hol
  have hc := canon_rep hl (fun _ => undef) a0 i (Nat.le_of_lt hil)
  have hagree : ∀ d ∈ o.looksAt ops, a.tmps[d]? = (canon (fun _ => undef) (l.take i) (ss.take i) 0 a0).tmps[d]? := fun d hdl => by
   refine Rep.eq hdist hrep hc d fun j p hj hp => ?_
   rw [hops] at hdl
   rcases hlook i j o p d hol hj hp hdl with rfl | hji | hij
   ·rw [if_neg (by rw [hun']; simp), if_neg (by omega)]
   ·rw [if_pos (hd j hji), if_pos (htop i o hol j hji)]
   ·have hlt := htop j p hj i hij
    have : listed.getD j false = false := by
     cases hlj : listed.getD j false with
     | false => rfl
     | true => have := hcl j p hj hlj i hij; rw [hun'] at this; cases this
    rw [if_neg (by rw [this]; simp), if_neg (by omega)]
  have hkle : k <= K := by
   rw [hk, ← hK]
   unfold before
   refine List.countP_mono_left fun j hj h => ?_
   rw [List.mem_range] at hj
   rw [Bool.and_eq_true] at h ⊢
   exact ⟨decide_eq_true hj, h.2⟩
  have hcnt' : (List.range l.length).countP (fun j => !(listed.setIfInBounds i true).getD j false) <= fuel := by
   have hlt := countP_lt (p := fun j => !listed.getD j false) (q := fun j => !(listed.setIfInBounds i true).getD j false) (i := i) (by rw [hun']; rfl) (by rw [getD_set (by omega)]; simp) (fun j hj => by
    rw [getD_set (by omega)] at hj
    by_cases e : j = i
    ·simp [e] at hj
    ·rw [if_neg e] at hj; exact hj) (List.mem_range.2 hil)
   omega
  have hcl' : ∀ j p, l[j]? = some p -> (listed.setIfInBounds i true).getD j false = true -> ∀ k ∈ depsOf md p, (listed.setIfInBounds i true).getD k false = true := fun j p hj hlj k hk => by
   rw [getD_set (by omega)] at hlj ⊢
   split
   ·rfl
   ·by_cases e : j = i
    ·subst e
     rw [hol] at hj; cases hj
     exact hd k hk
    ·rw [if_neg e] at hlj; exact hcl j p hj hlj k hk
  have hrep' : Rep l (fun j => if (listed.setIfInBounds i true).getD j false = true then (ss[j]?).map (·.at undef) else none) a0 (a.put o.dst v) := by
   refine hrep.put hol v ?_ fun j hj => ?_
   ·simp only [getD_set (show i < listed.size by omega), if_true, hsv]; rfl
   ·simp only [getD_set (show i < listed.size by omega), if_neg hj]
  have hwant : Region.wanted o (yielded ops a.tmps) = true := by simp [Region.wanted, hg]
  have step2 : ∀ k', v = undef -> (execOp a.eval o).run P (W k) = .ok .skip (W k') -> wpAny P md ops Q fuel (listed.setIfInBounds i true) (a.put o.dst v) (W k') -> wpOp P ops Q i (wpAny P md ops Q fuel (listed.setIfInBounds i true)) a (W k) := by
   intro k' hv hr hn
   subst hv
   unfold Go.wpOp
   simp only [ho, hwant, if_true, Oper.wp, hr]
   exact .inl hn
  have step : ∀ k', (execOp a.eval o).run P (W k) = .ok (.value v) (W k') -> wpAny P md ops Q fuel (listed.setIfInBounds i true) (a.put o.dst v) (W k') -> wpOp P ops Q i (wpAny P md ops Q fuel (listed.setIfInBounds i true)) a (W k) := by
   intro k' hr hn
   unfold Go.wpOp
   simp only [ho, hwant, if_true, Oper.wp, hr]
   exact .inl hn
  cases hst : isSt o with
  | false =>
   refine step k (by rw [exec_same (hns i o · · ho) hagree]; exact hv1 hst k hkle) (ih _ _ k (by simpa using hsz) hcnt' ?_ hcl' hrep')
   rw [hk]
   refine List.countP_congr fun j _ => ?_
   rw [getD_set (by omega)]
   by_cases e : j = i
   ·subst e
    have : stAt l j = false := by simp only [stAt, hol]; exact hst
    rw [this, Bool.and_false, Bool.and_false]
   ·rw [if_neg e]
  | true =>
   have hkb : k = before l i := by
    rw [hk]
    unfold before
    refine List.countP_congr fun j hj => ?_
    rw [List.mem_range] at hj
    have hlj : l[j]? = some l[j] := List.getElem?_eq_getElem hj
    cases hs : stAt l j with
    | false => rw [Bool.and_false, Bool.and_false]
    | true =>
     have hsj : isSt l[j] = true := by simpa [stAt, hlj] using hs
     rw [Bool.and_true, Bool.and_true]
     rcases Nat.lt_trichotomy j i with q | q | q
     ·rw [hd j (hstd i j o _ hol hlj hst hsj q), decide_eq_true q]
     ·subst q; rw [hun', decide_eq_false (by omega)]
     ·have : listed.getD j false = false := by
       cases hx : listed.getD j false with
       | false => rfl
       | true => have := hcl j _ hlj hx i (hstd j i _ o hlj hol hsj hst q); rw [hun'] at this; cases this
      rw [this, decide_eq_false (by omega)]
   refine step2 (k + 1) (hv2 hst).1 (by rw [exec_same (hns i o · · ho) hagree, hkb]; exact (hv2 hst).2) (ih _ _ (k + 1) (by simpa using hsz) hcnt' ?_ hcl' hrep')
   rw [hk]
   refine (countP_upd (i := i) (by rw [hun']; rfl) (by rw [getD_set (by omega), if_pos rfl]; simp only [stAt, hol, hst]; rfl) List.nodup_range (List.mem_range.2 hil) fun j _ hj => ?_).symm
   rw [getD_set (by omega), if_neg hj]
theorem wp_region_rst {id : Nat} {l : List Oper} {a : Act} (W : Nat -> World) (K : Nat) (w : World) (hw : W 0 = w.drew) (hm : P.follows .mixedOrders = true) (hok : rstOK .any l = true)
  (h : goS P Q W K l 0 a) : (Code.region id l.toArray true).wp P Q a w := by
 have hb0 : (0 : Nat) = before l 0 := by
  unfold before
  symm
  rw [List.countP_eq_zero]
  intro j _
  simp
 obtain ⟨ss, h1, h2, h3, h4, h5⟩ := goS_spec l a l 0 0 [] rfl (Nat.zero_le _) rfl (fun s hs => by cases hs) hb0 (by simpa [canon] using h) (fun j o hj => by omega)
 refine wp_region_any hm ?_
 have := wpAny_rst (P := P) (ops := l.toArray) (Q := Q) (md := .any) (W := W) (K := K) rfl hok h1 h2 h3 h4 h5 l.toArray.size (Array.replicate l.toArray.size false) a 0 (by simp) (by
  refine Nat.le_trans List.countP_le_length ?_
  simp) (by
  symm
  rw [List.countP_eq_zero]
  intro j _
  rw [Array.getD_eq_getD_getElem?, Array.getElem?_replicate]
  split <;> simp) (fun j o _ hj => by
  rw [Array.getD_eq_getD_getElem?, Array.getElem?_replicate] at hj
  split at hj <;> simp at hj) (by
  refine Rep.refl _ _ fun j o _ => ?_
  rw [if_neg]
  rw [Array.getD_eq_getD_getElem?, Array.getElem?_replicate]
  split <;> simp)
 rw [hw] at this
 exact this
theorem goS_val {o : Oper} {rest : List Oper} {k : Nat} {a : Act} (v : Value) (hg : o.guard = none) (hs : isSt o = false) (h : ∀ m, m <= K -> (execOp a.eval o).run P (W m) = .ok (.value v) (W m)) (n : goS P Q W K rest k (a.put o.dst v)) : goS P Q W K (o :: rest) k a :=
 ⟨hg, v, fun _ => h, fun q => (by rw [hs] at q; cases q), (by rw [hs]; exact n)⟩
theorem goS_st {o : Oper} {rest : List Oper} {k : Nat} {a : Act} (hg : o.guard = none) (hs : isSt o = true) (h : (execOp a.eval o).run P (W k) = .ok .skip (W (k + 1))) (n : goS P Q W K rest (k + 1) (a.put o.dst undef)) : goS P Q W K (o :: rest) k a :=
 ⟨hg, undef, fun q => (by rw [hs] at q; cases q), fun _ => ⟨rfl, h⟩, (by rw [hs]; exact n)⟩
end
open Go.RowKit Go.Joins
theorem TBlk.keepS {S : List Nat} {w w' : World} {b : Nat} {t : Tgt} (h : TBlk w b t) (k : Keep S w w') (hb : b ∉ S) : TBlk w' b t := Blk.keep h k hb
theorem goS_loadT {Q : Exit -> Act -> World -> Prop} {W : Nat -> World} {K : Nat} {o : Oper} {rest : List Oper} {k : Nat} {a : Act} (hg : o.guard = none) (x : Operand) (ho : o.op = .load 43 x) {b : Nat} {t : Tgt} (ht : okT t) (hx : a.eval x = .pointer (some ⟨b, 0, none⟩))
  (hb : ∀ m, m <= K -> TBlk (W m) b t) (n : goS Tryz.prog Q W K rest k (a.put o.dst (tv t))) : goS Tryz.prog Q W K (o :: rest) k a :=
 goS_val (tv t) hg (by unfold isSt; rw [ho]) (fun m hm => by
  have e := load_T ht (hb m hm)
  unfold execOp
  rw [ho]
  simp [hx, e]) n
theorem goS_storeT {Q : Exit -> Act -> World -> Prop} {W : Nat -> World} {K : Nat} {o : Oper} {rest : List Oper} {k : Nat} {a : Act} (hg : o.guard = none) (x y : Operand) (ho : o.op = .store 43 x y) {c i : Nat} {t : Tgt} (ht : okT t) (hx : a.eval x = .pointer (some ⟨c, i, none⟩)) (hy : a.eval y = tv t)
  (hb : (W k).there c i 19) (hW : W (k + 1) = (W k).setCells c i (tc t).toList) (n : goS Tryz.prog Q W K rest (k + 1) (a.put o.dst undef)) : goS Tryz.prog Q W K (o :: rest) k a :=
 goS_st hg (by unfold isSt; rw [ho]) (by
  have e := run_storeVar_mid (P := Tryz.prog) (W k) c i 43 (tc t) (by rw [tc_size ht]; exact hb) (by rw [info_T, tc_size ht]) (tc_one t)
  rw [hW]
  unfold execOp
  rw [ho]
  unfold tv at hy
  simp only [hx, hy, Instr.storeAt, Instr.sureAddr, Sem.run_bind, Sem.run_pure, Result.andThen_ok, e]) n
theorem goS_storeI {Q : Exit -> Act -> World -> Prop} {W : Nat -> World} {K : Nat} {o : Oper} {rest : List Oper} {k : Nat} {a : Act} (hg : o.guard = none) (x y : Operand) (ho : o.op = .store 3 x y) {c i : Nat} {n0 n : Int} (hx : a.eval x = .pointer (some ⟨c, i, none⟩)) (hy : a.eval y = .int .i64 n)
  (hb : (W k).cell? ⟨c, i, none⟩ = some (.int .i64 n0)) (hf : (W k).frozen? ⟨c, i, none⟩ = false) (hW : W (k + 1) = (W k).setCell ⟨c, i, none⟩ (.int .i64 n)) (nx : goS Tryz.prog Q W K rest (k + 1) (a.put o.dst undef)) : goS Tryz.prog Q W K (o :: rest) k a :=
 goS_st hg (by unfold isSt; rw [ho]) (by
  rw [hW]
  generalize W k = w at *
  unfold execOp
  rw [ho]
  simp only [hx, hy]
  go_simp) nx
theorem Blk.setCells_ne {ty : TypeId} {b c : Nat} {cs : List Value} (hne : c ≠ b) : ∀ (vs : List Value) (i : Nat) (w : World), Blk w b cs ty -> Blk (w.setCells c i vs) b cs ty
 | [], _, _, h => h
 | v :: vs, i, w, h => Blk.setCells_ne hne vs (i + 1) _ (Blk.set_ne h ⟨c, i, none⟩ hne v)
theorem hsucc_any (t : Tgt) (ht : okT t) (used : Int) {w0 w : World} (hx0 : Ext w0 w) {c : Nat} (hc : w0.heap.size <= c) {reg : Value} {s : Hst} (ho : okH s) (hb : HBlk TH w c reg s) :
  Calls Tryz.prog 106 #[.pointer (some ⟨c, 0, none⟩), tv t, .int .i64 used] w fun e w' => e = .returned (sv used ⟨#[]⟩ false) /\ Left w0 w w' [c] /\ HBlk TH w' c reg (hdone s t) := by
 have hcl := HBlk.lt hb
 unfold tv
 go_enter Tryz.func106, Tryz.ntmps106
 go_upto_region 1 with fail
 have hT := Blk.new w (tc t) 43
 have hxT := (Ext.refl w).alloc (.cells (tc t) 43)
 have hsz : (w.alloc (.cells (tc t) 43)).heap.size = w.heap.size + 1 := by simp
 rw [← hsz]
 clear hsz
 generalize w.alloc (.cells (tc t) 43) = w1 at *
 generalize hbb : w.heap.size = bt at hT hcl ⊢
 have hbl := Blk.lt hT
 rw [← scl_zero]
 have hx := (Ext.refl w1).alloc (.cells (scl 0 ⟨#[]⟩ false).toArray 101)
 have hr := Blk.new w1 (scl 0 ⟨#[]⟩ false).toArray 101
 have hwb : (w1).heap.size <= (w1).heap.size := Nat.le_refl _
 generalize (w1).alloc (.cells (scl 0 ⟨#[]⟩ false).toArray 101) = w2 at *
 generalize hbb : (w1).heap.size = b at hr ⊢
 replace hwb := Nat.le_of_eq hbb
 clear hbb
 have hTB : TBlk w2 bt t := Blk.ext hT hx
 have hb2 := HBlk.ext (HBlk.ext hb hxT) hx
 have hcb : c ≠ b := by omega
 have hct : bt ≠ c := by omega
 have hbw : w0.heap.size <= b := by have := hx0.size; omega
 have hbw2 : w.heap.size <= b := by omega
 have d0 : Ext w2 w2.drew := (Ext.refl w2).drew
 have k0 := HBlk.ext hb2 d0
 have k1 := HBlk.setStage k0 5
 have k2 := HBlk.setState k1 1
 have k3 := HBlk.setTgt (s := (5, 1, s.2.2)) ho k2 ht
 have e0 : Keep [c] w2 w2.drew := d0.keep [c]
 have e1 : Keep [c] w2 (w2.drew.setCell ⟨c, 1, none⟩ (.int .i64 5)) := e0.setCell (.inl (by simp)) _
 have e2 : Keep [c] w2 ((w2.drew.setCell ⟨c, 1, none⟩ (.int .i64 5)).setCell ⟨c, 2, none⟩ (.int .i64 1)) := e1.setCell (.inl (by simp)) _
 have t0 : TBlk w2.drew bt t := Blk.ext hTB d0
 have t1 : TBlk (w2.drew.setCell ⟨c, 1, none⟩ (.int .i64 5)) bt t := Blk.set_ne t0 ⟨c, 1, none⟩ (Ne.symm hct) _
 have t2 : TBlk ((w2.drew.setCell ⟨c, 1, none⟩ (.int .i64 5)).setCell ⟨c, 2, none⟩ (.int .i64 1)) bt t := Blk.set_ne t1 ⟨c, 2, none⟩ (Ne.symm hct) _
 have t3 : TBlk (((w2.drew.setCell ⟨c, 1, none⟩ (.int .i64 5)).setCell ⟨c, 2, none⟩ (.int .i64 1)).setCells c 5 (tc t).toList) bt t := Blk.setCells_ne (Ne.symm hct) _ _ _ t2
 have r0 := Blk.ext hr d0
 have r3 : SBlk (((w2.drew.setCell ⟨c, 1, none⟩ (.int .i64 5)).setCell ⟨c, 2, none⟩ (.int .i64 1)).setCells c 5 (tc t).toList) b 0 ⟨#[]⟩ false := Blk.setCells_ne hcb _ _ _ (Blk.set_ne (Blk.set_ne r0 ⟨c, 1, none⟩ hcb _) ⟨c, 2, none⟩ hcb _)
 have e3 := Keep.setCells (b := c) (S := [c]) (a := w2) (.inl (by simp)) (tc t).toList 5 _ e2
 have x3 : Ext w0 (((w2.drew.setCell ⟨c, 1, none⟩ (.int .i64 5)).setCell ⟨c, 2, none⟩ (.int .i64 1)).setCells c 5 (tc t).toList) := Ext.setCells hc _ _ _ (Ext.setCell (Ext.setCell (((hx0.trans hxT).trans hx).trans d0) hc _) hc _)
 refine wp_region_rst (fun m => match m with
  | 0 => w2.drew
  | 1 => w2.drew.setCell ⟨c, 1, none⟩ (.int .i64 5)
  | 2 => (w2.drew.setCell ⟨c, 1, none⟩ (.int .i64 5)).setCell ⟨c, 2, none⟩ (.int .i64 1)
  | _ => ((w2.drew.setCell ⟨c, 1, none⟩ (.int .i64 5)).setCell ⟨c, 2, none⟩ (.int .i64 1)).setCells c 5 (tc t).toList) 3 w2 rfl (by kernel_rfl) (by kernel_rfl) ?_
 apply goS_val _ rfl rfl
 ·(intro m hm; go_simp; try with_reducible rfl)
 try simp only [aput, List.set]
 apply goS_val _ rfl rfl
 ·(intro m hm; go_simp; try with_reducible rfl)
 try simp only [aput, List.set]
 apply goS_val _ rfl rfl
 ·(intro m hm; go_simp; try with_reducible rfl)
 try simp only [aput, List.set]
 apply goS_loadT rfl _ rfl ht rfl
 ·intro m _
  match m with
  | 0 => exact t0
  | 1 => exact t1
  | 2 => exact t2
  | m + 3 => exact t3
 try simp only [aput, List.set]
 apply goS_val _ rfl rfl
 ·(intro m hm; go_simp; try with_reducible rfl)
 try simp only [aput, List.set]
 apply goS_val _ rfl rfl
 ·(intro m hm; go_simp; try with_reducible rfl)
 try simp only [aput, List.set]
 refine goS_storeI rfl _ _ rfl rfl rfl (HBlk.stage k0) (HBlk.free k0 1) rfl ?_
 try simp only [aput, List.set]
 apply goS_val _ rfl rfl
 ·(intro m hm; go_simp; try with_reducible rfl)
 try simp only [aput, List.set]
 apply goS_val _ rfl rfl
 ·(intro m hm; go_simp; try with_reducible rfl)
 try simp only [aput, List.set]
 refine goS_storeI rfl _ _ rfl rfl rfl (HBlk.state k1) (HBlk.free k1 2) rfl ?_
 try simp only [aput, List.set]
 apply goS_val _ rfl rfl
 ·(intro m hm; go_simp; try with_reducible rfl)
 try simp only [aput, List.set]
 apply goS_val _ rfl rfl
 ·(intro m hm; go_simp; try with_reducible rfl)
 try simp only [aput, List.set]
 refine goS_storeT rfl _ _ rfl ht rfl rfl (HBlk.thereT (s := (5, 1, s.2.2)) ho k2) rfl ?_
 try simp only [aput, List.set]
 refine ⟨rfl, ?_⟩
 have K3 := Lib.hid k3
 have E3 := Lib.hid e3
 have X3 := Lib.hid x3
 have R3 := Lib.hid r3
 clear k0 k1 k2 k3 e0 e1 e2 e3 x3 r0 r3 t0 t1 t2 t3
 generalize (((w2.drew.setCell ⟨c, 1, none⟩ (.int .i64 5)).setCell ⟨c, 2, none⟩ (.int .i64 1)).setCells c 5 (tc t).toList) = w3 at *
 go_upto_region 2 with fail
 have hr3 := R3.out
 go_wp2_with (refine wpList_store_S (a := used) (o1 := ⟨#[]⟩) (m := false) rfl _ _ rfl hr3 rfl rfl ?_)
 refine bodyPost_ret (res_S rfl rfl (Blk.row hr3 _)) rfl ⟨rfl, Left.row ⟨((hxT.trans hx).keep _).trans E3.out, X3.out⟩ hbw2 hbw _, HBlk.row_ne K3.out hcb _⟩
open Go.RowKit Go.Joins
theorem rqp_st (s : ByteArray) : (rqp s).2.2.2 = 0 ∨ (rqp s).2.2.2 = 1 ∨ (rqp s).2.2.2 = 2 := by
 have ht := tgp_st (s.extract 3 s.size)
 have h2 := (reqTail_st (tgp (s.extract 3 s.size)).1 ((tgp (s.extract 3 s.size)).2.1 + 3) (B s 1)).1
 unfold rqp
 split
 ·exact .inr (.inr rfl)
 ·split
  ·exact .inl rfl
  ·split
   ·exact .inr (.inl rfl)
   ·split
    ·exact ht
    ·exact .inr (.inl h2)
theorem reqTail_code (t : Tgt) (n c : Int) : (reqTail t n c).2.1 = 0 ∨ (reqTail t n c).2.1 = 1 ∨ (reqTail t n c).2.1 = 7 ∨ (reqTail t n c).2.1 = 8 := by
 unfold reqTail
 (repeat' split) <;> simp
theorem rqp_code (s : ByteArray) : (rqp s).2.1 = 0 ∨ (rqp s).2.1 = 1 ∨ (rqp s).2.1 = 7 ∨ (rqp s).2.1 = 8 := by
 unfold rqp
 split
 ·exact .inl rfl
 ·split
  ·exact .inl rfl
  ·split
   ·exact .inr (.inr (.inr rfl))
   ·split
    ·exact .inl rfl
    ·exact reqTail_code _ _ _
theorem hreq_any (z : ByteArray) (hz : z.size <= 281474976710656) (tn : Tns) {w0 w : World} (henv : Env w0) (hx0 : Ext w0 w) {c : Nat} (hc : w0.heap.size <= c) {reg : Value} {s : Hst} (ho : okH s) (h3 : s.1 = 3) (hp : s.2.2.1 = 1) (hb : HBlk TH w c reg s) :
  Calls Tryz.prog 78 #[.pointer (some ⟨c, 0, none⟩), .string z] w fun e w' => StepP w0 w c reg s (hstep txt3 tn s z) e w' := by
 have hcl := HBlk.lt hb
 have HS : Hid (hstep txt3 tn s z = if (rqp z).2.2.2 = 0 then none
  else if (rqp z).2.2.2 = 2 then some (0, rep8 1, hfail s 10)
  else if (rqp z).2.1 = 0 then some ((rqp z).2.2.1, ⟨#[]⟩, hdone s (rqp z).1)
  else some ((rqp z).2.2.1, rep8 (rqp z).2.1, hfail s (why8 (rqp z).2.1))) := Lib.hid (by unfold hstep; rw [if_neg (by omega), if_neg (by omega), if_neg (by omega), if_pos h3])
 clear h3
 have KP := Lib.hid (fun w he => prq_any z hz w he)
 have hst := rqp_st z
 have hcd := rqp_code z
 have hT := okT_rqp z (Nat.le_trans hz (by unfold maxLen; omega))
 generalize rqp z = Q at *
 obtain ⟨t, cd, n, q⟩ := Q
 simp only at HS KP hst hcd hT
 have KC := Lib.hid (fun x w => socksc_any x w)
 have KE := Lib.hid (fun w => encr_any cd (by omega) w)
 have KY := Lib.hid (fun w => reply1_any 10 w)
 have KF := Lib.hid (@hfail_any)
 have KM := Lib.hid more_any
 go_enter Tryz.func78, Tryz.ntmps78
 go_upto_region 1 with fail
 rw [← scl_zero]
 have hx := (Ext.refl w).alloc (.cells (scl 0 ⟨#[]⟩ false).toArray 101)
 have hr := Blk.new w (scl 0 ⟨#[]⟩ false).toArray 101
 have hwb : (w).heap.size <= (w).heap.size := Nat.le_refl _
 generalize (w).alloc (.cells (scl 0 ⟨#[]⟩ false).toArray 101) = w1 at *
 generalize hbb : (w).heap.size = b at hr ⊢
 replace hwb := Nat.le_of_eq hbb
 clear hbb
 have hb1 := HBlk.ext hb hx
 have hcb : c ≠ b := by omega
 have hbw : w0.heap.size <= b := Nat.le_trans hx0.size hwb
 go_upto_block 0 with (first | (go_at_call 105; refine (KP.out _ (henv.ext (hx0.trans hx))).mono ?_; rintro e w2 ⟨rfl, hx2⟩; have hbt := Blk.new w2 (tc ztgt) 43) | refine wpList_store_T rfl _ _ rfl okT_ztgt hT hbt rfl rfl ?_)
 rw [← tc_zero, World.setRow_alloc_new]
 clear hbt
 have hx3 := (hx.trans hx2).alloc (.cells (tc t) 43)
 have hr3 := Blk.ext (Blk.ext hr hx2) ((Ext.refl w2).alloc (.cells (tc t) 43))
 have hb3 := HBlk.ext (HBlk.ext hb1 hx2) ((Ext.refl w2).alloc (.cells (tc t) 43))
 have hT3 : TBlk _ w2.heap.size t := Blk.new w2 (tc t) 43
 clear hx hx2 hr hb1 KP
 generalize w2.alloc (.cells (tc t) 43) = w3 at *
 generalize w2.heap.size = bt at *
 rcases hst with rfl | rfl | rfl
 ·have R : Hid (hstep txt3 tn s z = none) := Lib.hid (by rw [HS.out, if_pos rfl])
  clear HS
  go_wp2_with (first | (go_at_call 99; refine (KM.out _).mono ?_; rintro e w4 ⟨rfl, hx4⟩; have hr4 := Blk.ext hr3 hx4) | refine wpList_store_S (a := 0) (o1 := ⟨#[]⟩) (m := true) rfl _ _ rfl hr4 rfl rfl ?_)
  refine bodyPost_ret (res_S rfl rfl (Blk.row hr4 _)) rfl ?_
  unfold StepP
  rw [R.out]
  exact ⟨Left.row (Left.of_ext hx0 (hx3.trans hx4)) hwb hbw _, rfl, HBlk.row_ne (HBlk.ext hb3 hx4) hcb _⟩
 case inr.inr =>
  have R : Hid (hstep txt3 tn s z = some (0, rep8 1, hfail s 10)) := Lib.hid (by rw [HS.out, if_neg (by decide), if_pos rfl])
  have c3 := HBlk.proto hb3
  rw [hp] at c3
  have HP := Lib.hid hp
  clear HS hp
  have KY2 : Hid (∀ w, Calls Tryz.prog 47 #[.int .i64 1, .int .i64 10] w fun e w' => e = .returned (.string (rep8 1)) /\ Ext w w') := KY
  clear KY
  go_wp2_with (first | (go_at_call 47; refine (KY2.out _).mono ?_; rintro e w4 ⟨rfl, hx4⟩; have hb4 := HBlk.ext hb3 hx4; have KG := Lib.hid (KF.out 10 0 (rep8 1) ((hx0.trans hx3).trans hx4) hc ho hb4)) | (go_at_call 100; refine KG.out.mono ?_; rintro e w5 ⟨rfl, hl5, hb5⟩; have hr5 := Blk.keep (Blk.ext hr3 hx4) hl5.1 (by simp; exact fun q => hcb q.symm)) | refine wpList_store_S (a := 0) (o1 := rep8 1) (m := false) rfl _ _ rfl hr5 rfl rfl ?_)
  refine bodyPost_ret (res_S rfl rfl (Blk.row hr5 _)) rfl ?_
  unfold StepP
  rw [R.out]
  exact ⟨Left.row (Left.trans_ext (hx3.trans hx4) hl5) hwb hbw _, rfl, HBlk.row_ne hb5 hcb _⟩
 clear hp KY
 by_cases k0 : cd = 0
 ·subst k0
  have R : Hid (hstep txt3 tn s z = some (n, ⟨#[]⟩, hdone s t)) := Lib.hid (by rw [HS.out, if_neg (by decide), if_neg (by decide), if_pos rfl])
  have KS := Lib.hid (hsucc_any t hT n (hx0.trans hx3) hc ho hb3)
  clear HS hcd
  go_wp2_with (first | refine wpList_load_T rfl _ rfl hT hT3 rfl ?_ | (go_at_call 106; refine KS.out.mono ?_; rintro e w5 ⟨rfl, hl5, hb5⟩; have hr5 := Blk.keep hr3 hl5.1 (by simp; exact fun q => hcb q.symm)) | refine wpList_store_S (a := n) (o1 := ⟨#[]⟩) (m := false) rfl _ _ rfl hr5 rfl rfl ?_)
  refine bodyPost_ret (res_S rfl rfl (Blk.row hr5 _)) rfl ?_
  unfold StepP
  rw [R.out]
  exact ⟨Left.row (Left.trans_ext hx3 hl5) hwb hbw _, rfl, HBlk.row_ne hb5 hcb _⟩
 ·have R : Hid (hstep txt3 tn s z = some (n, rep8 cd, hfail s (why8 cd))) := Lib.hid (by rw [HS.out, if_neg (by decide), if_neg (by decide), if_neg k0])
  have kb : (cd == 0) = false := by rw [beq_eq_false_iff_ne]; exact k0
  have K8 : Hid (∀ w, Calls Tryz.prog 65 #[.int .i64 8] w fun e w' => e = .returned (.int .i64 7) /\ w = w') := Lib.hid (fun w => KC.out 8 w)
  have K9 : Hid (∀ w, Calls Tryz.prog 65 #[.int .i64 9] w fun e w' => e = .returned (.int .i64 8) /\ w = w') := Lib.hid (fun w => KC.out 9 w)
  have hcd2 : cd = 7 ∨ cd = 8 ∨ cd = 1 := by omega
  unfold tv at KE
  rw [tc_zero] at KE
  clear HS hcd k0 KC
  have fin : ∀ (y : Int), why8 cd = y -> Hid (hstep txt3 tn s z = some (n, rep8 cd, hfail s y)) := fun y e => Lib.hid (by rw [R.out, e])
  clear R
  rcases hcd2 with rfl | rfl | rfl
  ·have R := fin 8 rfl
   clear fin
   go_wp2_with (first | (go_at_call 65; with_reducible refine (K8.out _).mono ?_; rintro e w4 ⟨rfl, rfl⟩) | (go_at_call 65; with_reducible refine (K9.out _).mono ?_; rintro e w4 ⟨rfl, rfl⟩) | (go_at_call 64; refine (KE.out _).mono ?_; rintro e w4 ⟨rfl, hx4⟩; have hb4 := HBlk.ext hb3 hx4; have KG := Lib.hid (KF.out 8 n (rep8 7) ((hx0.trans hx3).trans hx4) hc ho hb4)) | (go_at_call 100; refine KG.out.mono ?_; rintro e w5 ⟨rfl, hl5, hb5⟩; have hr5 := Blk.keep (Blk.ext hr3 hx4) hl5.1 (by simp; exact fun q => hcb q.symm)) | refine wpList_store_S (a := n) (o1 := rep8 7) (m := false) rfl _ _ rfl hr5 rfl rfl ?_)
   refine bodyPost_ret (res_S rfl rfl (Blk.row hr5 _)) rfl ?_
   unfold StepP
   rw [R.out]
   exact ⟨Left.row (Left.trans_ext (hx3.trans hx4) hl5) hwb hbw _, rfl, HBlk.row_ne hb5 hcb _⟩
  ·have R := fin 9 rfl
   clear fin
   go_wp2_with (first | (go_at_call 65; with_reducible refine (K8.out _).mono ?_; rintro e w4 ⟨rfl, rfl⟩) | (go_at_call 65; with_reducible refine (K9.out _).mono ?_; rintro e w4 ⟨rfl, rfl⟩) | (go_at_call 64; refine (KE.out _).mono ?_; rintro e w4 ⟨rfl, hx4⟩; have hb4 := HBlk.ext hb3 hx4; have KG := Lib.hid (KF.out 9 n (rep8 8) ((hx0.trans hx3).trans hx4) hc ho hb4)) | (go_at_call 100; refine KG.out.mono ?_; rintro e w5 ⟨rfl, hl5, hb5⟩; have hr5 := Blk.keep (Blk.ext hr3 hx4) hl5.1 (by simp; exact fun q => hcb q.symm)) | refine wpList_store_S (a := n) (o1 := rep8 8) (m := false) rfl _ _ rfl hr5 rfl rfl ?_)
   refine bodyPost_ret (res_S rfl rfl (Blk.row hr5 _)) rfl ?_
   unfold StepP
   rw [R.out]
   exact ⟨Left.row (Left.trans_ext (hx3.trans hx4) hl5) hwb hbw _, rfl, HBlk.row_ne hb5 hcb _⟩
  ·have R := fin 10 rfl
   clear fin
   go_wp2_with (first | (go_at_call 65; with_reducible refine (K8.out _).mono ?_; rintro e w4 ⟨rfl, rfl⟩) | (go_at_call 65; with_reducible refine (K9.out _).mono ?_; rintro e w4 ⟨rfl, rfl⟩) | (go_at_call 64; refine (KE.out _).mono ?_; rintro e w4 ⟨rfl, hx4⟩; have hb4 := HBlk.ext hb3 hx4; have KG := Lib.hid (KF.out 10 n (rep8 1) ((hx0.trans hx3).trans hx4) hc ho hb4)) | (go_at_call 100; refine KG.out.mono ?_; rintro e w5 ⟨rfl, hl5, hb5⟩; have hr5 := Blk.keep (Blk.ext hr3 hx4) hl5.1 (by simp; exact fun q => hcb q.symm)) | refine wpList_store_S (a := n) (o1 := rep8 1) (m := false) rfl _ _ rfl hr5 rfl rfl ?_)
   refine bodyPost_ret (res_S rfl rfl (Blk.row hr5 _)) rfl ?_
   unfold StepP
   rw [R.out]
   exact ⟨Left.row (Left.trans_ext (hx3.trans hx4) hl5) hwb hbw _, rfl, HBlk.row_ne hb5 hcb _⟩
end Go.Proofs.YtnohnnjeabehjaaGreatDoor
