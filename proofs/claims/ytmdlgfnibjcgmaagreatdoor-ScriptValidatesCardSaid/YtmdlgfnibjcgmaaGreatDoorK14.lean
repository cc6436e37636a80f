/-
  Several texts joined: ScV.
-/
import Derived.Test.YtmdlgfnibjcgmaaGreatDoorK13
import Derived.Test.YtmdlgfnibjcgmaaGreatDoorK06
import Derived.Test.YtmdlgfnibjcgmaaGreatDoorK12
set_option maxHeartbeats 16000000
set_option maxRecDepth 10000
set_option linter.unusedVariables false
set_option linter.unusedSimpArgs false
namespace Go.Proofs.YtmdlgfnibjcgmaaGreatDoor
open Go.RowKit
theorem ro_bd (p : Bool) (hi : Int) (x : St) (h : 0 <= hi) : 0 <= (ro p hi x).1 /\ (ro p hi x).1 <= hi := by
 unfold ro
 cases p with
 | true => exact rn_bd 0 hi x h
 | false => exact ⟨Int.le_refl _, h⟩
theorem itl_all {α : Type} {g : St -> α × St} {p : α -> Prop} (hg : ∀ x, p (g x).1) (x : St) : ∀ n, ∀ y ∈ (itl g x n).1, p y
 | 0, y, h => by cases h
 | n + 1, y, h => by
  rcases List.mem_append.1 (show y ∈ (itl g x n).1 ++ [(g (itl g x n).2).1] from h) with h | h
  ·exact itl_all hg x n y h
  ·simp at h; rw [h]; exact hg _
theorem ref_ok {g : St -> Adr × St} (hg : ∀ x, okA (g x).1) {k : Int} (hk : 0 <= k /\ k <= 11) (x : St) : okE (ref g k x).1 := by
 unfold ref
 simp only
 have b1 := ro_bd (flds k).1 1048575 x (by decide)
 generalize ro (flds k).1 1048575 x = p1 at *
 have b2 := ro_bd (flds k).2.1 64 p1.2 (by decide)
 generalize ro (flds k).2.1 64 p1.2 = p2 at *
 have b3 := ro_bd (flds k).2.2.1 18446744073709551615 p2.2 (by decide)
 generalize ro (flds k).2.2.1 18446744073709551615 p2.2 = p3 at *
 generalize ro (flds k).2.2.2.1 1 p3.2 = p4 at *
 have b5 := ro_bd (flds k).2.2.2.2.1 255 p4.2 (by decide)
 generalize ro (flds k).2.2.2.2.1 255 p4.2 = p5 at *
 have b6 := ro_bd (flds k).2.2.2.2.2 2000 p5.2 (by decide)
 generalize ro (flds k).2.2.2.2.2 2000 p5.2 = p6 at *
 have b7 := rt_size p6.1.toNat p6.2
 generalize rt p6.1.toNat p6.2 = p7 at *
 have b8 := ro_bd (flds k).2.2.2.1 16 p7.2 (by decide)
 generalize ro (flds k).2.2.2.1 16 p7.2 = p8 at *
 have b9 := itl_len g p8.2 p8.1.toNat
 have b10 := itl_all hg p8.2 p8.1.toNat
 refine ⟨⟨by simp only; omega, by simp only; omega, by simp only; omega, by simp only; omega, by simp only; omega, b10⟩, ?_, ?_⟩
 ·show p7.1.size <= maxLen
  unfold maxLen; omega
 ·show (itl g p8.2 p8.1.toNat).1.length <= maxLen
  unfold maxLen; omega
theorem okA_ra (x : St) : okA (ra x).1 := by
 unfold ra
 split
 ·exact okA_zadr
 ·split
  ·exact okA_octs _ _
  ·split
   ·exact okA_octs _ _
   ·exact okA_zadr
theorem okA_rra (x : St) : okA (rra x).1 := by
 unfold rra
 split
 ·exact okA_zadr
 ·exact okA_octs _ _
theorem re_ok (x : St) : okE (re x).1 := ref_ok okA_ra (rn_bd 0 11 x (by decide)) _
theorem rre_ok (x : St) : okE (rre x).1 := ref_ok okA_rra (rn_bd 1 11 x (by decide)) _
theorem popt_i (p : Bool) (most : Int) (h0 : 0 <= most) (hm : most <= 9223372036854775807) {b : Nat} {x : St} {w : World} (h : Rb 65 w b x) :
  Calls Tryz.prog 28 #[.pointer (some ⟨b, 0, none⟩), .bool p, .int .i64 most] w fun e w' => e = .returned (.int .i64 (ro p most x).1) /\ Rb 65 w' b (ro p most x).2 /\ Keep [b] w w' := by
 obtain ⟨n, rfl⟩ : ∃ n : Nat, most = n := ⟨most.toNat, by omega⟩
 exact popt_any p n (by omega) h
theorem pnum_i (most : Int) (h0 : 0 <= most) (hm : most < 18446744073709551616) {b : Nat} {x : St} {w : World} (h : Rb 65 w b x) :
  Calls Tryz.prog 50 #[.pointer (some ⟨b, 0, none⟩), .int .u64 most] w fun e w' => e = .returned (.int .u64 (rn 0 most x).1) /\ Rb 65 w' b (rn 0 most x).2 /\ Keep [b] w w' := by
 obtain ⟨n, rfl⟩ : ∃ n : Nat, most = n := ⟨most.toNat, by omega⟩
 exact pnum_any n (by omega) h
theorem pev_any {b : Nat} {x : St} {w : World} (hr : Rb 65 w b x) :
  Calls Tryz.prog 29 #[.pointer (some ⟨b, 0, none⟩)] w fun e w' => ∃ sl, e = .returned (.agg (evl (re x).1 sl).toArray) /\ AdsAt w.heap.size w' sl (re x).1.ads /\ Rb 65 w' b (re x).2 /\ Keep [b] w w' := by
 have hbl := hr.lt
 have KP := Lib.hid (fun (w' : World) (h : Ext w w') => popt_i true 11 (by decide) (by decide) (hr.ext h))
 go_enter Tryz.func29, Tryz.ntmps29
 go_upto_region 1 with fail
 have hx := (Ext.refl w).alloc (.cells [.int .i64 0, .int .i64 0, .int .i64 0, .int .u64 0, .bool false, .int .i64 0, .string ⟨#[]⟩, .slice none 0 0].toArray 31)
 have hC := Blk.new w [.int .i64 0, .int .i64 0, .int .i64 0, .int .u64 0, .bool false, .int .i64 0, .string ⟨#[]⟩, .slice none 0 0].toArray 31
 change Code.wp _ _ _ _ (w.alloc (.cells [.int .i64 0, .int .i64 0, .int .i64 0, .int .u64 0, .bool false, .int .i64 0, .string ⟨#[]⟩, .slice none 0 0].toArray 31))
 have K1 := Lib.hid (KP.out _ hx)
 generalize w.alloc (.cells [.int .i64 0, .int .i64 0, .int .i64 0, .int .u64 0, .bool false, .int .i64 0, .string ⟨#[]⟩, .slice none 0 0].toArray 31) = w1 at *
 have hK := hx.keep [b]
 have hC1 := Blk.lt hC
 clear hx KP hr
 generalize hp0 : rn 0 11 x = p0 at *
 replace K1 : Hid (Calls Tryz.prog 28 #[.pointer (some ⟨b, 0, none⟩), .bool true, .int .i64 11] w1 fun e w' => e = .returned (.int .i64 p0.1) /\ Rb 65 w' b p0.2 /\ Keep [b] w1 w') := Lib.hid (by rw [← hp0]; exact K1.out)
 have HP0 := Lib.hid hp0
 clear hp0
 obtain ⟨k, x0⟩ := p0
 simp only at K1
 go_upto_region 2 with (go_at_call 28; refine K1.out.mono ?_; rintro e w2 ⟨rfl, hr, hk2⟩)
 replace hK := hK.trans hk2
 replace hC := Blk.keep hC hk2 (by simp; omega)
 have hx2 := (Ext.refl w2).alloc (.cells #[.int .i64 k, .int .i64 0, .int .i64 0, .int .u64 0, .bool false, .int .i64 0, .string ⟨#[]⟩, .slice none 0 0] 31)
 have hV := Blk.new w2 #[.int .i64 k, .int .i64 0, .int .i64 0, .int .u64 0, .bool false, .int .i64 0, .string ⟨#[]⟩, .slice none 0 0] 31
 replace hr := Rb.ext hr hx2
 replace hC := Blk.ext hC hx2
 replace hK := hK.trans (hx2.keep [b])
 have hl2 := hk2.size
 have hvw : w1.heap.size <= w2.heap.size := hl2
 generalize w2.alloc (.cells #[.int .i64 k, .int .i64 0, .int .i64 0, .int .u64 0, .bool false, .int .i64 0, .string ⟨#[]⟩, .slice none 0 0] 31) = w3 at *
 obtain ⟨vb, hvb⟩ : ∃ n, n = w2.heap.size := ⟨_, rfl⟩
 rw [← hvb] at hV hvw ⊢
 obtain ⟨cb, hcb⟩ : ∃ n, n = w.heap.size := ⟨_, rfl⟩
 rw [← hcb] at hC hC1 hbl ⊢
 have hcv : cb < vb := by omega
 have HCB := Lib.hid hcb
 clear hx2 hk2 K1 hl2 hC1 hvw hvb hcb
 have KF := Lib.hid (fun w => flds_any k w)
 have hVL := Blk.lt hV
 have c0 : w3.cell? ⟨vb, 0, none⟩ = some (.int .i64 k) := Blk.cell hV rfl
 generalize hfk : flds k = f at KF
 have HFK := Lib.hid hfk
 clear hfk
 obtain ⟨f1, f2, f3, f4, f5, f6⟩ := f
 unfold flv at KF
 simp only at KF
 generalize hok : decide (1 <= k /\ k <= 11) = ok at KF
 have HOK := Lib.hid hok
 clear hok
 go_upto_region 3 with (go_at_call 36; refine (KF.out _).mono ?_; rintro e w4 ⟨rfl, hx4⟩)
 have hx5 := hx4.alloc (.cells #[.bool f1, .bool f2, .bool f3, .bool f4, .bool f5, .bool f6] 82)
 have hF := Blk.new w4 #[.bool f1, .bool f2, .bool f3, .bool f4, .bool f5, .bool f6] 82
 have hvf : vb < w4.heap.size := Nat.lt_of_lt_of_le hVL hx4.size
 replace hr := Rb.ext hr hx5
 replace hC := Blk.ext hC hx5
 replace hV := Blk.ext hV hx5
 replace hK := hK.trans (hx5.keep [b])
 clear c0 KF hx4 hx5 hVL
 generalize w4.alloc (.cells #[.bool f1, .bool f2, .bool f3, .bool f4, .bool f5, .bool f6] 82) = w5 at *
 generalize w4.heap.size = fb at *
 have hnv : vb ∉ [b] := by simp; omega
 have hnf : fb ∉ [b] := by simp; omega
 have hnc : cb ∉ [b] := by simp; omega
 have hbv : b ≠ vb := by omega
 have hfv : fb ≠ vb := by omega
 have hcv' : cb ≠ vb := by omega
 have hwv : w.heap.size <= vb := by have := HCB.out; omega
 have hwc : w.heap.size <= cb := Nat.le_of_eq HCB.out.symm
 -- the kind
 generalize hx1 : re0 x = x1 at *
 go_upto_if 16 with fail
 go_cut [] from 17 to 18 (fun wc => Rb 65 wc b x1 /\ Keep [b] w5 wc)
 case first =>
  have hre : x1 = if ok = true then x0 else fl 2 x0 := by
   rw [← hx1, ← HOK.out]
   unfold re0
   rw [HP0.out]
   simp only [decide_eq_true_eq]
  have HRE := Lib.hid hre
  clear hre hx1
  cases ok with
  | true =>
   go_wp2_with fail
   go_meet
   exact ⟨by rw [HRE.out]; exact hr, Keep.refl _ _⟩
  | false =>
   have KL := Lib.hid (fail_any 2 (by decide) hr)
   go_wp2_with (go_at_call 30; refine KL.out.mono ?_; rintro e w6 ⟨rfl, hr6, hk6⟩)
   go_meet
   exact ⟨by rw [HRE.out]; exact hr6, hk6⟩
 have HX1 := Lib.hid hx1
 clear hx1 hr HOK
 obtain ⟨hr, hk5⟩ := hcut
 replace hV := Blk.keep hV hk5 hnv
 replace hF := Blk.keep hF hk5 hnf
 replace hC := Blk.keep hC hk5 hnc
 replace hK := hK.trans hk5
 clear hk5
 have g0 : wc.cell? ⟨fb, 0, none⟩ = some (.bool f1) := Blk.cell hF rfl
 have KQ := Lib.hid (popt_i f1 1048575 (by decide) (by decide) hr)
 generalize hp : ro f1 1048575 x1 = p1 at *
 have Hp1 := Lib.hid hp
 clear hp
 go_upto_region 6 with (go_at_call 28; refine KQ.out.mono ?_; rintro e w5 ⟨rfl, hr5, hk5⟩; have hV5 := Blk.keep hV hk5 hnv; have cv := Blk.cell hV5 (i := 1) rfl; have gv := Blk.free hV5 1)
 have hVn : Blk (w5.setCell ⟨vb, 1, none⟩ (.int .i64 (p1).1)) vb [.int .i64 k, .int .i64 p1.1, .int .i64 0, .int .u64 0, .bool false, .int .i64 0, .string ⟨#[]⟩, .slice none 0 0] 31 := Blk.set hV5 1 _
 replace hV := hVn
 replace hr := Rb.setc hr5 hbv 1 (.int .i64 (p1).1)
 replace hF := Blk.set_ne (Blk.keep hF hk5 hnf) ⟨vb, 1, none⟩ (Ne.symm hfv) (.int .i64 (p1).1)
 replace hC := Blk.set_ne (Blk.keep hC hk5 hnc) ⟨vb, 1, none⟩ (Ne.symm hcv') (.int .i64 (p1).1)
 replace hK := (hK.trans hk5).setCell (p := ⟨vb, 1, none⟩) (.inr hwv) (.int .i64 (p1).1)
 clear KQ cv gv hV5 hr5 hk5 g0 hVn
 generalize w5.setCell ⟨vb, 1, none⟩ (.int .i64 (p1).1) = w6 at *
 have g0 : w6.cell? ⟨fb, 1, none⟩ = some (.bool f2) := Blk.cell hF rfl
 have KQ := Lib.hid (popt_i f2 64 (by decide) (by decide) hr)
 generalize hp : ro f2 64 p1.2 = p2 at *
 have Hp2 := Lib.hid hp
 clear hp
 go_upto_region 7 with (go_at_call 28; refine KQ.out.mono ?_; rintro e w5 ⟨rfl, hr5, hk5⟩; have hV5 := Blk.keep hV hk5 hnv; have cv := Blk.cell hV5 (i := 2) rfl; have gv := Blk.free hV5 2)
 have hVn : Blk (w5.setCell ⟨vb, 2, none⟩ (.int .i64 (p2).1)) vb [.int .i64 k, .int .i64 p1.1, .int .i64 p2.1, .int .u64 0, .bool false, .int .i64 0, .string ⟨#[]⟩, .slice none 0 0] 31 := Blk.set hV5 2 _
 replace hV := hVn
 replace hr := Rb.setc hr5 hbv 2 (.int .i64 (p2).1)
 replace hF := Blk.set_ne (Blk.keep hF hk5 hnf) ⟨vb, 2, none⟩ (Ne.symm hfv) (.int .i64 (p2).1)
 replace hC := Blk.set_ne (Blk.keep hC hk5 hnc) ⟨vb, 2, none⟩ (Ne.symm hcv') (.int .i64 (p2).1)
 replace hK := (hK.trans hk5).setCell (p := ⟨vb, 2, none⟩) (.inr hwv) (.int .i64 (p2).1)
 clear KQ cv gv hV5 hr5 hk5 g0 hVn
 generalize w5.setCell ⟨vb, 2, none⟩ (.int .i64 (p2).1) = w6 at *
 have g0 : w6.cell? ⟨fb, 2, none⟩ = some (.bool f3) := Blk.cell hF rfl
 generalize hp3 : ro f3 18446744073709551615 p2.2 = p3 at *
 go_upto_if 30 with fail
 clear g0
 go_cut [] from 31 to 34 (fun wc => Rb 65 wc b p3.2 /\ Blk wc vb [.int .i64 k, .int .i64 p1.1, .int .i64 p2.1, .int .u64 p3.1, .bool false, .int .i64 0, .string ⟨#[]⟩, .slice none 0 0] 31 /\ Blk wc fb [.bool f1, .bool f2, .bool f3, .bool f4, .bool f5, .bool f6] 82 /\ Blk wc cb [.int .i64 0, .int .i64 0, .int .i64 0, .int .u64 0, .bool false, .int .i64 0, .string ⟨#[]⟩, .slice none 0 0] 31 /\ Keep [b] w wc)
 case first =>
  have HP3 := Lib.hid hp3
  clear hp3
  cases f3 with
  | false =>
   go_wp2_with fail
   go_meet
   exact ⟨by rw [← HP3.out]; exact hr, by rw [← HP3.out]; exact hV, hF, hC, hK⟩
  | true =>
   have KN := Lib.hid (pnum_i 18446744073709551615 (by decide) (by decide) hr)
   have HP3' : Hid (rn 0 18446744073709551615 p2.2 = p3) := Lib.hid HP3.out
   rw [HP3'.out] at KN
   go_wp2_with (go_at_call 50; refine KN.out.mono ?_; rintro e w5 ⟨rfl, hr5, hk5⟩; have hV5 := Blk.keep hV hk5 hnv; have cv := Blk.cell hV5 (i := 3) rfl; have gv := Blk.free hV5 3)
   go_meet
   exact ⟨Rb.setc hr5 hbv 3 _, Blk.set hV5 3 (.int .u64 p3.1), Blk.set_ne (Blk.keep hF hk5 hnf) ⟨vb, 3, none⟩ (Ne.symm hfv) _, Blk.set_ne (Blk.keep hC hk5 hnc) ⟨vb, 3, none⟩ (Ne.symm hcv') _, (hK.trans hk5).setCell (p := ⟨vb, 3, none⟩) (.inr hwv) _⟩
 have HP3 := Lib.hid hp3
 clear hp3 hr hV hF hC hK
 obtain ⟨hr, hV, hF, hC, hK⟩ := hcut
 have g0 : wc.cell? ⟨fb, 3, none⟩ = some (.bool f4) := Blk.cell hF rfl
 have KQ := Lib.hid (popt_i f4 1 (by decide) (by decide) hr)
 generalize hp : ro f4 1 p3.2 = p4 at *
 have HP4 := Lib.hid hp
 clear hp
 go_upto_region 10 with (go_at_call 28; refine KQ.out.mono ?_; rintro e w5 ⟨rfl, hr5, hk5⟩; have hV5 := Blk.keep hV hk5 hnv; have cv := Blk.cell hV5 (i := 4) rfl; have gv := Blk.free hV5 4)
 have hVn : Blk (w5.setCell ⟨vb, 4, none⟩ (.bool (p4.1 == 1))) vb [.int .i64 k, .int .i64 p1.1, .int .i64 p2.1, .int .u64 p3.1, .bool (p4.1 == 1), .int .i64 0, .string ⟨#[]⟩, .slice none 0 0] 31 := Blk.set hV5 4 _
 replace hV := hVn
 replace hr := Rb.setc hr5 hbv 4 (.bool (p4.1 == 1))
 replace hF := Blk.set_ne (Blk.keep hF hk5 hnf) ⟨vb, 4, none⟩ (Ne.symm hfv) (.bool (p4.1 == 1))
 replace hC := Blk.set_ne (Blk.keep hC hk5 hnc) ⟨vb, 4, none⟩ (Ne.symm hcv') (.bool (p4.1 == 1))
 replace hK := (hK.trans hk5).setCell (p := ⟨vb, 4, none⟩) (.inr hwv) (.bool (p4.1 == 1))
 clear KQ cv gv hV5 hr5 hk5 g0 hVn
 generalize w5.setCell ⟨vb, 4, none⟩ (.bool (p4.1 == 1)) = w6 at *
 generalize hb4 : (p4.1 == 1) = b4 at *
 have HB4 := Lib.hid hb4
 clear hb4
 have g0 : w6.cell? ⟨fb, 4, none⟩ = some (.bool f5) := Blk.cell hF rfl
 have KQ := Lib.hid (popt_i f5 255 (by decide) (by decide) hr)
 generalize hp : ro f5 255 p4.2 = p5 at *
 have Hp5 := Lib.hid hp
 clear hp
 go_upto_region 11 with (go_at_call 28; refine KQ.out.mono ?_; rintro e w5 ⟨rfl, hr5, hk5⟩; have hV5 := Blk.keep hV hk5 hnv; have cv := Blk.cell hV5 (i := 5) rfl; have gv := Blk.free hV5 5)
 have hVn : Blk (w5.setCell ⟨vb, 5, none⟩ (.int .i64 (p5).1)) vb [.int .i64 k, .int .i64 p1.1, .int .i64 p2.1, .int .u64 p3.1, .bool b4, .int .i64 p5.1, .string ⟨#[]⟩, .slice none 0 0] 31 := Blk.set hV5 5 _
 replace hV := hVn
 replace hr := Rb.setc hr5 hbv 5 (.int .i64 (p5).1)
 replace hF := Blk.set_ne (Blk.keep hF hk5 hnf) ⟨vb, 5, none⟩ (Ne.symm hfv) (.int .i64 (p5).1)
 replace hC := Blk.set_ne (Blk.keep hC hk5 hnc) ⟨vb, 5, none⟩ (Ne.symm hcv') (.int .i64 (p5).1)
 replace hK := (hK.trans hk5).setCell (p := ⟨vb, 5, none⟩) (.inr hwv) (.int .i64 (p5).1)
 clear KQ cv gv hV5 hr5 hk5 g0 hVn
 generalize w5.setCell ⟨vb, 5, none⟩ (.int .i64 (p5).1) = w6 at *
 have g0 : w6.cell? ⟨fb, 5, none⟩ = some (.bool f6) := Blk.cell hF rfl
 have KQ := Lib.hid (popt_i f6 2000 (by decide) (by decide) hr)
 have hb6 := ro_bd f6 2000 p5.2 (by decide)
 generalize hp : ro f6 2000 p5.2 = p6 at *
 have HP6 := Lib.hid hp
 clear hp
 obtain ⟨z6, hz6⟩ : ∃ z : Nat, p6.1 = z := ⟨p6.1.toNat, by omega⟩
 rw [hz6] at KQ
 have KB := Lib.hid (fun (w' : World) (h : Rb 65 w' b p6.2) => byt_any z6 (by omega) h)
 generalize hp : rt z6 p6.2 = p7 at *
 have HP7 : Hid (rt p6.1.toNat p6.2 = p7) := Lib.hid (by rw [hz6, Int.toNat_natCast]; exact hp)
 clear hp hz6 hb6
 go_upto_region 12 with (first | (go_at_call 28; refine KQ.out.mono ?_; rintro e w4 ⟨rfl, hr4, hk4⟩; have KB4 := Lib.hid (KB.out w4 hr4)) | (go_at_call 51; refine KB4.out.mono ?_; rintro e w5 ⟨rfl, hr5, hk5'⟩; have hk5 := hk4.trans hk5'; have hV5 := Blk.keep hV hk5 hnv; have cv := Blk.cell hV5 (i := 6) rfl; have gv := Blk.free hV5 6))
 clear hr4 KB4
 have hVn : Blk (w5.setCell ⟨vb, 6, none⟩ (.string p7.1)) vb [.int .i64 k, .int .i64 p1.1, .int .i64 p2.1, .int .u64 p3.1, .bool b4, .int .i64 p5.1, .string p7.1, .slice none 0 0] 31 := Blk.set hV5 6 _
 clear hk5' hk4 KB
 replace hV := hVn
 replace hr := Rb.setc hr5 hbv 6 (.string p7.1)
 replace hF := Blk.set_ne (Blk.keep hF hk5 hnf) ⟨vb, 6, none⟩ (Ne.symm hfv) (.string p7.1)
 replace hC := Blk.set_ne (Blk.keep hC hk5 hnc) ⟨vb, 6, none⟩ (Ne.symm hcv') (.string p7.1)
 replace hK := (hK.trans hk5).setCell (p := ⟨vb, 6, none⟩) (.inr hwv) (.string p7.1)
 clear KQ cv gv hV5 hr5 hk5 g0 hVn
 generalize w5.setCell ⟨vb, 6, none⟩ (.string p7.1) = w6 at *
 have g0 : w6.cell? ⟨fb, 3, none⟩ = some (.bool f4) := Blk.cell hF rfl
 have KQ := Lib.hid (popt_i f4 16 (by decide) (by decide) hr)
 have hb8 := ro_bd f4 16 p7.2 (by decide)
 generalize hp : ro f4 16 p7.2 = p8 at *
 have HP8 := Lib.hid hp
 clear hp
 obtain ⟨z8, hz8⟩ : ∃ z : Nat, p8.1 = z := ⟨p8.1.toNat, by omega⟩
 rw [hz8] at KQ hb8
 have HZ8 := Lib.hid hz8
 clear hz8
 have HRE : Hid (re x = (⟨k, p1.1, p2.1, p3.1, b4, p5.1, p7.1, (itl ra p8.2 z8).1⟩, (itl ra p8.2 z8).2)) := Lib.hid (by
  unfold re
  rw [HP0.out, HX1.out]
  unfold ref
  simp only
  rw [HFK.out]
  simp only
  rw [Hp1.out, Hp2.out, HP3.out, HP4.out, Hp5.out, HP6.out, HP7.out, HP8.out, HZ8.out, Int.toNat_natCast, ← HB4.out]
  rfl)
 clear HP0 HX1 HFK Hp1 Hp2 HP3 HP4 Hp5 HP6 HP7 HP8 HB4 HZ8 hF hfv hnf
 obtain ⟨i0, hiA, hzA, hsA, _⟩ := info_parts infoA
 have HIA := Lib.hid hiA
 have HZA := Lib.hid hzA
 have HSA := Lib.hid hsA
 clear hiA hzA hsA
 go_wp2_with (go_at_call 28; refine KQ.out.mono ?_; rintro e w5 ⟨rfl, hr5, hk5⟩)
 replace hV := Blk.keep hV hk5 hnv
 replace hC := Blk.keep hC hk5 hnc
 replace hK := hK.trans hk5
 have HV := Lib.hid hV
 have HC := Lib.hid hC
 have HK := Lib.hid hK
 have HR := Lib.hid hr5
 clear hV hC hK hr hr5 hk5 g0 KQ
 go_loopw [56] (fun i wr => ∃ (j : Nat) (sl : Value), i = .int .i64 j /\ j <= z8 /\ Rb 65 wr b (itl ra p8.2 j).2 /\ Blk wr vb [.int .i64 k, .int .i64 p1.1, .int .i64 p2.1, .int .u64 p3.1, .bool b4, .int .i64 p5.1, .string p7.1, sl] 31 /\ OAd cb sl (itl ra p8.2 j).1 wr /\ Blk wr cb [.int .i64 0, .int .i64 0, .int .i64 0, .int .u64 0, .bool false, .int .i64 0, .string ⟨#[]⟩, .slice none 0 0] 31 /\ Keep [b] w wr) (fun i _ => z8 - (intOf i).toNat)
 case atStart => exact ⟨0, .slice none 0 0, rfl, Nat.zero_le _, HR.out, HV.out, OAd.nil _ _, HC.out, HK.out⟩
 case round =>
  obtain ⟨j, sl, rfl, hj, hr, hV, hO, hC, hK⟩ := hrel
  clear HV HC HK HR
  by_cases hlt : j < z8
  ·have hlt' : (j : Int) < z8 := by omega
   have hj1 : IntKind.i64.wrap ((j : Int) + 1) = ((j + 1 : Nat) : Int) := by rw [IntWalk.i64_in _ (by omega)]; omega
   have hll := itl_len ra p8.2 j
   have HIT : Hid (itl ra p8.2 (j + 1) = ((itl ra p8.2 j).1 ++ [(ra (itl ra p8.2 j).2).1], (ra (itl ra p8.2 j).2).2)) := Lib.hid rfl
   generalize itl ra p8.2 j = it at *
   have hokq := okA_ra it.2
   go_upto_region 14 with fail
   refine wp_region_rgh (fun w' => w'.cell? ⟨vb, 7, none⟩ = some sl) [3, 4, 5, 7] [7] [0, 1, 2, 3, 4, 5, 6, 7] (by kernel_rfl) (by kernel_rfl) (Blk.cell hV rfl) ?_
   replace hr : Rb 65 wr.drew b it.2 := hr.ext (Ext.refl wr).drew
   replace hV := Blk.drew hV
   replace hC := Blk.drew hC
   replace hO := hO.ext (Ext.refl wr).drew
   replace hK := hK.drew
   generalize wr.drew = wa at *
   have KA := Lib.hid (paddr_any hr)
   generalize ra it.2 = q at *
   first
    | (apply goH_skip rfl rfl (by rfl))
    | (apply goH_val _ rfl rfl (by rfl); · (intro w hSw; go_simp; try with_reducible rfl))
   try simp only [aput, List.set]
   first
    | (apply goH_skip rfl rfl (by rfl))
    | (apply goH_val sl rfl rfl (by rfl); · (intro w hSw; have c0 := (fun (w' : World) (h : w'.cell? ⟨vb, 7, none⟩ = some sl) => h) w hSw; go_simp))
   try simp only [aput, List.set]
   first
    | (apply goH_skip rfl rfl (by rfl))
    | (apply goH_val _ rfl rfl (by rfl); · (intro w hSw; go_simp; try with_reducible rfl))
   try simp only [aput, List.set]
   apply goH_eff rfl rfl
   go_wp2_with (go_at_call 52; refine KA.out.mono ?_; rintro e w5 ⟨rfl, hr5, hk5⟩)
   replace hV := Blk.keep hV hk5 hnv
   replace hC := Blk.keep hC hk5 hnc
   replace hO := hO.keep hk5 hbl
   replace hK := hK.trans hk5
   clear hr hk5 KA
   refine ⟨rfl, rfl, .inr (Blk.cell hV rfl), ?_⟩
   apply goH_eff rfl rfl
   refine wpList_slit rfl 29 72 _ rfl rfl Tryz.underlying29 HIA.out HZA.out (by rw [HSA.out, ac_size hokq]) (by rw [ac_size hokq]; decide) (by rw [ac_size hokq]; decide) ?_
   have hxl := (Ext.refl w5).alloc (.cells (ac q.1) 72)
   have hL := Blk.new w5 (ac q.1) 72
   replace hV := Blk.ext hV hxl
   replace hC := Blk.ext hC hxl
   replace hO := hO.ext hxl
   replace hr5 := Rb.ext hr5 hxl
   replace hK := hK.trans (hxl.keep [b])
   clear hxl
   generalize w5.alloc (.cells (ac q.1) 72) = w6 at *
   generalize w5.heap.size = lb at *
   refine effQ_end rfl (.inr (Blk.cell hV rfl)) ?_
   apply goH_eff rfl rfl
   refine wpList_apA rfl _ _ rfl hO rfl hokq hL rfl (by omega) (by have := Blk.lt hC; omega) ?_
   intro v7 w7 hO7 hg7
   replace hV := Blk.grownS hO.1 hV (by decide) hg7
   replace hC := Blk.grownS hO.1 hC (by decide) hg7
   replace hr5 := Rb.grownS hO.1 hr5 (by decide) hg7
   replace hK := Keep.grown hK hg7 (fun g hg => Nat.le_trans hwc (hO.1.lt g hg).1)
   clear hO hg7 hL
   obtain ⟨a7, c7, rfl⟩ := own_sl hO7.1
   have hlen : (it.1 ++ [q.1]).length = j + 1 := by rw [List.length_append, hll]; rfl
   rw [hlen] at hO7 ⊢
   refine effQ_end rfl (.inr (Blk.cell hV rfl)) ?_
   first
    | (apply goH_skip rfl rfl (by rfl))
    | (apply goH_val _ rfl rfl (by rfl); · (intro w hSw; go_simp; try with_reducible rfl))
   try simp only [aput, List.set]
   have cv := Blk.cell hV (i := 7) rfl
   have gv := Blk.free hV 7
   apply goH_eff rfl rfl
   go_wp2
   refine ⟨rfl, rfl, .inl rfl, ?_⟩
   unfold goH
   go_wp2_with fail
   refine ⟨⟨j + 1, _, by go_num, by omega, ?_, Blk.set hV 7 _, ?_, Blk.set_ne hC ⟨vb, 7, none⟩ (Ne.symm hcv') _, hK.setCell (p := ⟨vb, 7, none⟩) (.inr hwv) _⟩, ?_⟩
   ·rw [HIT.out]; exact Rb.setc hr5 hbv 7 _
   ·rw [HIT.out]; exact hO7.setc hV (by decide) 7 _
   ·simp [intOf]; omega
  ·obtain rfl : j = z8 := by omega
   generalize itl ra p8.2 j = it at *
   obtain ⟨sa, sn, sc, rfl⟩ : ∃ a n c, sl = .slice a n c := by obtain ⟨a, c, h⟩ := own_sl hO.1; exact ⟨a, _, c, h⟩
   go_wp2_with (first | refine wpList_loadS (cs := evl ⟨k, p1.1, p2.1, p3.1, b4, p5.1, p7.1, it.1⟩ (.slice sa sn sc)) Tryz.underlying31 info_Ev rfl _ rfl (Blk.all8 hV) rfl ?_ | refine wpList_storeS (cs := evl ⟨k, p1.1, p2.1, p3.1, b4, p5.1, p7.1, it.1⟩ (.slice sa sn sc)) (z := [.int .i64 0, .int .i64 0, .int .i64 0, .int .u64 0, .bool false, .int .i64 0, .string ⟨#[]⟩, .slice none 0 0]) (c := cb) info_Ev rfl _ _ rfl rfl (evl_one _ _ _ _) hC rfl rfl ?_)
   have hC' := Blk.row hC (evl ⟨k, p1.1, p2.1, p3.1, b4, p5.1, p7.1, it.1⟩ (.slice sa sn sc)).toArray
   refine bodyPost_ret (res_c1 (cs := evl ⟨k, p1.1, p2.1, p3.1, b4, p5.1, p7.1, it.1⟩ (.slice sa sn sc)) Tryz.underlying31 info_Ev rfl rfl hC') rfl ⟨.slice sa sn sc, ?_, ?_, ?_, hK.set1 hwc _⟩
   ·rw [HRE.out]
   ·rw [HRE.out, ← HCB.out]; exact (hO.rowk hC (by decide) _).ads
   ·rw [HRE.out]; exact Rb.row hr (by omega) _
end Go.Proofs.YtmdlgfnibjcgmaaGreatDoor
