/-
  Several texts joined: ScY.
-/
import Derived.Test.YtmdlgfnibjcgmaaGreatDoorK15
import Derived.Test.YtmdlgfnibjcgmaaGreatDoorK21
set_option maxHeartbeats 16000000
set_option maxRecDepth 10000
set_option linter.unusedVariables false
set_option linter.unusedSimpArgs false
namespace Go.Proofs.YtmdlgfnibjcgmaaGreatDoor
open Go.RowKit
theorem rt_zero (x : St) : rt 0 x = (⟨#[]⟩, x) := by
 cases x with
 | error c => rfl
 | ok s =>
  have e : rt 0 (.ok s) = (s.extract 0 0, .ok (s.extract 0 s.size)) := by unfold rt rdt; simp only; rw [if_neg (Nat.not_lt_zero _)]
  rw [e]
  have e1 : s.extract 0 0 = ⟨#[]⟩ := BA_ext (by rw [data_extract]; simp)
  have e2 : s.extract 0 s.size = s := BA_ext (by rw [data_extract, List.drop_zero, size_list, List.take_length])
  rw [e1, e2]
theorem okE_ads {e : Ev} (h : okE e) (l : List Adr) (hl : l.length <= 16) (ho : ∀ x ∈ l, okA x) : okE ⟨e.k, e.c, e.a, e.n, e.v6, e.r, e.d, l⟩ := by
 obtain ⟨⟨h1, h2, h3, h4, h5, _⟩, h6, _⟩ := h
 exact ⟨⟨h1, h2, h3, h4, h5, ho⟩, h6, by show l.length <= maxLen; unfold maxLen; omega⟩
def REvP (b : Nat) (x : St) (w : World) (e : Ending) (w' : World) : Prop := ∃ (q : Ev) (sl : Value), e = .returned (.agg (evl q sl).toArray) /\ okE q /\ AdsAt w.heap.size w' sl q.ads /\ Rb 114 w' b (rre x).2 /\ (∀ s, (rre x).2 = .ok s -> q = (rre x).1) /\ Keep [b] w w'
theorem rev_scr {b : Nat} {x : St} {w : World} (hr : Rb 114 w b x) :
  Calls Tryz.prog 56 #[.pointer (some ⟨b, 0, none⟩)] w (REvP b x w) := by
 have hbl := hr.lt
 unfold REvP
 have KP := Lib.hid (fun (w' : World) (h : Ext w w') => runum_i 1 11 (by decide) (by decide) (by decide) (by decide) (hr.ext h))
 go_enter Tryz.func56, Tryz.ntmps56
 go_upto_region 1 with fail
 have hx := (Ext.refl w).alloc (.cells [.int .i64 0, .int .i64 0, .int .i64 0, .int .u64 0, .bool false, .int .i64 0, .string ⟨#[]⟩, .slice none 0 0].toArray 31)
 have hC := Blk.new w [.int .i64 0, .int .i64 0, .int .i64 0, .int .u64 0, .bool false, .int .i64 0, .string ⟨#[]⟩, .slice none 0 0].toArray 31
 change Code.wp _ _ _ _ (w.alloc (.cells [.int .i64 0, .int .i64 0, .int .i64 0, .int .u64 0, .bool false, .int .i64 0, .string ⟨#[]⟩, .slice none 0 0].toArray 31))
 have K1 := Lib.hid (KP.out _ hx)
 generalize w.alloc (.cells [.int .i64 0, .int .i64 0, .int .i64 0, .int .u64 0, .bool false, .int .i64 0, .string ⟨#[]⟩, .slice none 0 0].toArray 31) = w1 at *
 have hK := hx.keep [b]
 have hC1 := Blk.lt hC
 clear hx KP hr
 have hkb := rn_bd 1 11 x (by decide)
 have HOKE := Lib.hid (rre_ok x)
 obtain ⟨k, x1, hp0⟩ : ∃ k x1, rn 1 11 x = (k, x1) := ⟨_, _, rfl⟩
 rw [hp0] at K1 hkb
 have HP0 := Lib.hid hp0
 clear hp0
 simp only at K1 hkb
 have qk : IntKind.i64.wrap k = k := IntWalk.i64_in _ (by omega)
 go_upto_region 2 with (go_at_call 55; refine K1.out.mono ?_; rintro e w2 ⟨rfl, hr, hk2⟩)
 replace hK := hK.trans hk2
 replace hC := Blk.keep hC hk2 (by simp; omega)
 have hx2 := (Ext.refl w2).alloc (.cells #[.int .i64 k, .int .i64 0, .int .i64 0, .int .u64 0, .bool false, .int .i64 0, .string ⟨#[]⟩, .slice none 0 0] 31)
 have hV := Blk.new w2 #[.int .i64 k, .int .i64 0, .int .i64 0, .int .u64 0, .bool false, .int .i64 0, .string ⟨#[]⟩, .slice none 0 0] 31
 replace hr := Rb.ext hr hx2
 replace hC := Blk.ext hC hx2
 replace hK := hK.trans (hx2.keep [b])
 have hl2 := hk2.size
 have hvw : w1.heap.size <= w2.heap.size := hl2
 generalize w2.alloc (.cells #[.int .i64 k, .int .i64 0, .int .i64 0, .int .u64 0, .bool false, .int .i64 0, .string ⟨#[]⟩, .slice none 0 0] 31) = w3 at *
 obtain ⟨vb, hvb⟩ : ∃ n, n = w2.heap.size := ⟨_, rfl⟩
 rw [← hvb] at hV hvw ⊢
 obtain ⟨cb, hcb⟩ : ∃ n, n = w.heap.size := ⟨_, rfl⟩
 rw [← hcb] at hC hC1 hbl ⊢
 have hcv : cb < vb := by omega
 have HCB := Lib.hid hcb
 clear hx2 hk2 K1 hl2 hC1 hvw hvb hcb
 have KF := Lib.hid (fun w => rflds_any k w)
 have hVL := Blk.lt hV
 have c0 : w3.cell? ⟨vb, 0, none⟩ = some (.int .i64 k) := Blk.cell hV rfl
 generalize hfk : flds k = f at KF
 have HFK := Lib.hid hfk
 clear hfk qk hkb
 obtain ⟨f1, f2, f3, f4, f5, f6⟩ := f
 unfold rfv at KF
 simp only at KF
 go_upto_region 3 with (go_at_call 33; refine (KF.out _).mono ?_; rintro e w4 ⟨rfl, hx4⟩)
 have hx5 := hx4.alloc (.cells [.bool f1, .bool f2, .bool f3, .bool f4, .bool f5, .bool f6, .bool f4].toArray 74)
 have hF := Blk.new w4 [.bool f1, .bool f2, .bool f3, .bool f4, .bool f5, .bool f6, .bool f4].toArray 74
 change Code.wp _ _ _ _ (w4.alloc (.cells [.bool f1, .bool f2, .bool f3, .bool f4, .bool f5, .bool f6, .bool f4].toArray 74))
 have hvf : vb < w4.heap.size := Nat.lt_of_lt_of_le hVL hx4.size
 replace hr := Rb.ext hr hx5
 replace hC := Blk.ext hC hx5
 replace hV := Blk.ext hV hx5
 replace hK := hK.trans (hx5.keep [b])
 clear c0 KF hx4 hx5 hVL
 generalize w4.alloc (.cells [.bool f1, .bool f2, .bool f3, .bool f4, .bool f5, .bool f6, .bool f4].toArray 74) = wc at *
 generalize w4.heap.size = fb at *
 have hnv : vb ∉ [b] := by simp; omega
 have hnf : fb ∉ [b] := by simp; omega
 have hnc : cb ∉ [b] := by simp; omega
 have hbv : b ≠ vb := by omega
 have hfv : fb ≠ vb := by omega
 have hcv' : cb ≠ vb := by omega
 have hwv : w.heap.size <= vb := by have := HCB.out; omega
 have hwc : w.heap.size <= cb := Nat.le_of_eq HCB.out.symm
 generalize hp : ro f1 1048575 x1 = p1 at *
 have g0 : wc.cell? ⟨fb, 0, none⟩ = some (.bool f1) := Blk.cell hF rfl
 go_upto_if 15 with fail
 go_cut [] from 16 to 19 (fun wc => Rb 114 wc b (p1).2 /\ Blk wc vb [.int .i64 k, .int .i64 p1.1, .int .i64 0, .int .u64 0, .bool false, .int .i64 0, .string ⟨#[]⟩, .slice none 0 0] 31 /\ Blk wc fb [.bool f1, .bool f2, .bool f3, .bool f4, .bool f5, .bool f6, .bool f4] 74 /\ Blk wc cb [.int .i64 0, .int .i64 0, .int .i64 0, .int .u64 0, .bool false, .int .i64 0, .string ⟨#[]⟩, .slice none 0 0] 31 /\ Keep [b] w wc)
 case first =>
  have HP := Lib.hid hp
  clear hp
  cases f1 with
  | false =>
   go_wp2_with fail
   go_meet
   exact ⟨by rw [← HP.out]; exact hr, by rw [← HP.out]; exact hV, hF, hC, hK⟩
  | true =>
   have KN := Lib.hid (runum_i 0 1048575 (by decide) (by decide) (by decide) (by decide) hr)
   have hbd := rn_bd 0 1048575 x1 (by decide)
   have HP' : Hid (rn 0 1048575 x1 = p1) := Lib.hid HP.out
   rw [HP'.out] at KN hbd
   have qw : IntKind.i64.wrap (p1).1 = (p1).1 := by first | exact IntWalk.i64_in _ (by omega) | (exact absurd trivial (by omega))
   go_wp2_with (go_at_call 55; refine KN.out.mono ?_; rintro e w5 ⟨rfl, hr5, hk5⟩; have hV5 := Blk.keep hV hk5 hnv; have cv := Blk.cell hV5 (i := 1) rfl; have gv := Blk.free hV5 1)
   go_meet
   exact ⟨Rb.setc hr5 hbv 1 _, Blk.set hV5 1 (.int .i64 p1.1), Blk.set_ne (Blk.keep hF hk5 hnf) ⟨vb, 1, none⟩ (Ne.symm hfv) _, Blk.set_ne (Blk.keep hC hk5 hnc) ⟨vb, 1, none⟩ (Ne.symm hcv') _, (hK.trans hk5).setCell (p := ⟨vb, 1, none⟩) (.inr hwv) _⟩
 have Hp1 := Lib.hid hp
 clear hp g0 hr hV hF hC hK
 obtain ⟨hr, hV, hF, hC, hK⟩ := hcut
 generalize hp : ro f2 64 p1.2 = p2 at *
 have g0 : wc.cell? ⟨fb, 1, none⟩ = some (.bool f2) := Blk.cell hF rfl
 (go_step; go_step)
 go_cut [] from 20 to 25 (fun wc => Rb 114 wc b (p2).2 /\ Blk wc vb [.int .i64 k, .int .i64 p1.1, .int .i64 p2.1, .int .u64 0, .bool false, .int .i64 0, .string ⟨#[]⟩, .slice none 0 0] 31 /\ Blk wc fb [.bool f1, .bool f2, .bool f3, .bool f4, .bool f5, .bool f6, .bool f4] 74 /\ Blk wc cb [.int .i64 0, .int .i64 0, .int .i64 0, .int .u64 0, .bool false, .int .i64 0, .string ⟨#[]⟩, .slice none 0 0] 31 /\ Keep [b] w wc)
 case first =>
  have HP := Lib.hid hp
  clear hp
  cases f2 with
  | false =>
   go_wp2_with fail
   go_meet
   exact ⟨by rw [← HP.out]; exact hr, by rw [← HP.out]; exact hV, hF, hC, hK⟩
  | true =>
   have KN := Lib.hid (runum_i 0 64 (by decide) (by decide) (by decide) (by decide) hr)
   have hbd := rn_bd 0 64 p1.2 (by decide)
   have HP' : Hid (rn 0 64 p1.2 = p2) := Lib.hid HP.out
   rw [HP'.out] at KN hbd
   have qw : IntKind.i64.wrap (p2).1 = (p2).1 := by first | exact IntWalk.i64_in _ (by omega) | (exact absurd trivial (by omega))
   go_wp2_with (go_at_call 55; refine KN.out.mono ?_; rintro e w5 ⟨rfl, hr5, hk5⟩; have hV5 := Blk.keep hV hk5 hnv; have cv := Blk.cell hV5 (i := 2) rfl; have gv := Blk.free hV5 2)
   go_meet
   exact ⟨Rb.setc hr5 hbv 2 _, Blk.set hV5 2 (.int .i64 p2.1), Blk.set_ne (Blk.keep hF hk5 hnf) ⟨vb, 2, none⟩ (Ne.symm hfv) _, Blk.set_ne (Blk.keep hC hk5 hnc) ⟨vb, 2, none⟩ (Ne.symm hcv') _, (hK.trans hk5).setCell (p := ⟨vb, 2, none⟩) (.inr hwv) _⟩
 have Hp2 := Lib.hid hp
 clear hp g0 hr hV hF hC hK
 obtain ⟨hr, hV, hF, hC, hK⟩ := hcut
 generalize hp : ro f3 18446744073709551615 p2.2 = p3 at *
 have g0 : wc.cell? ⟨fb, 2, none⟩ = some (.bool f3) := Blk.cell hF rfl
 (go_step; go_step)
 go_cut [] from 26 to 30 (fun wc => Rb 114 wc b (p3).2 /\ Blk wc vb [.int .i64 k, .int .i64 p1.1, .int .i64 p2.1, .int .u64 p3.1, .bool false, .int .i64 0, .string ⟨#[]⟩, .slice none 0 0] 31 /\ Blk wc fb [.bool f1, .bool f2, .bool f3, .bool f4, .bool f5, .bool f6, .bool f4] 74 /\ Blk wc cb [.int .i64 0, .int .i64 0, .int .i64 0, .int .u64 0, .bool false, .int .i64 0, .string ⟨#[]⟩, .slice none 0 0] 31 /\ Keep [b] w wc)
 case first =>
  have HP := Lib.hid hp
  clear hp
  cases f3 with
  | false =>
   go_wp2_with fail
   go_meet
   exact ⟨by rw [← HP.out]; exact hr, by rw [← HP.out]; exact hV, hF, hC, hK⟩
  | true =>
   have KN := Lib.hid (runum_i 0 18446744073709551615 (by decide) (by decide) (by decide) (by decide) hr)
   have HP' : Hid (rn 0 18446744073709551615 p2.2 = p3) := Lib.hid HP.out
   rw [HP'.out] at KN
   go_wp2_with (go_at_call 55; refine KN.out.mono ?_; rintro e w5 ⟨rfl, hr5, hk5⟩; have hV5 := Blk.keep hV hk5 hnv; have cv := Blk.cell hV5 (i := 3) rfl; have gv := Blk.free hV5 3)
   go_meet
   exact ⟨Rb.setc hr5 hbv 3 _, Blk.set hV5 3 (.int .u64 p3.1), Blk.set_ne (Blk.keep hF hk5 hnf) ⟨vb, 3, none⟩ (Ne.symm hfv) _, Blk.set_ne (Blk.keep hC hk5 hnc) ⟨vb, 3, none⟩ (Ne.symm hcv') _, (hK.trans hk5).setCell (p := ⟨vb, 3, none⟩) (.inr hwv) _⟩
 have Hp3 := Lib.hid hp
 clear hp g0 hr hV hF hC hK
 obtain ⟨hr, hV, hF, hC, hK⟩ := hcut
 generalize hp : ro f4 1 p3.2 = p4 at *
 have g0 : wc.cell? ⟨fb, 3, none⟩ = some (.bool f4) := Blk.cell hF rfl
 (go_step; go_step)
 go_cut [] from 31 to 36 (fun wc => Rb 114 wc b (p4).2 /\ Blk wc vb [.int .i64 k, .int .i64 p1.1, .int .i64 p2.1, .int .u64 p3.1, .bool (p4.1 == 1), .int .i64 0, .string ⟨#[]⟩, .slice none 0 0] 31 /\ Blk wc fb [.bool f1, .bool f2, .bool f3, .bool f4, .bool f5, .bool f6, .bool f4] 74 /\ Blk wc cb [.int .i64 0, .int .i64 0, .int .i64 0, .int .u64 0, .bool false, .int .i64 0, .string ⟨#[]⟩, .slice none 0 0] 31 /\ Keep [b] w wc)
 case first =>
  have HP := Lib.hid hp
  clear hp
  cases f4 with
  | false =>
   go_wp2_with fail
   go_meet
   exact ⟨by rw [← HP.out]; exact hr, by rw [← HP.out]; exact hV, hF, hC, hK⟩
  | true =>
   have KN := Lib.hid (runum_i 0 1 (by decide) (by decide) (by decide) (by decide) hr)
   have HP' : Hid (rn 0 1 p3.2 = p4) := Lib.hid HP.out
   rw [HP'.out] at KN
   go_wp2_with (go_at_call 55; refine KN.out.mono ?_; rintro e w5 ⟨rfl, hr5, hk5⟩; have hV5 := Blk.keep hV hk5 hnv; have cv := Blk.cell hV5 (i := 4) rfl; have gv := Blk.free hV5 4)
   go_meet
   exact ⟨Rb.setc hr5 hbv 4 _, Blk.set hV5 4 (.bool (p4.1 == 1)), Blk.set_ne (Blk.keep hF hk5 hnf) ⟨vb, 4, none⟩ (Ne.symm hfv) _, Blk.set_ne (Blk.keep hC hk5 hnc) ⟨vb, 4, none⟩ (Ne.symm hcv') _, (hK.trans hk5).setCell (p := ⟨vb, 4, none⟩) (.inr hwv) _⟩
 have Hp4 := Lib.hid hp
 clear hp g0 hr hV hF hC hK
 obtain ⟨hr, hV, hF, hC, hK⟩ := hcut
 generalize hb4 : (p4.1 == 1) = b4 at *
 have HB4 := Lib.hid hb4
 clear hb4
 generalize hp : ro f5 255 p4.2 = p5 at *
 have g0 : wc.cell? ⟨fb, 4, none⟩ = some (.bool f5) := Blk.cell hF rfl
 (go_step; go_step)
 go_cut [] from 37 to 42 (fun wc => Rb 114 wc b (p5).2 /\ Blk wc vb [.int .i64 k, .int .i64 p1.1, .int .i64 p2.1, .int .u64 p3.1, .bool b4, .int .i64 p5.1, .string ⟨#[]⟩, .slice none 0 0] 31 /\ Blk wc fb [.bool f1, .bool f2, .bool f3, .bool f4, .bool f5, .bool f6, .bool f4] 74 /\ Blk wc cb [.int .i64 0, .int .i64 0, .int .i64 0, .int .u64 0, .bool false, .int .i64 0, .string ⟨#[]⟩, .slice none 0 0] 31 /\ Keep [b] w wc)
 case first =>
  have HP := Lib.hid hp
  clear hp
  cases f5 with
  | false =>
   go_wp2_with fail
   go_meet
   exact ⟨by rw [← HP.out]; exact hr, by rw [← HP.out]; exact hV, hF, hC, hK⟩
  | true =>
   have KN := Lib.hid (runum_i 0 255 (by decide) (by decide) (by decide) (by decide) hr)
   have hbd := rn_bd 0 255 p4.2 (by decide)
   have HP' : Hid (rn 0 255 p4.2 = p5) := Lib.hid HP.out
   rw [HP'.out] at KN hbd
   have qw : IntKind.i64.wrap (p5).1 = (p5).1 := by first | exact IntWalk.i64_in _ (by omega) | (exact absurd trivial (by omega))
   go_wp2_with (go_at_call 55; refine KN.out.mono ?_; rintro e w5 ⟨rfl, hr5, hk5⟩; have hV5 := Blk.keep hV hk5 hnv; have cv := Blk.cell hV5 (i := 5) rfl; have gv := Blk.free hV5 5)
   go_meet
   exact ⟨Rb.setc hr5 hbv 5 _, Blk.set hV5 5 (.int .i64 p5.1), Blk.set_ne (Blk.keep hF hk5 hnf) ⟨vb, 5, none⟩ (Ne.symm hfv) _, Blk.set_ne (Blk.keep hC hk5 hnc) ⟨vb, 5, none⟩ (Ne.symm hcv') _, (hK.trans hk5).setCell (p := ⟨vb, 5, none⟩) (.inr hwv) _⟩
 have Hp5 := Lib.hid hp
 clear hp g0 hr hV hF hC hK
 obtain ⟨hr, hV, hF, hC, hK⟩ := hcut
 generalize hp : ro f6 2000 p5.2 = p6 at *
 generalize hp7 : rt p6.1.toNat p6.2 = p7 at *
 have g0 : wc.cell? ⟨fb, 5, none⟩ = some (.bool f6) := Blk.cell hF rfl
 go_step
 go_step
 go_cut [] from 43 to 50 (fun wc => Rb 114 wc b p7.2 /\ Blk wc vb [.int .i64 k, .int .i64 p1.1, .int .i64 p2.1, .int .u64 p3.1, .bool b4, .int .i64 p5.1, .string p7.1, .slice none 0 0] 31 /\ Blk wc fb [.bool f1, .bool f2, .bool f3, .bool f4, .bool f5, .bool f6, .bool f4] 74 /\ Blk wc cb [.int .i64 0, .int .i64 0, .int .i64 0, .int .u64 0, .bool false, .int .i64 0, .string ⟨#[]⟩, .slice none 0 0] 31 /\ Keep [b] w wc)
 case first =>
  have HP := Lib.hid hp
  have HP7 := Lib.hid hp7
  clear hp hp7
  cases f6 with
  | false =>
   have HPZ : Hid (p7 = (⟨#[]⟩, p5.2)) := Lib.hid (by rw [← HP7.out, ← HP.out]; exact rt_zero p5.2)
   go_wp2_with fail
   go_meet
   exact ⟨by rw [HPZ.out]; exact hr, by rw [HPZ.out]; exact hV, hF, hC, hK⟩
  | true =>
   have KN := Lib.hid (runum_i 0 2000 (by decide) (by decide) (by decide) (by decide) hr)
   have hbd := rn_bd 0 2000 p5.2 (by decide)
   have HP' : Hid (rn 0 2000 p5.2 = p6) := Lib.hid HP.out
   rw [HP'.out] at KN hbd
   obtain ⟨z6, hz6⟩ : ∃ z : Nat, p6.1 = z := ⟨p6.1.toNat, by omega⟩
   rw [hz6] at KN
   have KB := Lib.hid (fun (w' : World) (h : Rb 114 w' b p6.2) => rtxt_any z6 (by omega) h)
   have hq7 : rt z6 p6.2 = p7 := by rw [← HP7.out, hz6, Int.toNat_natCast]
   have HQ7 := Lib.hid hq7
   rw [hq7] at KB
   have qw : IntKind.i64.wrap (z6 : Int) = (z6 : Int) := IntWalk.i64_in _ (by omega)
   clear hz6 hbd hq7
   go_wp2_with (first | (go_at_call 55; refine KN.out.mono ?_; rintro e w4 ⟨rfl, hr4, hk4⟩; have KB4 := Lib.hid (KB.out w4 hr4)) | (go_at_call 70; refine KB4.out.mono ?_; rintro e w5 ⟨rfl, hr5, hk5'⟩; have hk5 := hk4.trans hk5'; have hV5 := Blk.keep hV hk5 hnv; have cv := Blk.cell hV5 (i := 6) rfl; have gv := Blk.free hV5 6))
   go_meet
   exact ⟨Rb.setc hr5 hbv 6 _, Blk.set hV5 6 (.string p7.1), Blk.set_ne (Blk.keep hF hk5 hnf) ⟨vb, 6, none⟩ (Ne.symm hfv) _, Blk.set_ne (Blk.keep hC hk5 hnc) ⟨vb, 6, none⟩ (Ne.symm hcv') _, (hK.trans hk5).setCell (p := ⟨vb, 6, none⟩) (.inr hwv) _⟩
 have HP6 := Lib.hid hp
 have HP7 := Lib.hid hp7
 clear hp hp7 g0 hr hV hF hC hK
 obtain ⟨hr, hV, hF, hC, hK⟩ := hcut
 have g0 : wc.cell? ⟨fb, 6, none⟩ = some (.bool f4) := Blk.cell hF rfl
 have hb8 := ro_bd f4 16 p7.2 (by decide)
 obtain ⟨p8, hp8⟩ : ∃ p8, ro f4 16 p7.2 = p8 := ⟨_, rfl⟩
 have HP8 := Lib.hid hp8
 rw [hp8] at hb8
 obtain ⟨z8, hz8⟩ : ∃ z : Nat, p8.1 = z := ⟨p8.1.toNat, by omega⟩
 rw [hz8] at hb8
 have HZ8 := Lib.hid hz8
 have HRE : Hid (rre x = (⟨k, p1.1, p2.1, p3.1, b4, p5.1, p7.1, (itl rra p8.2 z8).1⟩, (itl rra p8.2 z8).2)) := Lib.hid (by
  unfold rre
  rw [HP0.out]
  unfold ref
  simp only
  rw [HFK.out]
  simp only
  rw [Hp1.out, Hp2.out, Hp3.out, Hp4.out, Hp5.out, HP6.out, HP7.out, HP8.out, HZ8.out, Int.toNat_natCast, ← HB4.out]
  rfl)
 rw [HRE.out] at HOKE
 clear HP0 HFK Hp1 Hp2 Hp3 Hp4 Hp5 HP6 HP7 HB4 hF hfv hnf hp8 hz8
 cases f4 with
 | false =>
  have hz : p8 = (0, p7.2) := by rw [← HP8.out]; rfl
  subst hz
  have hz0 : z8 = 0 := by have := HZ8.out; simp only at this; omega
  subst hz0
  clear HP8 HZ8
  go_wp2_with (first | refine wpList_loadS (cs := evl ⟨k, p1.1, p2.1, p3.1, b4, p5.1, p7.1, []⟩ (.slice none 0 0)) Tryz.underlying31 info_Ev rfl _ rfl (Blk.all8 hV) rfl ?_ | refine wpList_storeS (cs := evl ⟨k, p1.1, p2.1, p3.1, b4, p5.1, p7.1, []⟩ (.slice none 0 0)) (z := [.int .i64 0, .int .i64 0, .int .i64 0, .int .u64 0, .bool false, .int .i64 0, .string ⟨#[]⟩, .slice none 0 0]) (c := cb) info_Ev rfl _ _ rfl rfl (evl_one _ _ _ _) hC rfl rfl ?_)
  have hC' := Blk.row hC (evl ⟨k, p1.1, p2.1, p3.1, b4, p5.1, p7.1, []⟩ (.slice none 0 0)).toArray
  refine bodyPost_ret (res_c1 (cs := evl ⟨k, p1.1, p2.1, p3.1, b4, p5.1, p7.1, []⟩ (.slice none 0 0)) Tryz.underlying31 info_Ev rfl rfl hC') rfl ⟨⟨k, p1.1, p2.1, p3.1, b4, p5.1, p7.1, []⟩, (.slice none 0 0), rfl, ?_, ?_, ?_, ?_, hK.set1 hwc _⟩
  ·exact HOKE.out
  ·rw [← HCB.out]; exact (OAd.nil cb _).ads
  ·rw [HRE.out]; exact Rb.row hr (by omega) _
  ·intro s _; rw [HRE.out]; rfl
 | true =>
  have KN := Lib.hid (runum_i 0 16 (by decide) (by decide) (by decide) (by decide) hr)
  have HP' : Hid (rn 0 16 p7.2 = p8) := Lib.hid HP8.out
  rw [HP'.out, HZ8.out] at KN
  have qw : IntKind.i64.wrap (z8 : Int) = (z8 : Int) := IntWalk.i64_in _ (by omega)
  obtain ⟨i0, hiA, hzA, hsA, _⟩ := info_parts infoA
  have HIA := Lib.hid hiA
  have HZA := Lib.hid hzA
  have HSA := Lib.hid hsA
  clear hiA hzA hsA HP8 HP' HZ8 hr
  go_wp2_with (go_at_call 55; refine KN.out.mono ?_; rintro e w5 ⟨rfl, hr5, hk5⟩)
  replace hV := Blk.keep hV hk5 hnv
  replace hC := Blk.keep hC hk5 hnc
  replace hK := hK.trans hk5
  have HV := Lib.hid hV
  have HC := Lib.hid hC
  have HK := Lib.hid hK
  have HR := Lib.hid hr5
  clear hV hC hK hr5 hk5 g0 KN qw
  go_loopw [6] (fun i wr => ∃ (j : Nat) (sl : Value), i = .int .i64 j /\ j <= z8 /\ Rb 114 wr b (itl rra p8.2 j).2 /\ Blk wr vb [.int .i64 k, .int .i64 p1.1, .int .i64 p2.1, .int .u64 p3.1, .bool b4, .int .i64 p5.1, .string p7.1, sl] 31 /\ OAd cb sl (itl rra p8.2 j).1 wr /\ Blk wr cb [.int .i64 0, .int .i64 0, .int .i64 0, .int .u64 0, .bool false, .int .i64 0, .string ⟨#[]⟩, .slice none 0 0] 31 /\ Keep [b] w wr) (fun i _ => z8 - (intOf i).toNat)
  case atStart => exact ⟨0, .slice none 0 0, rfl, Nat.zero_le _, HR.out, HV.out, OAd.nil _ _, HC.out, HK.out⟩
  case round =>
   obtain ⟨j, sl, rfl, hj, hr, hV, hO, hC, hK⟩ := hrel
   clear HV HC HK HR
   have hll := itl_len rra p8.2 j
   by_cases hlt : j < z8
   ·have hlt' : (j : Int) < z8 := by omega
    have HMORE : Hid (∀ c, (itl rra p8.2 j).2 = .error c -> (itl rra p8.2 z8).2 = .error c) := Lib.hid (fun c h => by
     have := itl_more rra_stays p8.2 c j h (z8 - j)
     rw [show j + (z8 - j) = z8 by omega] at this
     exact this)
    cases hst : (itl rra p8.2 j).2 with
    | error c =>
     have HS8 : Hid ((itl rra p8.2 z8).2 = .error c) := Lib.hid (HMORE.out c hst)
     rw [hst] at hr
     clear hst HMORE
     generalize itl rra p8.2 j = it at *
     generalize itl rra p8.2 z8 = iz at *
     have hr4 := hr
     obtain ⟨hc0, s3, hb3⟩ := hr4
     have c1 := hb3.cell (i := 1) rfl
     have q1 : (c == 0) = false := by simp [hc0]
     clear hc0 hb3
     obtain ⟨sa, sn, sc, rfl⟩ : ∃ a n c, sl = .slice a n c := by obtain ⟨a, c, h⟩ := own_sl hO.1; exact ⟨a, _, c, h⟩
     go_upto_region 21 with fail
     clear c1 q1
     go_wp2_with (first | refine wpList_loadS (cs := evl ⟨k, p1.1, p2.1, p3.1, b4, p5.1, p7.1, it.1⟩ (.slice sa sn sc)) Tryz.underlying31 info_Ev rfl _ rfl (Blk.all8 hV) rfl ?_ | refine wpList_storeS (cs := evl ⟨k, p1.1, p2.1, p3.1, b4, p5.1, p7.1, it.1⟩ (.slice sa sn sc)) (z := [.int .i64 0, .int .i64 0, .int .i64 0, .int .u64 0, .bool false, .int .i64 0, .string ⟨#[]⟩, .slice none 0 0]) (c := cb) info_Ev rfl _ _ rfl rfl (evl_one _ _ _ _) hC rfl rfl ?_)
     have hC' := Blk.row hC (evl ⟨k, p1.1, p2.1, p3.1, b4, p5.1, p7.1, it.1⟩ (.slice sa sn sc)).toArray
     refine bodyPost_ret (res_c1 (cs := evl ⟨k, p1.1, p2.1, p3.1, b4, p5.1, p7.1, it.1⟩ (.slice sa sn sc)) Tryz.underlying31 info_Ev rfl rfl hC') rfl ⟨⟨k, p1.1, p2.1, p3.1, b4, p5.1, p7.1, it.1⟩, (.slice sa sn sc), rfl, ?_, ?_, ?_, ?_, hK.set1 hwc _⟩
     ·exact okE_ads HOKE.out it.1 (by omega) hO.2
     ·rw [← HCB.out]; exact (hO.rowk hC (by decide) _).ads
     ·rw [HRE.out]; show Rb _ _ _ iz.2; rw [HS8.out]; exact Rb.row hr (by omega) _
     ·intro s h; rw [HRE.out] at h; rw [show iz.2 = .error c from HS8.out] at h; cases h
    | ok s1 =>
     have hj1 : IntKind.i64.wrap ((j : Int) + 1) = ((j + 1 : Nat) : Int) := by rw [IntWalk.i64_in _ (by omega)]; omega
     have HIT : Hid (itl rra p8.2 (j + 1) = ((itl rra p8.2 j).1 ++ [(rra (itl rra p8.2 j).2).1], (rra (itl rra p8.2 j).2).2)) := Lib.hid rfl
     have c1 : wr.cell? ⟨b, 1, none⟩ = some (.int .i64 0) := by rw [hst] at hr; exact Blk.cell (show Blk wr b [.string s1, .int .i64 0] 114 from hr) rfl
     clear hst HMORE
     generalize itl rra p8.2 j = it at *
     have hokq := okA_rra it.2
     go_upto_region 20 with fail
     clear c1
     refine wp_region_rgh (fun w' => w'.cell? ⟨vb, 7, none⟩ = some sl) [3, 4, 5, 7] [7] [0, 1, 2, 3, 4, 5, 6, 7] (by kernel_rfl) (by kernel_rfl) (Blk.cell hV rfl) ?_
     replace hr : Rb 114 wr.drew b it.2 := hr.ext (Ext.refl wr).drew
     replace hV := Blk.drew hV
     replace hC := Blk.drew hC
     replace hO := hO.ext (Ext.refl wr).drew
     replace hK := hK.drew
     generalize wr.drew = wa at *
     have KA := Lib.hid (raddr_any hr)
     generalize rra it.2 = q at *
     first
      | (apply goH_skip rfl rfl (by rfl))
      | (apply goH_val _ rfl rfl (by rfl); · (intro w hSw; go_simp; try with_reducible rfl))
     try simp only [aput, List.set]
     first
      | (apply goH_skip rfl rfl (by rfl))
      | (apply goH_val sl rfl rfl (by rfl); · (intro w hSw; have c0 := (fun (w' : World) (h : w'.cell? ⟨vb, 7, none⟩ = some sl) => h) w hSw; go_simp))
     try simp only [aput, List.set]
     first
      | (apply goH_skip rfl rfl (by rfl))
      | (apply goH_val _ rfl rfl (by rfl); · (intro w hSw; go_simp; try with_reducible rfl))
     try simp only [aput, List.set]
     apply goH_eff rfl rfl
     go_wp2_with (go_at_call 71; refine KA.out.mono ?_; rintro e w5 ⟨rfl, hr5, hk5⟩)
     replace hV := Blk.keep hV hk5 hnv
     replace hC := Blk.keep hC hk5 hnc
     replace hO := hO.keep hk5 hbl
     replace hK := hK.trans hk5
     clear hr hk5 KA
     refine ⟨rfl, rfl, .inr (Blk.cell hV rfl), ?_⟩
     apply goH_eff rfl rfl
     refine wpList_slit rfl 29 72 _ rfl rfl Tryz.underlying29 HIA.out HZA.out (by rw [HSA.out, ac_size hokq]) (by rw [ac_size hokq]; decide) (by rw [ac_size hokq]; decide) ?_
     have hxl := (Ext.refl w5).alloc (.cells (ac q.1) 72)
     have hL := Blk.new w5 (ac q.1) 72
     replace hV := Blk.ext hV hxl
     replace hC := Blk.ext hC hxl
     replace hO := hO.ext hxl
     replace hr5 := Rb.ext hr5 hxl
     replace hK := hK.trans (hxl.keep [b])
     clear hxl
     generalize w5.alloc (.cells (ac q.1) 72) = w6 at *
     generalize w5.heap.size = lb at *
     refine effQ_end rfl (.inr (Blk.cell hV rfl)) ?_
     apply goH_eff rfl rfl
     refine wpList_apA rfl _ _ rfl hO rfl hokq hL rfl (by omega) (by have := Blk.lt hC; omega) ?_
     intro v7 w7 hO7 hg7
     replace hV := Blk.grownS hO.1 hV (by decide) hg7
     replace hC := Blk.grownS hO.1 hC (by decide) hg7
     replace hr5 := Rb.grownS hO.1 hr5 (by decide) hg7
     replace hK := Keep.grown hK hg7 (fun g hg => Nat.le_trans hwc (hO.1.lt g hg).1)
     clear hO hg7 hL
     obtain ⟨a7, c7, rfl⟩ := own_sl hO7.1
     have hlen : (it.1 ++ [q.1]).length = j + 1 := by rw [List.length_append, hll]; rfl
     rw [hlen] at hO7 ⊢
     refine effQ_end rfl (.inr (Blk.cell hV rfl)) ?_
     first
      | (apply goH_skip rfl rfl (by rfl))
      | (apply goH_val _ rfl rfl (by rfl); · (intro w hSw; go_simp; try with_reducible rfl))
     try simp only [aput, List.set]
     have cv := Blk.cell hV (i := 7) rfl
     have gv := Blk.free hV 7
     apply goH_eff rfl rfl
     go_wp2
     refine ⟨rfl, rfl, .inl rfl, ?_⟩
     unfold goH
     go_wp2_with fail
     refine ⟨⟨j + 1, _, by go_num, by omega, ?_, Blk.set hV 7 _, ?_, Blk.set_ne hC ⟨vb, 7, none⟩ (Ne.symm hcv') _, hK.setCell (p := ⟨vb, 7, none⟩) (.inr hwv) _⟩, ?_⟩
     ·rw [HIT.out]; exact Rb.setc hr5 hbv 7 _
     ·rw [HIT.out]; exact hO7.setc hV (by decide) 7 _
     ·simp [intOf]; omega
   ·obtain rfl : j = z8 := by omega
    have HSAME : Hid (∀ s, (itl rra p8.2 j).2 = .ok s -> True) := Lib.hid (fun _ _ => trivial)
    generalize itl rra p8.2 j = it at *
    obtain ⟨sa, sn, sc, rfl⟩ : ∃ a n c, sl = .slice a n c := by obtain ⟨a, c, h⟩ := own_sl hO.1; exact ⟨a, _, c, h⟩
    go_upto_region 21 with fail
    go_wp2_with (first | refine wpList_loadS (cs := evl ⟨k, p1.1, p2.1, p3.1, b4, p5.1, p7.1, it.1⟩ (.slice sa sn sc)) Tryz.underlying31 info_Ev rfl _ rfl (Blk.all8 hV) rfl ?_ | refine wpList_storeS (cs := evl ⟨k, p1.1, p2.1, p3.1, b4, p5.1, p7.1, it.1⟩ (.slice sa sn sc)) (z := [.int .i64 0, .int .i64 0, .int .i64 0, .int .u64 0, .bool false, .int .i64 0, .string ⟨#[]⟩, .slice none 0 0]) (c := cb) info_Ev rfl _ _ rfl rfl (evl_one _ _ _ _) hC rfl rfl ?_)
    have hC' := Blk.row hC (evl ⟨k, p1.1, p2.1, p3.1, b4, p5.1, p7.1, it.1⟩ (.slice sa sn sc)).toArray
    refine bodyPost_ret (res_c1 (cs := evl ⟨k, p1.1, p2.1, p3.1, b4, p5.1, p7.1, it.1⟩ (.slice sa sn sc)) Tryz.underlying31 info_Ev rfl rfl hC') rfl ⟨⟨k, p1.1, p2.1, p3.1, b4, p5.1, p7.1, it.1⟩, (.slice sa sn sc), rfl, ?_, ?_, ?_, ?_, hK.set1 hwc _⟩
    ·exact HOKE.out
    ·rw [← HCB.out]; exact (hO.rowk hC (by decide) _).ads
    ·rw [HRE.out]; exact Rb.row hr (by omega) _
    ·intro s _; rw [HRE.out]
end Go.Proofs.YtmdlgfnibjcgmaaGreatDoor
