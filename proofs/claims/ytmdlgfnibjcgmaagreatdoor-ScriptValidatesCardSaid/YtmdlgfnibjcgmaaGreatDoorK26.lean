/-
  Several texts joined: ScP.
-/
import Derived.Test.YtmdlgfnibjcgmaaGreatDoorK11
import Derived.Test.YtmdlgfnibjcgmaaGreatDoorK25
import Derived.Test.YtmdlgfnibjcgmaaGreatDoorK24
set_option maxHeartbeats 16000000
set_option maxRecDepth 10000
set_option linter.unusedVariables false
set_option linter.unusedSimpArgs false
namespace Go.Proofs.YtmdlgfnibjcgmaaGreatDoor
open Go.RowKit
theorem rev_any (B : Nat) (v : Value) (z : List UInt8) (ev : Ev) (sl : Value) (ho : okE ev) (hv : validE ev = true) {w0 w : World} (hA : AdsIn w0 sl ev.ads) (h0 : Ext w0 w) (hB0 : w0.heap.size <= B) (hO : Os B v z w) (hlen : z.length <= 1000000000) (hBw : B <= w.heap.size) :
  Calls Tryz.prog 23 #[v, .agg (evl ev sl).toArray] w fun e w' => ∃ v', e = .returned v' /\ Os B v' (z ++ (encE ev).data.toList) w' /\ Kt none B w w' := by
 have KF := Lib.hid (fun w => rflds_any ev.k w)
 obtain ⟨a, cap, rfl⟩ := hA.len
 obtain ⟨k, c, at_, n, v6, rs, d, ads⟩ := ev
 obtain ⟨⟨_, _, _, hnb, _, hoka⟩, _, _⟩ := ho
 simp only at hnb hoka
 unfold validE at hv
 simp only [Bool.and_eq_true, decide_eq_true_eq] at hv
 obtain ⟨⟨⟨⟨⟨⟨⟨⟨hk, hc⟩, ha⟩, hr⟩, hd⟩, hl⟩, _⟩, _⟩, _⟩ := hv
 have hc' := rng_bd (by decide) (by decide) hc
 have ha' := rng_bd (by decide) (by decide) ha
 have hrs := rng_bd (by decide) (by decide) hr
 have hd' := rng_bd (by decide) (by decide) hd
 have hl' := rng_bd (by decide) (by decide) hl
 have hads : ads.length <= 16 := by omega
 have hd0 := hd
 clear hc ha hr hd hl
 have HD0 : Hid ((flds k).2.2.2.2.2 = false -> d = ⟨#[]⟩) := Lib.hid (fun e => by
  unfold rng at hd0
  rw [e] at hd0
  simp only [Bool.false_eq_true, if_false, decide_eq_true_eq] at hd0
  have hd1 : d.size = 0 := by omega
  exact BA_ext (by have : d.data.toList.length = 0 := by rw [← size_list]; exact hd1
                   rw [List.eq_nil_of_length_eq_zero this]))
 have heq := encE_list (flds k) k c at_ n rs v6 d ads rfl
 obtain ⟨vv, hvv⟩ : ∃ vv : Int, vv = (if v6 = true then 1 else 0) := ⟨_, rfl⟩
 rw [← hvv] at heq
 have HEQ := Lib.hid heq
 have HVV := Lib.hid hvv
 clear heq hvv
 unfold evl rfv at *
 clear hd0
 simp only at *
 generalize flds k = f at *
 obtain ⟨f1, f2, f3, f4, f5, f6⟩ := f
 simp only at *
 obtain ⟨n, rfl⟩ : ∃ m : Nat, n = m := ⟨n.toNat, by omega⟩
 obtain ⟨k, rfl⟩ : ∃ m : Nat, k = m := ⟨k.toNat, by omega⟩
 obtain ⟨c, rfl⟩ : ∃ m : Nat, c = m := ⟨c.toNat, by omega⟩
 obtain ⟨at_, rfl⟩ : ∃ m : Nat, at_ = m := ⟨at_.toNat, by omega⟩
 obtain ⟨rs, rfl⟩ : ∃ m : Nat, rs = m := ⟨rs.toNat, by omega⟩
 have HA := Lib.hid (fun (w' : World) (k' : Kt none B w w') => hA.ext (num_ext _ h0 hB0 k'))
 have HLT : Hid (∀ j, (encAs (ads.take j)).data.toList.length <= 416) := Lib.hid (fun j => by
  have h1 := encAs_len (ads.take j) (fun x hx => hoka x (List.mem_of_mem_take hx))
  rw [List.length_take] at h1; omega)
 clear hA hoka h0 hB0
 have qk : IntKind.u64.wrap (k : Int) = (k : Int) := by rw [IntKind.wrap_u64]; omega
 have qc : IntKind.u64.wrap (c : Int) = (c : Int) := by rw [IntKind.wrap_u64]; omega
 have qa : IntKind.u64.wrap (at_ : Int) = (at_ : Int) := by rw [IntKind.wrap_u64]; omega
 have qr : IntKind.u64.wrap (rs : Int) = (rs : Int) := by rw [IntKind.wrap_u64]; omega
 have qd : IntKind.u64.wrap (d.size : Int) = (d.size : Int) := by rw [IntKind.wrap_u64]; omega
 have ql : IntKind.u64.wrap (ads.length : Int) = (ads.length : Int) := by rw [IntKind.wrap_u64]; omega
 go_enter Tryz.func23, Tryz.ntmps23
 go_upto_region 1 with fail
 have hK := Kt.alloc (Kt.refl none B w) hBw (.cells #[.int .i64 k, .int .i64 c, .int .i64 at_, .int .u64 n, .bool v6, .int .i64 rs, .string d, .slice a ads.length cap] 31)
 have hE := Blk.new w #[.int .i64 k, .int .i64 c, .int .i64 at_, .int .u64 n, .bool v6, .int .i64 rs, .string d, .slice a ads.length cap] 31
 replace hO := Os.alloc hO (.cells #[.int .i64 k, .int .i64 c, .int .i64 at_, .int .u64 n, .bool v6, .int .i64 rs, .string d, .slice a ads.length cap] 31)
 have hBc : B <= (w.alloc (.cells #[.int .i64 k, .int .i64 c, .int .i64 at_, .int .u64 n, .bool v6, .int .i64 rs, .string d, .slice a ads.length cap] 31)).heap.size := by rw [World.size_alloc]; omega
 generalize w.alloc (.cells #[.int .i64 k, .int .i64 c, .int .i64 at_, .int .u64 n, .bool v6, .int .i64 rs, .string d, .slice a ads.length cap] 31) = w1 at *
 generalize w.heap.size = eb at hE ⊢
 have c0 : w1.cell? ⟨eb, 0, none⟩ = some (.int .i64 k) := hE.cell rfl
 go_upto_region 2 with (go_at_call 33; refine (KF.out _).mono ?_; rintro e w2 ⟨rfl, hx2⟩)
 replace hE := Blk.ext hE hx2
 replace hO := Os.ext hO hx2
 replace hK := hK.trans (Kt.of_ext hx2 hBc)
 replace hBc := Nat.le_trans hBc hx2.size
 have hxa := (Ext.refl w2).alloc (.cells #[.bool f1, .bool f2, .bool f3, .bool f4, .bool f5, .bool f6, .bool f4] 74)
 have hF := Blk.new w2 #[.bool f1, .bool f2, .bool f3, .bool f4, .bool f5, .bool f6, .bool f4] 74
 replace hE := Blk.ext hE hxa
 replace hO := Os.ext hO hxa
 replace hK := hK.trans (Kt.of_ext hxa hBc)
 replace hBc := Nat.le_trans hBc hxa.size
 clear c0 KF hx2 hxa
 generalize w2.alloc (.cells #[.bool f1, .bool f2, .bool f3, .bool f4, .bool f5, .bool f6, .bool f4] 74) = w3 at *
 generalize w2.heap.size = fb at hF ⊢
 have HE3 := Lib.hid hE
 have HE4 := Lib.hid hE
 have HF3 := Lib.hid hF
 have HK0 := Lib.hid hK
 have hB3 := hBc
 have l0 : (uv k).data.toList.length <= 10 := uvb_lenb 9 k
 have l1 := opt_len f1 c
 have l2 := opt_len f2 at_
 have l3 := opt_len f3 n
 have l4 := opt_len f4 vv
 have l5 := opt_len f5 rs
 have l6 := opt_len f6 d.size
 have hdl : d.data.toList.length <= 2000 := by rw [← size_list]; omega
 have e0 : (w3).cell? ⟨eb, 0, none⟩ = some (.int .i64 k) := hE.cell rfl
 have e1 : (w3).cell? ⟨eb, 1, none⟩ = some (.int .i64 c) := hE.cell rfl
 have e2 : (w3).cell? ⟨eb, 2, none⟩ = some (.int .i64 at_) := hE.cell rfl
 have e3 : (w3).cell? ⟨eb, 3, none⟩ = some (.int .u64 n) := hE.cell rfl
 have e4 : (w3).cell? ⟨eb, 4, none⟩ = some (.bool v6) := hE.cell rfl
 have e5 : (w3).cell? ⟨eb, 5, none⟩ = some (.int .i64 rs) := hE.cell rfl
 have e6 : (w3).cell? ⟨eb, 6, none⟩ = some (.string d) := hE.cell rfl
 have e7 : (w3).cell? ⟨eb, 7, none⟩ = some (.slice a ads.length cap) := hE.cell rfl
 have g0 : (w3).cell? ⟨fb, 0, none⟩ = some (.bool f1) := hF.cell rfl
 have g1 : (w3).cell? ⟨fb, 1, none⟩ = some (.bool f2) := hF.cell rfl
 have g2 : (w3).cell? ⟨fb, 2, none⟩ = some (.bool f3) := hF.cell rfl
 have g3 : (w3).cell? ⟨fb, 3, none⟩ = some (.bool f4) := hF.cell rfl
 have g4 : (w3).cell? ⟨fb, 4, none⟩ = some (.bool f5) := hF.cell rfl
 have g5 : (w3).cell? ⟨fb, 5, none⟩ = some (.bool f6) := hF.cell rfl
 have g6 : (w3).cell? ⟨fb, 6, none⟩ = some (.bool f4) := hF.cell rfl
 have KQ := Lib.hid (rnum_any B v z k (by omega) w3 hO (by omega) hBc)
 go_upto_region 3 with (go_at_call 22; refine KQ.out.mono ?_; rintro e w4 ⟨v4, rfl, hO4, hK4⟩)
 clear KQ
 have hcut : Os B v4 (z ++ (uv k).data.toList) w4 /\ Kt none B w3 w4 := ⟨hO4, hK4⟩
 clear hO4 hK4
 clear e0 e1 e2 e3 e4 e5 e6 e7 g0 g1 g2 g3 g4 g5 g6
 clear hO hK hE hF hBc
 obtain ⟨hO, hK⟩ := hcut
 obtain ⟨z4, hzn⟩ : ∃ y : List UInt8, y = z ++ (uv k).data.toList := ⟨_, rfl⟩
 rw [← hzn] at hO
 have hln : z4.length <= 1000000010 := by rw [hzn, List.length_append]; omega
 have Hz4 := Lib.hid hzn
 clear hzn
 have hBc := Nat.le_trans hB3 hK.size
 have hE := Blk.kt HE3.out (by decide) (by simp) hK
 have hF := Blk.kt HF3.out (by decide) (by simp) hK
 have e0 : (w4).cell? ⟨eb, 0, none⟩ = some (.int .i64 k) := hE.cell rfl
 have e1 : (w4).cell? ⟨eb, 1, none⟩ = some (.int .i64 c) := hE.cell rfl
 have e2 : (w4).cell? ⟨eb, 2, none⟩ = some (.int .i64 at_) := hE.cell rfl
 have e3 : (w4).cell? ⟨eb, 3, none⟩ = some (.int .u64 n) := hE.cell rfl
 have e4 : (w4).cell? ⟨eb, 4, none⟩ = some (.bool v6) := hE.cell rfl
 have e5 : (w4).cell? ⟨eb, 5, none⟩ = some (.int .i64 rs) := hE.cell rfl
 have e6 : (w4).cell? ⟨eb, 6, none⟩ = some (.string d) := hE.cell rfl
 have e7 : (w4).cell? ⟨eb, 7, none⟩ = some (.slice a ads.length cap) := hE.cell rfl
 have g0 : (w4).cell? ⟨fb, 0, none⟩ = some (.bool f1) := hF.cell rfl
 have g1 : (w4).cell? ⟨fb, 1, none⟩ = some (.bool f2) := hF.cell rfl
 have g2 : (w4).cell? ⟨fb, 2, none⟩ = some (.bool f3) := hF.cell rfl
 have g3 : (w4).cell? ⟨fb, 3, none⟩ = some (.bool f4) := hF.cell rfl
 have g4 : (w4).cell? ⟨fb, 4, none⟩ = some (.bool f5) := hF.cell rfl
 have g5 : (w4).cell? ⟨fb, 5, none⟩ = some (.bool f6) := hF.cell rfl
 have g6 : (w4).cell? ⟨fb, 6, none⟩ = some (.bool f4) := hF.cell rfl
 go_upto_if 16 with fail
 go_cut [0] from 17 to 21 (fun u wc => Os B u (z4 ++ (opt f1 (c : Int)).data.toList) wc /\ Kt none B w3 wc)
 case first =>
  cases f1 with
  | false =>
   go_wp2_with fail
   go_meet
   exact ⟨by rw [show ∀ y : Int, (opt false y).data.toList = [] from fun _ => rfl, List.append_nil]; exact hO, hK⟩
  | true =>
   have KQ := Lib.hid (rnum_any B v4 z4 c (by omega) w4 hO (by omega) hBc)
   go_wp2_with (go_at_call 22; refine KQ.out.mono ?_; rintro e w5 ⟨v5, rfl, hO5, hK5⟩)
   go_meet
   exact ⟨hO5, hK.trans hK5⟩
 clear e0 e1 e2 e3 e4 e5 e6 e7 g0 g1 g2 g3 g4 g5 g6
 clear hO hK hE hF hBc
 obtain ⟨hO, hK⟩ := hcut
 obtain ⟨za, hzn⟩ : ∃ y : List UInt8, y = z4 ++ (opt f1 (c : Int)).data.toList := ⟨_, rfl⟩
 rw [← hzn] at hO
 have hln : (za).length <= 1000000020 := by rw [hzn, List.length_append]; omega
 have Hza := Lib.hid hzn
 clear hzn
 have hBc := Nat.le_trans hB3 hK.size
 have hE := Blk.kt HE3.out (by decide) (by simp) hK
 have hF := Blk.kt HF3.out (by decide) (by simp) hK
 have e0 : (wc).cell? ⟨eb, 0, none⟩ = some (.int .i64 k) := hE.cell rfl
 have e1 : (wc).cell? ⟨eb, 1, none⟩ = some (.int .i64 c) := hE.cell rfl
 have e2 : (wc).cell? ⟨eb, 2, none⟩ = some (.int .i64 at_) := hE.cell rfl
 have e3 : (wc).cell? ⟨eb, 3, none⟩ = some (.int .u64 n) := hE.cell rfl
 have e4 : (wc).cell? ⟨eb, 4, none⟩ = some (.bool v6) := hE.cell rfl
 have e5 : (wc).cell? ⟨eb, 5, none⟩ = some (.int .i64 rs) := hE.cell rfl
 have e6 : (wc).cell? ⟨eb, 6, none⟩ = some (.string d) := hE.cell rfl
 have e7 : (wc).cell? ⟨eb, 7, none⟩ = some (.slice a ads.length cap) := hE.cell rfl
 have g0 : (wc).cell? ⟨fb, 0, none⟩ = some (.bool f1) := hF.cell rfl
 have g1 : (wc).cell? ⟨fb, 1, none⟩ = some (.bool f2) := hF.cell rfl
 have g2 : (wc).cell? ⟨fb, 2, none⟩ = some (.bool f3) := hF.cell rfl
 have g3 : (wc).cell? ⟨fb, 3, none⟩ = some (.bool f4) := hF.cell rfl
 have g4 : (wc).cell? ⟨fb, 4, none⟩ = some (.bool f5) := hF.cell rfl
 have g5 : (wc).cell? ⟨fb, 5, none⟩ = some (.bool f6) := hF.cell rfl
 have g6 : (wc).cell? ⟨fb, 6, none⟩ = some (.bool f4) := hF.cell rfl
 (go_step; go_step)
 go_cut [0] from 22 to 28 (fun u wc => Os B u (za ++ (opt f2 (at_ : Int)).data.toList) wc /\ Kt none B w3 wc)
 case first =>
  cases f2 with
  | false =>
   go_wp2_with fail
   go_meet
   exact ⟨by rw [show ∀ y : Int, (opt false y).data.toList = [] from fun _ => rfl, List.append_nil]; exact hO, hK⟩
  | true =>
   have KQ := Lib.hid (rnum_any B u0 za at_ (by omega) wc hO (by omega) hBc)
   go_wp2_with (go_at_call 22; refine KQ.out.mono ?_; rintro e w5 ⟨v5, rfl, hO5, hK5⟩)
   go_meet
   exact ⟨hO5, hK.trans hK5⟩
 clear e0 e1 e2 e3 e4 e5 e6 e7 g0 g1 g2 g3 g4 g5 g6
 clear hO hK hE hF hBc
 obtain ⟨hO, hK⟩ := hcut
 obtain ⟨zb, hzn⟩ : ∃ y : List UInt8, y = za ++ (opt f2 (at_ : Int)).data.toList := ⟨_, rfl⟩
 rw [← hzn] at hO
 have hln : (zb).length <= 1000000030 := by rw [hzn, List.length_append]; omega
 have Hzb := Lib.hid hzn
 clear hzn
 have hBc := Nat.le_trans hB3 hK.size
 have hE := Blk.kt HE3.out (by decide) (by simp) hK
 have hF := Blk.kt HF3.out (by decide) (by simp) hK
 have e0 : (wc).cell? ⟨eb, 0, none⟩ = some (.int .i64 k) := hE.cell rfl
 have e1 : (wc).cell? ⟨eb, 1, none⟩ = some (.int .i64 c) := hE.cell rfl
 have e2 : (wc).cell? ⟨eb, 2, none⟩ = some (.int .i64 at_) := hE.cell rfl
 have e3 : (wc).cell? ⟨eb, 3, none⟩ = some (.int .u64 n) := hE.cell rfl
 have e4 : (wc).cell? ⟨eb, 4, none⟩ = some (.bool v6) := hE.cell rfl
 have e5 : (wc).cell? ⟨eb, 5, none⟩ = some (.int .i64 rs) := hE.cell rfl
 have e6 : (wc).cell? ⟨eb, 6, none⟩ = some (.string d) := hE.cell rfl
 have e7 : (wc).cell? ⟨eb, 7, none⟩ = some (.slice a ads.length cap) := hE.cell rfl
 have g0 : (wc).cell? ⟨fb, 0, none⟩ = some (.bool f1) := hF.cell rfl
 have g1 : (wc).cell? ⟨fb, 1, none⟩ = some (.bool f2) := hF.cell rfl
 have g2 : (wc).cell? ⟨fb, 2, none⟩ = some (.bool f3) := hF.cell rfl
 have g3 : (wc).cell? ⟨fb, 3, none⟩ = some (.bool f4) := hF.cell rfl
 have g4 : (wc).cell? ⟨fb, 4, none⟩ = some (.bool f5) := hF.cell rfl
 have g5 : (wc).cell? ⟨fb, 5, none⟩ = some (.bool f6) := hF.cell rfl
 have g6 : (wc).cell? ⟨fb, 6, none⟩ = some (.bool f4) := hF.cell rfl
 (go_step; go_step)
 go_cut [0] from 29 to 34 (fun u wc => Os B u (zb ++ (opt f3 (n : Int)).data.toList) wc /\ Kt none B w3 wc)
 case first =>
  cases f3 with
  | false =>
   go_wp2_with fail
   go_meet
   exact ⟨by rw [show ∀ y : Int, (opt false y).data.toList = [] from fun _ => rfl, List.append_nil]; exact hO, hK⟩
  | true =>
   have KQ := Lib.hid (rnum_any B u0 zb n (by omega) wc hO (by omega) hBc)
   go_wp2_with (go_at_call 22; refine KQ.out.mono ?_; rintro e w5 ⟨v5, rfl, hO5, hK5⟩)
   go_meet
   exact ⟨hO5, hK.trans hK5⟩
 clear e0 e1 e2 e3 e4 e5 e6 e7 g0 g1 g2 g3 g4 g5 g6
 clear hO hK hE hF hBc
 obtain ⟨hO, hK⟩ := hcut
 obtain ⟨zc_, hzn⟩ : ∃ y : List UInt8, y = zb ++ (opt f3 (n : Int)).data.toList := ⟨_, rfl⟩
 rw [← hzn] at hO
 have hln : (zc_).length <= 1000000040 := by rw [hzn, List.length_append]; omega
 have Hzc_ := Lib.hid hzn
 clear hzn
 have hBc := Nat.le_trans hB3 hK.size
 have hE := Blk.kt HE3.out (by decide) (by simp) hK
 have hF := Blk.kt HF3.out (by decide) (by simp) hK
 have e0 : (wc).cell? ⟨eb, 0, none⟩ = some (.int .i64 k) := hE.cell rfl
 have e1 : (wc).cell? ⟨eb, 1, none⟩ = some (.int .i64 c) := hE.cell rfl
 have e2 : (wc).cell? ⟨eb, 2, none⟩ = some (.int .i64 at_) := hE.cell rfl
 have e3 : (wc).cell? ⟨eb, 3, none⟩ = some (.int .u64 n) := hE.cell rfl
 have e4 : (wc).cell? ⟨eb, 4, none⟩ = some (.bool v6) := hE.cell rfl
 have e5 : (wc).cell? ⟨eb, 5, none⟩ = some (.int .i64 rs) := hE.cell rfl
 have e6 : (wc).cell? ⟨eb, 6, none⟩ = some (.string d) := hE.cell rfl
 have e7 : (wc).cell? ⟨eb, 7, none⟩ = some (.slice a ads.length cap) := hE.cell rfl
 have g0 : (wc).cell? ⟨fb, 0, none⟩ = some (.bool f1) := hF.cell rfl
 have g1 : (wc).cell? ⟨fb, 1, none⟩ = some (.bool f2) := hF.cell rfl
 have g2 : (wc).cell? ⟨fb, 2, none⟩ = some (.bool f3) := hF.cell rfl
 have g3 : (wc).cell? ⟨fb, 3, none⟩ = some (.bool f4) := hF.cell rfl
 have g4 : (wc).cell? ⟨fb, 4, none⟩ = some (.bool f5) := hF.cell rfl
 have g5 : (wc).cell? ⟨fb, 5, none⟩ = some (.bool f6) := hF.cell rfl
 have g6 : (wc).cell? ⟨fb, 6, none⟩ = some (.bool f4) := hF.cell rfl
 go_step
 go_step
 go_cut [0] from 35 to 46 (fun u wc => Os B u (zc_ ++ (opt f4 vv).data.toList) wc /\ Kt none B w3 wc)
 case first =>
  cases f4 with
  | false =>
   go_wp2_with fail
   go_meet
   exact ⟨by rw [show ∀ y : Int, (opt false y).data.toList = [] from fun _ => rfl, List.append_nil]; exact hO, hK⟩
  | true =>
   cases v6 with
   | false =>
    have KQ := Lib.hid (rnum_any B u0 zc_ 0 (by omega) wc hO (by omega) hBc)
    go_wp2_with (go_at_call 22; refine KQ.out.mono ?_; rintro e w5 ⟨v5, rfl, hO5, hK5⟩)
    go_meet
    exact ⟨by rw [HVV.out]; exact hO5, hK.trans hK5⟩
   | true =>
    have KQ := Lib.hid (rnum_any B u0 zc_ 1 (by omega) wc hO (by omega) hBc)
    go_wp2_with (go_at_call 22; refine KQ.out.mono ?_; rintro e w5 ⟨v5, rfl, hO5, hK5⟩)
    go_meet
    exact ⟨by rw [HVV.out]; exact hO5, hK.trans hK5⟩
 clear e0 e1 e2 e3 e4 e5 e6 e7 g0 g1 g2 g3 g4 g5 g6
 clear hO hK hE hF hBc
 obtain ⟨hO, hK⟩ := hcut
 obtain ⟨zd, hzn⟩ : ∃ y : List UInt8, y = zc_ ++ (opt f4 vv).data.toList := ⟨_, rfl⟩
 rw [← hzn] at hO
 have hln : (zd).length <= 1000000050 := by rw [hzn, List.length_append]; omega
 have Hzd := Lib.hid hzn
 clear hzn
 have hBc := Nat.le_trans hB3 hK.size
 have hE := Blk.kt HE3.out (by decide) (by simp) hK
 have hF := Blk.kt HF3.out (by decide) (by simp) hK
 have e0 : (wc).cell? ⟨eb, 0, none⟩ = some (.int .i64 k) := hE.cell rfl
 have e1 : (wc).cell? ⟨eb, 1, none⟩ = some (.int .i64 c) := hE.cell rfl
 have e2 : (wc).cell? ⟨eb, 2, none⟩ = some (.int .i64 at_) := hE.cell rfl
 have e3 : (wc).cell? ⟨eb, 3, none⟩ = some (.int .u64 n) := hE.cell rfl
 have e4 : (wc).cell? ⟨eb, 4, none⟩ = some (.bool v6) := hE.cell rfl
 have e5 : (wc).cell? ⟨eb, 5, none⟩ = some (.int .i64 rs) := hE.cell rfl
 have e6 : (wc).cell? ⟨eb, 6, none⟩ = some (.string d) := hE.cell rfl
 have e7 : (wc).cell? ⟨eb, 7, none⟩ = some (.slice a ads.length cap) := hE.cell rfl
 have g0 : (wc).cell? ⟨fb, 0, none⟩ = some (.bool f1) := hF.cell rfl
 have g1 : (wc).cell? ⟨fb, 1, none⟩ = some (.bool f2) := hF.cell rfl
 have g2 : (wc).cell? ⟨fb, 2, none⟩ = some (.bool f3) := hF.cell rfl
 have g3 : (wc).cell? ⟨fb, 3, none⟩ = some (.bool f4) := hF.cell rfl
 have g4 : (wc).cell? ⟨fb, 4, none⟩ = some (.bool f5) := hF.cell rfl
 have g5 : (wc).cell? ⟨fb, 5, none⟩ = some (.bool f6) := hF.cell rfl
 have g6 : (wc).cell? ⟨fb, 6, none⟩ = some (.bool f4) := hF.cell rfl
 (go_step; go_step)
 go_cut [0] from 47 to 53 (fun u wc => Os B u (zd ++ (opt f5 (rs : Int)).data.toList) wc /\ Kt none B w3 wc)
 case first =>
  cases f5 with
  | false =>
   go_wp2_with fail
   go_meet
   exact ⟨by rw [show ∀ y : Int, (opt false y).data.toList = [] from fun _ => rfl, List.append_nil]; exact hO, hK⟩
  | true =>
   have KQ := Lib.hid (rnum_any B u0 zd rs (by omega) wc hO (by omega) hBc)
   go_wp2_with (go_at_call 22; refine KQ.out.mono ?_; rintro e w5 ⟨v5, rfl, hO5, hK5⟩)
   go_meet
   exact ⟨hO5, hK.trans hK5⟩
 clear e0 e1 e2 e3 e4 e5 e6 e7 g0 g1 g2 g3 g4 g5 g6
 clear hO hK hE hF hBc
 obtain ⟨hO, hK⟩ := hcut
 obtain ⟨ze, hzn⟩ : ∃ y : List UInt8, y = zd ++ (opt f5 (rs : Int)).data.toList := ⟨_, rfl⟩
 rw [← hzn] at hO
 have hln : (ze).length <= 1000000060 := by rw [hzn, List.length_append]; omega
 have Hze := Lib.hid hzn
 clear hzn
 have hBc := Nat.le_trans hB3 hK.size
 have hE := Blk.kt HE3.out (by decide) (by simp) hK
 have hF := Blk.kt HF3.out (by decide) (by simp) hK
 have e0 : (wc).cell? ⟨eb, 0, none⟩ = some (.int .i64 k) := hE.cell rfl
 have e1 : (wc).cell? ⟨eb, 1, none⟩ = some (.int .i64 c) := hE.cell rfl
 have e2 : (wc).cell? ⟨eb, 2, none⟩ = some (.int .i64 at_) := hE.cell rfl
 have e3 : (wc).cell? ⟨eb, 3, none⟩ = some (.int .u64 n) := hE.cell rfl
 have e4 : (wc).cell? ⟨eb, 4, none⟩ = some (.bool v6) := hE.cell rfl
 have e5 : (wc).cell? ⟨eb, 5, none⟩ = some (.int .i64 rs) := hE.cell rfl
 have e6 : (wc).cell? ⟨eb, 6, none⟩ = some (.string d) := hE.cell rfl
 have e7 : (wc).cell? ⟨eb, 7, none⟩ = some (.slice a ads.length cap) := hE.cell rfl
 have g0 : (wc).cell? ⟨fb, 0, none⟩ = some (.bool f1) := hF.cell rfl
 have g1 : (wc).cell? ⟨fb, 1, none⟩ = some (.bool f2) := hF.cell rfl
 have g2 : (wc).cell? ⟨fb, 2, none⟩ = some (.bool f3) := hF.cell rfl
 have g3 : (wc).cell? ⟨fb, 3, none⟩ = some (.bool f4) := hF.cell rfl
 have g4 : (wc).cell? ⟨fb, 4, none⟩ = some (.bool f5) := hF.cell rfl
 have g5 : (wc).cell? ⟨fb, 5, none⟩ = some (.bool f6) := hF.cell rfl
 have g6 : (wc).cell? ⟨fb, 6, none⟩ = some (.bool f4) := hF.cell rfl
 go_step
 go_step
 go_cut [0] from 54 to 64 (fun u wc => Os B u (ze ++ ((opt f6 (d.size : Int)).data.toList ++ (if f6 then d.data.toList else []))) wc /\ Kt none B w3 wc)
 case first =>
  cases f6 with
  | false =>
   go_wp2_with fail
   go_meet
   exact ⟨by rw [show ∀ y : Int, (opt false y).data.toList = [] from fun _ => rfl]; simpa using hO, hK⟩
  | true =>
   have F6 : ∀ w' : World, Kt none B w3 w' -> w'.cell? ⟨eb, 6, none⟩ = some (.string d) := fun w' h => (Blk.kt HE3.out (by decide) (by simp) h).cell rfl
   go_upto_region 16 with fail
   refine wp_region_rge (fun w' => Kt none B w3 w') [5, 8] [0, 1, 2, 3, 4, 6, 7, 5, 8, 9] (by kernel_rfl) (by kernel_rfl) hK.drew ?_
   have hOd : Os B u0 ze wc.drew := hO
   have hBd : B <= wc.drew.heap.size := hBc
   have hKd : Kt none B w3 wc.drew := hK.drew
   clear e0 e1 e2 e3 e4 e5 e6 e7 g0 g1 g2 g3 g4 g5 g6 hO hK hE hF hBc
   generalize wc.drew = wq at *
   iterate 2
    first
     | (apply goE_skip rfl rfl (by rfl))
     | (apply goE_val _ rfl rfl (by rfl); · (intro w hSw; go_simp; try with_reducible rfl))
    try simp only [aput, List.set]
   first
    | (apply goE_skip rfl rfl (by rfl))
    | (apply goE_val (.string d) rfl rfl (by rfl); · (intro w hSw; have c0 := F6 w hSw; go_simp))
   try simp only [aput, List.set]
   iterate 3
    first
     | (apply goE_skip rfl rfl (by rfl))
     | (apply goE_val _ rfl rfl (by rfl); · (intro w hSw; go_simp; try with_reducible rfl))
    try simp only [aput, List.set]
   first
    | (apply goE_skip rfl rfl (by rfl))
    | (apply goE_val (.string d) rfl rfl (by rfl); · (intro w hSw; have c0 := F6 w hSw; go_simp))
   try simp only [aput, List.set]
   apply goE_eff rfl rfl
   have KQ := Lib.hid (rnum_any B u0 ze d.size (by omega) wq hOd (by omega) hBd)
   go_wp2_with (go_at_call 22; refine KQ.out.mono ?_; rintro e w5 ⟨v5, rfl, hO5, hK5⟩)
   have hK35 := hKd.trans hK5
   refine ⟨rfl, rfl, hK35, ?_⟩
   apply goE_eff rfl rfl
   refine wpList_apOs rfl _ _ rfl hO5 rfl rfl (by have h2 := uvb_lenb 9 d.size; unfold uv; rw [List.length_append]; omega) (Nat.le_trans hBd hK5.size) hK35 ?_
   intro v6_ w6 hO6 hK6
   refine effQ_end rfl hK6 ?_
   first
    | (apply goE_skip rfl rfl (by rfl))
    | (apply goE_val _ rfl rfl (by rfl); · (intro w hSw; go_simp; try with_reducible rfl))
   try simp only [aput, List.set]
   unfold goE
   go_wp2_with fail
   go_meet
   refine ⟨?_, hK6⟩
   simp only [if_true]
   rw [← List.append_assoc]
   exact hO6
 have l6' : ((opt f6 (d.size : Int)).data.toList ++ (if f6 then d.data.toList else [])).length <= 2020 := by
  rw [List.length_append]; split
  ·omega
  ·rw [List.length_nil]; omega
 clear e0 e1 e2 e3 e4 e5 e6 e7 g0 g1 g2 g3 g4 g5 g6
 clear hO hK hE hF hBc
 obtain ⟨hO, hK⟩ := hcut
 obtain ⟨zc, hzn⟩ : ∃ y : List UInt8, y = ze ++ ((opt f6 (d.size : Int)).data.toList ++ (if f6 then d.data.toList else [])) := ⟨_, rfl⟩
 rw [← hzn] at hO
 have hln : (zc).length <= 1000003000 := by rw [hzn, List.length_append]; omega
 have Hzc := Lib.hid hzn
 clear hzn
 have hBc := Nat.le_trans hB3 hK.size
 have hE := Blk.kt HE3.out (by decide) (by simp) hK
 have hF := Blk.kt HF3.out (by decide) (by simp) hK
 have e0 : (wc).cell? ⟨eb, 0, none⟩ = some (.int .i64 k) := hE.cell rfl
 have e1 : (wc).cell? ⟨eb, 1, none⟩ = some (.int .i64 c) := hE.cell rfl
 have e2 : (wc).cell? ⟨eb, 2, none⟩ = some (.int .i64 at_) := hE.cell rfl
 have e3 : (wc).cell? ⟨eb, 3, none⟩ = some (.int .u64 n) := hE.cell rfl
 have e4 : (wc).cell? ⟨eb, 4, none⟩ = some (.bool v6) := hE.cell rfl
 have e5 : (wc).cell? ⟨eb, 5, none⟩ = some (.int .i64 rs) := hE.cell rfl
 have e6 : (wc).cell? ⟨eb, 6, none⟩ = some (.string d) := hE.cell rfl
 have e7 : (wc).cell? ⟨eb, 7, none⟩ = some (.slice a ads.length cap) := hE.cell rfl
 have g0 : (wc).cell? ⟨fb, 0, none⟩ = some (.bool f1) := hF.cell rfl
 have g1 : (wc).cell? ⟨fb, 1, none⟩ = some (.bool f2) := hF.cell rfl
 have g2 : (wc).cell? ⟨fb, 2, none⟩ = some (.bool f3) := hF.cell rfl
 have g3 : (wc).cell? ⟨fb, 3, none⟩ = some (.bool f4) := hF.cell rfl
 have g4 : (wc).cell? ⟨fb, 4, none⟩ = some (.bool f5) := hF.cell rfl
 have g5 : (wc).cell? ⟨fb, 5, none⟩ = some (.bool f6) := hF.cell rfl
 have g6 : (wc).cell? ⟨fb, 6, none⟩ = some (.bool f4) := hF.cell rfl
 have Hall : Hid (zc = z ++ (uv k).data.toList ++ (opt f1 c).data.toList ++ (opt f2 at_).data.toList ++ (opt f3 n).data.toList ++ (opt f4 vv).data.toList ++ (opt f5 rs).data.toList ++ ((opt f6 d.size).data.toList ++ (if f6 then d.data.toList else []))) := Lib.hid (by rw [Hzc.out, Hze.out, Hzd.out, Hzc_.out, Hzb.out, Hza.out, Hz4.out])
 clear Hzc Hze Hzd Hzc_ Hzb Hza Hz4 l0 l1 l2 l3 l4 l5 l6 l6' HE3 HF3
 cases f4 with
 | false =>
  go_wp2_with fail
  go_ret
  refine ⟨u0, rfl, ?_, HK0.out.trans hK⟩
  rw [HEQ.out]
  rw [Hall.out] at hO
  simp only [Bool.false_eq_true, if_false, List.append_nil, Int.toNat_natCast]
  cases f6 with
  | false =>
   obtain rfl : d = ⟨#[]⟩ := HD0.out rfl
   simpa only [Bool.false_eq_true, if_false, List.append_nil, List.append_assoc, List.nil_append] using hO
  | true => simpa only [if_true, List.append_assoc] using hO
 | true =>
  have HEND : Hid (∀ y : List UInt8, zc ++ y = z ++ (uv k).data.toList ++ (opt f1 c).data.toList ++ (opt f2 at_).data.toList ++ (opt f3 n).data.toList ++ (opt true vv).data.toList ++ (opt f5 rs).data.toList ++ (opt f6 d.size).data.toList ++ d.data.toList ++ y) := Lib.hid (fun y => by
   rw [Hall.out]
   cases f6 with
   | false =>
    obtain rfl : d = ⟨#[]⟩ := HD0.out rfl
    simp only [Bool.false_eq_true, if_false, List.append_nil, List.append_assoc, List.nil_append]
   | true => simp only [if_true, List.append_assoc])
  have KQ := Lib.hid (rnum_any B u0 zc ads.length (by omega) wc hO (by omega) hBc)
  clear hO Hall
  go_upto_region 19 with (go_at_call 22; refine KQ.out.mono ?_; rintro e w7 ⟨v7, rfl, hO7, hK7⟩)
  have hK3 := hK.trans hK7
  have HO7 := Lib.hid hO7
  have HK3 := Lib.hid hK3
  have hll := uvb_lenb 9 ads.length
  obtain ⟨zd', hzd⟩ : ∃ y : List UInt8, y = zc ++ (uv ads.length).data.toList := ⟨_, rfl⟩
  have hzl : zd'.length <= 1000003010 := by rw [hzd, List.length_append]; unfold uv; omega
  have HO8 : Hid (Os B v7 zd' w7) := Lib.hid (by rw [hzd]; exact hO7)
  have HZD := Lib.hid hzd
  have F7 : ∀ w' : World, Kt none B w3 w' -> w'.cell? ⟨eb, 7, none⟩ = some (.slice a ads.length cap) := fun w' h => (Blk.kt HE4.out (by decide) (by simp) h).cell rfl
  have HF7 := Lib.hid F7
  clear e0 e1 e2 e3 e4 e5 e6 e7 g0 g1 g2 g3 g4 g5 g6
  clear KQ hO7 hK7 hK3 HO7 hll hzd hK hE hF hBc F7
  go_wp2_with fail
  go_loopw [0, 6] (fun u i wr => ∃ j : Nat, i = .int .i64 j /\ j <= ads.length /\ Os B u (zd' ++ (encAs (ads.take j)).data.toList) wr /\ Kt none B w3 wr) (fun _ i _ => ads.length - (intOf i).toNat)
  case atStart => exact ⟨0, rfl, Nat.zero_le _, by simpa [encAs] using HO8.out, HK3.out⟩
  case round =>
   obtain ⟨j, rfl, hj, hOr, hKr⟩ := hrel
   have hBr := Nat.le_trans hB3 hKr.size
   have c7 := HF7.out _ hKr
   clear HO8 HK3
   by_cases hlt : j < ads.length
   ·have hlt' : (j : Int) < ads.length := by omega
    obtain ⟨x, hjx⟩ : ∃ x, ads[j]? = some x := ⟨ads[j]'hlt, List.getElem?_eq_getElem hlt⟩
    obtain ⟨ab, off, rfl, hab, hokx, hrx, hcap⟩ := (HA.out _ HK0.out).get hjx
    have FC : Hid (∀ (w' : World), Kt none B w3 w' -> ∀ (q j' : Nat) (u : Value), (bcells (o8 (x.2.take q)))[j']? = some u -> w'.cell? ⟨ab, off + j * 17 + 1 + j', none⟩ = some u) := Lib.hid (fun w' h q j' u hu => by
     obtain ⟨ab', off', e', _, _, hr', _⟩ := (HA.out _ (HK0.out.trans h)).get hjx
     cases e'
     have := hr' (1 + j') u (oct_cells hokx q j' u hu)
     rw [← Nat.add_assoc] at this
     exact this)
    have F7 := HF7.out
    have HJX := Lib.hid hjx
    have cx : wr.cell? ⟨ab, off + j * 17, none⟩ = some (.bool x.1) := by
     obtain ⟨ab', off', e', _, _, hr', _⟩ := (HA.out _ (HK0.out.trans hKr)).get hjx
     cases e'
     exact hr' 0 _ rfl
    clear hjx hrx
    have hj1 : IntKind.i64.wrap ((j : Int) + 1) = ((j + 1 : Nat) : Int) := by rw [IntWalk.i64_in _ (by omega)]; omega
    cases hx6v : x.1 with
    | true =>
     rw [hx6v] at cx
     go_upto_region 23 with fail
     refine wp_region_rge (fun w' => Kt none B w3 w') [1, 8] [0, 2, 3, 4, 5, 6, 7, 1, 8, 9] (by kernel_rfl) (by kernel_rfl) hKr.drew ?_
     have hOd : Os B u0 (zd' ++ (encAs (ads.take j)).data.toList) wr.drew := hOr
     have hBd : B <= wr.drew.heap.size := hBr
     have hKd : Kt none B w3 wr.drew := hKr.drew
     generalize wr.drew = wd at *
     iterate 2
      first
       | (apply goE_skip rfl rfl (by rfl))
       | (apply goE_val _ rfl rfl (by rfl); · (intro w hSw; go_simp; try with_reducible rfl))
      try simp only [aput, List.set]
     first
      | (apply goE_skip rfl rfl (by rfl))
      | (apply goE_val (.slice (some ⟨ab, off, none⟩) ads.length cap) rfl rfl (by rfl); · (intro w hSw; have c0 := F7 w hSw; go_simp))
     try simp only [aput, List.set]
     iterate 4
      first
       | (apply goE_skip rfl rfl (by rfl))
       | (apply goE_val _ rfl rfl (by rfl); · (intro w hSw; go_simp; try with_reducible rfl))
      try simp only [aput, List.set]
     apply goE_eff rfl rfl
     have KQ := Lib.hid (rnum_any B u0 (zd' ++ (encAs (ads.take j)).data.toList) 6 (by decide) wd hOd (by have := HLT.out j; rw [List.length_append]; omega) hBd)
     go_wp2_with (go_at_call 22; refine KQ.out.mono ?_; rintro e w5 ⟨v5, rfl, hO5, hK5⟩)
     have hK35 := hKd.trans hK5
     refine ⟨rfl, rfl, hK35, ?_⟩
     apply goE_eff rfl rfl
     refine wpList_apO rfl _ _ rfl hO5 rfl (ns := o8 (x.2.take 16)) (m := 16) (by rw [o8_len, List.length_take, hokx.1]; decide) (fun j' u hj' => FC.out w5 hK35 16 j' u hj') rfl (by have h1 := HLT.out j; have h2 := uvb_lenb 9 6; unfold uv; rw [List.length_append, List.length_append]; omega) (Nat.le_trans hBd hK5.size) hK35 ?_
     intro v6_ w6 hO6 hK6
     refine effQ_end rfl hK6 ?_
     first
      | (apply goE_skip rfl rfl (by rfl))
      | (apply goE_val _ rfl rfl (by rfl); · (intro w hSw; go_simp; try with_reducible rfl))
     try simp only [aput, List.set]
     unfold goE
     go_wp2_with fail
     refine ⟨⟨j + 1, by go_num, by omega, ?_, hK6⟩, ?_⟩
     ·have hjl : j < ads.length := hlt
      rw [List.take_add_one, HJX.out]
      simp only [Option.toList_some]
      rw [encAs_snoc, encA_list x hokx.1, hx6v]
      simp only [if_true, Bool.false_eq_true, if_false]
      simpa only [List.append_assoc] using hO6
     ·simp [intOf]; omega
    | false =>
     rw [hx6v] at cx
     go_upto_region 24 with fail
     refine wp_region_rge (fun w' => Kt none B w3 w') [1, 8] [0, 2, 3, 4, 5, 6, 7, 1, 8, 9] (by kernel_rfl) (by kernel_rfl) hKr.drew ?_
     have hOd : Os B u0 (zd' ++ (encAs (ads.take j)).data.toList) wr.drew := hOr
     have hBd : B <= wr.drew.heap.size := hBr
     have hKd : Kt none B w3 wr.drew := hKr.drew
     generalize wr.drew = wd at *
     iterate 2
      first
       | (apply goE_skip rfl rfl (by rfl))
       | (apply goE_val _ rfl rfl (by rfl); · (intro w hSw; go_simp; try with_reducible rfl))
      try simp only [aput, List.set]
     first
      | (apply goE_skip rfl rfl (by rfl))
      | (apply goE_val (.slice (some ⟨ab, off, none⟩) ads.length cap) rfl rfl (by rfl); · (intro w hSw; have c0 := F7 w hSw; go_simp))
     try simp only [aput, List.set]
     iterate 4
      first
       | (apply goE_skip rfl rfl (by rfl))
       | (apply goE_val _ rfl rfl (by rfl); · (intro w hSw; go_simp; try with_reducible rfl))
      try simp only [aput, List.set]
     apply goE_eff rfl rfl
     have KQ := Lib.hid (rnum_any B u0 (zd' ++ (encAs (ads.take j)).data.toList) 4 (by decide) wd hOd (by have := HLT.out j; rw [List.length_append]; omega) hBd)
     go_wp2_with (go_at_call 22; refine KQ.out.mono ?_; rintro e w5 ⟨v5, rfl, hO5, hK5⟩)
     have hK35 := hKd.trans hK5
     refine ⟨rfl, rfl, hK35, ?_⟩
     apply goE_eff rfl rfl
     refine wpList_apO rfl _ _ rfl hO5 rfl (ns := o8 (x.2.take 4)) (m := 4) (by rw [o8_len, List.length_take, hokx.1]; decide) (fun j' u hj' => FC.out w5 hK35 4 j' u hj') rfl (by have h1 := HLT.out j; have h2 := uvb_lenb 9 4; unfold uv; rw [List.length_append, List.length_append]; omega) (Nat.le_trans hBd hK5.size) hK35 ?_
     intro v6_ w6 hO6 hK6
     refine effQ_end rfl hK6 ?_
     first
      | (apply goE_skip rfl rfl (by rfl))
      | (apply goE_val _ rfl rfl (by rfl); · (intro w hSw; go_simp; try with_reducible rfl))
     try simp only [aput, List.set]
     unfold goE
     go_wp2_with fail
     refine ⟨⟨j + 1, by go_num, by omega, ?_, hK6⟩, ?_⟩
     ·have hjl : j < ads.length := hlt
      rw [List.take_add_one, HJX.out]
      simp only [Option.toList_some]
      rw [encAs_snoc, encA_list x hokx.1, hx6v]
      simp only [if_true, Bool.false_eq_true, if_false]
      simpa only [List.append_assoc] using hO6
     ·simp [intOf]; omega
   ·obtain rfl : j = ads.length := by omega
    go_wp2_with fail
    go_ret
    rw [List.take_length, HZD.out] at hOr
    refine ⟨_, rfl, ?_, HK0.out.trans hKr⟩
    rw [HEQ.out]
    simp only [if_true, Int.toNat_natCast]
    have e9 := HEND.out ((uv ads.length).data.toList ++ (encAs ads).data.toList)
    simp only [List.append_assoc] at e9 hOr ⊢
    rw [← e9]
    exact hOr
end Go.Proofs.YtmdlgfnibjcgmaaGreatDoor
