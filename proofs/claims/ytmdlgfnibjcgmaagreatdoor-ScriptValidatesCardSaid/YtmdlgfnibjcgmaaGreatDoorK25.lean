/-
  Several texts joined: ScK.
-/
import Derived.Test.YtmdlgfnibjcgmaaGreatDoorK24
set_option maxHeartbeats 16000000
set_option maxRecDepth 10000
set_option linter.unusedVariables false
set_option linter.unusedSimpArgs false
namespace Go.Proofs.YtmdlgfnibjcgmaaGreatDoor
open Go.RowKit
theorem b2i_e (p : Bool) (w : World) : Calls Tryz.prog 38 #[.bool p] w fun e w' => e = .returned (.int .i64 (if p then 1 else 0)) /\ Ext w w' :=
 (b2i_any p w).mono fun e w' h => ⟨h.1, h.2 ▸ Ext.refl _⟩
theorem rng_bd {n most : Int} {p : Bool} (hm : most <= 9223372036854775807) (h0 : 0 <= most) (h : rng n most p = true) : 0 <= n /\ n <= most := by
 unfold rng at h
 simp only [decide_eq_true_eq] at h
 cases p <;> simp at h <;> omega
theorem encE_list (f : Fl) (k c a n r : Int) (v6 : Bool) (d : ByteArray) (ads : List Adr) (hf : flds k = f) :
  (encE ⟨k, c, a, n, v6, r, d, ads⟩).data.toList = (uv k.toNat).data.toList ++ (opt f.1 c).data.toList ++ (opt f.2.1 a).data.toList ++ (opt f.2.2.1 n).data.toList ++ (opt f.2.2.2.1 (if v6 then 1 else 0)).data.toList ++ (opt f.2.2.2.2.1 r).data.toList
   ++ (opt f.2.2.2.2.2 d.size).data.toList ++ d.data.toList ++ (if f.2.2.2.1 then (uv ads.length).data.toList ++ (encAs ads).data.toList else []) := by
 subst hf
 unfold encE
 simp only [data_append]
 congr 1
 split
 ·rw [data_append]
 ·rfl
theorem opt_len (p : Bool) (n : Int) : (opt p n).data.toList.length <= 10 := by
 unfold opt
 split
 ·exact uvb_lenb 9 _
 ·exact Nat.zero_le _
theorem wev_any (B b : Nat) (z : List UInt8) (ev : Ev) (sl : Value) (ho : okE ev) (hv : validE ev = true) {w0 w : World} (hA : AdsIn w0 sl ev.ads) (h0 : Ext w0 w) (hB0 : w0.heap.size <= B) (hW : Wr B b z w) (hlen : z.length <= 1000000000) (hBw : B <= w.heap.size) :
  Calls Tryz.prog 20 #[.pointer (some ⟨b, 0, none⟩), .agg (evl ev sl).toArray] w fun e w' => e = .returned (.tuple #[]) /\ Wr B b (z ++ (encE ev).data.toList) w' /\ Kt (some b) B w w' := by
 have KF := Lib.hid (fun w => flds_any ev.k w)
 obtain ⟨a, cap, rfl⟩ := hA.len
 obtain ⟨k, c, at_, n, v6, rs, d, ads⟩ := ev
 obtain ⟨⟨_, _, _, hnb, _, _⟩, _, _⟩ := ho
 simp only at hnb
 unfold validE at hv
 simp only [Bool.and_eq_true, decide_eq_true_eq] at hv
 obtain ⟨⟨⟨⟨⟨⟨⟨⟨hk, hc⟩, ha⟩, hr⟩, hd⟩, hl⟩, _⟩, _⟩, _⟩ := hv
 have hc' := rng_bd (by decide) (by decide) hc
 have ha' := rng_bd (by decide) (by decide) ha
 have hrs := rng_bd (by decide) (by decide) hr
 have hd' := rng_bd (by decide) (by decide) hd
 have hl' := rng_bd (by decide) (by decide) hl
 have hads : ads.length <= 16 := by omega
 clear hc ha hr hd hl
 have heq := encE_list (flds k) k c at_ n rs v6 d ads rfl
 obtain ⟨vv, hvv⟩ : ∃ vv : Int, vv = (if v6 = true then 1 else 0) := ⟨_, rfl⟩
 have hv0 : 0 <= vv := by rw [hvv]; split <;> decide
 have hv1 : vv <= 1 := by rw [hvv]; split <;> decide
 have KV6 := Lib.hid (fun w => b2i_e v6 w)
 rw [← hvv] at heq KV6
 have HEQ := Lib.hid heq
 clear heq hvv
 unfold evl flv at *
 simp only at *
 have hok : decide (1 <= k /\ k <= 11) = true := by rw [decide_eq_true_eq]; exact hk
 rw [hok] at KF
 generalize flds k = f at *
 obtain ⟨f1, f2, f3, f4, f5, f6⟩ := f
 simp only at *
 obtain ⟨n, rfl⟩ : ∃ m : Nat, n = m := ⟨n.toNat, by omega⟩
 obtain ⟨k, rfl⟩ : ∃ m : Nat, k = m := ⟨k.toNat, by omega⟩
 clear hok
 have HA := Lib.hid hA
 clear hA
 have hge := Wr.lt hW
 have qk : IntKind.u64.wrap (k : Int) = (k : Int) := by rw [IntKind.wrap_u64]; omega
 go_enter Tryz.func20, Tryz.ntmps20
 go_upto_region 1 with fail
 have hK := Kt.alloc (Kt.refl (some b) B w) hBw (.cells #[.int .i64 k, .int .i64 c, .int .i64 at_, .int .u64 n, .bool v6, .int .i64 rs, .string d, .slice a ads.length cap] 31)
 have hE := Blk.new w #[.int .i64 k, .int .i64 c, .int .i64 at_, .int .u64 n, .bool v6, .int .i64 rs, .string d, .slice a ads.length cap] 31
 replace hW := Wr.alloc hW (.cells #[.int .i64 k, .int .i64 c, .int .i64 at_, .int .u64 n, .bool v6, .int .i64 rs, .string d, .slice a ads.length cap] 31)
 have hBc : B <= (w.alloc (.cells #[.int .i64 k, .int .i64 c, .int .i64 at_, .int .u64 n, .bool v6, .int .i64 rs, .string d, .slice a ads.length cap] 31)).heap.size := by rw [World.size_alloc]; omega
 generalize w.alloc (.cells #[.int .i64 k, .int .i64 c, .int .i64 at_, .int .u64 n, .bool v6, .int .i64 rs, .string d, .slice a ads.length cap] 31) = w1 at *
 have hne1 : some w.heap.size ≠ some b := by intro e; have := Option.some.inj e; omega
 generalize w.heap.size = eb at hE hne1 ⊢
 have c0 : w1.cell? ⟨eb, 0, none⟩ = some (.int .i64 k) := hE.cell rfl
 go_upto_region 2 with (go_at_call 36; refine (KF.out _).mono ?_; rintro e w2 ⟨rfl, hx2⟩)
 replace hE := Blk.ext hE hx2
 replace hW := Wr.ext hW hx2
 replace hK := hK.trans (Kt.of_ext hx2 hBc)
 replace hBc := Nat.le_trans hBc hx2.size
 have hge2 := Wr.lt hW
 have hxa := (Ext.refl w2).alloc (.cells #[.bool f1, .bool f2, .bool f3, .bool f4, .bool f5, .bool f6] 82)
 have hF := Blk.new w2 #[.bool f1, .bool f2, .bool f3, .bool f4, .bool f5, .bool f6] 82
 have hne2 : some w2.heap.size ≠ some b := by intro e; have := Option.some.inj e; omega
 replace hE := Blk.ext hE hxa
 replace hW := Wr.ext hW hxa
 replace hK := hK.trans (Kt.of_ext hxa hBc)
 replace hBc := Nat.le_trans hBc hxa.size
 clear c0 KF hge hge2 hx2 hxa
 generalize w2.alloc (.cells #[.bool f1, .bool f2, .bool f3, .bool f4, .bool f5, .bool f6] 82) = w3 at *
 generalize w2.heap.size = fb at hF hne2 ⊢
 have e0 : (w3).cell? ⟨eb, 0, none⟩ = some (.int .i64 k) := hE.cell rfl
 have e1 : (w3).cell? ⟨eb, 1, none⟩ = some (.int .i64 c) := hE.cell rfl
 have e2 : (w3).cell? ⟨eb, 2, none⟩ = some (.int .i64 at_) := hE.cell rfl
 have e3 : (w3).cell? ⟨eb, 3, none⟩ = some (.int .u64 n) := hE.cell rfl
 have e4 : (w3).cell? ⟨eb, 4, none⟩ = some (.bool v6) := hE.cell rfl
 have e5 : (w3).cell? ⟨eb, 5, none⟩ = some (.int .i64 rs) := hE.cell rfl
 have e6 : (w3).cell? ⟨eb, 6, none⟩ = some (.string d) := hE.cell rfl
 have e7 : (w3).cell? ⟨eb, 7, none⟩ = some (.slice a ads.length cap) := hE.cell rfl
 have g0 : (w3).cell? ⟨fb, 0, none⟩ = some (.bool f1) := hF.cell rfl
 have g1 : (w3).cell? ⟨fb, 1, none⟩ = some (.bool f2) := hF.cell rfl
 have g3 : (w3).cell? ⟨fb, 3, none⟩ = some (.bool f4) := hF.cell rfl
 have g4 : (w3).cell? ⟨fb, 4, none⟩ = some (.bool f5) := hF.cell rfl
 have g5 : (w3).cell? ⟨fb, 5, none⟩ = some (.bool f6) := hF.cell rfl
 have l0 : (uv k).data.toList.length <= 10 := uvb_lenb 9 k
 have l1 := opt_len f1 c
 have l2 := opt_len f2 at_
 have KQ := Lib.hid (wnum_any B b z k (by omega) w3 hW (by omega) hBc)
 go_upto_region 3 with (go_at_call 19; refine KQ.out.mono ?_; rintro e w4 ⟨rfl, hWn, hKn⟩)
 clear KQ hW
 replace hE := Blk.kt hE (by decide) hne1 hKn
 replace hF := Blk.kt hF (by decide) hne2 hKn
 replace hBc := Nat.le_trans hBc hKn.size
 replace hK := hK.trans hKn
 clear e0 e1 e2 e3 e4 e5 e6 e7 g0 g1 g3 g4 g5
 have e0 : (w4).cell? ⟨eb, 0, none⟩ = some (.int .i64 k) := hE.cell rfl
 have e1 : (w4).cell? ⟨eb, 1, none⟩ = some (.int .i64 c) := hE.cell rfl
 have e2 : (w4).cell? ⟨eb, 2, none⟩ = some (.int .i64 at_) := hE.cell rfl
 have e3 : (w4).cell? ⟨eb, 3, none⟩ = some (.int .u64 n) := hE.cell rfl
 have e4 : (w4).cell? ⟨eb, 4, none⟩ = some (.bool v6) := hE.cell rfl
 have e5 : (w4).cell? ⟨eb, 5, none⟩ = some (.int .i64 rs) := hE.cell rfl
 have e6 : (w4).cell? ⟨eb, 6, none⟩ = some (.string d) := hE.cell rfl
 have e7 : (w4).cell? ⟨eb, 7, none⟩ = some (.slice a ads.length cap) := hE.cell rfl
 have g0 : (w4).cell? ⟨fb, 0, none⟩ = some (.bool f1) := hF.cell rfl
 have g1 : (w4).cell? ⟨fb, 1, none⟩ = some (.bool f2) := hF.cell rfl
 have g3 : (w4).cell? ⟨fb, 3, none⟩ = some (.bool f4) := hF.cell rfl
 have g4 : (w4).cell? ⟨fb, 4, none⟩ = some (.bool f5) := hF.cell rfl
 have g5 : (w4).cell? ⟨fb, 5, none⟩ = some (.bool f6) := hF.cell rfl
 obtain ⟨z4, hzn⟩ : ∃ y : List UInt8, y = z ++ (uv k).data.toList := ⟨_, rfl⟩
 rw [← hzn] at hWn
 have hln : (z4).length <= 1000000010 := by rw [hzn, List.length_append]; omega
 have Hz4 := Lib.hid hzn
 have hW := hWn
 clear hzn hWn hKn
 have KQ := Lib.hid (optl_any B b z4 f1 c hc'.1 (by omega) w4 hW (by omega) hBc)
 go_upto_region 4 with (go_at_call 37; refine KQ.out.mono ?_; rintro e w5 ⟨rfl, hWn, hKn⟩)
 clear KQ hW
 replace hE := Blk.kt hE (by decide) hne1 hKn
 replace hF := Blk.kt hF (by decide) hne2 hKn
 replace hBc := Nat.le_trans hBc hKn.size
 replace hK := hK.trans hKn
 clear e0 e1 e2 e3 e4 e5 e6 e7 g0 g1 g3 g4 g5
 have e0 : (w5).cell? ⟨eb, 0, none⟩ = some (.int .i64 k) := hE.cell rfl
 have e1 : (w5).cell? ⟨eb, 1, none⟩ = some (.int .i64 c) := hE.cell rfl
 have e2 : (w5).cell? ⟨eb, 2, none⟩ = some (.int .i64 at_) := hE.cell rfl
 have e3 : (w5).cell? ⟨eb, 3, none⟩ = some (.int .u64 n) := hE.cell rfl
 have e4 : (w5).cell? ⟨eb, 4, none⟩ = some (.bool v6) := hE.cell rfl
 have e5 : (w5).cell? ⟨eb, 5, none⟩ = some (.int .i64 rs) := hE.cell rfl
 have e6 : (w5).cell? ⟨eb, 6, none⟩ = some (.string d) := hE.cell rfl
 have e7 : (w5).cell? ⟨eb, 7, none⟩ = some (.slice a ads.length cap) := hE.cell rfl
 have g0 : (w5).cell? ⟨fb, 0, none⟩ = some (.bool f1) := hF.cell rfl
 have g1 : (w5).cell? ⟨fb, 1, none⟩ = some (.bool f2) := hF.cell rfl
 have g3 : (w5).cell? ⟨fb, 3, none⟩ = some (.bool f4) := hF.cell rfl
 have g4 : (w5).cell? ⟨fb, 4, none⟩ = some (.bool f5) := hF.cell rfl
 have g5 : (w5).cell? ⟨fb, 5, none⟩ = some (.bool f6) := hF.cell rfl
 obtain ⟨z5, hzn⟩ : ∃ y : List UInt8, y = z4 ++ (opt f1 c).data.toList := ⟨_, rfl⟩
 rw [← hzn] at hWn
 have hln : (z5).length <= 1000000020 := by rw [hzn, List.length_append]; omega
 have Hz5 := Lib.hid hzn
 have hW := hWn
 clear hzn hWn hKn
 have KQ := Lib.hid (optl_any B b z5 f2 at_ ha'.1 (by omega) w5 hW (by omega) hBc)
 go_upto_region 5 with (go_at_call 37; refine KQ.out.mono ?_; rintro e w6 ⟨rfl, hWn, hKn⟩)
 clear KQ hW
 replace hE := Blk.kt hE (by decide) hne1 hKn
 replace hF := Blk.kt hF (by decide) hne2 hKn
 replace hBc := Nat.le_trans hBc hKn.size
 replace hK := hK.trans hKn
 clear e0 e1 e2 e3 e4 e5 e6 e7 g0 g1 g3 g4 g5
 have e0 : (w6).cell? ⟨eb, 0, none⟩ = some (.int .i64 k) := hE.cell rfl
 have e1 : (w6).cell? ⟨eb, 1, none⟩ = some (.int .i64 c) := hE.cell rfl
 have e2 : (w6).cell? ⟨eb, 2, none⟩ = some (.int .i64 at_) := hE.cell rfl
 have e3 : (w6).cell? ⟨eb, 3, none⟩ = some (.int .u64 n) := hE.cell rfl
 have e4 : (w6).cell? ⟨eb, 4, none⟩ = some (.bool v6) := hE.cell rfl
 have e5 : (w6).cell? ⟨eb, 5, none⟩ = some (.int .i64 rs) := hE.cell rfl
 have e6 : (w6).cell? ⟨eb, 6, none⟩ = some (.string d) := hE.cell rfl
 have e7 : (w6).cell? ⟨eb, 7, none⟩ = some (.slice a ads.length cap) := hE.cell rfl
 have g0 : (w6).cell? ⟨fb, 0, none⟩ = some (.bool f1) := hF.cell rfl
 have g1 : (w6).cell? ⟨fb, 1, none⟩ = some (.bool f2) := hF.cell rfl
 have g3 : (w6).cell? ⟨fb, 3, none⟩ = some (.bool f4) := hF.cell rfl
 have g4 : (w6).cell? ⟨fb, 4, none⟩ = some (.bool f5) := hF.cell rfl
 have g5 : (w6).cell? ⟨fb, 5, none⟩ = some (.bool f6) := hF.cell rfl
 obtain ⟨z6, hzn⟩ : ∃ y : List UInt8, y = z5 ++ (opt f2 at_).data.toList := ⟨_, rfl⟩
 rw [← hzn] at hWn
 have hln : (z6).length <= 1000000030 := by rw [hzn, List.length_append]; omega
 have Hz6 := Lib.hid hzn
 have hW := hWn
 clear hzn hWn hKn
 have g2 : w6.cell? ⟨fb, 2, none⟩ = some (.bool f3) := hF.cell rfl
 have l3 : (uv n).data.toList.length <= 10 := uvb_lenb 9 n
 have hnn : n < 18446744073709551616 := by omega
 have Hz9 : Hid (z6 = z ++ (uv k).data.toList ++ (opt f1 c).data.toList ++ (opt f2 at_).data.toList) := Lib.hid (by rw [Hz6.out, Hz5.out, Hz4.out])
 clear Hz6 Hz5 Hz4 l0 l1 l2
 cases f3 with
 | false =>
  have HZ9 : Hid (z6 = z ++ (uv k).data.toList ++ (opt f1 c).data.toList ++ (opt f2 at_).data.toList ++ (opt false (n : Int)).data.toList) := Lib.hid (by rw [show (opt false (n : Int)).data.toList = [] from rfl, List.append_nil]; exact Hz9.out)
  clear Hz9
  have hz9l : z6.length <= 1000000040 := by omega
  have l5 := opt_len f5 rs
  have l6 := opt_len f6 d.size
  have l4 := opt_len f4 vv
  have F1 := fun (w' : World) (h : Ext w6 w') => Blk.cell (i := 3) (Blk.ext hF h) rfl
  have F2 := fun (w' : World) (h : Ext w6 w') => Blk.cell (i := 4) (Blk.ext hE h) rfl
  have CB := fun (w' : World) (h : Ext w6 w') => KV6.out w'
  go_upto_region 7 with fail
  refine wp_region_rgu 6 w6 (by kernel_rfl) (by kernel_rfl) (Ext.refl _) ?_
  simp only [List.take_succ_cons, List.take_zero]
  iterate 2
   first
    | (apply goV_skip (by intro u; rfl))
    | (apply goV_val _ (by intro u; rfl); · (intro u w hSw hF; go_simp; try with_reducible rfl))
   try simp only [aput, List.set]
  first
   | (apply goV_skip (by intro u; rfl))
   | (apply goV_val (.bool f4) (by intro u; rfl); · (intro u w hSw hF; have c0 := F1 w hSw; go_simp))
  try simp only [aput, List.set]
  first
   | (apply goV_skip (by intro u; rfl))
   | (apply goV_val _ (by intro u; rfl); · (intro u w hSw hF; go_simp; try with_reducible rfl))
  try simp only [aput, List.set]
  first
   | (apply goV_skip (by intro u; rfl))
   | (apply goV_val (.bool v6) (by intro u; rfl); · (intro u w hSw hF; have c0 := F2 w hSw; go_simp))
  try simp only [aput, List.set]
  first
   | (apply goV_skip (by intro u; rfl))
   | (apply goV_call (by intro u; rfl) CB; · (intro u w hSw hF; go_simp; try with_reducible rfl))
  try simp only [aput, List.set]
  intro u wa hxa hh
  clear hh F1 F2 CB
  dsimp only
  simp only [List.drop_succ_cons, List.drop_zero]
  replace hE := Blk.ext hE hxa
  replace hF := Blk.ext hF hxa
  replace hW := Wr.ext hW hxa
  replace hK := hK.trans (Kt.of_ext hxa hBc)
  replace hBc := Nat.le_trans hBc hxa.size
  clear e0 e1 e2 e3 e4 e5 e6 e7 g0 g1 g3 g4 g5
  have e0 : (wa).cell? ⟨eb, 0, none⟩ = some (.int .i64 k) := hE.cell rfl
  have e1 : (wa).cell? ⟨eb, 1, none⟩ = some (.int .i64 c) := hE.cell rfl
  have e2 : (wa).cell? ⟨eb, 2, none⟩ = some (.int .i64 at_) := hE.cell rfl
  have e3 : (wa).cell? ⟨eb, 3, none⟩ = some (.int .u64 n) := hE.cell rfl
  have e4 : (wa).cell? ⟨eb, 4, none⟩ = some (.bool v6) := hE.cell rfl
  have e5 : (wa).cell? ⟨eb, 5, none⟩ = some (.int .i64 rs) := hE.cell rfl
  have e6 : (wa).cell? ⟨eb, 6, none⟩ = some (.string d) := hE.cell rfl
  have e7 : (wa).cell? ⟨eb, 7, none⟩ = some (.slice a ads.length cap) := hE.cell rfl
  have g0 : (wa).cell? ⟨fb, 0, none⟩ = some (.bool f1) := hF.cell rfl
  have g1 : (wa).cell? ⟨fb, 1, none⟩ = some (.bool f2) := hF.cell rfl
  have g3 : (wa).cell? ⟨fb, 3, none⟩ = some (.bool f4) := hF.cell rfl
  have g4 : (wa).cell? ⟨fb, 4, none⟩ = some (.bool f5) := hF.cell rfl
  have g5 : (wa).cell? ⟨fb, 5, none⟩ = some (.bool f6) := hF.cell rfl
  have KQ := Lib.hid (optl_any B b z6 f4 vv hv0 (by omega) wa hW (by omega) hBc)
  go_upto_region 8 with (go_at_call 37; refine KQ.out.mono ?_; rintro e wb ⟨rfl, hWn, hKn⟩)
  clear KQ hW
  replace hE := Blk.kt hE (by decide) hne1 hKn
  replace hF := Blk.kt hF (by decide) hne2 hKn
  replace hBc := Nat.le_trans hBc hKn.size
  replace hK := hK.trans hKn
  clear e0 e1 e2 e3 e4 e5 e6 e7 g0 g1 g3 g4 g5
  have e0 : (wb).cell? ⟨eb, 0, none⟩ = some (.int .i64 k) := hE.cell rfl
  have e1 : (wb).cell? ⟨eb, 1, none⟩ = some (.int .i64 c) := hE.cell rfl
  have e2 : (wb).cell? ⟨eb, 2, none⟩ = some (.int .i64 at_) := hE.cell rfl
  have e3 : (wb).cell? ⟨eb, 3, none⟩ = some (.int .u64 n) := hE.cell rfl
  have e4 : (wb).cell? ⟨eb, 4, none⟩ = some (.bool v6) := hE.cell rfl
  have e5 : (wb).cell? ⟨eb, 5, none⟩ = some (.int .i64 rs) := hE.cell rfl
  have e6 : (wb).cell? ⟨eb, 6, none⟩ = some (.string d) := hE.cell rfl
  have e7 : (wb).cell? ⟨eb, 7, none⟩ = some (.slice a ads.length cap) := hE.cell rfl
  have g0 : (wb).cell? ⟨fb, 0, none⟩ = some (.bool f1) := hF.cell rfl
  have g1 : (wb).cell? ⟨fb, 1, none⟩ = some (.bool f2) := hF.cell rfl
  have g3 : (wb).cell? ⟨fb, 3, none⟩ = some (.bool f4) := hF.cell rfl
  have g4 : (wb).cell? ⟨fb, 4, none⟩ = some (.bool f5) := hF.cell rfl
  have g5 : (wb).cell? ⟨fb, 5, none⟩ = some (.bool f6) := hF.cell rfl
  obtain ⟨zb, hzn⟩ : ∃ y : List UInt8, y = z6 ++ (opt f4 vv).data.toList := ⟨_, rfl⟩
  rw [← hzn] at hWn
  have hln : (zb).length <= 1000000080 := by rw [hzn, List.length_append]; omega
  have Hzb := Lib.hid hzn
  have hW := hWn
  clear hzn hWn hKn
  have KQ := Lib.hid (optl_any B b zb f5 rs hrs.1 (by omega) wb hW (by omega) hBc)
  go_upto_region 9 with (go_at_call 37; refine KQ.out.mono ?_; rintro e wc ⟨rfl, hWn, hKn⟩)
  clear KQ hW
  replace hE := Blk.kt hE (by decide) hne1 hKn
  replace hF := Blk.kt hF (by decide) hne2 hKn
  replace hBc := Nat.le_trans hBc hKn.size
  replace hK := hK.trans hKn
  clear e0 e1 e2 e3 e4 e5 e6 e7 g0 g1 g3 g4 g5
  have e0 : (wc).cell? ⟨eb, 0, none⟩ = some (.int .i64 k) := hE.cell rfl
  have e1 : (wc).cell? ⟨eb, 1, none⟩ = some (.int .i64 c) := hE.cell rfl
  have e2 : (wc).cell? ⟨eb, 2, none⟩ = some (.int .i64 at_) := hE.cell rfl
  have e3 : (wc).cell? ⟨eb, 3, none⟩ = some (.int .u64 n) := hE.cell rfl
  have e4 : (wc).cell? ⟨eb, 4, none⟩ = some (.bool v6) := hE.cell rfl
  have e5 : (wc).cell? ⟨eb, 5, none⟩ = some (.int .i64 rs) := hE.cell rfl
  have e6 : (wc).cell? ⟨eb, 6, none⟩ = some (.string d) := hE.cell rfl
  have e7 : (wc).cell? ⟨eb, 7, none⟩ = some (.slice a ads.length cap) := hE.cell rfl
  have g0 : (wc).cell? ⟨fb, 0, none⟩ = some (.bool f1) := hF.cell rfl
  have g1 : (wc).cell? ⟨fb, 1, none⟩ = some (.bool f2) := hF.cell rfl
  have g3 : (wc).cell? ⟨fb, 3, none⟩ = some (.bool f4) := hF.cell rfl
  have g4 : (wc).cell? ⟨fb, 4, none⟩ = some (.bool f5) := hF.cell rfl
  have g5 : (wc).cell? ⟨fb, 5, none⟩ = some (.bool f6) := hF.cell rfl
  obtain ⟨zc, hzn⟩ : ∃ y : List UInt8, y = zb ++ (opt f5 rs).data.toList := ⟨_, rfl⟩
  rw [← hzn] at hWn
  have hln : (zc).length <= 1000000090 := by rw [hzn, List.length_append]; omega
  have Hzc := Lib.hid hzn
  have hW := hWn
  clear hzn hWn hKn
  have KQ := Lib.hid (optl_any B b zc f6 d.size (by omega) (by omega) wc hW (by omega) hBc)
  go_upto_region 10 with (go_at_call 37; refine KQ.out.mono ?_; rintro e wd ⟨rfl, hWn, hKn⟩)
  clear KQ hW
  replace hE := Blk.kt hE (by decide) hne1 hKn
  replace hF := Blk.kt hF (by decide) hne2 hKn
  replace hBc := Nat.le_trans hBc hKn.size
  replace hK := hK.trans hKn
  clear e0 e1 e2 e3 e4 e5 e6 e7 g0 g1 g3 g4 g5
  have e0 : (wd).cell? ⟨eb, 0, none⟩ = some (.int .i64 k) := hE.cell rfl
  have e1 : (wd).cell? ⟨eb, 1, none⟩ = some (.int .i64 c) := hE.cell rfl
  have e2 : (wd).cell? ⟨eb, 2, none⟩ = some (.int .i64 at_) := hE.cell rfl
  have e3 : (wd).cell? ⟨eb, 3, none⟩ = some (.int .u64 n) := hE.cell rfl
  have e4 : (wd).cell? ⟨eb, 4, none⟩ = some (.bool v6) := hE.cell rfl
  have e5 : (wd).cell? ⟨eb, 5, none⟩ = some (.int .i64 rs) := hE.cell rfl
  have e6 : (wd).cell? ⟨eb, 6, none⟩ = some (.string d) := hE.cell rfl
  have e7 : (wd).cell? ⟨eb, 7, none⟩ = some (.slice a ads.length cap) := hE.cell rfl
  have g0 : (wd).cell? ⟨fb, 0, none⟩ = some (.bool f1) := hF.cell rfl
  have g1 : (wd).cell? ⟨fb, 1, none⟩ = some (.bool f2) := hF.cell rfl
  have g3 : (wd).cell? ⟨fb, 3, none⟩ = some (.bool f4) := hF.cell rfl
  have g4 : (wd).cell? ⟨fb, 4, none⟩ = some (.bool f5) := hF.cell rfl
  have g5 : (wd).cell? ⟨fb, 5, none⟩ = some (.bool f6) := hF.cell rfl
  obtain ⟨zd, hzn⟩ : ∃ y : List UInt8, y = zc ++ (opt f6 d.size).data.toList := ⟨_, rfl⟩
  rw [← hzn] at hWn
  have hln : (zd).length <= 1000000100 := by rw [hzn, List.length_append]; omega
  have Hzd := Lib.hid hzn
  have hW := hWn
  clear hzn hWn hKn
  have F1 := fun (w' : World) (h : Ext wd w') => Blk.cell (i := 6) (Blk.ext hE h) rfl
  refine wp_region_rgu 5 wd (by kernel_rfl) (by kernel_rfl) (Ext.refl _) ?_
  simp only [List.take_succ_cons, List.take_zero]
  iterate 4
   first
    | (apply goV_skip (by intro u; rfl))
    | (apply goV_val _ (by intro u; rfl); · (intro u w hSw hF; go_simp; try with_reducible rfl))
   try simp only [aput, List.set]
  first
   | (apply goV_skip (by intro u; rfl))
   | (apply goV_val (.string d) (by intro u; rfl); · (intro u w hSw hF; have c0 := F1 w hSw; go_simp))
  try simp only [aput, List.set]
  intro u we hxe hh
  clear hh F1
  dsimp only
  simp only [List.drop_succ_cons, List.drop_zero]
  replace hE := Blk.ext hE hxe
  replace hF := Blk.ext hF hxe
  replace hW := Wr.ext hW hxe
  replace hK := hK.trans (Kt.of_ext hxe hBc)
  replace hBc := Nat.le_trans hBc hxe.size
  clear e0 e1 e2 e3 e4 e5 e6 e7 g0 g1 g3 g4 g5
  have e0 : (we).cell? ⟨eb, 0, none⟩ = some (.int .i64 k) := hE.cell rfl
  have e1 : (we).cell? ⟨eb, 1, none⟩ = some (.int .i64 c) := hE.cell rfl
  have e2 : (we).cell? ⟨eb, 2, none⟩ = some (.int .i64 at_) := hE.cell rfl
  have e3 : (we).cell? ⟨eb, 3, none⟩ = some (.int .u64 n) := hE.cell rfl
  have e4 : (we).cell? ⟨eb, 4, none⟩ = some (.bool v6) := hE.cell rfl
  have e5 : (we).cell? ⟨eb, 5, none⟩ = some (.int .i64 rs) := hE.cell rfl
  have e6 : (we).cell? ⟨eb, 6, none⟩ = some (.string d) := hE.cell rfl
  have e7 : (we).cell? ⟨eb, 7, none⟩ = some (.slice a ads.length cap) := hE.cell rfl
  have g0 : (we).cell? ⟨fb, 0, none⟩ = some (.bool f1) := hF.cell rfl
  have g1 : (we).cell? ⟨fb, 1, none⟩ = some (.bool f2) := hF.cell rfl
  have g3 : (we).cell? ⟨fb, 3, none⟩ = some (.bool f4) := hF.cell rfl
  have g4 : (we).cell? ⟨fb, 4, none⟩ = some (.bool f5) := hF.cell rfl
  have g5 : (we).cell? ⟨fb, 5, none⟩ = some (.bool f6) := hF.cell rfl
  have hdl : d.data.toList.length <= 2000 := by rw [← size_list]; omega
  have KQ := Lib.hid (wstr_any B b zd d we hW (by omega) (by omega) hBc)
  go_upto_region 11 with (go_at_call 39; refine KQ.out.mono ?_; rintro e wf ⟨rfl, hWn, hKn⟩)
  clear KQ hW
  replace hE := Blk.kt hE (by decide) hne1 hKn
  replace hF := Blk.kt hF (by decide) hne2 hKn
  replace hBc := Nat.le_trans hBc hKn.size
  replace hK := hK.trans hKn
  clear e0 e1 e2 e3 e4 e5 e6 e7 g0 g1 g3 g4 g5
  have e0 : (wf).cell? ⟨eb, 0, none⟩ = some (.int .i64 k) := hE.cell rfl
  have e1 : (wf).cell? ⟨eb, 1, none⟩ = some (.int .i64 c) := hE.cell rfl
  have e2 : (wf).cell? ⟨eb, 2, none⟩ = some (.int .i64 at_) := hE.cell rfl
  have e3 : (wf).cell? ⟨eb, 3, none⟩ = some (.int .u64 n) := hE.cell rfl
  have e4 : (wf).cell? ⟨eb, 4, none⟩ = some (.bool v6) := hE.cell rfl
  have e5 : (wf).cell? ⟨eb, 5, none⟩ = some (.int .i64 rs) := hE.cell rfl
  have e6 : (wf).cell? ⟨eb, 6, none⟩ = some (.string d) := hE.cell rfl
  have e7 : (wf).cell? ⟨eb, 7, none⟩ = some (.slice a ads.length cap) := hE.cell rfl
  have g0 : (wf).cell? ⟨fb, 0, none⟩ = some (.bool f1) := hF.cell rfl
  have g1 : (wf).cell? ⟨fb, 1, none⟩ = some (.bool f2) := hF.cell rfl
  have g3 : (wf).cell? ⟨fb, 3, none⟩ = some (.bool f4) := hF.cell rfl
  have g4 : (wf).cell? ⟨fb, 4, none⟩ = some (.bool f5) := hF.cell rfl
  have g5 : (wf).cell? ⟨fb, 5, none⟩ = some (.bool f6) := hF.cell rfl
  obtain ⟨zf, hzn⟩ : ∃ y : List UInt8, y = zd ++ d.data.toList := ⟨_, rfl⟩
  rw [← hzn] at hWn
  have hln : (zf).length <= 1000003000 := by rw [hzn, List.length_append]; omega
  have Hzf := Lib.hid hzn
  have hW := hWn
  clear hzn hWn hKn
  cases f4 with
  | false =>
   go_wp2_with fail
   go_end0
   refine ⟨rfl, ?_, hK⟩
   rw [HEQ.out]
   simp only [Bool.false_eq_true, if_false, List.append_nil, Int.toNat_natCast]
   rw [Hzf.out, Hzd.out, Hzc.out, Hzb.out, HZ9.out] at hW
   simpa only [List.append_assoc] using hW
  | true =>
   have KQ := Lib.hid (wadrs_any B b zf ads (.slice a ads.length cap) (HA.out) hads (num_ext _ h0 hB0 hK) hB0 hW (by omega) hBc)
   go_wp2_with (go_at_call 40; refine KQ.out.mono ?_; rintro e wg ⟨rfl, hWn, hKn⟩)
   go_end0
   refine ⟨rfl, ?_, hK.trans hKn⟩
   rw [HEQ.out]
   simp only [if_true, Int.toNat_natCast]
   rw [Hzf.out, Hzd.out, Hzc.out, Hzb.out, HZ9.out] at hWn
   simpa only [List.append_assoc] using hWn
 | true =>
  have KQ := Lib.hid (wnum_any B b z6 n hnn w6 hW (by omega) hBc)
  go_upto_region 7 with (go_at_call 19; refine KQ.out.mono ?_; rintro e w7 ⟨rfl, hWn, hKn⟩)
  clear KQ hW
  replace hE := Blk.kt hE (by decide) hne1 hKn
  replace hF := Blk.kt hF (by decide) hne2 hKn
  replace hBc := Nat.le_trans hBc hKn.size
  replace hK := hK.trans hKn
  clear e0 e1 e2 e3 e4 e5 e6 e7 g0 g1 g3 g4 g5
  have e0 : (w7).cell? ⟨eb, 0, none⟩ = some (.int .i64 k) := hE.cell rfl
  have e1 : (w7).cell? ⟨eb, 1, none⟩ = some (.int .i64 c) := hE.cell rfl
  have e2 : (w7).cell? ⟨eb, 2, none⟩ = some (.int .i64 at_) := hE.cell rfl
  have e3 : (w7).cell? ⟨eb, 3, none⟩ = some (.int .u64 n) := hE.cell rfl
  have e4 : (w7).cell? ⟨eb, 4, none⟩ = some (.bool v6) := hE.cell rfl
  have e5 : (w7).cell? ⟨eb, 5, none⟩ = some (.int .i64 rs) := hE.cell rfl
  have e6 : (w7).cell? ⟨eb, 6, none⟩ = some (.string d) := hE.cell rfl
  have e7 : (w7).cell? ⟨eb, 7, none⟩ = some (.slice a ads.length cap) := hE.cell rfl
  have g0 : (w7).cell? ⟨fb, 0, none⟩ = some (.bool f1) := hF.cell rfl
  have g1 : (w7).cell? ⟨fb, 1, none⟩ = some (.bool f2) := hF.cell rfl
  have g3 : (w7).cell? ⟨fb, 3, none⟩ = some (.bool f4) := hF.cell rfl
  have g4 : (w7).cell? ⟨fb, 4, none⟩ = some (.bool f5) := hF.cell rfl
  have g5 : (w7).cell? ⟨fb, 5, none⟩ = some (.bool f6) := hF.cell rfl
  obtain ⟨z7, hzn⟩ : ∃ y : List UInt8, y = z6 ++ (uv n).data.toList := ⟨_, rfl⟩
  rw [← hzn] at hWn
  have hln : (z7).length <= 1000000040 := by rw [hzn, List.length_append]; omega
  have Hz7 := Lib.hid hzn
  have hW := hWn
  clear hzn hWn hKn
  have HZ9 : Hid (z7 = z ++ (uv k).data.toList ++ (opt f1 c).data.toList ++ (opt f2 at_).data.toList ++ (opt true (n : Int)).data.toList) := Lib.hid (by rw [Hz7.out, Hz9.out]; rfl)
  clear Hz9 Hz7
  have l5 := opt_len f5 rs
  have l6 := opt_len f6 d.size
  have l4 := opt_len f4 vv
  have F1 := fun (w' : World) (h : Ext w7 w') => Blk.cell (i := 3) (Blk.ext hF h) rfl
  have F2 := fun (w' : World) (h : Ext w7 w') => Blk.cell (i := 4) (Blk.ext hE h) rfl
  have CB := fun (w' : World) (h : Ext w7 w') => KV6.out w'
  go_upto_region 7 with fail
  refine wp_region_rgu 6 w7 (by kernel_rfl) (by kernel_rfl) (Ext.refl _) ?_
  simp only [List.take_succ_cons, List.take_zero]
  iterate 2
   first
    | (apply goV_skip (by intro u; rfl))
    | (apply goV_val _ (by intro u; rfl); · (intro u w hSw hF; go_simp; try with_reducible rfl))
   try simp only [aput, List.set]
  first
   | (apply goV_skip (by intro u; rfl))
   | (apply goV_val (.bool f4) (by intro u; rfl); · (intro u w hSw hF; have c0 := F1 w hSw; go_simp))
  try simp only [aput, List.set]
  first
   | (apply goV_skip (by intro u; rfl))
   | (apply goV_val _ (by intro u; rfl); · (intro u w hSw hF; go_simp; try with_reducible rfl))
  try simp only [aput, List.set]
  first
   | (apply goV_skip (by intro u; rfl))
   | (apply goV_val (.bool v6) (by intro u; rfl); · (intro u w hSw hF; have c0 := F2 w hSw; go_simp))
  try simp only [aput, List.set]
  first
   | (apply goV_skip (by intro u; rfl))
   | (apply goV_call (by intro u; rfl) CB; · (intro u w hSw hF; go_simp; try with_reducible rfl))
  try simp only [aput, List.set]
  intro u wa hxa hh
  clear hh F1 F2 CB
  dsimp only
  simp only [List.drop_succ_cons, List.drop_zero]
  replace hE := Blk.ext hE hxa
  replace hF := Blk.ext hF hxa
  replace hW := Wr.ext hW hxa
  replace hK := hK.trans (Kt.of_ext hxa hBc)
  replace hBc := Nat.le_trans hBc hxa.size
  clear e0 e1 e2 e3 e4 e5 e6 e7 g0 g1 g3 g4 g5
  have e0 : (wa).cell? ⟨eb, 0, none⟩ = some (.int .i64 k) := hE.cell rfl
  have e1 : (wa).cell? ⟨eb, 1, none⟩ = some (.int .i64 c) := hE.cell rfl
  have e2 : (wa).cell? ⟨eb, 2, none⟩ = some (.int .i64 at_) := hE.cell rfl
  have e3 : (wa).cell? ⟨eb, 3, none⟩ = some (.int .u64 n) := hE.cell rfl
  have e4 : (wa).cell? ⟨eb, 4, none⟩ = some (.bool v6) := hE.cell rfl
  have e5 : (wa).cell? ⟨eb, 5, none⟩ = some (.int .i64 rs) := hE.cell rfl
  have e6 : (wa).cell? ⟨eb, 6, none⟩ = some (.string d) := hE.cell rfl
  have e7 : (wa).cell? ⟨eb, 7, none⟩ = some (.slice a ads.length cap) := hE.cell rfl
  have g0 : (wa).cell? ⟨fb, 0, none⟩ = some (.bool f1) := hF.cell rfl
  have g1 : (wa).cell? ⟨fb, 1, none⟩ = some (.bool f2) := hF.cell rfl
  have g3 : (wa).cell? ⟨fb, 3, none⟩ = some (.bool f4) := hF.cell rfl
  have g4 : (wa).cell? ⟨fb, 4, none⟩ = some (.bool f5) := hF.cell rfl
  have g5 : (wa).cell? ⟨fb, 5, none⟩ = some (.bool f6) := hF.cell rfl
  have KQ := Lib.hid (optl_any B b z7 f4 vv hv0 (by omega) wa hW (by omega) hBc)
  go_upto_region 8 with (go_at_call 37; refine KQ.out.mono ?_; rintro e wb ⟨rfl, hWn, hKn⟩)
  clear KQ hW
  replace hE := Blk.kt hE (by decide) hne1 hKn
  replace hF := Blk.kt hF (by decide) hne2 hKn
  replace hBc := Nat.le_trans hBc hKn.size
  replace hK := hK.trans hKn
  clear e0 e1 e2 e3 e4 e5 e6 e7 g0 g1 g3 g4 g5
  have e0 : (wb).cell? ⟨eb, 0, none⟩ = some (.int .i64 k) := hE.cell rfl
  have e1 : (wb).cell? ⟨eb, 1, none⟩ = some (.int .i64 c) := hE.cell rfl
  have e2 : (wb).cell? ⟨eb, 2, none⟩ = some (.int .i64 at_) := hE.cell rfl
  have e3 : (wb).cell? ⟨eb, 3, none⟩ = some (.int .u64 n) := hE.cell rfl
  have e4 : (wb).cell? ⟨eb, 4, none⟩ = some (.bool v6) := hE.cell rfl
  have e5 : (wb).cell? ⟨eb, 5, none⟩ = some (.int .i64 rs) := hE.cell rfl
  have e6 : (wb).cell? ⟨eb, 6, none⟩ = some (.string d) := hE.cell rfl
  have e7 : (wb).cell? ⟨eb, 7, none⟩ = some (.slice a ads.length cap) := hE.cell rfl
  have g0 : (wb).cell? ⟨fb, 0, none⟩ = some (.bool f1) := hF.cell rfl
  have g1 : (wb).cell? ⟨fb, 1, none⟩ = some (.bool f2) := hF.cell rfl
  have g3 : (wb).cell? ⟨fb, 3, none⟩ = some (.bool f4) := hF.cell rfl
  have g4 : (wb).cell? ⟨fb, 4, none⟩ = some (.bool f5) := hF.cell rfl
  have g5 : (wb).cell? ⟨fb, 5, none⟩ = some (.bool f6) := hF.cell rfl
  obtain ⟨zb, hzn⟩ : ∃ y : List UInt8, y = z7 ++ (opt f4 vv).data.toList := ⟨_, rfl⟩
  rw [← hzn] at hWn
  have hln : (zb).length <= 1000000080 := by rw [hzn, List.length_append]; omega
  have Hzb := Lib.hid hzn
  have hW := hWn
  clear hzn hWn hKn
  have KQ := Lib.hid (optl_any B b zb f5 rs hrs.1 (by omega) wb hW (by omega) hBc)
  go_upto_region 9 with (go_at_call 37; refine KQ.out.mono ?_; rintro e wc ⟨rfl, hWn, hKn⟩)
  clear KQ hW
  replace hE := Blk.kt hE (by decide) hne1 hKn
  replace hF := Blk.kt hF (by decide) hne2 hKn
  replace hBc := Nat.le_trans hBc hKn.size
  replace hK := hK.trans hKn
  clear e0 e1 e2 e3 e4 e5 e6 e7 g0 g1 g3 g4 g5
  have e0 : (wc).cell? ⟨eb, 0, none⟩ = some (.int .i64 k) := hE.cell rfl
  have e1 : (wc).cell? ⟨eb, 1, none⟩ = some (.int .i64 c) := hE.cell rfl
  have e2 : (wc).cell? ⟨eb, 2, none⟩ = some (.int .i64 at_) := hE.cell rfl
  have e3 : (wc).cell? ⟨eb, 3, none⟩ = some (.int .u64 n) := hE.cell rfl
  have e4 : (wc).cell? ⟨eb, 4, none⟩ = some (.bool v6) := hE.cell rfl
  have e5 : (wc).cell? ⟨eb, 5, none⟩ = some (.int .i64 rs) := hE.cell rfl
  have e6 : (wc).cell? ⟨eb, 6, none⟩ = some (.string d) := hE.cell rfl
  have e7 : (wc).cell? ⟨eb, 7, none⟩ = some (.slice a ads.length cap) := hE.cell rfl
  have g0 : (wc).cell? ⟨fb, 0, none⟩ = some (.bool f1) := hF.cell rfl
  have g1 : (wc).cell? ⟨fb, 1, none⟩ = some (.bool f2) := hF.cell rfl
  have g3 : (wc).cell? ⟨fb, 3, none⟩ = some (.bool f4) := hF.cell rfl
  have g4 : (wc).cell? ⟨fb, 4, none⟩ = some (.bool f5) := hF.cell rfl
  have g5 : (wc).cell? ⟨fb, 5, none⟩ = some (.bool f6) := hF.cell rfl
  obtain ⟨zc, hzn⟩ : ∃ y : List UInt8, y = zb ++ (opt f5 rs).data.toList := ⟨_, rfl⟩
  rw [← hzn] at hWn
  have hln : (zc).length <= 1000000090 := by rw [hzn, List.length_append]; omega
  have Hzc := Lib.hid hzn
  have hW := hWn
  clear hzn hWn hKn
  have KQ := Lib.hid (optl_any B b zc f6 d.size (by omega) (by omega) wc hW (by omega) hBc)
  go_upto_region 10 with (go_at_call 37; refine KQ.out.mono ?_; rintro e wd ⟨rfl, hWn, hKn⟩)
  clear KQ hW
  replace hE := Blk.kt hE (by decide) hne1 hKn
  replace hF := Blk.kt hF (by decide) hne2 hKn
  replace hBc := Nat.le_trans hBc hKn.size
  replace hK := hK.trans hKn
  clear e0 e1 e2 e3 e4 e5 e6 e7 g0 g1 g3 g4 g5
  have e0 : (wd).cell? ⟨eb, 0, none⟩ = some (.int .i64 k) := hE.cell rfl
  have e1 : (wd).cell? ⟨eb, 1, none⟩ = some (.int .i64 c) := hE.cell rfl
  have e2 : (wd).cell? ⟨eb, 2, none⟩ = some (.int .i64 at_) := hE.cell rfl
  have e3 : (wd).cell? ⟨eb, 3, none⟩ = some (.int .u64 n) := hE.cell rfl
  have e4 : (wd).cell? ⟨eb, 4, none⟩ = some (.bool v6) := hE.cell rfl
  have e5 : (wd).cell? ⟨eb, 5, none⟩ = some (.int .i64 rs) := hE.cell rfl
  have e6 : (wd).cell? ⟨eb, 6, none⟩ = some (.string d) := hE.cell rfl
  have e7 : (wd).cell? ⟨eb, 7, none⟩ = some (.slice a ads.length cap) := hE.cell rfl
  have g0 : (wd).cell? ⟨fb, 0, none⟩ = some (.bool f1) := hF.cell rfl
  have g1 : (wd).cell? ⟨fb, 1, none⟩ = some (.bool f2) := hF.cell rfl
  have g3 : (wd).cell? ⟨fb, 3, none⟩ = some (.bool f4) := hF.cell rfl
  have g4 : (wd).cell? ⟨fb, 4, none⟩ = some (.bool f5) := hF.cell rfl
  have g5 : (wd).cell? ⟨fb, 5, none⟩ = some (.bool f6) := hF.cell rfl
  obtain ⟨zd, hzn⟩ : ∃ y : List UInt8, y = zc ++ (opt f6 d.size).data.toList := ⟨_, rfl⟩
  rw [← hzn] at hWn
  have hln : (zd).length <= 1000000100 := by rw [hzn, List.length_append]; omega
  have Hzd := Lib.hid hzn
  have hW := hWn
  clear hzn hWn hKn
  have F1 := fun (w' : World) (h : Ext wd w') => Blk.cell (i := 6) (Blk.ext hE h) rfl
  refine wp_region_rgu 5 wd (by kernel_rfl) (by kernel_rfl) (Ext.refl _) ?_
  simp only [List.take_succ_cons, List.take_zero]
  iterate 4
   first
    | (apply goV_skip (by intro u; rfl))
    | (apply goV_val _ (by intro u; rfl); · (intro u w hSw hF; go_simp; try with_reducible rfl))
   try simp only [aput, List.set]
  first
   | (apply goV_skip (by intro u; rfl))
   | (apply goV_val (.string d) (by intro u; rfl); · (intro u w hSw hF; have c0 := F1 w hSw; go_simp))
  try simp only [aput, List.set]
  intro u we hxe hh
  clear hh F1
  dsimp only
  simp only [List.drop_succ_cons, List.drop_zero]
  replace hE := Blk.ext hE hxe
  replace hF := Blk.ext hF hxe
  replace hW := Wr.ext hW hxe
  replace hK := hK.trans (Kt.of_ext hxe hBc)
  replace hBc := Nat.le_trans hBc hxe.size
  clear e0 e1 e2 e3 e4 e5 e6 e7 g0 g1 g3 g4 g5
  have e0 : (we).cell? ⟨eb, 0, none⟩ = some (.int .i64 k) := hE.cell rfl
  have e1 : (we).cell? ⟨eb, 1, none⟩ = some (.int .i64 c) := hE.cell rfl
  have e2 : (we).cell? ⟨eb, 2, none⟩ = some (.int .i64 at_) := hE.cell rfl
  have e3 : (we).cell? ⟨eb, 3, none⟩ = some (.int .u64 n) := hE.cell rfl
  have e4 : (we).cell? ⟨eb, 4, none⟩ = some (.bool v6) := hE.cell rfl
  have e5 : (we).cell? ⟨eb, 5, none⟩ = some (.int .i64 rs) := hE.cell rfl
  have e6 : (we).cell? ⟨eb, 6, none⟩ = some (.string d) := hE.cell rfl
  have e7 : (we).cell? ⟨eb, 7, none⟩ = some (.slice a ads.length cap) := hE.cell rfl
  have g0 : (we).cell? ⟨fb, 0, none⟩ = some (.bool f1) := hF.cell rfl
  have g1 : (we).cell? ⟨fb, 1, none⟩ = some (.bool f2) := hF.cell rfl
  have g3 : (we).cell? ⟨fb, 3, none⟩ = some (.bool f4) := hF.cell rfl
  have g4 : (we).cell? ⟨fb, 4, none⟩ = some (.bool f5) := hF.cell rfl
  have g5 : (we).cell? ⟨fb, 5, none⟩ = some (.bool f6) := hF.cell rfl
  have hdl : d.data.toList.length <= 2000 := by rw [← size_list]; omega
  have KQ := Lib.hid (wstr_any B b zd d we hW (by omega) (by omega) hBc)
  go_upto_region 11 with (go_at_call 39; refine KQ.out.mono ?_; rintro e wf ⟨rfl, hWn, hKn⟩)
  clear KQ hW
  replace hE := Blk.kt hE (by decide) hne1 hKn
  replace hF := Blk.kt hF (by decide) hne2 hKn
  replace hBc := Nat.le_trans hBc hKn.size
  replace hK := hK.trans hKn
  clear e0 e1 e2 e3 e4 e5 e6 e7 g0 g1 g3 g4 g5
  have e0 : (wf).cell? ⟨eb, 0, none⟩ = some (.int .i64 k) := hE.cell rfl
  have e1 : (wf).cell? ⟨eb, 1, none⟩ = some (.int .i64 c) := hE.cell rfl
  have e2 : (wf).cell? ⟨eb, 2, none⟩ = some (.int .i64 at_) := hE.cell rfl
  have e3 : (wf).cell? ⟨eb, 3, none⟩ = some (.int .u64 n) := hE.cell rfl
  have e4 : (wf).cell? ⟨eb, 4, none⟩ = some (.bool v6) := hE.cell rfl
  have e5 : (wf).cell? ⟨eb, 5, none⟩ = some (.int .i64 rs) := hE.cell rfl
  have e6 : (wf).cell? ⟨eb, 6, none⟩ = some (.string d) := hE.cell rfl
  have e7 : (wf).cell? ⟨eb, 7, none⟩ = some (.slice a ads.length cap) := hE.cell rfl
  have g0 : (wf).cell? ⟨fb, 0, none⟩ = some (.bool f1) := hF.cell rfl
  have g1 : (wf).cell? ⟨fb, 1, none⟩ = some (.bool f2) := hF.cell rfl
  have g3 : (wf).cell? ⟨fb, 3, none⟩ = some (.bool f4) := hF.cell rfl
  have g4 : (wf).cell? ⟨fb, 4, none⟩ = some (.bool f5) := hF.cell rfl
  have g5 : (wf).cell? ⟨fb, 5, none⟩ = some (.bool f6) := hF.cell rfl
  obtain ⟨zf, hzn⟩ : ∃ y : List UInt8, y = zd ++ d.data.toList := ⟨_, rfl⟩
  rw [← hzn] at hWn
  have hln : (zf).length <= 1000003000 := by rw [hzn, List.length_append]; omega
  have Hzf := Lib.hid hzn
  have hW := hWn
  clear hzn hWn hKn
  cases f4 with
  | false =>
   go_wp2_with fail
   go_end0
   refine ⟨rfl, ?_, hK⟩
   rw [HEQ.out]
   simp only [Bool.false_eq_true, if_false, List.append_nil, Int.toNat_natCast]
   rw [Hzf.out, Hzd.out, Hzc.out, Hzb.out, HZ9.out] at hW
   simpa only [List.append_assoc] using hW
  | true =>
   have KQ := Lib.hid (wadrs_any B b zf ads (.slice a ads.length cap) (HA.out) hads (num_ext _ h0 hB0 hK) hB0 hW (by omega) hBc)
   go_wp2_with (go_at_call 40; refine KQ.out.mono ?_; rintro e wg ⟨rfl, hWn, hKn⟩)
   go_end0
   refine ⟨rfl, ?_, hK.trans hKn⟩
   rw [HEQ.out]
   simp only [if_true, Int.toNat_natCast]
   rw [Hzf.out, Hzd.out, Hzc.out, Hzb.out, HZ9.out] at hWn
   simpa only [List.append_assoc] using hWn
end Go.Proofs.YtmdlgfnibjcgmaaGreatDoor
