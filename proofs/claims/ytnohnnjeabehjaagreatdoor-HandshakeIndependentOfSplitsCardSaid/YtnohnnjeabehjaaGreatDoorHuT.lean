/-
 HandshakeIndependentOfSplits.
-/
import Derived.Test.YtnohnnjeabehjaaGreatDoorK39
import Derived.Test.YtnohnnjeabehjaaGreatDoorK40
set_option maxHeartbeats 16000000
set_option maxRecDepth 8000
set_option linter.unusedVariables false
set_option linter.unusedSimpArgs false
namespace Go.Proofs.YtnohnnjeabehjaaGreatDoor
open Go.RowKit Go.Joins
theorem HandshakeIndependentOfSplits_walk (n who : Int) (raw : ByteArray) (la : Option Addr) (ln lc : Nat) (zs : List Int) (ma : Option Addr) (mn mc : Nat) (ys : List Int) (http : Bool)
  (_ : (Lit.int .i64 n).wf = true) (_ : (Lit.int .i64 who).wf = true) (hraw : raw.size <= 140737488351232) (hl1n : ln <= 140737488351232) (hl2n : mn <= 140737488351232)
  (w : World) (henv : Env w) (htabs : Tabs w) (hl1 : IntsIn w la ln lc zs) (hl2 : IntsIn w ma mn mc ys) :
  Calls Tryz.prog 5 #[.int .i64 n, .int .i64 who, .string raw, .slice la ln lc, .slice ma mn mc, .bool http] w fun e w' => e = .returned (.bool true) /\ Ext w w' := by
 have K8 := Lib.hid (fun w => newhs_any w)
 have KA := Lib.hid (fun w' (h : Ext w w') => awake_any (henv.ext h) (htabs.ext h))
 have KT := Lib.hid (fun w => gtarget_any n w)
 have HL1 := Lib.hid hl1
 have HL2 := Lib.hid hl2
 clear hl1 hl2
 have KM0 := fun w => mod_any who 4 w (by decide)
 have hm := modI_bd who (n := 4) (by decide) (by decide)
 obtain ⟨i, hmi⟩ : ∃ i : Nat, modI who 4 = i := ⟨(modI who 4).toNat, by omega⟩
 rw [hmi] at KM0 hm
 have hi : i < 4 := by omega
 have KM := Lib.hid KM0
 clear KM0 hmi hm
 go_enter Tryz.func5, Tryz.ntmps5
 go_upto_region 2 with (go_at_call 8; refine (K8.out _).mono ?_; rintro e w1 ⟨v1, rfl, hx1, x, g, c, d, rfl, hH, hP, hR⟩)
 have hxa := (Ext.refl w1).alloc (.cells #[.pointer (some ⟨c, 0, none⟩), .pointer (some ⟨d, 0, none⟩)] 26)
 have hB := Blk.new w1 #[.pointer (some ⟨c, 0, none⟩), .pointer (some ⟨d, 0, none⟩)] 26
 replace hH := (hH).ext hP hR hxa
 replace hP : HBlk TH _ c _ _ := Blk.ext hP hxa
 replace hR : HBlk TR _ d _ _ := Blk.ext hR hxa
 replace hx1 := (hx1).trans hxa
 clear hxa
 generalize (w1).alloc (.cells #[.pointer (some ⟨c, 0, none⟩), .pointer (some ⟨d, 0, none⟩)] 26) = w2 at *
 generalize (w1).heap.size = b at *
 go_upto_region 3 with (go_at_call 8; refine (K8.out _).mono ?_; rintro e w3 ⟨v2, rfl, hx3, x2, g2, c2, d2, rfl, hH2, hP2, hR2⟩)
 have hxa := (Ext.refl w3).alloc (.cells #[.pointer (some ⟨c2, 0, none⟩), .pointer (some ⟨d2, 0, none⟩)] 26)
 have hB2 := Blk.new w3 #[.pointer (some ⟨c2, 0, none⟩), .pointer (some ⟨d2, 0, none⟩)] 26
 replace hH2 := (hH2).ext hP2 hR2 hxa
 replace hP2 : HBlk TH _ c2 _ _ := Blk.ext hP2 hxa
 replace hR2 : HBlk TR _ d2 _ _ := Blk.ext hR2 hxa
 replace hx3 := (hx3).trans hxa
 clear hxa
 generalize (w3).alloc (.cells #[.pointer (some ⟨c2, 0, none⟩), .pointer (some ⟨d2, 0, none⟩)] 26) = w4 at *
 generalize (w3).heap.size = b2 at *
 have hcd2 : d < c2 := by
  have h1 := Blk.lt hR
  obtain ⟨_, _, _, _, _, _, hc, _⟩ := id hH2
  omega
 replace hH2 := hH2.base hx1
 replace hH := hH.ext hP hR hx3
 replace hP : HBlk TH _ c _ _ := Blk.ext hP hx3
 replace hR : HBlk TR _ d _ _ := Blk.ext hR hx3
 replace hB := Blk.ext hB hx3
 replace hx1 := hx1.trans hx3
 clear hx3 K8
 go_upto_region 5 with fail
 go_upto_region 6 with (first | (go_at_call 21; refine (KM.out _).mono ?_; rintro e wm ⟨rfl, hxm⟩) | (go_at_call 17; refine (KT.out _).mono ?_; rintro e w5 ⟨t, ht, hv, rfl, hx5⟩; have KS := Lib.hid (fun w => gsocks_any i (by omega) t ht hv w); have hz1 := skB_size i ht hv; have y1 : ¬ 9223372036854775807 < (skB i t).size + raw.size := (by omega)) | (go_at_call 20; refine (KS.out _).mono ?_; rintro e w6 ⟨rfl, hx6⟩))
 have hx46 := (hxm.trans hx5).trans hx6
 clear hxm hx5 hx6 KS y1
 cases http with
 | false =>
  go_upto_region 8 with fail
  clear KM KT
  have hss : (skB i t).size <= 600 := by omega
  generalize skB i t = ss at *
  replace hH := hH.ext hP hR hx46
  replace hP : HBlk TH _ c _ _ := Blk.ext hP hx46
  replace hR : HBlk TR _ d _ _ := Blk.ext hR hx46
  replace hB := Blk.ext hB hx46
  replace hH2 := hH2.ext hP2 hR2 hx46
  replace hP2 : HBlk TH _ c2 _ _ := Blk.ext hP2 hx46
  replace hR2 : HBlk TR _ d2 _ _ := Blk.ext hR2 hx46
  replace hB2 := Blk.ext hB2 hx46
  replace hx1 := hx1.trans hx46
  have hZ : (ss ++ raw).size <= 281474976710656 := by rw [size_app]; omega
  generalize ss ++ raw = Z at *
  have KF := Lib.hid (pieces_any Z hZ henv htabs hl1n HL1.out hH hP hR)
  go_upto_region 9 with (first | refine wpList_load_Hs rfl _ rfl rfl hB ?_ | (go_at_call 10; refine KF.out.mono ?_; rintro e w7 ⟨n1, o1, s1, hF1, rfl, hk7, hH7, hP7, hR7, hs7⟩))
  have hcw : w.heap.size <= c := by obtain ⟨_, _, _, _, _, _, hc, _⟩ := id hH; exact hc
  have hcd : c < d := by obtain ⟨_, _, _, _, _, _, _, _, hc, _⟩ := id hH; exact hc
  have hcd3 : c2 < d2 := by obtain ⟨_, _, _, _, _, _, _, _, hc, _⟩ := id hH2; exact hc
  have hx7 := Keep.ext ((hx1.keep [c, d]).trans hk7) (fun y hy => by simp only [List.mem_cons, List.not_mem_nil, or_false] at hy; omega)
  have hH72 := hH2.other hP hR hk7 hcw (by omega)
  have hP72 : HBlk TH _ c2 _ _ := Blk.keep hP2 hk7 (by simp only [List.mem_cons, List.not_mem_nil, or_false]; omega)
  have hR72 : HBlk TR _ d2 _ _ := Blk.keep hR2 hk7 (by simp only [List.mem_cons, List.not_mem_nil, or_false]; omega)
  have hB7 := Blk.keep hB hk7 (by
   simp only [List.mem_cons, List.not_mem_nil, or_false]
   exact fun q => q.elim (fun q => Blk.ne_type hB hP (by decide) q) (fun q => Blk.ne_type hB hR (by decide) q))
  have hB72 := Blk.keep hB2 hk7 (by
   simp only [List.mem_cons, List.not_mem_nil, or_false]
   exact fun q => q.elim (fun q => Blk.ne_type hB2 hP (by decide) q) (fun q => Blk.ne_type hB2 hR (by decide) q))
  clear hH hP hR hB hH2 hP2 hR2 hB2 hk7 KF
  have KG := Lib.hid (pieces_any Z hZ henv htabs hl2n HL2.out hH72 hP72 hR72)
  go_upto_region 10 with (first | refine wpList_load_Hs rfl _ rfl rfl hB72 ?_ | (go_at_call 10; refine KG.out.mono ?_; rintro e w8 ⟨n2, o2, s2, hF2, rfl, hk8, hH8, hP8, hR8, hs8⟩))
  obtain ⟨en2, eo2, es2⟩ := hF2.1.same hF2.2 hF1.1 hF1.2
  subst es2 en2 eo2
  have hcw2 : w.heap.size <= c2 := by omega
  have hx8 := Keep.ext ((hx7.keep [c2, d2]).trans hk8) (fun y hy => by simp only [List.mem_cons, List.not_mem_nil, or_false] at hy; omega)
  have hP81 : HBlk TH _ c _ _ := Blk.keep hP7 hk8 (by simp only [List.mem_cons, List.not_mem_nil, or_false]; omega)
  have hB8 := Blk.keep hB7 hk8 (by
   simp only [List.mem_cons, List.not_mem_nil, or_false]
   exact fun q => q.elim (fun q => Blk.ne_type hB7 hP72 (by decide) q) (fun q => Blk.ne_type hB7 hR72 (by decide) q))
  have hB82 := Blk.keep hB72 hk8 (by
   simp only [List.mem_cons, List.not_mem_nil, or_false]
   exact fun q => q.elim (fun q => Blk.ne_type hB72 hP72 (by decide) q) (fun q => Blk.ne_type hB72 hR72 (by decide) q))
  clear hF1 hF2 KG hB7 hB72 hP72 hR72 hH72 hk8 hP7 hR7 hH7
  have ho := hs8.2.1
  have ht := hs8.2.1
  have g0 : ∀ w', Ext w8 w' -> w'.cell? ⟨b, 0, none⟩ = some (.pointer (some ⟨c, 0, none⟩)) := fun w' h => Blk.cell (Blk.ext hB8 h) rfl
  have g02 : ∀ w', Ext w8 w' -> w'.cell? ⟨b2, 0, none⟩ = some (.pointer (some ⟨c2, 0, none⟩)) := fun w' h => Blk.cell (Blk.ext hB82 h) rfl
  have k2 := fun w' (h : Ext w8 w') => callsE (htenant_any (Blk.ext hP81 h))
  have k3 := fun w' (h : Ext w8 w') => htarget_any ho (Blk.ext hP81 h)
  have k4 := fun w' (h : Ext w8 w') => callsE (hreason_any ho (Blk.ext hP81 h))
  have k22 := fun w' (h : Ext w8 w') => callsE (htenant_any (Blk.ext hP8 h))
  have k32 := fun w' (h : Ext w8 w') => htarget_any ho (Blk.ext hP8 h)
  have k42 := fun w' (h : Ext w8 w') => callsE (hreason_any ho (Blk.ext hP8 h))
  unfold tv at k3 k32
  have c0 := fun (w' : World) (h : Ext w8 w') => KA.out w' (hx8.trans h)
  have hself := toList_self_ne8 o2
  clear hP81 hP8 hR8 hH8 hB8 hB82
  refine wp_region_rg w8 (by kernel_rfl) (by kernel_rfl) (Ext.refl _) ?_
  (apply goV_call (by intro u; rfl) c0; · (intro u w hSw hF; go_simp; try with_reducible rfl))
  try simp only [aput, List.set]
  iterate 23
   (apply goV_val _ (by intro u; rfl); · (intro u w hSw hF; go_simp; try with_reducible rfl))
   try simp only [aput, List.set]
  (apply goV_val (.pointer (some ⟨c, 0, none⟩)) (by intro u; rfl); · (intro u w hSw hF; have c0 := g0 w hSw; go_simp))
  try simp only [aput, List.set]
  (apply goV_call (by intro u; rfl) k3; · (intro u w hSw hF; go_simp; try with_reducible rfl))
  try simp only [aput, List.set]
  (apply goV_val _ (by intro u; rfl); · (intro u w hSw hF; go_simp; try with_reducible rfl))
  try simp only [aput, List.set]
  (apply goV_val (.pointer (some ⟨c2, 0, none⟩)) (by intro u; rfl); · (intro u w hSw hF; have c0 := g02 w hSw; go_simp))
  try simp only [aput, List.set]
  (apply goV_call (by intro u; rfl) k32; · (intro u w hSw hF; go_simp; try with_reducible rfl))
  try simp only [aput, List.set]
  (apply goV_eqTd (by intro u; rfl) _ _ rfl ht ht (decide_eq_true rfl) (by intro u; rfl) (by intro u; rfl))
  try simp only [aput, List.set]
  iterate 3
   (apply goV_val _ (by intro u; rfl); · (intro u w hSw hF; go_simp; try with_reducible rfl))
   try simp only [aput, List.set]
  (apply goV_val (.pointer (some ⟨c, 0, none⟩)) (by intro u; rfl); · (intro u w hSw hF; have c0 := g0 w hSw; go_simp))
  try simp only [aput, List.set]
  (apply goV_call (by intro u; rfl) k2; · (intro u w hSw hF; go_simp; try with_reducible rfl))
  try simp only [aput, List.set]
  (apply goV_val _ (by intro u; rfl); · (intro u w hSw hF; go_simp; try with_reducible rfl))
  try simp only [aput, List.set]
  (apply goV_val (.pointer (some ⟨c2, 0, none⟩)) (by intro u; rfl); · (intro u w hSw hF; have c0 := g02 w hSw; go_simp))
  try simp only [aput, List.set]
  (apply goV_call (by intro u; rfl) k22; · (intro u w hSw hF; go_simp; try with_reducible rfl))
  try simp only [aput, List.set]
  iterate 4
   (apply goV_val _ (by intro u; rfl); · (intro u w hSw hF; go_simp; try with_reducible rfl))
   try simp only [aput, List.set]
  (apply goV_val (.pointer (some ⟨c, 0, none⟩)) (by intro u; rfl); · (intro u w hSw hF; have c0 := g0 w hSw; go_simp))
  try simp only [aput, List.set]
  (apply goV_call (by intro u; rfl) k4; · (intro u w hSw hF; go_simp; try with_reducible rfl))
  try simp only [aput, List.set]
  (apply goV_val _ (by intro u; rfl); · (intro u w hSw hF; go_simp; try with_reducible rfl))
  try simp only [aput, List.set]
  (apply goV_val (.pointer (some ⟨c2, 0, none⟩)) (by intro u; rfl); · (intro u w hSw hF; have c0 := g02 w hSw; go_simp))
  try simp only [aput, List.set]
  (apply goV_call (by intro u; rfl) k42; · (intro u w hSw hF; go_simp; try with_reducible rfl))
  try simp only [aput, List.set]
  iterate 3
   (apply goV_val _ (by intro u; rfl); · (intro u w hSw hF; go_simp; try with_reducible rfl))
   try simp only [aput, List.set]
  intro u w9 hx9 _
  go_wp2
  go_ret; exact ⟨rfl, hx8.trans hx9⟩
 | true =>
  clear hz1 ht hv
  generalize skB i t = s0 at *
  go_upto_region 8 with (first | (go_at_call 21; refine (KM.out _).mono ?_; rintro e wm2 ⟨rfl, hxm⟩) | (go_at_call 17; refine (KT.out _).mono ?_; rintro e w52 ⟨t2, ht2, hv2, rfl, hx5⟩; have KC := Lib.hid (fun w => gconn_any i (by omega) t2 ht2 hv2 w); have hz1 := fmtC_le8 (cnC i t2); have y1 : ¬ 9223372036854775807 < (fmtC (cnC i t2)).1.size + raw.size := (by omega)) | (go_at_call 18; refine (KC.out _).mono ?_; rintro e w62 ⟨rfl, hx6⟩))
  have hx47 := ((hx46.trans hxm).trans hx5).trans hx6
  clear KM KT KC hxm hx5 hx6 hx46 y1
  have hss : (fmtC (cnC i t2)).1.size <= 600 := by omega
  generalize (fmtC (cnC i t2)).1 = ss at *
  clear ht2 hv2 hz1
  replace hH := hH.ext hP hR hx47
  replace hP : HBlk TH _ c _ _ := Blk.ext hP hx47
  replace hR : HBlk TR _ d _ _ := Blk.ext hR hx47
  replace hB := Blk.ext hB hx47
  replace hH2 := hH2.ext hP2 hR2 hx47
  replace hP2 : HBlk TH _ c2 _ _ := Blk.ext hP2 hx47
  replace hR2 : HBlk TR _ d2 _ _ := Blk.ext hR2 hx47
  replace hB2 := Blk.ext hB2 hx47
  replace hx1 := hx1.trans hx47
  have hZ : (ss ++ raw).size <= 281474976710656 := by rw [size_app]; omega
  generalize ss ++ raw = Z at *
  have KF := Lib.hid (pieces_any Z hZ henv htabs hl1n HL1.out hH hP hR)
  go_upto_region 9 with (first | refine wpList_load_Hs rfl _ rfl rfl hB ?_ | (go_at_call 10; refine KF.out.mono ?_; rintro e w7 ⟨n1, o1, s1, hF1, rfl, hk7, hH7, hP7, hR7, hs7⟩))
  have hcw : w.heap.size <= c := by obtain ⟨_, _, _, _, _, _, hc, _⟩ := id hH; exact hc
  have hcd : c < d := by obtain ⟨_, _, _, _, _, _, _, _, hc, _⟩ := id hH; exact hc
  have hcd3 : c2 < d2 := by obtain ⟨_, _, _, _, _, _, _, _, hc, _⟩ := id hH2; exact hc
  have hx7 := Keep.ext ((hx1.keep [c, d]).trans hk7) (fun y hy => by simp only [List.mem_cons, List.not_mem_nil, or_false] at hy; omega)
  have hH72 := hH2.other hP hR hk7 hcw (by omega)
  have hP72 : HBlk TH _ c2 _ _ := Blk.keep hP2 hk7 (by simp only [List.mem_cons, List.not_mem_nil, or_false]; omega)
  have hR72 : HBlk TR _ d2 _ _ := Blk.keep hR2 hk7 (by simp only [List.mem_cons, List.not_mem_nil, or_false]; omega)
  have hB7 := Blk.keep hB hk7 (by
   simp only [List.mem_cons, List.not_mem_nil, or_false]
   exact fun q => q.elim (fun q => Blk.ne_type hB hP (by decide) q) (fun q => Blk.ne_type hB hR (by decide) q))
  have hB72 := Blk.keep hB2 hk7 (by
   simp only [List.mem_cons, List.not_mem_nil, or_false]
   exact fun q => q.elim (fun q => Blk.ne_type hB2 hP (by decide) q) (fun q => Blk.ne_type hB2 hR (by decide) q))
  clear hH hP hR hB hH2 hP2 hR2 hB2 hk7 KF
  have KG := Lib.hid (pieces_any Z hZ henv htabs hl2n HL2.out hH72 hP72 hR72)
  go_upto_region 10 with (first | refine wpList_load_Hs rfl _ rfl rfl hB72 ?_ | (go_at_call 10; refine KG.out.mono ?_; rintro e w8 ⟨n2, o2, s2, hF2, rfl, hk8, hH8, hP8, hR8, hs8⟩))
  obtain ⟨en2, eo2, es2⟩ := hF2.1.same hF2.2 hF1.1 hF1.2
  subst es2 en2 eo2
  have hcw2 : w.heap.size <= c2 := by omega
  have hx8 := Keep.ext ((hx7.keep [c2, d2]).trans hk8) (fun y hy => by simp only [List.mem_cons, List.not_mem_nil, or_false] at hy; omega)
  have hP81 : HBlk TH _ c _ _ := Blk.keep hP7 hk8 (by simp only [List.mem_cons, List.not_mem_nil, or_false]; omega)
  have hB8 := Blk.keep hB7 hk8 (by
   simp only [List.mem_cons, List.not_mem_nil, or_false]
   exact fun q => q.elim (fun q => Blk.ne_type hB7 hP72 (by decide) q) (fun q => Blk.ne_type hB7 hR72 (by decide) q))
  have hB82 := Blk.keep hB72 hk8 (by
   simp only [List.mem_cons, List.not_mem_nil, or_false]
   exact fun q => q.elim (fun q => Blk.ne_type hB72 hP72 (by decide) q) (fun q => Blk.ne_type hB72 hR72 (by decide) q))
  clear hF1 hF2 KG hB7 hB72 hP72 hR72 hH72 hk8 hP7 hR7 hH7
  have ho := hs8.2.1
  have ht := hs8.2.1
  have g0 : ∀ w', Ext w8 w' -> w'.cell? ⟨b, 0, none⟩ = some (.pointer (some ⟨c, 0, none⟩)) := fun w' h => Blk.cell (Blk.ext hB8 h) rfl
  have g02 : ∀ w', Ext w8 w' -> w'.cell? ⟨b2, 0, none⟩ = some (.pointer (some ⟨c2, 0, none⟩)) := fun w' h => Blk.cell (Blk.ext hB82 h) rfl
  have k2 := fun w' (h : Ext w8 w') => callsE (htenant_any (Blk.ext hP81 h))
  have k3 := fun w' (h : Ext w8 w') => htarget_any ho (Blk.ext hP81 h)
  have k4 := fun w' (h : Ext w8 w') => callsE (hreason_any ho (Blk.ext hP81 h))
  have k22 := fun w' (h : Ext w8 w') => callsE (htenant_any (Blk.ext hP8 h))
  have k32 := fun w' (h : Ext w8 w') => htarget_any ho (Blk.ext hP8 h)
  have k42 := fun w' (h : Ext w8 w') => callsE (hreason_any ho (Blk.ext hP8 h))
  unfold tv at k3 k32
  have c0 := fun (w' : World) (h : Ext w8 w') => KA.out w' (hx8.trans h)
  have hself := toList_self_ne8 o2
  clear hP81 hP8 hR8 hH8 hB8 hB82
  refine wp_region_rg w8 (by kernel_rfl) (by kernel_rfl) (Ext.refl _) ?_
  (apply goV_call (by intro u; rfl) c0; · (intro u w hSw hF; go_simp; try with_reducible rfl))
  try simp only [aput, List.set]
  iterate 23
   (apply goV_val _ (by intro u; rfl); · (intro u w hSw hF; go_simp; try with_reducible rfl))
   try simp only [aput, List.set]
  (apply goV_val (.pointer (some ⟨c, 0, none⟩)) (by intro u; rfl); · (intro u w hSw hF; have c0 := g0 w hSw; go_simp))
  try simp only [aput, List.set]
  (apply goV_call (by intro u; rfl) k3; · (intro u w hSw hF; go_simp; try with_reducible rfl))
  try simp only [aput, List.set]
  (apply goV_val _ (by intro u; rfl); · (intro u w hSw hF; go_simp; try with_reducible rfl))
  try simp only [aput, List.set]
  (apply goV_val (.pointer (some ⟨c2, 0, none⟩)) (by intro u; rfl); · (intro u w hSw hF; have c0 := g02 w hSw; go_simp))
  try simp only [aput, List.set]
  (apply goV_call (by intro u; rfl) k32; · (intro u w hSw hF; go_simp; try with_reducible rfl))
  try simp only [aput, List.set]
  (apply goV_eqTd (by intro u; rfl) _ _ rfl ht ht (decide_eq_true rfl) (by intro u; rfl) (by intro u; rfl))
  try simp only [aput, List.set]
  iterate 3
   (apply goV_val _ (by intro u; rfl); · (intro u w hSw hF; go_simp; try with_reducible rfl))
   try simp only [aput, List.set]
  (apply goV_val (.pointer (some ⟨c, 0, none⟩)) (by intro u; rfl); · (intro u w hSw hF; have c0 := g0 w hSw; go_simp))
  try simp only [aput, List.set]
  (apply goV_call (by intro u; rfl) k2; · (intro u w hSw hF; go_simp; try with_reducible rfl))
  try simp only [aput, List.set]
  (apply goV_val _ (by intro u; rfl); · (intro u w hSw hF; go_simp; try with_reducible rfl))
  try simp only [aput, List.set]
  (apply goV_val (.pointer (some ⟨c2, 0, none⟩)) (by intro u; rfl); · (intro u w hSw hF; have c0 := g02 w hSw; go_simp))
  try simp only [aput, List.set]
  (apply goV_call (by intro u; rfl) k22; · (intro u w hSw hF; go_simp; try with_reducible rfl))
  try simp only [aput, List.set]
  iterate 4
   (apply goV_val _ (by intro u; rfl); · (intro u w hSw hF; go_simp; try with_reducible rfl))
   try simp only [aput, List.set]
  (apply goV_val (.pointer (some ⟨c, 0, none⟩)) (by intro u; rfl); · (intro u w hSw hF; have c0 := g0 w hSw; go_simp))
  try simp only [aput, List.set]
  (apply goV_call (by intro u; rfl) k4; · (intro u w hSw hF; go_simp; try with_reducible rfl))
  try simp only [aput, List.set]
  (apply goV_val _ (by intro u; rfl); · (intro u w hSw hF; go_simp; try with_reducible rfl))
  try simp only [aput, List.set]
  (apply goV_val (.pointer (some ⟨c2, 0, none⟩)) (by intro u; rfl); · (intro u w hSw hF; have c0 := g02 w hSw; go_simp))
  try simp only [aput, List.set]
  (apply goV_call (by intro u; rfl) k42; · (intro u w hSw hF; go_simp; try with_reducible rfl))
  try simp only [aput, List.set]
  iterate 3
   (apply goV_val _ (by intro u; rfl); · (intro u w hSw hF; go_simp; try with_reducible rfl))
   try simp only [aput, List.set]
  intro u w9 hx9 _
  go_wp2
  go_ret; exact ⟨rfl, hx8.trans hx9⟩
end Go.Proofs.YtnohnnjeabehjaaGreatDoor
