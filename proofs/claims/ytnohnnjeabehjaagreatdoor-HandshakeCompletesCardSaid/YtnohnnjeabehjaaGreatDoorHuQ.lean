/-
  HandshakeCompletes.
-/
import Derived.Test.YtnohnnjeabehjaaGreatDoorK39
import Derived.Test.YtnohnnjeabehjaaGreatDoorK40
set_option maxHeartbeats 8000000
set_option maxRecDepth 8000
set_option linter.unusedVariables false
set_option linter.unusedSimpArgs false
namespace Go.Proofs.YtnohnnjeabehjaaGreatDoor
open Go.RowKit Go.Joins
theorem toR_done {p : Int} {i : Int} {t : Tgt} : toR (5, 1, p, i, t, 0) = ⟨#[]⟩ := by
 unfold toR; simp
theorem ok5210 : (str2 5 2 ++ str2 1 0 : ByteArray) = ⟨#[5, 2, 1, 0]⟩ := by decide +kernel
theorem HandshakeCompletes_walk (n who : Int) (raw : ByteArray) (http : Bool) (_ : (Lit.int .i64 n).wf = true) (_ : (Lit.int .i64 who).wf = true) (hraw : raw.size <= 140737488351232)
  (w : World) (henv : Env w) (htabs : Tabs w) :
  Calls Tryz.prog 6 #[.int .i64 n, .int .i64 who, .string raw, .bool http] w fun e w' => e = .returned (.bool true) /\ Ext w w' := by
 have K8 := Lib.hid (fun w => newhs_any w)
 have KA := Lib.hid (fun w' (h : Ext w w') => awake_any (henv.ext h) (htabs.ext h))
 have KT := Lib.hid (fun w => gtarget_any n w)
 have KM0 := fun w => mod_any who 3 w (by decide)
 have hm := modI_bd who (n := 3) (by decide) (by decide)
 obtain ⟨i, hmi⟩ : ∃ i : Nat, modI who 3 = i := ⟨(modI who 3).toNat, by omega⟩
 rw [hmi] at KM0 hm
 have hi : i < 3 := by omega
 have KM := Lib.hid KM0
 clear KM0 hmi hm
 go_enter Tryz.func6, Tryz.ntmps6
 go_upto_region 2 with (go_at_call 8; refine (K8.out _).mono ?_; rintro e w1 ⟨v1, rfl, hx1, x, g, c, d, rfl, hH, hP, hR⟩)
 have hxa := (Ext.refl w1).alloc (.cells #[.pointer (some ⟨c, 0, none⟩), .pointer (some ⟨d, 0, none⟩)] 26)
 have hB := Blk.new w1 #[.pointer (some ⟨c, 0, none⟩), .pointer (some ⟨d, 0, none⟩)] 26
 replace hH := (hH).ext hP hR hxa
 replace hP : HBlk TH _ c _ _ := Blk.ext hP hxa
 replace hR : HBlk TR _ d _ _ := Blk.ext hR hxa
 replace hx1 := (hx1).trans hxa
 clear hxa
 generalize (w1).alloc (.cells #[.pointer (some ⟨c, 0, none⟩), .pointer (some ⟨d, 0, none⟩)] 26) = w2 at *
 generalize (w1).heap.size = b at *
 clear K8
 go_wp2_with (first | (go_at_call 21; refine (KM.out _).mono ?_; rintro e wm ⟨rfl, hxm⟩) | (go_at_call 17; refine (KT.out _).mono ?_; rintro e w3 ⟨t, ht, hv, rfl, hx3⟩; refine Hid.out ?_))
 refine Lib.hid ?_
 have hx13 := hxm.trans hx3
 have hxx3 := hx1.trans hx13
 have hbf := Blk.new w3 (tc ztgt) 43
 go_upto_region 5 with (refine wpList_store_T rfl _ _ rfl okT_ztgt ht hbf rfl rfl ?_)
 change Code.wp _ _ _ _ ((w3.alloc (.cells (tc ztgt) 43)).setRow w3.heap.size (tc t))
 rw [World.setRow_alloc_new]
 have hbt := Blk.new w3 (tc t) 43
 have hx4 := hxx3.alloc (.cells (tc t) 43)
 have hnx := (Ext.refl w3).alloc (.cells (tc t) 43)
 clear hbf
 generalize w3.alloc (.cells (tc t) 43) = w4 at *
 generalize w3.heap.size = bt at *
 have hx24 := hx13.trans hnx
 replace hH := hH.ext hP hR hx24
 replace hP : HBlk TH _ c _ _ := Blk.ext hP hx24
 replace hR : HBlk TR _ d _ _ := Blk.ext hR hx24
 replace hB := Blk.ext hB hx24
 clear hxx3 hx13 hxm hx3 hnx hx24 hx1 KM KT
 have KS := Lib.hid (fun w => gsocks_any i (by omega) t ht hv w)
 have KC := Lib.hid (fun w => gconn_any i (by omega) t ht hv w)
 have hz1 := skB_size i ht hv
 have hF1 := Lib.hid (skB_fed txt3 ht hv hi raw)
 rw [ok5210] at hF1
 have hF2 := Lib.hid (cnB_fed txt3 ht hv hi raw)
 have hz2 := (cnC_fmt ht hv hi).2
 rw [(cnC_fmt ht hv hi).1] at KC
 generalize skB i t = s1 at *
 generalize hdT (cnC i t) = s2 at *
 unfold hs5 at hF1
 unfold hs5c at hF2
 unfold tv at KS KC
 cases http with
 | false =>
  go_upto_region 9 with (first | refine wpList_load_T rfl _ rfl ht hbt rfl ?_ | (go_at_call 20; refine (KS.out _).mono ?_; rintro e w6 ⟨rfl, hx6⟩))
  clear KS KC hF2 hz2
  obtain ⟨pp, hpp⟩ : ∃ pp : Int, pp = 1 := ⟨_, rfl⟩
  have HF : Hid (Fed txt3 tn3 zhst (s1 ++ raw) s1.size ⟨#[5, 2, 1, 0]⟩ (5, 1, pp, (i : Int), t, 0)) := by rw [hpp]; exact hF1
  clear hpp hF1
  have hss : s1.size <= 600 := by omega
  clear hz1
  generalize s1 = ss at *
  replace hH := hH.ext hP hR hx6
  replace hP : HBlk TH _ c _ _ := Blk.ext hP hx6
  replace hR : HBlk TR _ d _ _ := Blk.ext hR hx6
  replace hB := Blk.ext hB hx6
  replace hbt := Blk.ext hbt hx6
  replace hx4 := hx4.trans hx6
  have KF := Lib.hid (feed_any (ss ++ raw) (by rw [size_app]; omega) henv htabs hH okS_zhst hP hR)
  have y1 : ¬ 9223372036854775807 < ss.size + raw.size := by omega
  go_upto_region 10 with (first | refine wpList_load_Hs rfl _ rfl rfl hB ?_ | (go_at_call 25; refine KF.out.mono ?_; rintro e w7 ⟨n1, o1, s1, hF, rfl, hk7, hH7, hP7, hR7, hs7, ho7⟩))
  obtain ⟨en1, eo1, es1⟩ := hF.1.same hF.2 HF.out.1 HF.out.2
  subst es1 en1 eo1
  clear hF KF HF
  have hcw : w.heap.size <= c := by obtain ⟨_, _, _, _, _, _, hc, _⟩ := id hH; exact hc
  have hcd : c < d := by obtain ⟨_, _, _, _, _, _, _, _, hc, _⟩ := id hH; exact hc
  have hx7 := Keep.ext ((hx4.keep [c, d]).trans hk7) (fun y hy => by simp only [List.mem_cons, List.not_mem_nil, or_false] at hy; omega)
  have hbn : b ∉ [c, d] := by
   simp only [List.mem_cons, List.not_mem_nil, or_false]
   exact fun q => q.elim (fun q => Blk.ne_type hB hP (by decide) q) (fun q => Blk.ne_type hB hR (by decide) q)
  have hbtn : bt ∉ [c, d] := by
   simp only [List.mem_cons, List.not_mem_nil, or_false]
   exact fun q => q.elim (fun q => Blk.ne_type hbt hP (by decide) q) (fun q => Blk.ne_type hbt hR (by decide) q)
  have hB7 := Blk.keep hB hk7 hbn
  have hbt7 := TBlk.keepS hbt hk7 hbtn
  clear hH hP hR hB hk7 hbt
  have KG := Lib.hid (feed_any raw (by omega) henv htabs hH7 hs7 hP7 hR7)
  go_upto_region 11 with (first | refine wpList_load_Hs rfl _ rfl rfl hB7 ?_ | (go_at_call 25; refine KG.out.mono ?_; rintro e w8 ⟨n2, o2, s2, hF2, rfl, hk8, hH8, hP8, hR8, hs8, ho8⟩))
  have HD := done_fed txt3 tn3 (s := (5, 1, pp, (i : Int), t, 0)) rfl raw
  obtain ⟨en2, eo2, es2⟩ := hF2.1.same hF2.2 HD.1 HD.2
  subst es2 en2 eo2
  have hx8 := Keep.ext ((hx7.keep [c, d]).trans hk8) (fun y hy => by simp only [List.mem_cons, List.not_mem_nil, or_false] at hy; omega)
  have hB8 := Blk.keep hB7 hk8 hbn
  have hbt8 := TBlk.keepS hbt7 hk8 hbtn
  clear hF2 HD KG hB7 hP7 hR7 hH7 hk8 hbt7
  have ho : okH (5, 1, pp, (i : Int), t, 0) := ht
  have g0 : ∀ w', Ext w8 w' -> w'.cell? ⟨b, 0, none⟩ = some (.pointer (some ⟨c, 0, none⟩)) := fun w' h => Blk.cell (Blk.ext hB8 h) rfl
  have gT : ∀ w', Ext w8 w' -> TBlk w' bt t := fun w' h => Blk.ext hbt8 h
  have k1 := fun w' (h : Ext w8 w') => callsE (htenant_any (Blk.ext hP8 h))
  have k3 := fun w' (h : Ext w8 w') => htarget_any ho (Blk.ext hP8 h)
  have k4 := fun w' (h : Ext w8 w') => callsE (hreason_any ho (Blk.ext hP8 h))
  have k5 := fun w' (h : Ext w8 w') => hto_any (htabs.ext (hx8.trans h)) hs8 (Blk.ext hP8 h)
  rw [toR_done] at k5
  unfold tv at k3
  have c0 := fun (w' : World) (h : Ext w8 w') => KA.out w' (hx8.trans h)
  clear hP8 hR8 hH8 hB8 y1 hss
  refine wp_region_rg w8 (by kernel_rfl) (by kernel_rfl) (Ext.refl _) ?_
  first
   | (apply goV_skip (by intro u; rfl))
   | (apply goV_call (by intro u; rfl) c0; · (intro u w hSw hF; go_simp; try with_reducible rfl))
  try simp only [aput, List.set]
  iterate 35
   first
    | (apply goV_skip (by intro u; rfl))
    | (apply goV_val _ (by intro u; rfl); · (intro u w hSw hF; go_simp; try with_reducible rfl))
   try simp only [aput, List.set]
  first
   | (apply goV_skip (by intro u; rfl))
   | (apply goV_val (.pointer (some ⟨c, 0, none⟩)) (by intro u; rfl); · (intro u w hSw hF; have c0 := g0 w hSw; go_simp))
  try simp only [aput, List.set]
  first
   | (apply goV_skip (by intro u; rfl))
   | (apply goV_call (by intro u; rfl) k1; · (intro u w hSw hF; go_simp; try with_reducible rfl))
  try simp only [aput, List.set]
  iterate 5
   first
    | (apply goV_skip (by intro u; rfl))
    | (apply goV_val _ (by intro u; rfl); · (intro u w hSw hF; go_simp; try with_reducible rfl))
   try simp only [aput, List.set]
  first
   | (apply goV_skip (by intro u; rfl))
   | (apply goV_val (.pointer (some ⟨c, 0, none⟩)) (by intro u; rfl); · (intro u w hSw hF; have c0 := g0 w hSw; go_simp))
  try simp only [aput, List.set]
  first
   | (apply goV_skip (by intro u; rfl))
   | (apply goV_call (by intro u; rfl) k3; · (intro u w hSw hF; go_simp; try with_reducible rfl))
  try simp only [aput, List.set]
  first
   | (apply goV_skip (by intro u; rfl))
   | (apply goV_loadT (by intro u; rfl) _ rfl ht gT (by intro u; rfl))
  try simp only [aput, List.set]
  first
   | (apply goV_skip (by intro u; rfl))
   | (apply goV_eqTd (by intro u; rfl) _ _ rfl ht ht (decide_eq_true rfl) (by intro u; rfl) (by intro u; rfl))
  try simp only [aput, List.set]
  iterate 3
   first
    | (apply goV_skip (by intro u; rfl))
    | (apply goV_val _ (by intro u; rfl); · (intro u w hSw hF; go_simp; try with_reducible rfl))
   try simp only [aput, List.set]
  first
   | (apply goV_skip (by intro u; rfl))
   | (apply goV_val (.pointer (some ⟨c, 0, none⟩)) (by intro u; rfl); · (intro u w hSw hF; have c0 := g0 w hSw; go_simp))
  try simp only [aput, List.set]
  first
   | (apply goV_skip (by intro u; rfl))
   | (apply goV_call (by intro u; rfl) k4; · (intro u w hSw hF; go_simp; try with_reducible rfl))
  try simp only [aput, List.set]
  iterate 4
   first
    | (apply goV_skip (by intro u; rfl))
    | (apply goV_val _ (by intro u; rfl); · (intro u w hSw hF; go_simp; try with_reducible rfl))
   try simp only [aput, List.set]
  first
   | (apply goV_skip (by intro u; rfl))
   | (apply goV_val (.pointer (some ⟨c, 0, none⟩)) (by intro u; rfl); · (intro u w hSw hF; have c0 := g0 w hSw; go_simp))
  try simp only [aput, List.set]
  first
   | (apply goV_skip (by intro u; rfl))
   | (apply goV_call (by intro u; rfl) k5; · (intro u w hSw hF; go_simp; try with_reducible rfl))
  try simp only [aput, List.set]
  iterate 3
   first
    | (apply goV_skip (by intro u; rfl))
    | (apply goV_val _ (by intro u; rfl); · (intro u w hSw hF; go_simp; try with_reducible rfl))
   try simp only [aput, List.set]
  intro u w9 hx9 _
  go_wp2
  go_ret; exact ⟨rfl, hx8.trans hx9⟩
 | true =>
  go_upto_region 9 with (first | refine wpList_load_T rfl _ rfl ht hbt rfl ?_ | refine wpList_load_T rfl _ rfl ht hbt6 rfl ?_ | (go_at_call 20; refine (KS.out _).mono ?_; rintro e w5 ⟨rfl, hx5⟩; have hbt6 := Blk.ext hbt hx5) | (go_at_call 18; refine (KC.out _).mono ?_; rintro e w6 ⟨rfl, hx6⟩))
  clear KS KC hF1 hz1 hbt6
  obtain ⟨pp, hpp⟩ : ∃ pp : Int, pp = 2 := ⟨_, rfl⟩
  have HF : Hid (Fed txt3 tn3 zhst (s2 ++ raw) s2.size ⟨#[]⟩ (5, 1, pp, (i : Int), t, 0)) := by rw [hpp]; exact hF2
  clear hpp hF2
  have hss : s2.size <= 600 := by omega
  clear hz2
  generalize s2 = ss at *
  have hx56 := hx5.trans hx6
  replace hH := hH.ext hP hR hx56
  replace hP : HBlk TH _ c _ _ := Blk.ext hP hx56
  replace hR : HBlk TR _ d _ _ := Blk.ext hR hx56
  replace hB := Blk.ext hB hx56
  replace hbt := Blk.ext hbt hx56
  replace hx4 := hx4.trans hx56
  have KF := Lib.hid (feed_any (ss ++ raw) (by rw [size_app]; omega) henv htabs hH okS_zhst hP hR)
  have y1 : ¬ 9223372036854775807 < ss.size + raw.size := by omega
  go_upto_region 10 with (first | refine wpList_load_Hs rfl _ rfl rfl hB ?_ | (go_at_call 25; refine KF.out.mono ?_; rintro e w7 ⟨n1, o1, s1, hF, rfl, hk7, hH7, hP7, hR7, hs7, ho7⟩))
  obtain ⟨en1, eo1, es1⟩ := hF.1.same hF.2 HF.out.1 HF.out.2
  subst es1 en1 eo1
  clear hF KF HF
  have hcw : w.heap.size <= c := by obtain ⟨_, _, _, _, _, _, hc, _⟩ := id hH; exact hc
  have hcd : c < d := by obtain ⟨_, _, _, _, _, _, _, _, hc, _⟩ := id hH; exact hc
  have hx7 := Keep.ext ((hx4.keep [c, d]).trans hk7) (fun y hy => by simp only [List.mem_cons, List.not_mem_nil, or_false] at hy; omega)
  have hbn : b ∉ [c, d] := by
   simp only [List.mem_cons, List.not_mem_nil, or_false]
   exact fun q => q.elim (fun q => Blk.ne_type hB hP (by decide) q) (fun q => Blk.ne_type hB hR (by decide) q)
  have hbtn : bt ∉ [c, d] := by
   simp only [List.mem_cons, List.not_mem_nil, or_false]
   exact fun q => q.elim (fun q => Blk.ne_type hbt hP (by decide) q) (fun q => Blk.ne_type hbt hR (by decide) q)
  have hB7 := Blk.keep hB hk7 hbn
  have hbt7 := TBlk.keepS hbt hk7 hbtn
  clear hH hP hR hB hk7 hbt
  have KG := Lib.hid (feed_any raw (by omega) henv htabs hH7 hs7 hP7 hR7)
  go_upto_region 11 with (first | refine wpList_load_Hs rfl _ rfl rfl hB7 ?_ | (go_at_call 25; refine KG.out.mono ?_; rintro e w8 ⟨n2, o2, s2, hF2, rfl, hk8, hH8, hP8, hR8, hs8, ho8⟩))
  have HD := done_fed txt3 tn3 (s := (5, 1, pp, (i : Int), t, 0)) rfl raw
  obtain ⟨en2, eo2, es2⟩ := hF2.1.same hF2.2 HD.1 HD.2
  subst es2 en2 eo2
  have hx8 := Keep.ext ((hx7.keep [c, d]).trans hk8) (fun y hy => by simp only [List.mem_cons, List.not_mem_nil, or_false] at hy; omega)
  have hB8 := Blk.keep hB7 hk8 hbn
  have hbt8 := TBlk.keepS hbt7 hk8 hbtn
  clear hF2 HD KG hB7 hP7 hR7 hH7 hk8 hbt7
  have ho : okH (5, 1, pp, (i : Int), t, 0) := ht
  have g0 : ∀ w', Ext w8 w' -> w'.cell? ⟨b, 0, none⟩ = some (.pointer (some ⟨c, 0, none⟩)) := fun w' h => Blk.cell (Blk.ext hB8 h) rfl
  have gT : ∀ w', Ext w8 w' -> TBlk w' bt t := fun w' h => Blk.ext hbt8 h
  have k1 := fun w' (h : Ext w8 w') => callsE (htenant_any (Blk.ext hP8 h))
  have k3 := fun w' (h : Ext w8 w') => htarget_any ho (Blk.ext hP8 h)
  have k4 := fun w' (h : Ext w8 w') => callsE (hreason_any ho (Blk.ext hP8 h))
  have k5 := fun w' (h : Ext w8 w') => hto_any (htabs.ext (hx8.trans h)) hs8 (Blk.ext hP8 h)
  rw [toR_done] at k5
  unfold tv at k3
  have c0 := fun (w' : World) (h : Ext w8 w') => KA.out w' (hx8.trans h)
  clear hP8 hR8 hH8 hB8 y1 hss
  refine wp_region_rg w8 (by kernel_rfl) (by kernel_rfl) (Ext.refl _) ?_
  first
   | (apply goV_skip (by intro u; rfl))
   | (apply goV_call (by intro u; rfl) c0; · (intro u w hSw hF; go_simp; try with_reducible rfl))
  try simp only [aput, List.set]
  iterate 35
   first
    | (apply goV_skip (by intro u; rfl))
    | (apply goV_val _ (by intro u; rfl); · (intro u w hSw hF; go_simp; try with_reducible rfl))
   try simp only [aput, List.set]
  first
   | (apply goV_skip (by intro u; rfl))
   | (apply goV_val (.pointer (some ⟨c, 0, none⟩)) (by intro u; rfl); · (intro u w hSw hF; have c0 := g0 w hSw; go_simp))
  try simp only [aput, List.set]
  first
   | (apply goV_skip (by intro u; rfl))
   | (apply goV_call (by intro u; rfl) k1; · (intro u w hSw hF; go_simp; try with_reducible rfl))
  try simp only [aput, List.set]
  iterate 5
   first
    | (apply goV_skip (by intro u; rfl))
    | (apply goV_val _ (by intro u; rfl); · (intro u w hSw hF; go_simp; try with_reducible rfl))
   try simp only [aput, List.set]
  first
   | (apply goV_skip (by intro u; rfl))
   | (apply goV_val (.pointer (some ⟨c, 0, none⟩)) (by intro u; rfl); · (intro u w hSw hF; have c0 := g0 w hSw; go_simp))
  try simp only [aput, List.set]
  first
   | (apply goV_skip (by intro u; rfl))
   | (apply goV_call (by intro u; rfl) k3; · (intro u w hSw hF; go_simp; try with_reducible rfl))
  try simp only [aput, List.set]
  first
   | (apply goV_skip (by intro u; rfl))
   | (apply goV_loadT (by intro u; rfl) _ rfl ht gT (by intro u; rfl))
  try simp only [aput, List.set]
  first
   | (apply goV_skip (by intro u; rfl))
   | (apply goV_eqTd (by intro u; rfl) _ _ rfl ht ht (decide_eq_true rfl) (by intro u; rfl) (by intro u; rfl))
  try simp only [aput, List.set]
  iterate 3
   first
    | (apply goV_skip (by intro u; rfl))
    | (apply goV_val _ (by intro u; rfl); · (intro u w hSw hF; go_simp; try with_reducible rfl))
   try simp only [aput, List.set]
  first
   | (apply goV_skip (by intro u; rfl))
   | (apply goV_val (.pointer (some ⟨c, 0, none⟩)) (by intro u; rfl); · (intro u w hSw hF; have c0 := g0 w hSw; go_simp))
  try simp only [aput, List.set]
  first
   | (apply goV_skip (by intro u; rfl))
   | (apply goV_call (by intro u; rfl) k4; · (intro u w hSw hF; go_simp; try with_reducible rfl))
  try simp only [aput, List.set]
  iterate 4
   first
    | (apply goV_skip (by intro u; rfl))
    | (apply goV_val _ (by intro u; rfl); · (intro u w hSw hF; go_simp; try with_reducible rfl))
   try simp only [aput, List.set]
  first
   | (apply goV_skip (by intro u; rfl))
   | (apply goV_val (.pointer (some ⟨c, 0, none⟩)) (by intro u; rfl); · (intro u w hSw hF; have c0 := g0 w hSw; go_simp))
  try simp only [aput, List.set]
  first
   | (apply goV_skip (by intro u; rfl))
   | (apply goV_call (by intro u; rfl) k5; · (intro u w hSw hF; go_simp; try with_reducible rfl))
  try simp only [aput, List.set]
  iterate 3
   first
    | (apply goV_skip (by intro u; rfl))
    | (apply goV_val _ (by intro u; rfl); · (intro u w hSw hF; go_simp; try with_reducible rfl))
   try simp only [aput, List.set]
  intro u w9 hx9 _
  go_wp2
  go_ret; exact ⟨rfl, hx8.trans hx9⟩
end Go.Proofs.YtnohnnjeabehjaaGreatDoor
