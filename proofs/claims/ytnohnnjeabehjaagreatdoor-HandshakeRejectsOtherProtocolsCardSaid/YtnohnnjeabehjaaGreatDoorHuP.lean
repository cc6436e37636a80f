/-
  HandshakeRejectsOtherProtocols.
-/
import Derived.Test.YtnohnnjeabehjaaGreatDoorK39
import Derived.Test.YtnohnnjeabehjaaGreatDoorK40
set_option maxHeartbeats 8000000
set_option maxRecDepth 8000
set_option linter.unusedVariables false
set_option linter.unusedSimpArgs false
namespace Go.Proofs.YtnohnnjeabehjaaGreatDoor
open Go.RowKit Go.Joins
theorem HandshakeRejectsOtherProtocols_walk (a : Option Addr) (ln lc : Nat) (z : ByteArray) (hzn : z.size = ln) (hzs : z.size <= 140737488351232)
  (w : World) (henv : Env w) (htabs : Tabs w) (hin : OctsIn w a ln lc z) (hcv : ∀ w', Ext w w' -> (convert 33 9 (.slice a ln lc)).run Tryz.prog w' = .ok (.string z) w') :
  Calls Tryz.prog 7 #[.slice a ln lc] w fun e w' => e = .returned (.bool true) /\ Ext w w' := by
 have K8 := Lib.hid (fun w => newhs_any w)
 have KA := Lib.hid (fun w' (h : Ext w w') => awake_any (henv.ext h) (htabs.ext h))
 have HCV := Lib.hid hcv
 clear hcv
 go_enter Tryz.func7, Tryz.ntmps7
 go_upto_region 2 with (go_at_call 8; refine (K8.out _).mono ?_; rintro e w1 ⟨v1, rfl, hx1, x, g, c, d, rfl, hH, hP, hR⟩)
 have hxa := (Ext.refl w1).alloc (.cells #[.pointer (some ⟨c, 0, none⟩), .pointer (some ⟨d, 0, none⟩)] 26)
 have hB := Blk.new w1 #[.pointer (some ⟨c, 0, none⟩), .pointer (some ⟨d, 0, none⟩)] 26
 replace hH := (hH).ext hP hR hxa
 replace hP : HBlk TH _ c _ _ := Blk.ext hP hxa
 replace hR : HBlk TR _ d _ _ := Blk.ext hR hxa
 replace hx1 := (hx1).trans hxa
 clear hxa
 generalize (w1).alloc (.cells #[.pointer (some ⟨c, 0, none⟩), .pointer (some ⟨d, 0, none⟩)] 26) = w2 at *
 generalize (w1).heap.size = b at *
 go_upto_region 4 with fail
 by_cases h0 : ln = 0
 ·have hl0 : (ln : Int) = 0 := by omega
  have HL := Lib.hid hl0
  obtain ⟨hd, HD⟩ : ∃ q : Bool, q = decide ((ln : Int) = 0) := ⟨_, rfl⟩
  subst h0
  go_wp2_with (first | (go_at_call 11; refine (KA.out _ hx1).mono ?_; rintro e w3 ⟨rfl, hx3⟩))
  go_ret
  exact ⟨rfl, hx1.trans hx3⟩
 have hl0 : ¬ (ln : Int) = 0 := by omega
 have hl1 : 0 < (ln : Int) := by omega
 obtain ⟨hq, hq0, _⟩ | ⟨ad, rfl, hlc, hcs, hcell⟩ := hin.ext hx1
 ·omega
 obtain ⟨bl, off, rfl, hbl, hcl⟩ := hcell (by omega)
 have ck := hcl 0 (by omega)
 rw [Nat.add_zero] at ck
 clear hcell hcl
 by_cases h5 : B z 0 = 5
 ·have h5' : (B z 0 == 5) = true := by rw [h5]; rfl
  go_wp2_with (first | (go_at_call 11; refine (KA.out _ hx1).mono ?_; rintro e w3 ⟨rfl, hx3⟩))
  go_ret
  exact ⟨rfl, hx1.trans hx3⟩
 have h5' : (B z 0 == 5) = false := by rw [beq_eq_false_iff_ne]; exact h5
 by_cases h6 : B z 0 = 67
 ·have h6' : (B z 0 == 67) = true := by rw [h6]; rfl
  go_wp2_with (first | (go_at_call 11; refine (KA.out _ hx1).mono ?_; rintro e w3 ⟨rfl, hx3⟩))
  go_ret
  exact ⟨rfl, hx1.trans hx3⟩
 have h6' : (B z 0 == 67) = false := by rw [beq_eq_false_iff_ne]; exact h6
 have HO : Hid (Fed txt3 tn3 zhst z 0 st400 (5, 2, 0, -1, ztgt, 10)) := Lib.hid (other_fed txt3 tn3 (z := z) (by omega) h5 h6)
 go_upto_region 6 with fail
 clear ck h5 h6 h5' h6'
 have KF := Lib.hid (feed_any z (by omega) henv htabs hH okS_zhst hP hR)
 have hcv2 := HCV.out w2 hx1
 go_upto_region 7 with (first | refine wpList_load_Hs rfl _ rfl rfl hB ?_ | (go_at_call 25; refine KF.out.mono ?_; rintro e w3 ⟨n, o, s1, hF, rfl, hk3, hH3, hP3, hR3, hs3, ho3⟩))
 obtain ⟨en1, eo1, es1⟩ := hF.1.same hF.2 HO.out.1 HO.out.2
 subst es1 en1 eo1
 clear hF KF hcv2 HO
 have hcw : w.heap.size <= c := by obtain ⟨_, _, _, _, _, _, hc, _⟩ := id hH; exact hc
 have hcd : c < d := by obtain ⟨_, _, _, _, _, _, _, _, hc, _⟩ := id hH; exact hc
 have hx3 := Keep.ext ((hx1.keep [c, d]).trans hk3) (fun y hy => by simp only [List.mem_cons, List.not_mem_nil, or_false] at hy; omega)
 have hbn : b ∉ [c, d] := by
  simp only [List.mem_cons, List.not_mem_nil, or_false]
  exact fun q => q.elim (fun q => Blk.ne_type hB hP (by decide) q) (fun q => Blk.ne_type hB hR (by decide) q)
 have hB3 := Blk.keep hB hk3 hbn
 clear hH hP hR hB hk3
 have KG := Lib.hid (feed_any z (by omega) henv htabs hH3 hs3 hP3 hR3)
 have hcv3 := HCV.out w3 hx3
 go_upto_region 8 with (first | refine wpList_load_Hs rfl _ rfl rfl hB3 ?_ | (go_at_call 25; refine KG.out.mono ?_; rintro e w4 ⟨n2, o2, s2, hF2, rfl, hk4, hH4, hP4, hR4, hs4, ho4⟩))
 have HD := done_fed txt3 tn3 (s := (5, 2, 0, -1, ztgt, 10)) rfl z
 obtain ⟨en2, eo2, es2⟩ := hF2.1.same hF2.2 HD.1 HD.2
 subst es2 en2 eo2
 have hx4 := Keep.ext ((hx3.keep [c, d]).trans hk4) (fun y hy => by simp only [List.mem_cons, List.not_mem_nil, or_false] at hy; omega)
 have hB4 := Blk.keep hB3 hk4 hbn
 clear hF2 HD KG hcv3 hB3 hP3 hR3 hH3 hk4
 have g0 : ∀ w', Ext w4 w' -> w'.cell? ⟨b, 0, none⟩ = some (.pointer (some ⟨c, 0, none⟩)) := fun w' h => Blk.cell (Blk.ext hB4 h) rfl
 have k1 := fun w' (h : Ext w4 w') => callsE (hproto_any (Blk.ext hP4 h))
 have k4 := fun w' (h : Ext w4 w') => callsE (hreason_any (okH_t2 _ _ _ _ _) (Blk.ext hP4 h))
 have c1 := fun w' (h : Ext w4 w') => rst400 w'
 have c0 := fun (w' : World) (h : Ext w4 w') => KA.out w' (hx4.trans h)
 have hself := toList_self_ne8 st400
 clear hP4 hR4 hH4 hB4 hl0 hl1
 refine wp_region_rgs ?_
 first
  | (apply goV_skip (by intro u; rfl))
  | (apply goV_call (by intro u; rfl) c0; · (intro u w hSw hF; go_simp; try with_reducible rfl))
 try simp only [aput, List.set]
 iterate 12
  first
   | (apply goV_skip (by intro u; rfl))
   | (apply goV_val _ (by intro u; rfl); · (intro u w hSw hF; go_simp; try with_reducible rfl))
  try simp only [aput, List.set]
 first
  | (apply goV_skip (by intro u; rfl))
  | (apply goV_call (by intro u; rfl) c1; · (intro u w hSw hF; go_simp; try with_reducible rfl))
 try simp only [aput, List.set]
 iterate 20
  first
   | (apply goV_skip (by intro u; rfl))
   | (apply goV_val _ (by intro u; rfl); · (intro u w hSw hF; go_simp; try with_reducible rfl))
  try simp only [aput, List.set]
 first
  | (apply goV_skip (by intro u; rfl))
  | (apply goV_val (.pointer (some ⟨c, 0, none⟩)) (by intro u; rfl); · (intro u w hSw hF; have c0 := g0 w hSw; go_simp))
 try simp only [aput, List.set]
 first
  | (apply goV_skip (by intro u; rfl))
  | (apply goV_call (by intro u; rfl) k4; · (intro u w hSw hF; go_simp; try with_reducible rfl))
 try simp only [aput, List.set]
 iterate 4
  first
   | (apply goV_skip (by intro u; rfl))
   | (apply goV_val _ (by intro u; rfl); · (intro u w hSw hF; go_simp; try with_reducible rfl))
  try simp only [aput, List.set]
 first
  | (apply goV_skip (by intro u; rfl))
  | (apply goV_val (.pointer (some ⟨c, 0, none⟩)) (by intro u; rfl); · (intro u w hSw hF; have c0 := g0 w hSw; go_simp))
 try simp only [aput, List.set]
 first
  | (apply goV_skip (by intro u; rfl))
  | (apply goV_call (by intro u; rfl) k1; · (intro u w hSw hF; go_simp; try with_reducible rfl))
 try simp only [aput, List.set]
 iterate 3
  first
   | (apply goV_skip (by intro u; rfl))
   | (apply goV_val _ (by intro u; rfl); · (intro u w hSw hF; go_simp; try with_reducible rfl))
  try simp only [aput, List.set]
 intro u w7 hx7 _
 go_wp2
 go_ret; exact ⟨rfl, hx4.trans hx7⟩
end Go.Proofs.YtnohnnjeabehjaaGreatDoor
