/-
  HandshakeMatchesModel.
-/
import Derived.Test.YtnohnnjeabehjaaGreatDoorK39
import Derived.Test.YtnohnnjeabehjaaGreatDoorK40
set_option maxHeartbeats 8000000
set_option maxRecDepth 8000
set_option linter.unusedVariables false
set_option linter.unusedSimpArgs false
namespace Go.Proofs.YtnohnnjeabehjaaGreatDoor
open Go.RowKit Go.Joins
theorem HandshakeMatchesModel_walk (S : ByteArray) (la : Option Addr) (ln lc : Nat) (zs : List Int) (hS : S.size <= 140737488351232) (hln : ln <= 140737488351232)
  (w : World) (henv : Env w) (htabs : Tabs w) (hl : IntsIn w la ln lc zs) :
  Calls Tryz.prog 3 #[.string S, .slice la ln lc] w fun e w' => e = .returned (.bool true) /\ Ext w w' := by
 have K8 := Lib.hid (fun w => newhs_any w)
 have KA := Lib.hid (fun w' (h : Ext w w') => awake_any (henv.ext h) (htabs.ext h))
 have HL := Lib.hid hl
 clear hl
 go_enter Tryz.func3, Tryz.ntmps3
 go_upto_region 2 with (go_at_call 8; refine (K8.out _).mono ?_; rintro e w1 ⟨v1, rfl, hx1, x, g, c, d, rfl, hH, hP, hR⟩)
 have hxa := (Ext.refl w1).alloc (.cells #[.pointer (some ⟨c, 0, none⟩), .pointer (some ⟨d, 0, none⟩)] 26)
 have hB := Blk.new w1 #[.pointer (some ⟨c, 0, none⟩), .pointer (some ⟨d, 0, none⟩)] 26
 replace hH := (hH).ext hP hR hxa
 replace hP : HBlk TH _ c _ _ := Blk.ext hP hxa
 replace hR : HBlk TR _ d _ _ := Blk.ext hR hxa
 replace hx1 := (hx1).trans hxa
 clear hxa
 generalize (w1).alloc (.cells #[.pointer (some ⟨c, 0, none⟩), .pointer (some ⟨d, 0, none⟩)] 26) = w2 at *
 generalize (w1).heap.size = b at *
 clear K8
 have gB : ∀ w', Ext w2 w' -> Blk w' b _ _ := fun w' h => Blk.ext hB h
 have k1 := fun w' (h : Ext w2 w') => same_any (htabs.ext (hx1.trans h)) okS_zhst (Blk.ext hP h) (Blk.ext hR h)
 refine wp_region_rgs ?_
 iterate 3
  first
   | (apply goV_skip (by intro u; rfl))
   | (apply goV_val _ (by intro u; rfl); · (intro u w hSw hF; go_simp; try with_reducible rfl))
  try simp only [aput, List.set]
 first
  | (apply goV_skip (by intro u; rfl))
  | (apply goV_val _ (by intro u; rfl) (fun u w hSw hF => exec_load_Hs _ rfl rfl (gB w hSw)))
 try simp only [aput, List.set]
 first
  | (apply goV_skip (by intro u; rfl))
  | (apply goV_call (by intro u; rfl) k1; · (intro u w hSw hF; go_simp; try with_reducible rfl))
 try simp only [aput, List.set]
 iterate 2
  first
   | (apply goV_skip (by intro u; rfl))
   | (apply goV_val _ (by intro u; rfl); · (intro u w hSw hF; go_simp; try with_reducible rfl))
  try simp only [aput, List.set]
 intro u w3 hx3 _
 clear k1 gB
 replace hH := hH.ext hP hR hx3
 replace hP : HBlk TH _ c _ _ := Blk.ext hP hx3
 replace hR : HBlk TR _ d _ _ := Blk.ext hR hx3
 replace hB := Blk.ext hB hx3
 replace hx1 := hx1.trans hx3
 clear hx3
 have KF := Lib.hid (pieces_any S (by omega) henv htabs hln HL.out hH hP hR)
 go_upto_region 5 with (first | refine wpList_load_Hs rfl _ rfl rfl hB ?_ | (go_at_call 10; refine KF.out.mono ?_; rintro e w4 ⟨n, o, s1, hF, rfl, hk4, hH4, hP4, hR4, hs4⟩))
 have hcw : w.heap.size <= c := by obtain ⟨_, _, _, _, _, _, hc, _⟩ := id hH; exact hc
 have hcd : c < d := by obtain ⟨_, _, _, _, _, _, _, _, hc, _⟩ := id hH; exact hc
 have hx4 := Keep.ext ((hx1.keep [c, d]).trans hk4) (fun y hy => by simp only [List.mem_cons, List.not_mem_nil, or_false] at hy; omega)
 have c0 := fun (w' : World) (h : Ext w4 w') => KA.out w' (hx4.trans h)
 clear KF hH hP hR hB hk4 hH4 hP4 hR4 hs4 hF hS
 refine wp_region_rgs ?_
 first
  | (apply goV_skip (by intro u; rfl))
  | (apply goV_call (by intro u; rfl) c0; · (intro u w hSw hF; go_simp; try with_reducible rfl))
 try simp only [aput, List.set]
 iterate 4
  first
   | (apply goV_skip (by intro u; rfl))
   | (apply goV_val _ (by intro u; rfl); · (intro u w hSw hF; go_simp; try with_reducible rfl))
  try simp only [aput, List.set]
 intro u w7 hx7 _
 go_wp2
 go_ret; exact ⟨rfl, hx4.trans hx7⟩
end Go.Proofs.YtnohnnjeabehjaaGreatDoor
