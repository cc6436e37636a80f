/-
  Contracts of the document's FormatPrefix and ParsePrefix.
-/
import Derived.Test.YtbbdcodhgbgekaaGreatDoorCiS
import Derived.Test.YtbbdcodhgbgekaaGreatDoorCiF
set_option linter.unusedSimpArgs false
set_option linter.unusedVariables false
namespace Go.Proofs.YtbbdcodhgbgekaaGreatDoor
open Go.RowKit
set_option maxRecDepth 8000 in
set_option maxHeartbeats 4000000 in
theorem rformatP_any (p : Pfx) (hp : okP p) (w : World) :
    Calls Tryz.prog 24 #[pv p] w fun e w' => e = .returned (.string (txt (fmtP p))) ∧ Ext w w' := by
  have K1 := Lib.hid (fun w => rvalid_any p hp w)
  have hvb := @validP_bits p
  have R0 : Hid (fmtP p = if validP p = true then fmtA p.1 ++ [47] ++ Lib.decDigits p.2.toNat else []) := Lib.hid rfl
  unfold pv
  go_enter Tryz.func24, Tryz.ntmps24
  go_upto_region 1 with fail
  have hx := (Ext.refl w).alloc (.cells (pc p) 26)
  have hb := Blk.new w (pc p) 26
  generalize hwq : w.alloc (.cells (pc p) 26) = w0 at *
  generalize w.heap.size = b at *
  clear hwq
  cases hva : validP p with
  | false =>
    rw [hva] at K1 R0
    have R : Hid (fmtP p = []) := Lib.hid (by rw [R0.out]; rfl)
    clear R0 hva hvb
    go_wp2_with (first | refine wpList_load_P rfl _ rfl hp hb rfl ?_ | (go_at_call 9; refine (K1.out _).mono ?_; rintro e w1 ⟨rfl, hx1⟩; refine Hid.out ?_))
    refine Lib.hid ?_
    go_wp2_with fail
    go_ret
    exact ⟨by rw [R.out]; rfl, hx.trans hx1⟩
  | true =>
    have hv := hvb hva
    rw [hva] at K1 R0
    have R : Hid (txt (fmtP p) = txt (fmtA p.1) ++ ⟨#[47]⟩ ++ txt (Lib.decDigits p.2.toNat)) := Lib.hid (by rw [R0.out, if_pos rfl, txt_append, txt_append]; rfl)
    clear R0 hva hvb
    go_wp2_with (first | refine wpList_load_P rfl _ rfl hp hb rfl ?_ | (go_at_call 9; refine (K1.out _).mono ?_; rintro e w1 ⟨rfl, hx1⟩; refine Hid.out ?_))
    refine Lib.hid ?_
    have hxx := hx.trans hx1
    have hb1 := hb.ext hx1
    have hP : ∀ w', Ext w1 w' → PBlk w' b p := fun w' h => hb1.ext h
    have F := fun (w' : World) (h : Ext w1 w') => PBlk.bits hp (hb1.ext h)
    have K2 := fun (w' : World) (h : Ext w1 w') => rFormat_any p.1 hp.1 w'
    have K3 := fun (w' : World) (h : Ext w1 w') => fdec_any p.2.toNat (by omega) w'
    rw [show ((p.2.toNat : Nat) : Int) = p.2 by omega] at K3
    have l1 : (txt (fmtA p.1)).size ≤ 45 := by rw [txt_size]; exact fmtA_len hp.1
    have l2 : (txt (Lib.decDigits p.2.toNat)).size ≤ 3 := by rw [txt_size]; exact dd_len 2 _ (by omega)
    clear hv K1 hb1 hb hx hx1
    generalize txt (fmtA p.1) = s1 at *
    generalize txt (Lib.decDigits p.2.toNat) = s2 at *
    generalize p.2 = n at *
    have y1 : ¬ 9223372036854775807 < s1.size + 1 := by omega
    have y2 : ¬ 9223372036854775807 < s1.size + 1 + s2.size := by omega
    go_wp2_with fail
    refine wp_region_rg w1 (by kernel_rfl) (by kernel_rfl) (Ext.refl _) ?_
    first
      | (apply goV_skip (by intro u; rfl))
      | (apply goV_val _ (by intro u; rfl); · (intro u w hSw hF; go_simp; try with_reducible rfl))
    try simp only [Act.put, List.setIfInBounds_toArray, List.set_cons_zero, List.set_cons_succ]
    first
      | (apply goV_skip (by intro u; rfl))
      | (apply goV_loadPA (by intro u; rfl) _ rfl hp hP (by intro u; rfl))
    try simp only [Act.put, List.setIfInBounds_toArray, List.set_cons_zero, List.set_cons_succ]
    first
      | (apply goV_skip (by intro u; rfl))
      | (apply goV_call (by intro u; rfl) K2; · (intro u w hSw hF; go_simp; try with_reducible rfl))
    try simp only [Act.put, List.setIfInBounds_toArray, List.set_cons_zero, List.set_cons_succ]
    first
      | (apply goV_skip (by intro u; rfl))
      | (apply goV_val _ (by intro u; rfl); · (intro u w hSw hF; go_simp; try with_reducible rfl))
    try simp only [Act.put, List.setIfInBounds_toArray, List.set_cons_zero, List.set_cons_succ]
    first
      | (apply goV_skip (by intro u; rfl))
      | (apply goV_val _ (by intro u; rfl); · (intro u w hSw hF; go_simp; try with_reducible rfl))
    try simp only [Act.put, List.setIfInBounds_toArray, List.set_cons_zero, List.set_cons_succ]
    first
      | (apply goV_skip (by intro u; rfl))
      | (apply goV_val (.int .i64 n) (by intro u; rfl); · (intro u w hSw hF; have c0 := F w hSw; go_simp))
    try simp only [Act.put, List.setIfInBounds_toArray, List.set_cons_zero, List.set_cons_succ]
    first
      | (apply goV_skip (by intro u; rfl))
      | (apply goV_call (by intro u; rfl) K3; · (intro u w hSw hF; go_simp; try with_reducible rfl))
    try simp only [Act.put, List.setIfInBounds_toArray, List.set_cons_zero, List.set_cons_succ]
    first
      | (apply goV_skip (by intro u; rfl))
      | (apply goV_val _ (by intro u; rfl); · (intro u w hSw hF; go_simp; try with_reducible rfl))
    try simp only [Act.put, List.setIfInBounds_toArray, List.set_cons_zero, List.set_cons_succ]
    first
      | (apply goV_skip (by intro u; rfl))
      | (apply goV_val _ (by intro u; rfl); · (intro u w hSw hF; go_simp; try with_reducible rfl))
    try simp only [Act.put, List.setIfInBounds_toArray, List.set_cons_zero, List.set_cons_succ]
    intro u w2 hx2 _
    go_wp2
    go_ret
    exact ⟨by rw [R.out]; rfl, hxx.trans hx2⟩
set_option maxRecDepth 8000 in
set_option maxHeartbeats 8000000 in
theorem rparseP_any (s : ByteArray) (w : World) (hs : s.size < 4294967281) :
    Calls Tryz.prog 26 #[.string s] w fun e w' => e = .returned (.tuple #[pv (parseP s).1, .bool (parseP s).2]) ∧ Ext w w' := by
  have R00 : parseP s = rparP s := (rparP_eq s).symm
  have SP := Lib.hid (fun w => rsplit_any s 47 w hs)
  have HPZ : ∀ x ∈ parts 47 s, x.size ≤ s.size := fun x hx => parts_size hx
  unfold rparP at R00
  have hp0 := parts_pos 47 s
  generalize parts 47 s = ps at *
  go_enter Tryz.func26, Tryz.ntmps26
  go_upto_region 1 with fail
  rw [← pc_zero]
  have hx := (Ext.refl w).alloc (.cells (pc zpfx) 26)
  have hr := Blk.new w (pc zpfx) 26
  generalize hwq : w.alloc (.cells (pc zpfx) 26) = w0 at *
  clear hwq
  have hwb : w.heap.size ≤ w.heap.size := Nat.le_refl _
  go_upto_region 2 with (go_at_call 45; refine (SP.out _).mono ?_; rintro e w3 ⟨b, cap, rfl, hbl, hsc, hcap, hx3⟩; refine Hid.out ?_)
  refine Lib.hid ?_
  have hr3 := hr.ext hx3
  have hxx3 := hx.trans hx3
  clear hr hx hx3 SP
  generalize hn : ps.length = n at *
  by_cases h2 : n = 2
  · have hn2 : ((n : Int) != 2) = false := by rw [bne_eq_false_iff_eq]; omega
    have g1 : (2 : Int) ≤ n := by omega
    have g2 : (n : Int) ≤ 2 := by omega
    have g3 : n ≤ cap := hcap
    subst h2
    match ps, hn with
    | [x, y], _ =>
      have f0 := hsc.2 0 x rfl
      have f1 := fun w' (h : Ext w3 w') => (hsc.ext h).2 1 y rfl
      have z1 := HPZ x (by simp)
      have z2 := HPZ y (by simp)
      have hA := okA_parse x
      simp only at R00
      have R0 : Hid (parseP s = if ((parseA x).2 && validP ((parseA x).1, decP y 128)) = true then (((parseA x).1, decP y 128), true) else (zpfx, false)) := Lib.hid R00
      clear R00 hn HPZ hp0
      have K2 := Lib.hid (fun w => rparse_any x w (by omega))
      have K4 := Lib.hid (fun w => decP_any y 128 w (by unfold maxLen; omega))
      have hg := decP_ge y 128
      have hg2 := decP_le y (most := 128) (by decide)
      generalize (parseA x).1 = P at *
      generalize (parseA x).2 = ok at *
      generalize decP y 128 = d at *
      have hok : okP (P, d) := ⟨hA, by unfold i64ok; omega⟩
      have K5v := Lib.hid (fun w => rvalid_any (P, d) hok w)
      go_wp2_with (first | (go_at_call 46; refine (K2.out _).mono ?_; rintro e w4 ⟨rfl, hx4⟩; refine Hid.out ?_))
      refine Lib.hid ?_
      have hxx4 := hxx3.trans hx4
      have hr4 := hr3.ext hx4
      have f4 := f1 _ hx4
      have f1 := fun w' (h : Ext w4 w') => f1 w' (hx4.trans h)
      clear hxx3 hx4 hr3 hsc f0
      have hbf := Blk.new w4 (ac zadr) 24
      go_upto_region 5 with (refine wpList_store_A rfl _ _ rfl okA_zadr hA hbf rfl rfl ?_)
      change Code.wp _ _ _ _ ((w4.alloc (.cells (ac zadr) 24)).setRow w4.heap.size (ac P))
      rw [World.setRow_alloc_new]
      have hA5 := Blk.new w4 (ac P) 24
      have hx5 := hxx4.alloc (.cells (ac P) 24)
      have hnx := (Ext.refl w4).alloc (.cells (ac P) 24)
      clear hbf
      generalize w4.alloc (.cells (ac P) 24) = w5 at *
      generalize w4.heap.size = b5 at *
      have hr5 := hr4.ext hnx
      have f5 := f1 _ hnx
      clear hnx hr4 f4 f1 hxx4
      go_upto_region 6 with (go_at_call 47; refine (K4.out _).mono ?_; rintro e w6 ⟨rfl, rfl⟩)
      have hbf := Blk.new w5 (pc zpfx) 26
      go_upto_region 7 with (first | refine wpList_load_A rfl _ rfl hA hA5 rfl ?_ | refine wpList_build_P rfl _ _ rfl hok rfl rfl ?_ | refine wpList_store_P rfl _ _ rfl okP_zpfx hok hbf rfl rfl ?_)
      change Code.wp _ _ _ _ ((w5.alloc (.cells (pc zpfx) 26)).setRow w5.heap.size (pc (P, d)))
      rw [World.setRow_alloc_new]
      have hB8 := Blk.new w5 (pc (P, d)) 26
      have hx8 := hx5.alloc (.cells (pc (P, d)) 26)
      have hr8 := hr5.ext ((Ext.refl w5).alloc (.cells (pc (P, d)) 26))
      clear hbf hr5 hA5 hx5
      generalize w5.alloc (.cells (pc (P, d)) 26) = w8 at *
      generalize w5.heap.size = b8 at *
      have hPl : ∀ w', Ext w8 w' → PBlk w' b8 (P, d) := fun w' h => hB8.ext h
      have K5 := fun (w' : World) (h : Ext w8 w') => K5v.out w'
      clear K2 K4 K5v hB8
      generalize hvv : validP (P, d) = vv at *
      clear hvv
      generalize ((P, d) : Pfx) = pq at *
      cases ok with
      | false =>
        have R : Hid (parseP s = (zpfx, false)) := Lib.hid (by rw [R0.out]; rfl)
        clear R0
        refine wp_region_rgs ?_
        first
          | (apply goV_skip (by intro u; rfl))
          | (apply goV_val _ (by intro u; rfl); · (intro u w hSw hF; go_simp; try with_reducible rfl))
        try simp only [Act.put, List.setIfInBounds_toArray, List.set_cons_zero, List.set_cons_succ]
        first
          | (apply goV_skip (by intro u; rfl))
          | (apply goV_val _ (by intro u; rfl); · (intro u w hSw hF; go_simp; try with_reducible rfl))
        try simp only [Act.put, List.setIfInBounds_toArray, List.set_cons_zero, List.set_cons_succ]
        first
          | (apply goV_skip (by intro u; rfl))
          | (apply goV_val _ (by intro u; rfl); · (intro u w hSw hF; go_simp; try with_reducible rfl))
        try simp only [Act.put, List.setIfInBounds_toArray, List.set_cons_zero, List.set_cons_succ]
        first
          | (apply goV_skip (by intro u; rfl))
          | (apply goV_loadP (by intro u; rfl) _ rfl hok hPl (by intro u; rfl))
        try simp only [Act.put, List.setIfInBounds_toArray, List.set_cons_zero, List.set_cons_succ]
        first
          | (apply goV_skip (by intro u; rfl))
          | (apply goV_call (by intro u; rfl) K5; · (intro u w hSw hF; go_simp; try with_reducible rfl))
        try simp only [Act.put, List.setIfInBounds_toArray, List.set_cons_zero, List.set_cons_succ]
        first
          | (apply goV_skip (by intro u; rfl))
          | (apply goV_val _ (by intro u; rfl); · (intro u w hSw hF; go_simp; try with_reducible rfl))
        try simp only [Act.put, List.setIfInBounds_toArray, List.set_cons_zero, List.set_cons_succ]
        first
          | (apply goV_skip (by intro u; rfl))
          | (apply goV_val _ (by intro u; rfl); · (intro u w hSw hF; go_simp; try with_reducible rfl))
        try simp only [Act.put, List.setIfInBounds_toArray, List.set_cons_zero, List.set_cons_succ]
        intro u w9 hx9 _
        have hr9 := hr8.ext hx9
        have hP9 := hPl w9 hx9
        go_wp2_with (refine wpList_store_P rfl _ _ rfl okP_zpfx okP_zpfx hr9 rfl rfl ?_)
        refine bodyPost_ret (res_P2 rfl rfl okP_zpfx (hr9.row _)) rfl ⟨by rw [R.out]; rfl, (hx8.trans hx9).setRow hwb _⟩
      | true =>
        cases vv with
        | false =>
          have R : Hid (parseP s = (zpfx, false)) := Lib.hid (by rw [R0.out]; rfl)
          clear R0
          refine wp_region_rgs ?_
          first
            | (apply goV_skip (by intro u; rfl))
            | (apply goV_val _ (by intro u; rfl); · (intro u w hSw hF; go_simp; try with_reducible rfl))
          try simp only [Act.put, List.setIfInBounds_toArray, List.set_cons_zero, List.set_cons_succ]
          first
            | (apply goV_skip (by intro u; rfl))
            | (apply goV_val _ (by intro u; rfl); · (intro u w hSw hF; go_simp; try with_reducible rfl))
          try simp only [Act.put, List.setIfInBounds_toArray, List.set_cons_zero, List.set_cons_succ]
          first
            | (apply goV_skip (by intro u; rfl))
            | (apply goV_val _ (by intro u; rfl); · (intro u w hSw hF; go_simp; try with_reducible rfl))
          try simp only [Act.put, List.setIfInBounds_toArray, List.set_cons_zero, List.set_cons_succ]
          first
            | (apply goV_skip (by intro u; rfl))
            | (apply goV_loadP (by intro u; rfl) _ rfl hok hPl (by intro u; rfl))
          try simp only [Act.put, List.setIfInBounds_toArray, List.set_cons_zero, List.set_cons_succ]
          first
            | (apply goV_skip (by intro u; rfl))
            | (apply goV_call (by intro u; rfl) K5; · (intro u w hSw hF; go_simp; try with_reducible rfl))
          try simp only [Act.put, List.setIfInBounds_toArray, List.set_cons_zero, List.set_cons_succ]
          first
            | (apply goV_skip (by intro u; rfl))
            | (apply goV_val _ (by intro u; rfl); · (intro u w hSw hF; go_simp; try with_reducible rfl))
          try simp only [Act.put, List.setIfInBounds_toArray, List.set_cons_zero, List.set_cons_succ]
          first
            | (apply goV_skip (by intro u; rfl))
            | (apply goV_val _ (by intro u; rfl); · (intro u w hSw hF; go_simp; try with_reducible rfl))
          try simp only [Act.put, List.setIfInBounds_toArray, List.set_cons_zero, List.set_cons_succ]
          intro u w9 hx9 _
          have hr9 := hr8.ext hx9
          have hP9 := hPl w9 hx9
          go_wp2_with (refine wpList_store_P rfl _ _ rfl okP_zpfx okP_zpfx hr9 rfl rfl ?_)
          refine bodyPost_ret (res_P2 rfl rfl okP_zpfx (hr9.row _)) rfl ⟨by rw [R.out]; rfl, (hx8.trans hx9).setRow hwb _⟩
        | true =>
          have R : Hid (parseP s = (pq, true)) := Lib.hid (by rw [R0.out]; rfl)
          clear R0
          refine wp_region_rgs ?_
          first
            | (apply goV_skip (by intro u; rfl))
            | (apply goV_val _ (by intro u; rfl); · (intro u w hSw hF; go_simp; try with_reducible rfl))
          try simp only [Act.put, List.setIfInBounds_toArray, List.set_cons_zero, List.set_cons_succ]
          first
            | (apply goV_skip (by intro u; rfl))
            | (apply goV_val _ (by intro u; rfl); · (intro u w hSw hF; go_simp; try with_reducible rfl))
          try simp only [Act.put, List.setIfInBounds_toArray, List.set_cons_zero, List.set_cons_succ]
          first
            | (apply goV_skip (by intro u; rfl))
            | (apply goV_val _ (by intro u; rfl); · (intro u w hSw hF; go_simp; try with_reducible rfl))
          try simp only [Act.put, List.setIfInBounds_toArray, List.set_cons_zero, List.set_cons_succ]
          first
            | (apply goV_skip (by intro u; rfl))
            | (apply goV_loadP (by intro u; rfl) _ rfl hok hPl (by intro u; rfl))
          try simp only [Act.put, List.setIfInBounds_toArray, List.set_cons_zero, List.set_cons_succ]
          first
            | (apply goV_skip (by intro u; rfl))
            | (apply goV_call (by intro u; rfl) K5; · (intro u w hSw hF; go_simp; try with_reducible rfl))
          try simp only [Act.put, List.setIfInBounds_toArray, List.set_cons_zero, List.set_cons_succ]
          first
            | (apply goV_skip (by intro u; rfl))
            | (apply goV_val _ (by intro u; rfl); · (intro u w hSw hF; go_simp; try with_reducible rfl))
          try simp only [Act.put, List.setIfInBounds_toArray, List.set_cons_zero, List.set_cons_succ]
          first
            | (apply goV_skip (by intro u; rfl))
            | (apply goV_val _ (by intro u; rfl); · (intro u w hSw hF; go_simp; try with_reducible rfl))
          try simp only [Act.put, List.setIfInBounds_toArray, List.set_cons_zero, List.set_cons_succ]
          intro u w9 hx9 _
          have hr9 := hr8.ext hx9
          have hP9 := hPl w9 hx9
          go_wp2_with (first | refine wpList_load_P rfl _ rfl hok hP9 rfl ?_ | refine wpList_store_P rfl _ _ rfl okP_zpfx hok hr9 rfl rfl ?_)
          refine bodyPost_ret (res_P2 rfl rfl hok (hr9.row _)) rfl ⟨by rw [R.out]; rfl, (hx8.trans hx9).setRow hwb _⟩
  · have hn2 : ((n : Int) != 2) = true := by rw [bne_iff_ne]; omega
    have R : Hid (parseP s = (zpfx, false)) := Lib.hid (by
      rw [R00]
      split
      · exact absurd hn (by simp; omega)
      · rfl)
    clear R00 hn h2 hp0 HPZ
    go_wp2_with (refine wpList_store_P rfl _ _ rfl okP_zpfx okP_zpfx hr3 rfl rfl ?_)
    refine bodyPost_ret (res_P2 rfl rfl okP_zpfx (hr3.row _)) rfl ⟨by rw [R.out]; rfl, hxx3.setRow hwb _⟩
end Go.Proofs.YtbbdcodhgbgekaaGreatDoor
