/-
  HttpconnectRoundTrip.
-/
import Derived.Test.YtpdoddelnahlnaaGreatDoorHcFr
set_option linter.unusedSimpArgs false
set_option linter.unusedVariables false
namespace Go.Proofs.YtpdoddelnahlnaaGreatDoor
open Go.RowKit Go.Joins
theorem toList_self_ne (x : ByteArray) : (x.toList == x.toList) = true := by simp
theorem build_C {t : Tgt} (ht : okT t) (u p : ByteArray) (w : World) : (Instr.build 46 #[(0, .agg (tc t)), (1, .bool true), (2, .string u), (3, .string p)]).run Tryz.prog w = .ok (.agg (crc (t, true, u, p))) w := by
  obtain ⟨nm, ⟨f, l⟩, k⟩ := t
  match l, ht.1.1 with
  | [a0, a1, a2, a3, a4, a5, a6, a7, a8, a9, a10, a11, a12, a13, a14, a15], _ => exact run_build w 46 _ _ (by kernel_rfl)
theorem wpList_build_C {ops : Array Oper} {rest : List Oper} {o : Oper} {f : Act} {w : World} {Q : Exit → Act → World → Prop} (hgd : o.guard = none) (x y z : Operand) (ho : o.op = .build 46 #[(0, x), (1, .const (.bool true)), (2, y), (3, z)]) {t : Tgt} (ht : okT t) {u p : ByteArray}
    (hx : f.eval x = .agg (tc t)) (hy : f.eval y = .string u) (hz : f.eval z = .string p) (h : wpList Tryz.prog ops Q rest (f.put o.dst (.agg (crc (t, true, u, p)))) w) : wpList Tryz.prog ops Q (o :: rest) f w :=
  wpList_plain hgd fun _ hK => by
    unfold Oper.wp
    have e : (execOp f.eval o).run Tryz.prog w = .ok (.value (.agg (crc (t, true, u, p)))) w := by
      unfold execOp
      rw [ho]
      have e1 := build_C ht u p w
      have e2 : f.eval (.const (.bool true)) = .bool true := rfl
      simp only [List.map_toArray, List.map_cons, List.map_nil, hx, hy, hz, e2, Sem.run_bind, e1, Result.andThen_ok, Sem.run_pure]
    rw [e]
    exact hK _ _ h
theorem fmtC_size (h : Cr) : (fmtC h).1.size ≤ 512 := by
  unfold fmtC
  split
  · rename_i q; exact q.2
  · exact Nat.zero_le _
theorem fmtC_back {t : Tgt} (ht : okT t) {u p : ByteArray} (e : (fmtC (t, true, u, p)).2 = true) (r : ByteArray) : fin ((fmtC (t, true, u, p)).1 ++ r) = ((t, true, u, p), ((fmtC (t, true, u, p)).1.size : Int), 1) := by
  by_cases q : okFm (t, true, u, p) = true ∧ (hdT (t, true, u, p)).size ≤ 512
  · rw [fmtC_yes q.1 q.2]
    have h1 := q.1
    unfold okFm at h1
    simp only [Bool.and_eq_true] at h1
    exact fin_fmt ht h1.1.1 (noC_mem.1 h1.1.2) q.2 r
  · unfold fmtC at e; rw [if_neg q] at e; cases e
set_option maxRecDepth 8000 in
set_option maxHeartbeats 8000000 in
theorem HttpconnectRoundTrip_walk (h : Cr) (n : Int) (user pass behind : ByteArray) (ho : okC h) (_ : (Lit.int .i64 n).wf = true) (_ : user.size ≤ 140737488351232) (_ : pass.size ≤ 140737488351232) (hb : behind.size ≤ 140737488351232)
    (w : World) (henv : Env w) (htabs : Tabs w) (hhz : h.2.2.1.size ≤ 1048576 ∧ h.2.2.2.size ≤ 1048576) (hus : user.size < 1048576) (hps : pass.size < 1048576) (hbs : behind.size < 1048576) :
    Calls Tryz.prog 10 #[cv h, .int .i64 n, .string user, .string pass, .string behind] w fun e w' => e = .returned (.bool true) ∧ Ext w w' := by
  have F1 := Lib.hid (fun w he hh => hfmtc_any h ho (by omega) (by omega) w he hh)
  have F2 := Lib.hid (fun w => rfmtc_any h ho (by omega) (by omega) w)
  have KG := Lib.hid (fun w => gtarget_any n w)
  generalize (fmtC h).1 = s1 at *
  generalize (fmtC h).2 = b1 at *
  clear hhz
  unfold cv
  go_enter Tryz.func10, Tryz.ntmps10
  go_upto_region 1 with fail
  have hx := (Ext.refl w).alloc (.cells (crc h) 46)
  have hbk := Blk.new w (crc h) 46
  generalize w.alloc (.cells (crc h) 46) = w1 at *
  generalize w.heap.size = b at hbk ⊢
  have hrg := RBlk.range hbk
  have HB := Lib.hid hbk
  have F1' := Lib.hid (F1.out w1 (henv.ext hx) (htabs.ext hx))
  clear F1 hbk
  go_wp2_with (first | refine wpList_load_C rfl _ rfl ho hrg rfl ?_ | (go_at_call 26; refine F1'.out.mono ?_; rintro e w2 ⟨rfl, hx2⟩; refine Hid.out ?_))
  refine Lib.hid ?_
  have hxx := hx.trans hx2
  have hrg2 := RBlk.range (Blk.ext HB.out hx2)
  clear hrg hx hx2 HB F1'
  have hself := toList_self_ne s1
  go_upto_region 5 with (first | refine wpList_load_C rfl _ rfl ho hrg2 rfl ?_ | (go_at_call 27; refine (F2.out _).mono ?_; rintro e w3 ⟨rfl, hx3⟩))
  have hxx3 := hxx.trans hx3
  clear hxx hx3 hrg2 F2
  go_wp2_with (first | (go_at_call 19; refine (KG.out _).mono ?_; rintro e w4 ⟨tq, htq, hvq, rfl, hx4⟩; refine Hid.out ?_))
  refine Lib.hid ?_
  have hxx4 := hxx3.trans hx4
  have hG : okC (tq, true, user, pass) := ⟨htq, by show user.size ≤ _; unfold maxLen; omega, by show pass.size ≤ _; unfold maxLen; omega⟩
  clear hxx3 hx4 hvq
  have hbf := Blk.new w4 (crc zcr) 46
  go_upto_region 6 with (first | refine wpList_build_C rfl _ _ _ rfl htq rfl rfl rfl ?_ | refine wpList_store_C rfl _ _ rfl okC_zcr hG hbf rfl rfl ?_)
  change Code.wp _ _ _ _ ((w4.alloc (.cells (crc zcr) 46)).setRow w4.heap.size (crc (tq, true, user, pass)))
  rw [World.setRow_alloc_new]
  have hg5 := Blk.new w4 (crc (tq, true, user, pass)) 46
  have hx5 := hxx4.alloc (.cells (crc (tq, true, user, pass)) 46)
  clear hbf hxx4
  generalize w4.alloc (.cells (crc (tq, true, user, pass)) 46) = w5 at *
  generalize w4.heap.size = b5 at hg5 ⊢
  have F3 := Lib.hid (hfmtc_any (tq, true, user, pass) hG (by show user.size ≤ _; omega) (by show pass.size ≤ _; omega) w5 (henv.ext hx5) (htabs.ext hx5))
  have F4 := Lib.hid (fun w => rfmtc_any (tq, true, user, pass) hG (by show user.size ≤ _; omega) (by show pass.size ≤ _; omega) w)
  have hsz := fmtC_size (tq, true, user, pass)
  have hbk8 := Lib.hid (fun e => fmtC_back htq (u := user) (p := pass) e behind)
  obtain ⟨sg, hsg⟩ : ∃ sg, sg = (fmtC (tq, true, user, pass)).1 := ⟨_, rfl⟩
  obtain ⟨bg, hbg⟩ : ∃ bg, bg = (fmtC (tq, true, user, pass)).2 := ⟨_, rfl⟩
  rw [← hsg, ← hbg] at hbk8 F3 F4
  rw [← hsg] at hsz
  clear hsg hbg
  have hrg5 := RBlk.range hg5
  have HG5 := Lib.hid hg5
  clear hg5
  go_wp2_with (first | refine wpList_load_C rfl _ rfl hG hrg5 rfl ?_ | (go_at_call 26; refine F3.out.mono ?_; rintro e w6 ⟨rfl, hx6⟩; refine Hid.out ?_))
  refine Lib.hid ?_
  have hxx6 := hx5.trans hx6
  have hg6 := Blk.ext HG5.out hx6
  have hrg6 := RBlk.range hg6
  have HG6 := Lib.hid hg6
  clear hx5 hx6 hrg5 HG5 F3 hg6
  have hself2 := toList_self_ne sg
  go_upto_region 10 with (first | refine wpList_load_C rfl _ rfl hG hrg6 rfl ?_ | (go_at_call 27; refine (F4.out _).mono ?_; rintro e w7 ⟨rfl, hx7⟩))
  have hg7 := Blk.ext HG6.out hx7
  replace hx7 := hxx6.trans hx7
  clear hxx6 HG6 hrg6 F4
  have y1 : ¬ 9223372036854775807 < sg.size + behind.size := by omega
  have KP := hparse_any (sg ++ behind) (by rw [size_app]; omega) w7 (henv.ext hx7)
  have hCf := okC_fin (sg ++ behind)
  cases bg
  · have KP2 := Lib.hid KP
    clear KP hbk8
    generalize (fin (sg ++ behind)).1 = cc at *
    generalize (fin (sg ++ behind)).2.1 = mm at *
    generalize (fin (sg ++ behind)).2.2 = ss at *
    go_wp2_with (first | (go_at_call 25; refine KP2.out.mono ?_; rintro e wp8 ⟨rfl, hxp⟩; refine Hid.out ?_))
    refine Lib.hid ?_
    have hxx8 := hx7.trans hxp
    have hg8 := hg7.ext hxp
    clear hxp hx7 hg7 KP2
    have hbf := Blk.new wp8 (crc zcr) 46
    go_upto_region 11 with (refine wpList_store_C rfl _ _ rfl okC_zcr hCf hbf rfl rfl ?_)
    change Code.wp _ _ _ _ ((wp8.alloc (.cells (crc zcr) 46)).setRow wp8.heap.size (crc cc))
    rw [World.setRow_alloc_new]
    have hd9 := Blk.new wp8 (crc cc) 46
    have hx9 := hxx8.alloc (.cells (crc cc) 46)
    have hnx := (Ext.refl wp8).alloc (.cells (crc cc) 46)
    clear hbf
    generalize wp8.alloc (.cells (crc cc) 46) = w9 at *
    generalize wp8.heap.size = b9 at *
    have hg9 := hg8.ext hnx
    clear hnx hxx8 hg8
    have henv9 := henv.ext hx9
    have c0 := fun (w' : World) (hh : Ext w9 w') => awake20 w' (henv9.ext hh)
    have gC : ∀ w', Ext w9 w' → RBlk w' b5 (tq, true, user, pass) := fun w' hh => hg9.ext hh
    have gD : ∀ w', Ext w9 w' → RBlk w' b9 cc := fun w' hh => hd9.ext hh
    have hE : decide ((tq, true, user, pass) = (tq, true, user, pass)) = true := by simp
    refine wp_region_rgs ?_
    first
      | (apply goV_skip (by intro u; rfl))
      | (apply goV_call (by intro u; rfl) c0; · (intro u w hSw hF; go_simp; try with_reducible rfl))
    try simp only [Act.put, List.setIfInBounds_toArray, List.set_cons_zero, List.set_cons_succ]
    first
      | (apply goV_skip (by intro u; rfl))
      | (apply goV_val _ (by intro u; rfl); · (intro u w hSw hF; go_simp; try with_reducible rfl))
    try simp only [Act.put, List.setIfInBounds_toArray, List.set_cons_zero, List.set_cons_succ]
    first
      | (apply goV_skip (by intro u; rfl))
      | (apply goV_val _ (by intro u; rfl); · (intro u w hSw hF; go_simp; try with_reducible rfl))
    try simp only [Act.put, List.setIfInBounds_toArray, List.set_cons_zero, List.set_cons_succ]
    first
      | (apply goV_skip (by intro u; rfl))
      | (apply goV_val _ (by intro u; rfl); · (intro u w hSw hF; go_simp; try with_reducible rfl))
    try simp only [Act.put, List.setIfInBounds_toArray, List.set_cons_zero, List.set_cons_succ]
    first
      | (apply goV_skip (by intro u; rfl))
      | (apply goV_val _ (by intro u; rfl); · (intro u w hSw hF; go_simp; try with_reducible rfl))
    try simp only [Act.put, List.setIfInBounds_toArray, List.set_cons_zero, List.set_cons_succ]
    first
      | (apply goV_skip (by intro u; rfl))
      | (apply goV_loadC (by intro u; rfl) _ rfl hCf gD (by intro u; rfl))
    try simp only [Act.put, List.setIfInBounds_toArray, List.set_cons_zero, List.set_cons_succ]
    first
      | (apply goV_skip (by intro u; rfl))
      | (apply goV_loadC (by intro u; rfl) _ rfl hG gC (by intro u; rfl))
    try simp only [Act.put, List.setIfInBounds_toArray, List.set_cons_zero, List.set_cons_succ]
    first
      | (apply goV_skip (by intro u; rfl))
      | (apply goV_eqCd (by intro u; rfl) _ _ rfl hG hG hE (by intro u; rfl) (by intro u; rfl))
    try simp only [Act.put, List.setIfInBounds_toArray, List.set_cons_zero, List.set_cons_succ]
    first
      | (apply goV_skip (by intro u; rfl))
      | (apply goV_val _ (by intro u; rfl); · (intro u w hSw hF; go_simp; try with_reducible rfl))
    try simp only [Act.put, List.setIfInBounds_toArray, List.set_cons_zero, List.set_cons_succ]
    first
      | (apply goV_skip (by intro u; rfl))
      | (apply goV_val _ (by intro u; rfl); · (intro u w hSw hF; go_simp; try with_reducible rfl))
    try simp only [Act.put, List.setIfInBounds_toArray, List.set_cons_zero, List.set_cons_succ]
    first
      | (apply goV_skip (by intro u; rfl))
      | (apply goV_val _ (by intro u; rfl); · (intro u w hSw hF; go_simp; try with_reducible rfl))
    try simp only [Act.put, List.setIfInBounds_toArray, List.set_cons_zero, List.set_cons_succ]
    first
      | (apply goV_skip (by intro u; rfl))
      | (apply goV_val _ (by intro u; rfl); · (intro u w hSw hF; go_simp; try with_reducible rfl))
    try simp only [Act.put, List.setIfInBounds_toArray, List.set_cons_zero, List.set_cons_succ]
    first
      | (apply goV_skip (by intro u; rfl))
      | (apply goV_val _ (by intro u; rfl); · (intro u w hSw hF; go_simp; try with_reducible rfl))
    try simp only [Act.put, List.setIfInBounds_toArray, List.set_cons_zero, List.set_cons_succ]
    first
      | (apply goV_skip (by intro u; rfl))
      | (apply goV_val _ (by intro u; rfl); · (intro u w hSw hF; go_simp; try with_reducible rfl))
    try simp only [Act.put, List.setIfInBounds_toArray, List.set_cons_zero, List.set_cons_succ]
    first
      | (apply goV_skip (by intro u; rfl))
      | (apply goV_val _ (by intro u; rfl); · (intro u w hSw hF; go_simp; try with_reducible rfl))
    try simp only [Act.put, List.setIfInBounds_toArray, List.set_cons_zero, List.set_cons_succ]
    first
      | (apply goV_skip (by intro u; rfl))
      | (apply goV_val _ (by intro u; rfl); · (intro u w hSw hF; go_simp; try with_reducible rfl))
    try simp only [Act.put, List.setIfInBounds_toArray, List.set_cons_zero, List.set_cons_succ]
    first
      | (apply goV_skip (by intro u; rfl))
      | (apply goV_val _ (by intro u; rfl); · (intro u w hSw hF; go_simp; try with_reducible rfl))
    try simp only [Act.put, List.setIfInBounds_toArray, List.set_cons_zero, List.set_cons_succ]
    first
      | (apply goV_skip (by intro u; rfl))
      | (apply goV_val _ (by intro u; rfl); · (intro u w hSw hF; go_simp; try with_reducible rfl))
    try simp only [Act.put, List.setIfInBounds_toArray, List.set_cons_zero, List.set_cons_succ]
    first
      | (apply goV_skip (by intro u; rfl))
      | (apply goV_val _ (by intro u; rfl); · (intro u w hSw hF; go_simp; try with_reducible rfl))
    try simp only [Act.put, List.setIfInBounds_toArray, List.set_cons_zero, List.set_cons_succ]
    first
      | (apply goV_skip (by intro u; rfl))
      | (apply goV_val _ (by intro u; rfl); · (intro u w hSw hF; go_simp; try with_reducible rfl))
    try simp only [Act.put, List.setIfInBounds_toArray, List.set_cons_zero, List.set_cons_succ]
    first
      | (apply goV_skip (by intro u; rfl))
      | (apply goV_val _ (by intro u; rfl); · (intro u w hSw hF; go_simp; try with_reducible rfl))
    try simp only [Act.put, List.setIfInBounds_toArray, List.set_cons_zero, List.set_cons_succ]
    intro u w7 hx7 _
    go_wp2
    go_ret; exact ⟨rfl, hx9.trans hx7⟩
  · rw [hbk8.out rfl] at KP
    have KP2 := Lib.hid KP
    clear KP hbk8 hCf
    go_wp2_with (first | (go_at_call 25; refine KP2.out.mono ?_; rintro e wp8 ⟨rfl, hxp⟩; refine Hid.out ?_))
    refine Lib.hid ?_
    have hxx8 := hx7.trans hxp
    have hg8 := hg7.ext hxp
    clear hxp hx7 hg7 KP2
    have hbf := Blk.new wp8 (crc zcr) 46
    go_upto_region 11 with (refine wpList_store_C rfl _ _ rfl okC_zcr hG hbf rfl rfl ?_)
    change Code.wp _ _ _ _ ((wp8.alloc (.cells (crc zcr) 46)).setRow wp8.heap.size (crc (tq, true, user, pass)))
    rw [World.setRow_alloc_new]
    have hd9 := Blk.new wp8 (crc (tq, true, user, pass)) 46
    have hx9 := hxx8.alloc (.cells (crc (tq, true, user, pass)) 46)
    have hnx := (Ext.refl wp8).alloc (.cells (crc (tq, true, user, pass)) 46)
    clear hbf
    generalize wp8.alloc (.cells (crc (tq, true, user, pass)) 46) = w9 at *
    generalize wp8.heap.size = b9 at *
    have hg9 := hg8.ext hnx
    clear hnx hxx8 hg8
    have henv9 := henv.ext hx9
    have c0 := fun (w' : World) (hh : Ext w9 w') => awake20 w' (henv9.ext hh)
    have gC : ∀ w', Ext w9 w' → RBlk w' b5 (tq, true, user, pass) := fun w' hh => hg9.ext hh
    have gD : ∀ w', Ext w9 w' → RBlk w' b9 (tq, true, user, pass) := fun w' hh => hd9.ext hh
    have hE : decide ((tq, true, user, pass) = (tq, true, user, pass)) = true := by simp
    refine wp_region_rgs ?_
    first
      | (apply goV_skip (by intro u; rfl))
      | (apply goV_call (by intro u; rfl) c0; · (intro u w hSw hF; go_simp; try with_reducible rfl))
    try simp only [Act.put, List.setIfInBounds_toArray, List.set_cons_zero, List.set_cons_succ]
    first
      | (apply goV_skip (by intro u; rfl))
      | (apply goV_val _ (by intro u; rfl); · (intro u w hSw hF; go_simp; try with_reducible rfl))
    try simp only [Act.put, List.setIfInBounds_toArray, List.set_cons_zero, List.set_cons_succ]
    first
      | (apply goV_skip (by intro u; rfl))
      | (apply goV_val _ (by intro u; rfl); · (intro u w hSw hF; go_simp; try with_reducible rfl))
    try simp only [Act.put, List.setIfInBounds_toArray, List.set_cons_zero, List.set_cons_succ]
    first
      | (apply goV_skip (by intro u; rfl))
      | (apply goV_val _ (by intro u; rfl); · (intro u w hSw hF; go_simp; try with_reducible rfl))
    try simp only [Act.put, List.setIfInBounds_toArray, List.set_cons_zero, List.set_cons_succ]
    first
      | (apply goV_skip (by intro u; rfl))
      | (apply goV_val _ (by intro u; rfl); · (intro u w hSw hF; go_simp; try with_reducible rfl))
    try simp only [Act.put, List.setIfInBounds_toArray, List.set_cons_zero, List.set_cons_succ]
    first
      | (apply goV_skip (by intro u; rfl))
      | (apply goV_loadC (by intro u; rfl) _ rfl hG gD (by intro u; rfl))
    try simp only [Act.put, List.setIfInBounds_toArray, List.set_cons_zero, List.set_cons_succ]
    first
      | (apply goV_skip (by intro u; rfl))
      | (apply goV_loadC (by intro u; rfl) _ rfl hG gC (by intro u; rfl))
    try simp only [Act.put, List.setIfInBounds_toArray, List.set_cons_zero, List.set_cons_succ]
    first
      | (apply goV_skip (by intro u; rfl))
      | (apply goV_eqCd (by intro u; rfl) _ _ rfl hG hG hE (by intro u; rfl) (by intro u; rfl))
    try simp only [Act.put, List.setIfInBounds_toArray, List.set_cons_zero, List.set_cons_succ]
    first
      | (apply goV_skip (by intro u; rfl))
      | (apply goV_val _ (by intro u; rfl); · (intro u w hSw hF; go_simp; try with_reducible rfl))
    try simp only [Act.put, List.setIfInBounds_toArray, List.set_cons_zero, List.set_cons_succ]
    first
      | (apply goV_skip (by intro u; rfl))
      | (apply goV_val _ (by intro u; rfl); · (intro u w hSw hF; go_simp; try with_reducible rfl))
    try simp only [Act.put, List.setIfInBounds_toArray, List.set_cons_zero, List.set_cons_succ]
    first
      | (apply goV_skip (by intro u; rfl))
      | (apply goV_val _ (by intro u; rfl); · (intro u w hSw hF; go_simp; try with_reducible rfl))
    try simp only [Act.put, List.setIfInBounds_toArray, List.set_cons_zero, List.set_cons_succ]
    first
      | (apply goV_skip (by intro u; rfl))
      | (apply goV_val _ (by intro u; rfl); · (intro u w hSw hF; go_simp; try with_reducible rfl))
    try simp only [Act.put, List.setIfInBounds_toArray, List.set_cons_zero, List.set_cons_succ]
    first
      | (apply goV_skip (by intro u; rfl))
      | (apply goV_val _ (by intro u; rfl); · (intro u w hSw hF; go_simp; try with_reducible rfl))
    try simp only [Act.put, List.setIfInBounds_toArray, List.set_cons_zero, List.set_cons_succ]
    first
      | (apply goV_skip (by intro u; rfl))
      | (apply goV_val _ (by intro u; rfl); · (intro u w hSw hF; go_simp; try with_reducible rfl))
    try simp only [Act.put, List.setIfInBounds_toArray, List.set_cons_zero, List.set_cons_succ]
    first
      | (apply goV_skip (by intro u; rfl))
      | (apply goV_val _ (by intro u; rfl); · (intro u w hSw hF; go_simp; try with_reducible rfl))
    try simp only [Act.put, List.setIfInBounds_toArray, List.set_cons_zero, List.set_cons_succ]
    first
      | (apply goV_skip (by intro u; rfl))
      | (apply goV_val _ (by intro u; rfl); · (intro u w hSw hF; go_simp; try with_reducible rfl))
    try simp only [Act.put, List.setIfInBounds_toArray, List.set_cons_zero, List.set_cons_succ]
    first
      | (apply goV_skip (by intro u; rfl))
      | (apply goV_val _ (by intro u; rfl); · (intro u w hSw hF; go_simp; try with_reducible rfl))
    try simp only [Act.put, List.setIfInBounds_toArray, List.set_cons_zero, List.set_cons_succ]
    first
      | (apply goV_skip (by intro u; rfl))
      | (apply goV_val _ (by intro u; rfl); · (intro u w hSw hF; go_simp; try with_reducible rfl))
    try simp only [Act.put, List.setIfInBounds_toArray, List.set_cons_zero, List.set_cons_succ]
    first
      | (apply goV_skip (by intro u; rfl))
      | (apply goV_val _ (by intro u; rfl); · (intro u w hSw hF; go_simp; try with_reducible rfl))
    try simp only [Act.put, List.setIfInBounds_toArray, List.set_cons_zero, List.set_cons_succ]
    first
      | (apply goV_skip (by intro u; rfl))
      | (apply goV_val _ (by intro u; rfl); · (intro u w hSw hF; go_simp; try with_reducible rfl))
    try simp only [Act.put, List.setIfInBounds_toArray, List.set_cons_zero, List.set_cons_succ]
    first
      | (apply goV_skip (by intro u; rfl))
      | (apply goV_val _ (by intro u; rfl); · (intro u w hSw hF; go_simp; try with_reducible rfl))
    try simp only [Act.put, List.setIfInBounds_toArray, List.set_cons_zero, List.set_cons_succ]
    intro u w7 hx7 _
    go_wp2
    go_ret; exact ⟨rfl, hx9.trans hx7⟩
end Go.Proofs.YtpdoddelnahlnaaGreatDoor
