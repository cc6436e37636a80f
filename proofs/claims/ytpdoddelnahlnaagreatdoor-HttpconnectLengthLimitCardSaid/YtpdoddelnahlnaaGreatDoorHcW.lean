/-
  HttpconnectLengthLimit.
-/
import Derived.Test.YtpdoddelnahlnaaGreatDoorK41
import Derived.Test.YtpdoddelnahlnaaGreatDoorK42
set_option linter.unusedSimpArgs false
set_option linter.unusedVariables false
namespace Go.Proofs.YtpdoddelnahlnaaGreatDoor
open Go.RowKit Go.Joins
def limT : ByteArray := ⟨#[32, 72, 84, 84, 80, 47, 49, 46, 49, 13, 10, 88, 58, 32]⟩
theorem limS_eq (t : Tgt) (m : Nat) : connS ++ fmtT t ++ limT ++ txt (List.replicate m 113) ++ ⟨#[13, 10, 13, 10]⟩ = limS t m := by
  have e1 : limT = ⟨#[32]⟩ ++ (v11 ++ (crlf ++ ⟨#[88, 58, 32]⟩)) := by decide +kernel
  have e2 : (⟨#[13, 10, 13, 10]⟩ : ByteArray) = crlf ++ crlf := by decide +kernel
  rw [e1, e2]
  unfold limS rqL xln
  simp only [ByteArray.append_assoc]
theorem rep_succ (b : ByteArray) (j : Nat) : b ++ txt (List.replicate j 113) ++ ⟨#[113]⟩ = b ++ txt (List.replicate (j + 1) 113) := by
  have e : (⟨#[113]⟩ : ByteArray) = txt [113] := rfl
  rw [e, ByteArray.append_assoc, ← txt_app, List.replicate_succ']
set_option maxRecDepth 8000 in
set_option maxHeartbeats 8000000 in
theorem HttpconnectLengthLimit_walk (n more : Int) (behind : ByteArray) (wn : (Lit.int .i64 n).wf = true) (wm : (Lit.int .i64 more).wf = true) (wb : behind.size ≤ 140737488351232) (w : World) (henv : Env w) (htabs : Tabs w) :
    Calls Tryz.prog 9 #[.int .i64 n, .int .i64 more, .string behind] w fun e w' => e = .returned (.bool true) ∧ Ext w w' := by
  have KG := Lib.hid (fun w => gtarget_any n w)
  have KM := Lib.hid (fun w => mod_any more 5 w (by decide))
  have hm := modI_bd more (n := 5) (by decide) (by decide)
  generalize modI more 5 = m at *
  go_enter Tryz.func9, Tryz.ntmps9
  go_wp2_with (first | (go_at_call 19; refine (KG.out _).mono ?_; rintro e w1 ⟨t, ht, hv, rfl, hx1⟩; refine Hid.out ?_))
  refine Lib.hid ?_
  have KF := Lib.hid (rhformat_any t ht w1)
  have hfz := fmtT_size ht
  obtain ⟨f, hf⟩ : ∃ f, f = fmtT t := ⟨_, rfl⟩
  rw [← hf] at KF hfz
  have HF := Lib.hid hf
  have HV := Lib.hid hv
  clear hf hv
  have y1 : ¬ 9223372036854775807 < 8 + f.size := by omega
  have y2 : ¬ 9223372036854775807 < 8 + f.size + 14 := by omega
  have e1 : IntKind.i64.wrap (508 + m) = 508 + m := IntWalk.i64_in _ (by omega)
  have e2 : IntKind.i64.wrap (508 + m - 2) = 508 + m - 2 := IntWalk.i64_in _ (by omega)
  go_upto_block 0 with (first | (go_at_call 18; refine KF.out.mono ?_; rintro e w2 ⟨rfl, hx2⟩) | (go_at_call 24; refine (KM.out _).mono ?_; rintro e w3 ⟨rfl, hx3⟩))
  have hx4 := (hx1.trans hx2).trans hx3
  obtain ⟨base, hbase⟩ : ∃ base : ByteArray, base = ⟨#[67, 79, 78, 78, 69, 67, 84, 32]⟩ ++ f ++ ⟨#[32, 72, 84, 84, 80, 47, 49, 46, 49, 13, 10, 88, 58, 32]⟩ := ⟨_, rfl⟩
  rw [← hbase]
  have hbz : base.size = 22 + f.size := by
    rw [hbase, size_app, size_app]; show 8 + f.size + 14 = _; omega
  have HBS : Hid (base = connS ++ fmtT t ++ limT) := Lib.hid (by rw [hbase, HF.out]; rfl)
  clear hbase hx1 hx2 hx3 y1 y2 e1 e2
  go_wp2_with fail
  go_loop [7] (fun s => ∃ (z : ByteArray) (j : Nat), s = .string z ∧ Hid (z = base ++ txt (List.replicate j 113)) ∧ z.size = base.size + j ∧ (z.size : Int) ≤ 506 + m) (fun s => 600 - strLen8 s)
  case atStart => exact ⟨base, 0, rfl, Lib.hid (BA_ext (by rw [data_append]; simp [txt])), rfl, by omega⟩
  case round =>
    obtain ⟨z, j, rfl, HZ, hz, hzm⟩ := hrel
    by_cases hlt : (z.size : Int) < 508 + m - 2
    · have y : ¬ 9223372036854775807 < z.size + 1 := by omega
      have ez : (z ++ (⟨#[113]⟩ : ByteArray)).size = z.size + 1 := by rw [size_app]; rfl
      go_wp2_with fail
      go_round
      case rel => exact ⟨_, j + 1, rfl, Lib.hid (by rw [HZ.out]; exact rep_succ base j), by rw [ez]; omega, by rw [ez]; omega⟩
      case measure => simp only [strLen8, ez]; omega
    · have y3 : ¬ 9223372036854775807 < z.size + 4 := by omega
      have HS : Hid (z ++ (⟨#[13, 10, 13, 10]⟩ : ByteArray) = limS t j) := Lib.hid (by rw [HZ.out, HBS.out]; exact limS_eq t j)
      have hSz : (z ++ (⟨#[13, 10, 13, 10]⟩ : ByteArray)).size = z.size + 4 := by rw [size_app]; rfl
      have hzk : (z.size : Int) = 506 + m := by omega
      have HSZ := Lib.hid hSz
      have HZK := Lib.hid hzk
      clear hSz hzk hz
      go_upto_region 6 with fail
      generalize z ++ (⟨#[13, 10, 13, 10]⟩ : ByteArray) = S at *
      have y4 : ¬ 9223372036854775807 < S.size + behind.size := by have := HSZ.out; have := HZK.out; omega
      have F0 := fin_lim ht HV.out j behind
      rw [← HS.out] at F0
      have hSb : (S ++ behind).size ≤ 281474976710656 := by rw [size_app]; have := HSZ.out; have := HZK.out; omega
      have KP := hparse_any (S ++ behind) hSb w3 (henv.ext hx4)
      have KA := Lib.hid (fun w h => cagrees_any (S ++ behind) hSb w h)
      clear hlt hzm y3 hSb hbz hfz
      by_cases hm2 : m ≤ 2
      · have hS5 : (S.size : Int) ≤ 512 := by have := HSZ.out; have := HZK.out; omega
        have hS5d : decide ((S.size : Int) ≤ 512) = true := decide_eq_true hS5
        rw [if_pos (by omega)] at F0
        rw [F0] at KP
        have K := Lib.hid KP
        have hC : okC (t, false, ⟨#[]⟩, ⟨#[]⟩) := ⟨ht, Nat.zero_le _, Nat.zero_le _⟩
        clear F0 KP hm2 hm
        go_wp2_with (first | (go_at_call 25; refine K.out.mono ?_; rintro e w5 ⟨rfl, hx5⟩; refine Hid.out ?_))
        refine Lib.hid ?_
        have hxx5 := hx4.trans hx5
        clear K hx5
        have hbf := Blk.new w5 (crc zcr) 46
        go_upto_region 7 with (refine wpList_store_C rfl _ _ rfl okC_zcr hC hbf rfl rfl ?_)
        change Code.wp _ _ _ _ ((w5.alloc (.cells (crc zcr) 46)).setRow w5.heap.size (crc (t, false, (⟨#[]⟩ : ByteArray), (⟨#[]⟩ : ByteArray))))
        rw [World.setRow_alloc_new]
        have hd6 := Blk.new w5 (crc (t, false, (⟨#[]⟩ : ByteArray), (⟨#[]⟩ : ByteArray))) 46
        have hx6 := hxx5.alloc (.cells (crc (t, false, (⟨#[]⟩ : ByteArray), (⟨#[]⟩ : ByteArray))) 46)
        have hnx := (Ext.refl w5).alloc (.cells (crc (t, false, (⟨#[]⟩ : ByteArray), (⟨#[]⟩ : ByteArray))) 46)
        clear hbf
        generalize w5.alloc (.cells (crc (t, false, (⟨#[]⟩ : ByteArray), (⟨#[]⟩ : ByteArray))) 46) = w6 at *
        generalize w5.heap.size = b6 at *
        clear hnx hd6
        have henv6 := henv.ext hx6
        go_upto_region 8 with fail
        have c1 := fun w' (h : Ext w6 w') => awake20 w' (henv6.ext h)
        have c2 := fun w' (h : Ext w6 w') => KA.out w' (henv6.ext h)
        clear KA
        refine wp_region_rgs ?_
        first
          | (apply goV_skip (by intro u; rfl))
          | (apply goV_call (by intro u; rfl) c1; · (intro u w hSw hF; go_simp; try with_reducible rfl))
        try simp only [Act.put, List.setIfInBounds_toArray, List.set_cons_zero, List.set_cons_succ]
        first
          | (apply goV_skip (by intro u; rfl))
          | (apply goV_val _ (by intro u; rfl); · (intro u w hSw hF; go_simp; try with_reducible rfl))
        try simp only [Act.put, List.setIfInBounds_toArray, List.set_cons_zero, List.set_cons_succ]
        first
          | (apply goV_skip (by intro u; rfl))
          | (apply goV_val _ (by intro u; rfl); · (intro u w hSw hF; go_simp; try with_reducible rfl))
        try simp only [Act.put, List.setIfInBounds_toArray, List.set_cons_zero, List.set_cons_succ]
        first
          | (apply goV_skip (by intro u; rfl))
          | (apply goV_val _ (by intro u; rfl); · (intro u w hSw hF; go_simp; try with_reducible rfl))
        try simp only [Act.put, List.setIfInBounds_toArray, List.set_cons_zero, List.set_cons_succ]
        first
          | (apply goV_skip (by intro u; rfl))
          | (apply goV_val _ (by intro u; rfl); · (intro u w hSw hF; go_simp; try with_reducible rfl))
        try simp only [Act.put, List.setIfInBounds_toArray, List.set_cons_zero, List.set_cons_succ]
        first
          | (apply goV_skip (by intro u; rfl))
          | (apply goV_val _ (by intro u; rfl); · (intro u w hSw hF; go_simp; try with_reducible rfl))
        try simp only [Act.put, List.setIfInBounds_toArray, List.set_cons_zero, List.set_cons_succ]
        first
          | (apply goV_skip (by intro u; rfl))
          | (apply goV_val _ (by intro u; rfl); · (intro u w hSw hF; go_simp; try with_reducible rfl))
        try simp only [Act.put, List.setIfInBounds_toArray, List.set_cons_zero, List.set_cons_succ]
        first
          | (apply goV_skip (by intro u; rfl))
          | (apply goV_val _ (by intro u; rfl); · (intro u w hSw hF; go_simp; try with_reducible rfl))
        try simp only [Act.put, List.setIfInBounds_toArray, List.set_cons_zero, List.set_cons_succ]
        first
          | (apply goV_skip (by intro u; rfl))
          | (apply goV_val _ (by intro u; rfl); · (intro u w hSw hF; go_simp; try with_reducible rfl))
        try simp only [Act.put, List.setIfInBounds_toArray, List.set_cons_zero, List.set_cons_succ]
        first
          | (apply goV_skip (by intro u; rfl))
          | (apply goV_val _ (by intro u; rfl); · (intro u w hSw hF; go_simp; try with_reducible rfl))
        try simp only [Act.put, List.setIfInBounds_toArray, List.set_cons_zero, List.set_cons_succ]
        first
          | (apply goV_skip (by intro u; rfl))
          | (apply goV_val _ (by intro u; rfl); · (intro u w hSw hF; go_simp; try with_reducible rfl))
        try simp only [Act.put, List.setIfInBounds_toArray, List.set_cons_zero, List.set_cons_succ]
        first
          | (apply goV_skip (by intro u; rfl))
          | (apply goV_val _ (by intro u; rfl); · (intro u w hSw hF; go_simp; try with_reducible rfl))
        try simp only [Act.put, List.setIfInBounds_toArray, List.set_cons_zero, List.set_cons_succ]
        first
          | (apply goV_skip (by intro u; rfl))
          | (apply goV_val _ (by intro u; rfl); · (intro u w hSw hF; go_simp; try with_reducible rfl))
        try simp only [Act.put, List.setIfInBounds_toArray, List.set_cons_zero, List.set_cons_succ]
        first
          | (apply goV_skip (by intro u; rfl))
          | (apply goV_val _ (by intro u; rfl); · (intro u w hSw hF; go_simp; try with_reducible rfl))
        try simp only [Act.put, List.setIfInBounds_toArray, List.set_cons_zero, List.set_cons_succ]
        first
          | (apply goV_skip (by intro u; rfl))
          | (apply goV_val _ (by intro u; rfl); · (intro u w hSw hF; go_simp; try with_reducible rfl))
        try simp only [Act.put, List.setIfInBounds_toArray, List.set_cons_zero, List.set_cons_succ]
        first
          | (apply goV_skip (by intro u; rfl))
          | (apply goV_val _ (by intro u; rfl); · (intro u w hSw hF; go_simp; try with_reducible rfl))
        try simp only [Act.put, List.setIfInBounds_toArray, List.set_cons_zero, List.set_cons_succ]
        first
          | (apply goV_skip (by intro u; rfl))
          | (apply goV_val _ (by intro u; rfl); · (intro u w hSw hF; go_simp; try with_reducible rfl))
        try simp only [Act.put, List.setIfInBounds_toArray, List.set_cons_zero, List.set_cons_succ]
        first
          | (apply goV_skip (by intro u; rfl))
          | (apply goV_val _ (by intro u; rfl); · (intro u w hSw hF; go_simp; try with_reducible rfl))
        try simp only [Act.put, List.setIfInBounds_toArray, List.set_cons_zero, List.set_cons_succ]
        first
          | (apply goV_skip (by intro u; rfl))
          | (apply goV_val _ (by intro u; rfl); · (intro u w hSw hF; go_simp; try with_reducible rfl))
        try simp only [Act.put, List.setIfInBounds_toArray, List.set_cons_zero, List.set_cons_succ]
        first
          | (apply goV_skip (by intro u; rfl))
          | (apply goV_val _ (by intro u; rfl); · (intro u w hSw hF; go_simp; try with_reducible rfl))
        try simp only [Act.put, List.setIfInBounds_toArray, List.set_cons_zero, List.set_cons_succ]
        first
          | (apply goV_skip (by intro u; rfl))
          | (apply goV_val _ (by intro u; rfl); · (intro u w hSw hF; go_simp; try with_reducible rfl))
        try simp only [Act.put, List.setIfInBounds_toArray, List.set_cons_zero, List.set_cons_succ]
        first
          | (apply goV_skip (by intro u; rfl))
          | (apply goV_val _ (by intro u; rfl); · (intro u w hSw hF; go_simp; try with_reducible rfl))
        try simp only [Act.put, List.setIfInBounds_toArray, List.set_cons_zero, List.set_cons_succ]
        first
          | (apply goV_skip (by intro u; rfl))
          | (apply goV_val _ (by intro u; rfl); · (intro u w hSw hF; go_simp; try with_reducible rfl))
        try simp only [Act.put, List.setIfInBounds_toArray, List.set_cons_zero, List.set_cons_succ]
        first
          | (apply goV_skip (by intro u; rfl))
          | (apply goV_val _ (by intro u; rfl); · (intro u w hSw hF; go_simp; try with_reducible rfl))
        try simp only [Act.put, List.setIfInBounds_toArray, List.set_cons_zero, List.set_cons_succ]
        first
          | (apply goV_skip (by intro u; rfl))
          | (apply goV_val _ (by intro u; rfl); · (intro u w hSw hF; go_simp; try with_reducible rfl))
        try simp only [Act.put, List.setIfInBounds_toArray, List.set_cons_zero, List.set_cons_succ]
        first
          | (apply goV_skip (by intro u; rfl))
          | (apply goV_val _ (by intro u; rfl); · (intro u w hSw hF; go_simp; try with_reducible rfl))
        try simp only [Act.put, List.setIfInBounds_toArray, List.set_cons_zero, List.set_cons_succ]
        first
          | (apply goV_skip (by intro u; rfl))
          | (apply goV_val _ (by intro u; rfl); · (intro u w hSw hF; go_simp; try with_reducible rfl))
        try simp only [Act.put, List.setIfInBounds_toArray, List.set_cons_zero, List.set_cons_succ]
        first
          | (apply goV_skip (by intro u; rfl))
          | (apply goV_val _ (by intro u; rfl); · (intro u w hSw hF; go_simp; try with_reducible rfl))
        try simp only [Act.put, List.setIfInBounds_toArray, List.set_cons_zero, List.set_cons_succ]
        first
          | (apply goV_skip (by intro u; rfl))
          | (apply goV_val _ (by intro u; rfl); · (intro u w hSw hF; go_simp; try with_reducible rfl))
        try simp only [Act.put, List.setIfInBounds_toArray, List.set_cons_zero, List.set_cons_succ]
        first
          | (apply goV_skip (by intro u; rfl))
          | (apply goV_val _ (by intro u; rfl); · (intro u w hSw hF; go_simp; try with_reducible rfl))
        try simp only [Act.put, List.setIfInBounds_toArray, List.set_cons_zero, List.set_cons_succ]
        first
          | (apply goV_skip (by intro u; rfl))
          | (apply goV_call (by intro u; rfl) c2; · (intro u w hSw hF; go_simp; try with_reducible rfl))
        try simp only [Act.put, List.setIfInBounds_toArray, List.set_cons_zero, List.set_cons_succ]
        first
          | (apply goV_skip (by intro u; rfl))
          | (apply goV_val _ (by intro u; rfl); · (intro u w hSw hF; go_simp; try with_reducible rfl))
        try simp only [Act.put, List.setIfInBounds_toArray, List.set_cons_zero, List.set_cons_succ]
        first
          | (apply goV_skip (by intro u; rfl))
          | (apply goV_val _ (by intro u; rfl); · (intro u w hSw hF; go_simp; try with_reducible rfl))
        try simp only [Act.put, List.setIfInBounds_toArray, List.set_cons_zero, List.set_cons_succ]
        intro u w7 hx7 _
        go_wp2
        go_ret; exact ⟨rfl, hx6.trans hx7⟩
      · have hS5 : ¬ (S.size : Int) ≤ 512 := by have := HSZ.out; have := HZK.out; omega
        have hS5d : decide ((S.size : Int) ≤ 512) = false := decide_eq_false hS5
        rw [if_neg (by omega)] at F0
        rw [F0] at KP
        have K := Lib.hid KP
        clear F0 KP hm2 hm
        go_wp2_with (first | (go_at_call 25; refine K.out.mono ?_; rintro e w5 ⟨rfl, hx5⟩; refine Hid.out ?_))
        refine Lib.hid ?_
        have hxx5 := hx4.trans hx5
        clear K hx5
        have hbf := Blk.new w5 (crc zcr) 46
        go_upto_region 7 with (refine wpList_store_C rfl _ _ rfl okC_zcr okC_zcr hbf rfl rfl ?_)
        change Code.wp _ _ _ _ ((w5.alloc (.cells (crc zcr) 46)).setRow w5.heap.size (crc zcr))
        rw [World.setRow_alloc_new]
        have hd6 := Blk.new w5 (crc zcr) 46
        have hx6 := hxx5.alloc (.cells (crc zcr) 46)
        have hnx := (Ext.refl w5).alloc (.cells (crc zcr) 46)
        clear hbf
        generalize w5.alloc (.cells (crc zcr) 46) = w6 at *
        generalize w5.heap.size = b6 at *
        clear hnx hd6
        have henv6 := henv.ext hx6
        go_upto_region 8 with fail
        have c1 := fun w' (h : Ext w6 w') => awake20 w' (henv6.ext h)
        have c2 := fun w' (h : Ext w6 w') => KA.out w' (henv6.ext h)
        clear KA
        refine wp_region_rgs ?_
        first
          | (apply goV_skip (by intro u; rfl))
          | (apply goV_call (by intro u; rfl) c1; · (intro u w hSw hF; go_simp; try with_reducible rfl))
        try simp only [Act.put, List.setIfInBounds_toArray, List.set_cons_zero, List.set_cons_succ]
        first
          | (apply goV_skip (by intro u; rfl))
          | (apply goV_val _ (by intro u; rfl); · (intro u w hSw hF; go_simp; try with_reducible rfl))
        try simp only [Act.put, List.setIfInBounds_toArray, List.set_cons_zero, List.set_cons_succ]
        first
          | (apply goV_skip (by intro u; rfl))
          | (apply goV_val _ (by intro u; rfl); · (intro u w hSw hF; go_simp; try with_reducible rfl))
        try simp only [Act.put, List.setIfInBounds_toArray, List.set_cons_zero, List.set_cons_succ]
        first
          | (apply goV_skip (by intro u; rfl))
          | (apply goV_val _ (by intro u; rfl); · (intro u w hSw hF; go_simp; try with_reducible rfl))
        try simp only [Act.put, List.setIfInBounds_toArray, List.set_cons_zero, List.set_cons_succ]
        first
          | (apply goV_skip (by intro u; rfl))
          | (apply goV_val _ (by intro u; rfl); · (intro u w hSw hF; go_simp; try with_reducible rfl))
        try simp only [Act.put, List.setIfInBounds_toArray, List.set_cons_zero, List.set_cons_succ]
        first
          | (apply goV_skip (by intro u; rfl))
          | (apply goV_val _ (by intro u; rfl); · (intro u w hSw hF; go_simp; try with_reducible rfl))
        try simp only [Act.put, List.setIfInBounds_toArray, List.set_cons_zero, List.set_cons_succ]
        first
          | (apply goV_skip (by intro u; rfl))
          | (apply goV_val _ (by intro u; rfl); · (intro u w hSw hF; go_simp; try with_reducible rfl))
        try simp only [Act.put, List.setIfInBounds_toArray, List.set_cons_zero, List.set_cons_succ]
        first
          | (apply goV_skip (by intro u; rfl))
          | (apply goV_val _ (by intro u; rfl); · (intro u w hSw hF; go_simp; try with_reducible rfl))
        try simp only [Act.put, List.setIfInBounds_toArray, List.set_cons_zero, List.set_cons_succ]
        first
          | (apply goV_skip (by intro u; rfl))
          | (apply goV_val _ (by intro u; rfl); · (intro u w hSw hF; go_simp; try with_reducible rfl))
        try simp only [Act.put, List.setIfInBounds_toArray, List.set_cons_zero, List.set_cons_succ]
        first
          | (apply goV_skip (by intro u; rfl))
          | (apply goV_val _ (by intro u; rfl); · (intro u w hSw hF; go_simp; try with_reducible rfl))
        try simp only [Act.put, List.setIfInBounds_toArray, List.set_cons_zero, List.set_cons_succ]
        first
          | (apply goV_skip (by intro u; rfl))
          | (apply goV_val _ (by intro u; rfl); · (intro u w hSw hF; go_simp; try with_reducible rfl))
        try simp only [Act.put, List.setIfInBounds_toArray, List.set_cons_zero, List.set_cons_succ]
        first
          | (apply goV_skip (by intro u; rfl))
          | (apply goV_val _ (by intro u; rfl); · (intro u w hSw hF; go_simp; try with_reducible rfl))
        try simp only [Act.put, List.setIfInBounds_toArray, List.set_cons_zero, List.set_cons_succ]
        first
          | (apply goV_skip (by intro u; rfl))
          | (apply goV_val _ (by intro u; rfl); · (intro u w hSw hF; go_simp; try with_reducible rfl))
        try simp only [Act.put, List.setIfInBounds_toArray, List.set_cons_zero, List.set_cons_succ]
        first
          | (apply goV_skip (by intro u; rfl))
          | (apply goV_val _ (by intro u; rfl); · (intro u w hSw hF; go_simp; try with_reducible rfl))
        try simp only [Act.put, List.setIfInBounds_toArray, List.set_cons_zero, List.set_cons_succ]
        first
          | (apply goV_skip (by intro u; rfl))
          | (apply goV_val _ (by intro u; rfl); · (intro u w hSw hF; go_simp; try with_reducible rfl))
        try simp only [Act.put, List.setIfInBounds_toArray, List.set_cons_zero, List.set_cons_succ]
        first
          | (apply goV_skip (by intro u; rfl))
          | (apply goV_val _ (by intro u; rfl); · (intro u w hSw hF; go_simp; try with_reducible rfl))
        try simp only [Act.put, List.setIfInBounds_toArray, List.set_cons_zero, List.set_cons_succ]
        first
          | (apply goV_skip (by intro u; rfl))
          | (apply goV_val _ (by intro u; rfl); · (intro u w hSw hF; go_simp; try with_reducible rfl))
        try simp only [Act.put, List.setIfInBounds_toArray, List.set_cons_zero, List.set_cons_succ]
        first
          | (apply goV_skip (by intro u; rfl))
          | (apply goV_val _ (by intro u; rfl); · (intro u w hSw hF; go_simp; try with_reducible rfl))
        try simp only [Act.put, List.setIfInBounds_toArray, List.set_cons_zero, List.set_cons_succ]
        first
          | (apply goV_skip (by intro u; rfl))
          | (apply goV_val _ (by intro u; rfl); · (intro u w hSw hF; go_simp; try with_reducible rfl))
        try simp only [Act.put, List.setIfInBounds_toArray, List.set_cons_zero, List.set_cons_succ]
        first
          | (apply goV_skip (by intro u; rfl))
          | (apply goV_val _ (by intro u; rfl); · (intro u w hSw hF; go_simp; try with_reducible rfl))
        try simp only [Act.put, List.setIfInBounds_toArray, List.set_cons_zero, List.set_cons_succ]
        first
          | (apply goV_skip (by intro u; rfl))
          | (apply goV_val _ (by intro u; rfl); · (intro u w hSw hF; go_simp; try with_reducible rfl))
        try simp only [Act.put, List.setIfInBounds_toArray, List.set_cons_zero, List.set_cons_succ]
        first
          | (apply goV_skip (by intro u; rfl))
          | (apply goV_val _ (by intro u; rfl); · (intro u w hSw hF; go_simp; try with_reducible rfl))
        try simp only [Act.put, List.setIfInBounds_toArray, List.set_cons_zero, List.set_cons_succ]
        first
          | (apply goV_skip (by intro u; rfl))
          | (apply goV_val _ (by intro u; rfl); · (intro u w hSw hF; go_simp; try with_reducible rfl))
        try simp only [Act.put, List.setIfInBounds_toArray, List.set_cons_zero, List.set_cons_succ]
        first
          | (apply goV_skip (by intro u; rfl))
          | (apply goV_val _ (by intro u; rfl); · (intro u w hSw hF; go_simp; try with_reducible rfl))
        try simp only [Act.put, List.setIfInBounds_toArray, List.set_cons_zero, List.set_cons_succ]
        first
          | (apply goV_skip (by intro u; rfl))
          | (apply goV_val _ (by intro u; rfl); · (intro u w hSw hF; go_simp; try with_reducible rfl))
        try simp only [Act.put, List.setIfInBounds_toArray, List.set_cons_zero, List.set_cons_succ]
        first
          | (apply goV_skip (by intro u; rfl))
          | (apply goV_val _ (by intro u; rfl); · (intro u w hSw hF; go_simp; try with_reducible rfl))
        try simp only [Act.put, List.setIfInBounds_toArray, List.set_cons_zero, List.set_cons_succ]
        first
          | (apply goV_skip (by intro u; rfl))
          | (apply goV_val _ (by intro u; rfl); · (intro u w hSw hF; go_simp; try with_reducible rfl))
        try simp only [Act.put, List.setIfInBounds_toArray, List.set_cons_zero, List.set_cons_succ]
        first
          | (apply goV_skip (by intro u; rfl))
          | (apply goV_val _ (by intro u; rfl); · (intro u w hSw hF; go_simp; try with_reducible rfl))
        try simp only [Act.put, List.setIfInBounds_toArray, List.set_cons_zero, List.set_cons_succ]
        first
          | (apply goV_skip (by intro u; rfl))
          | (apply goV_val _ (by intro u; rfl); · (intro u w hSw hF; go_simp; try with_reducible rfl))
        try simp only [Act.put, List.setIfInBounds_toArray, List.set_cons_zero, List.set_cons_succ]
        first
          | (apply goV_skip (by intro u; rfl))
          | (apply goV_val _ (by intro u; rfl); · (intro u w hSw hF; go_simp; try with_reducible rfl))
        try simp only [Act.put, List.setIfInBounds_toArray, List.set_cons_zero, List.set_cons_succ]
        first
          | (apply goV_skip (by intro u; rfl))
          | (apply goV_call (by intro u; rfl) c2; · (intro u w hSw hF; go_simp; try with_reducible rfl))
        try simp only [Act.put, List.setIfInBounds_toArray, List.set_cons_zero, List.set_cons_succ]
        first
          | (apply goV_skip (by intro u; rfl))
          | (apply goV_val _ (by intro u; rfl); · (intro u w hSw hF; go_simp; try with_reducible rfl))
        try simp only [Act.put, List.setIfInBounds_toArray, List.set_cons_zero, List.set_cons_succ]
        first
          | (apply goV_skip (by intro u; rfl))
          | (apply goV_val _ (by intro u; rfl); · (intro u w hSw hF; go_simp; try with_reducible rfl))
        try simp only [Act.put, List.setIfInBounds_toArray, List.set_cons_zero, List.set_cons_succ]
        intro u w7 hx7 _
        go_wp2
        go_ret; exact ⟨rfl, hx6.trans hx7⟩
end Go.Proofs.YtpdoddelnahlnaaGreatDoor
