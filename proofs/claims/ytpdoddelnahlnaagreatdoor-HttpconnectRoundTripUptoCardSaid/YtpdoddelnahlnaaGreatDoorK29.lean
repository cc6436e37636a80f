/-
  Several texts joined: HoP.
-/
import Derived.Test.YtpdoddelnahlnaaGreatDoorK15
import Derived.Test.YtpdoddelnahlnaaGreatDoorK26
import Derived.Test.YtpdoddelnahlnaaGreatDoorK28
/-
  Contract of host.ParseTarget.
-/
set_option linter.unusedSimpArgs false
set_option linter.unusedVariables false
namespace Go.Proofs.YtpdoddelnahlnaaGreatDoor
open Go.RowKit
def hostT (h : ByteArray) (p : Int) : Tgt × Bool :=
  if 2 ≤ h.size ∧ B h 0 = 91 ∧ B h (h.size - 1) = 93 then
    if ((parseA (h.extract 1 (h.size - 1))).2 && (parseA (h.extract 1 (h.size - 1))).1.1) = true then ((⟨#[]⟩, (parseA (h.extract 1 (h.size - 1))).1, p), true) else (ztgt, false)
  else if (p4A h).2 = true then ((⟨#[]⟩, (p4A h).1, p), true)
  else if (nameP h).2 = true then (((nameP h).1, zadr, p), true) else (ztgt, false)
def tgtP (s : ByteArray) : Tgt × Bool :=
  if Lib.lastIndexByte s 58 < 0 then (ztgt, false)
  else if (portP (s.extract ((Lib.lastIndexByte s 58).toNat + 1) s.size)).2 = false then (ztgt, false)
  else hostT (s.extract 0 (Lib.lastIndexByte s 58).toNat) (portP (s.extract ((Lib.lastIndexByte s 58).toNat + 1) s.size)).1
theorem okA_parse' (s : ByteArray) : okA (parseA s).1 := by
  cases h : (parse4 s).isSome with
  | true => rw [parseA_four h]; exact okA_p4A s
  | false =>
    have h0 : parse4 s = none := by
      cases h1 : parse4 s with
      | none => rfl
      | some b => rw [h1] at h; cases h
    rw [parseA_none h0]
    split
    · cases hp : parseG s true with
      | none => exact okA_zadr
      | some l => exact okA_v6 (parseG_ok hp).1
    · cases hp1 : parseG (s.extract 0 (cutAt s).toNat) false with
      | none => exact okA_zadr
      | some l =>
        cases hp2 : parseG (s.extract ((cutAt s).toNat + 2) s.size) true with
        | none => exact okA_zadr
        | some m =>
          simp only
          split
          · exact okA_zadr
          · exact okA_v6 (by
              have a1 := (parseG_ok hp1).1
              have a2 := (parseG_ok hp2).1
              intro x hx
              rcases List.mem_append.1 hx with hx | hx
              · rcases List.mem_append.1 hx with hx | hx
                · exact a1 x hx
                · have := List.eq_of_mem_replicate hx; omega
              · exact a2 x hx)
theorem portP_bd (s : ByteArray) : 0 ≤ (portP s).1 ∧ (portP s).1 ≤ 65535 := by
  unfold portP numP
  (repeat' split) <;> simp only <;> omega
theorem portP_ok {s : ByteArray} (h : (portP s).2 = true) : 1 ≤ (portP s).1 := by
  unfold portP numP at *
  by_cases h1 : s.size = 0 ∨ 9 < s.size ∨ (1 < s.size ∧ B s 0 = 48)
  · rw [if_pos h1] at h; cases h
  · rw [if_neg h1] at h ⊢
    by_cases h2 : allDig s s.size = false
    · rw [if_pos h2] at h; cases h
    · rw [if_neg h2] at h ⊢
      by_cases h3 : dval s s.size < 1 ∨ 65535 < dval s s.size
      · rw [if_pos h3] at h; cases h
      · rw [if_neg h3]; simp only; omega
theorem nameP_size (s : ByteArray) : (nameP s).1.size ≤ s.size := by
  unfold nameP
  split
  · exact hostS_size s
  · exact Nat.zero_le _
theorem p4A_some {h : ByteArray} (q : (p4A h).2 = true) : parseA h = p4A h ∧ (p4A h).1.1 = false := by
  unfold p4A at *
  cases e : parse4 h with
  | none => rw [e] at q; cases q
  | some b =>
    have := parseA_four (s := h) (by rw [e]; rfl)
    rw [this]; unfold p4A; rw [e]; exact ⟨rfl, rfl⟩
theorem v6_fam {l : List Int} (h : (v6 l).2 = true) : (v6 l).1.1 = true := by
  unfold v6 at *
  split
  · rfl
  · rename_i q; rw [if_neg q] at h; cases h
theorem p4A_none {h : ByteArray} (q : (p4A h).2 = false) (k : (parseA h).2 = true) : (parseA h).1.1 = true := by
  have e : parse4 h = none := by
    cases e : parse4 h with
    | none => rfl
    | some b => unfold p4A at q; rw [e] at q; cases q
  rw [parseA_none e] at *
  split at k
  · rename_i hc
    rw [if_pos hc]
    cases hp : parseG h true with
    | none => rw [hp] at k; cases k
    | some l => rw [hp] at k; exact v6_fam k
  · rename_i hc
    rw [if_neg hc]
    cases hp1 : parseG (h.extract 0 (cutAt h).toNat) false with
    | none => rw [hp1] at k; cases k
    | some l =>
      cases hp2 : parseG (h.extract ((cutAt h).toNat + 2) h.size) true with
      | none => rw [hp1, hp2] at k; cases k
      | some m =>
        rw [hp1, hp2] at k
        simp only at k ⊢
        split at k
        · cases k
        · rename_i q; rw [if_neg q]; exact v6_fam k
theorem okT_hostT (h : ByteArray) {p : Int} (hz : h.size ≤ maxLen) (hp : 0 ≤ p ∧ p ≤ 65535) : okT (hostT h p).1 := by
  have hi : i64ok p := by unfold i64ok; omega
  unfold hostT
  split
  · split
    · exact ⟨okA_parse' _, hi, Nat.zero_le _⟩
    · exact okT_ztgt
  · split
    · exact ⟨okA_p4A _, hi, Nat.zero_le _⟩
    · split
      · exact ⟨okA_zadr, hi, Nat.le_trans (nameP_size h) hz⟩
      · exact okT_ztgt
theorem okT_tgtP (s : ByteArray) (hz : s.size ≤ maxLen) : okT (tgtP s).1 := by
  unfold tgtP
  split
  · exact okT_ztgt
  · split
    · exact okT_ztgt
    · exact okT_hostT _ (Nat.le_trans (extract_le _ _ _) hz) (portP_bd _)
theorem build_T1 {a : Adr} (ha : okA a) (p : Int) (w : World) : (Instr.build 32 #[(1, .agg (ac a)), (2, .int .i64 p)]).run Tryz.prog w = .ok (.agg (tc (⟨#[]⟩, a, p))) w := by
  obtain ⟨f, l⟩ := a
  match l, ha.1 with
  | [a0, a1, a2, a3, a4, a5, a6, a7, a8, a9, a10, a11, a12, a13, a14, a15], _ => exact run_build w 32 _ _ (by kernel_rfl)
theorem exec_buildT1 {o : Oper} {f : Act} {x y : Operand} (ho : o.op = .build 32 #[(1, x), (2, y)]) {a : Adr} (ha : okA a) {p : Int} (hx : f.eval x = .agg (ac a)) (hy : f.eval y = .int .i64 p) (w : World) :
    (execOp f.eval o).run Tryz.prog w = .ok (.value (.agg (tc (⟨#[]⟩, a, p)))) w := by
  unfold execOp
  rw [ho]
  have e := build_T1 ha p w
  simp only [List.map_toArray, List.map_cons, List.map_nil, hx, hy, Sem.run_bind, e, Result.andThen_ok, Sem.run_pure]
theorem wpList_build_T1 {ops : Array Oper} {rest : List Oper} {o : Oper} {f : Act} {w : World} {Q : Exit → Act → World → Prop} (hgd : o.guard = none) (x y : Operand) (ho : o.op = .build 32 #[(1, x), (2, y)]) {a : Adr} (ha : okA a) {p : Int}
    (hx : f.eval x = .agg (ac a)) (hy : f.eval y = .int .i64 p) (h : wpList Tryz.prog ops Q rest (f.put o.dst (.agg (tc (⟨#[]⟩, a, p)))) w) : wpList Tryz.prog ops Q (o :: rest) f w :=
  wpList_plain hgd fun _ hK => by
    unfold Oper.wp
    rw [exec_buildT1 ho ha hx hy w]
    exact hK _ _ h
theorem lastIdx_get (s : ByteArray) : (Lib.lastIndexByte s 58 = -1) ∨ ∃ i : Nat, i < s.size ∧ Lib.lastIndexByte s 58 = i := by
  rcases Lib.lastIndexByte_spec s 58 with h | ⟨i, h1, h2, _⟩
  · exact .inl h.1
  · exact .inr ⟨i, h1, h2⟩
set_option maxRecDepth 8000 in
set_option maxHeartbeats 4000000 in
theorem ptarget_any (s : ByteArray) (w : World) (henv : Env w) (hs : s.size < 4294967281) : Calls Tryz.prog 20 #[.string s] w fun e w' => e = .returned (.tuple #[tv (tgtP s).1, .bool (tgtP s).2]) ∧ Ext w w' := by
  have KL := Lib.hid (Tryz.strings_LastIndexByte s 58 (by omega))
  go_enter Tryz.func20, Tryz.ntmps20
  go_upto_region 1 with fail
  rw [← tc_zero]
  have hx := (Ext.refl w).alloc (.cells (tc ztgt) 32)
  have hr := Blk.new w (tc ztgt) 32
  generalize w.alloc (.cells (tc ztgt) 32) = w0 at *
  have hwb : w.heap.size ≤ w.heap.size := Nat.le_refl _
  rcases lastIdx_get s with hl | ⟨i, hi, hl⟩
  · have R : Hid (tgtP s = (ztgt, false)) := Lib.hid (by unfold tgtP; rw [hl]; rfl)
    rw [hl] at KL
    clear hl
    go_wp2_with (first | (go_at_call 47; refine (KL.out _).mono ?_; rintro e w3 ⟨rfl, rfl⟩) | refine wpList_store_T rfl _ _ rfl okT_ztgt okT_ztgt hr rfl rfl ?_)
    refine bodyPost_ret (res_T2 rfl rfl okT_ztgt (hr.row _)) rfl ⟨by rw [R.out]; rfl, hx.setRow hwb _⟩
  have RS : tgtP s = if (portP (s.extract (i + 1) s.size)).2 = false then (ztgt, false) else hostT (s.extract 0 i) (portP (s.extract (i + 1) s.size)).1 := by
    unfold tgtP
    rw [hl, if_neg (by omega), show ((i : Nat) : Int).toNat = i from rfl]
  rw [hl] at KL
  clear hl
  have KQ := Lib.hid (pport_any (s.extract (i + 1) s.size) (Nat.le_trans (extract_le _ _ _) (by unfold maxLen; omega)))
  have hpb := portP_bd (s.extract (i + 1) s.size)
  have hhz := extract_le s 0 i
  have hi1 : (i : Int) + 1 ≤ s.size := by omega
  have hi2 : (i : Int) ≤ s.size := by omega
  cases hpo : (portP (s.extract (i + 1) s.size)).2
  · rw [hpo] at KQ
    have R : Hid (tgtP s = (ztgt, false)) := Lib.hid (by rw [RS, hpo]; rfl)
    clear RS hpo hpb
    generalize (portP (s.extract (i + 1) s.size)).1 = p at *
    go_wp2_with (first | (go_at_call 47; refine (KL.out _).mono ?_; rintro e w3 ⟨rfl, rfl⟩) | (go_at_call 33; refine (KQ.out _).mono ?_; rintro e w4 ⟨rfl, rfl⟩) | refine wpList_store_T rfl _ _ rfl okT_ztgt okT_ztgt hr rfl rfl ?_)
    refine bodyPost_ret (res_T2 rfl rfl okT_ztgt (hr.row _)) rfl ⟨by rw [R.out]; rfl, hx.setRow hwb _⟩
  rw [hpo] at KQ
  have R0 := Lib.hid (show tgtP s = hostT (s.extract 0 i) (portP (s.extract (i + 1) s.size)).1 by rw [RS, hpo]; rfl)
  clear RS hpo
  generalize (portP (s.extract (i + 1) s.size)).1 = p at *
  go_upto_region 8 with (first | (go_at_call 47; refine (KL.out _).mono ?_; rintro e w3 ⟨rfl, rfl⟩) | (go_at_call 33; refine (KQ.out _).mono ?_; rintro e w4 ⟨rfl, rfl⟩))
  clear KL KQ
  generalize s.extract 0 i = h at *
  have hz : h.size < 4294967281 := by omega
  have b0 := B_bd h 0
  have b1 := B_bd h (h.size - 1)
  have hj : ((h.size : Int) - 1).toNat = h.size - 1 := by omega
  have KP := Lib.hid (fun w he => parse_any h w he hz)
  clear hi hi1 hi2 hhz hs
  by_cases c1 : (h.size : Int) < 2
  · have HB : Hid (¬ (2 ≤ h.size ∧ B h 0 = 91 ∧ B h (h.size - 1) = 93)) := Lib.hid (by omega)
    have R0 : Hid (tgtP s = if 2 ≤ h.size ∧ B h 0 = 91 ∧ B h (h.size - 1) = 93 then (if ((parseA (h.extract 1 (h.size - 1))).2 && (parseA (h.extract 1 (h.size - 1))).1.1) = true then ((⟨#[]⟩, (parseA (h.extract 1 (h.size - 1))).1, p), true) else (ztgt, false)) else if (p4A h).2 = true then ((⟨#[]⟩, (p4A h).1, p), true) else if (nameP h).2 = true then (((nameP h).1, zadr, p), true) else (ztgt, false)) := Lib.hid R0.out
    go_upto_region 13 with fail
    clear c1 b0 b1 hj
    go_wp2_with (first | (go_at_call 48; refine (KP.out _ (henv.ext hx)).mono ?_; rintro e w4 ⟨rfl, hx4⟩; refine Hid.out ?_))
    refine Lib.hid ?_
    have hxx4 := hx.trans hx4
    have hr4 := hr.ext hx4
    clear hx hx4 hr KP
    have hbf := Blk.new w4 (ac zadr) 30
    go_upto_region 14 with (refine wpList_store_A rfl _ _ rfl okA_zadr (okA_parse' h) hbf rfl rfl ?_)
    change Code.wp _ _ _ _ ((w4.alloc (.cells (ac zadr) 30)).setRow w4.heap.size (ac (parseA h).1))
    rw [World.setRow_alloc_new]
    have hA5 := Blk.new w4 (ac (parseA h).1) 30
    have hx5 := hxx4.alloc (.cells (ac (parseA h).1) 30)
    have hnx := (Ext.refl w4).alloc (.cells (ac (parseA h).1) 30)
    clear hbf
    generalize w4.alloc (.cells (ac (parseA h).1) 30) = w5 at *
    generalize w4.heap.size = b5 at *
    have hr5 := hr4.ext hnx
    have hP := okA_parse' h
    have c0 : w5.cell? ⟨b5, 0, none⟩ = some (.bool (parseA h).1.1) := hA5.cell (i := 0) rfl
    clear hnx hr4 hxx4
    cases q4 : (p4A h).2
    · have RN : Hid (tgtP s = if (nameP h).2 = true then (((nameP h).1, zadr, p), true) else (ztgt, false)) := Lib.hid (by rw [R0.out, if_neg HB.out, q4, if_neg (by simp)])
      have hpa := p4A_none q4
      have henv5 := henv.ext hx5
      have KN := Lib.hid (pname_any h w5 henv5 (by unfold maxLen; omega))
      have hnz : (nameP h).1.size ≤ maxLen := Nat.le_trans (nameP_size h) (by unfold maxLen; omega)
      have hi64 : i64ok p := by unfold i64ok; omega
      clear R0 HB q4 hA5
      generalize (parseA h).1.1 = fam at *
      generalize (parseA h).2 = ok at *
      have hokT : okT ((nameP h).1, zadr, p) := ⟨okA_zadr, hi64, hnz⟩
      clear hnz hi64
      generalize (nameP h).1 = nm at *
      generalize (nameP h).2 = nok at *
      cases ok
      · clear hpa c0
        go_wp2_with (first | (go_at_call 28; refine KN.out.mono ?_; rintro e w6 ⟨rfl, hx6⟩; refine Hid.out ?_))
        refine Lib.hid ?_
        have hr6 := hr5.ext hx6
        have hxx6 := hx5.trans hx6
        cases nok
        · have R : Hid (tgtP s = (ztgt, false)) := Lib.hid (by rw [RN.out]; rfl)
          go_wp2_with (first | refine wpList_store_T rfl _ _ rfl okT_ztgt okT_ztgt hr6 rfl rfl ?_)
          refine bodyPost_ret (res_T2 rfl rfl okT_ztgt ((hr6).row _)) rfl ⟨by rw [R.out]; rfl, (hxx6).setRow hwb _⟩
        · have R : Hid (tgtP s = ((nm, zadr, p), true)) := Lib.hid (by rw [RN.out]; rfl)
          go_wp2_with (first | refine wpList_store_T rfl _ _ rfl okT_ztgt hokT hr6 rfl rfl ?_)
          refine bodyPost_ret (res_T2 rfl rfl hokT (hr6.row _)) rfl ⟨by rw [R.out]; rfl, hxx6.setRow hwb _⟩
      · have hfam := hpa rfl
        subst hfam
        clear hpa
        go_wp2_with (first | (go_at_call 28; refine KN.out.mono ?_; rintro e w6 ⟨rfl, hx6⟩; refine Hid.out ?_))
        refine Lib.hid ?_
        have hr6 := hr5.ext hx6
        have hxx6 := hx5.trans hx6
        cases nok
        · have R : Hid (tgtP s = (ztgt, false)) := Lib.hid (by rw [RN.out]; rfl)
          go_wp2_with (first | refine wpList_store_T rfl _ _ rfl okT_ztgt okT_ztgt hr6 rfl rfl ?_)
          refine bodyPost_ret (res_T2 rfl rfl okT_ztgt ((hr6).row _)) rfl ⟨by rw [R.out]; rfl, (hxx6).setRow hwb _⟩
        · have R : Hid (tgtP s = ((nm, zadr, p), true)) := Lib.hid (by rw [RN.out]; rfl)
          go_wp2_with (first | refine wpList_store_T rfl _ _ rfl okT_ztgt hokT hr6 rfl rfl ?_)
          refine bodyPost_ret (res_T2 rfl rfl hokT (hr6.row _)) rfl ⟨by rw [R.out]; rfl, hxx6.setRow hwb _⟩
    · have hpp := p4A_some q4
      have R : Hid (tgtP s = ((⟨#[]⟩, (parseA h).1, p), true)) := Lib.hid (by rw [R0.out, if_neg HB.out, q4, if_pos rfl, hpp.1])
      have hok : (parseA h).2 = true := by rw [hpp.1]; exact q4
      have hfam : (parseA h).1.1 = false := by rw [hpp.1]; exact hpp.2
      have hokT : okT (⟨#[]⟩, (parseA h).1, p) := ⟨hP, by unfold i64ok; simp only; omega, Nat.zero_le _⟩
      rw [hfam] at c0
      generalize hok2 : (parseA h).2 = ok at *
      subst hok
      clear hok2 hpp R0 HB q4 hfam
      generalize (parseA h).1 = P at *
      go_wp2_with (first | refine wpList_load_A rfl _ rfl hP hA5 rfl ?_ | refine wpList_build_T1 rfl _ _ rfl hP rfl rfl ?_ | refine wpList_store_T rfl _ _ rfl okT_ztgt hokT hr5 rfl rfl ?_)
      refine bodyPost_ret (res_T2 rfl rfl hokT (hr5.row _)) rfl ⟨by rw [R.out]; rfl, hx5.setRow hwb _⟩
  have c1' : (2 : Int) ≤ h.size := by omega
  clear c1
  by_cases c2 : B h 0 = 91
  · have c2' : (B h 0 == 91) = true := by rw [beq_iff_eq]; exact c2
    by_cases c3 : B h (h.size - 1) = 93
    · have c3' : (B h (h.size - 1) == 93) = true := by rw [beq_iff_eq]; exact c3
      have R1 : Hid (tgtP s = if ((parseA (h.extract 1 (h.size - 1))).2 && (parseA (h.extract 1 (h.size - 1))).1.1) = true then ((⟨#[]⟩, (parseA (h.extract 1 (h.size - 1))).1, p), true) else (ztgt, false)) := Lib.hid (by rw [R0.out]; unfold hostT; rw [if_pos ⟨by omega, c2, c3⟩])
      clear c2 c3 R0 KP
      have hj1 : (1 : Int) ≤ (h.size : Int) - 1 := by omega
      have hj2 : (h.size : Int) - 1 ≤ h.size := by omega
      have hez := extract_le h 1 (h.size - 1)
      have KP := Lib.hid (fun w he => parse_any (h.extract 1 (h.size - 1)) w he (by omega))
      have hA := okA_parse' (h.extract 1 (h.size - 1))
      generalize (parseA (h.extract 1 (h.size - 1))).1 = P at *
      generalize (parseA (h.extract 1 (h.size - 1))).2 = ok at *
      go_wp2_with (first | (go_at_call 48; refine (KP.out _ (henv.ext hx)).mono ?_; rintro e w4 ⟨rfl, hx4⟩; refine Hid.out ?_))
      refine Lib.hid ?_
      have hxx4 := hx.trans hx4
      have hr4 := hr.ext hx4
      clear hx hx4 hr KP
      have hbf := Blk.new w4 (ac zadr) 30
      go_upto_region 10 with (refine wpList_store_A rfl _ _ rfl okA_zadr hA hbf rfl rfl ?_)
      change Code.wp _ _ _ _ ((w4.alloc (.cells (ac zadr) 30)).setRow w4.heap.size (ac P))
      rw [World.setRow_alloc_new]
      have hA5 := Blk.new w4 (ac P) 30
      have hx5 := hxx4.alloc (.cells (ac P) 30)
      have hnx := (Ext.refl w4).alloc (.cells (ac P) 30)
      clear hbf
      generalize w4.alloc (.cells (ac P) 30) = w5 at *
      generalize w4.heap.size = b5 at *
      have hr5 := hr4.ext hnx
      have c0 : w5.cell? ⟨b5, 0, none⟩ = some (.bool P.1) := hA5.cell (i := 0) rfl
      clear hnx hr4 hxx4
      have R2 : Hid (tgtP s = if (ok && P.1) = true then ((⟨#[]⟩, P, p), true) else (ztgt, false)) := R1
      clear R1
      cases ok
      · have R : Hid (tgtP s = (ztgt, false)) := Lib.hid (by rw [R2.out]; rfl)
        clear R2
        go_wp2_with (first | refine wpList_store_T rfl _ _ rfl okT_ztgt okT_ztgt hr5 rfl rfl ?_)
        refine bodyPost_ret (res_T2 rfl rfl okT_ztgt ((hr5).row _)) rfl ⟨by rw [R.out]; rfl, (hx5).setRow hwb _⟩
      · cases hf : P.1
        · have R : Hid (tgtP s = (ztgt, false)) := Lib.hid (by rw [R2.out, hf]; rfl)
          rw [hf] at c0
          clear R2 hf
          go_wp2_with (first | refine wpList_store_T rfl _ _ rfl okT_ztgt okT_ztgt hr5 rfl rfl ?_)
          refine bodyPost_ret (res_T2 rfl rfl okT_ztgt ((hr5).row _)) rfl ⟨by rw [R.out]; rfl, (hx5).setRow hwb _⟩
        · have R : Hid (tgtP s = ((⟨#[]⟩, P, p), true)) := Lib.hid (by rw [R2.out, hf]; rfl)
          rw [hf] at c0
          clear R2 hf
          have hokT : okT (⟨#[]⟩, P, p) := ⟨hA, by unfold i64ok; simp only; omega, Nat.zero_le _⟩
          go_wp2_with (first | refine wpList_load_A rfl _ rfl hA hA5 rfl ?_ | refine wpList_build_T1 rfl _ _ rfl hA rfl rfl ?_ | refine wpList_store_T rfl _ _ rfl okT_ztgt hokT hr5 rfl rfl ?_)
          refine bodyPost_ret (res_T2 rfl rfl hokT (hr5.row _)) rfl ⟨by rw [R.out]; rfl, hx5.setRow hwb _⟩
    · have HB : Hid (¬ (2 ≤ h.size ∧ B h 0 = 91 ∧ B h (h.size - 1) = 93)) := Lib.hid (by omega)
      have R0 : Hid (tgtP s = if 2 ≤ h.size ∧ B h 0 = 91 ∧ B h (h.size - 1) = 93 then (if ((parseA (h.extract 1 (h.size - 1))).2 && (parseA (h.extract 1 (h.size - 1))).1.1) = true then ((⟨#[]⟩, (parseA (h.extract 1 (h.size - 1))).1, p), true) else (ztgt, false)) else if (p4A h).2 = true then ((⟨#[]⟩, (p4A h).1, p), true) else if (nameP h).2 = true then (((nameP h).1, zadr, p), true) else (ztgt, false)) := Lib.hid R0.out
      have c3' : (B h (h.size - 1) == 93) = false := by rw [beq_eq_false_iff_ne]; exact c3
      clear c2 c3
      go_upto_region 13 with fail
      clear c1' c2' c3' b0 b1 hj
      go_wp2_with (first | (go_at_call 48; refine (KP.out _ (henv.ext hx)).mono ?_; rintro e w4 ⟨rfl, hx4⟩; refine Hid.out ?_))
      refine Lib.hid ?_
      have hxx4 := hx.trans hx4
      have hr4 := hr.ext hx4
      clear hx hx4 hr KP
      have hbf := Blk.new w4 (ac zadr) 30
      go_upto_region 14 with (refine wpList_store_A rfl _ _ rfl okA_zadr (okA_parse' h) hbf rfl rfl ?_)
      change Code.wp _ _ _ _ ((w4.alloc (.cells (ac zadr) 30)).setRow w4.heap.size (ac (parseA h).1))
      rw [World.setRow_alloc_new]
      have hA5 := Blk.new w4 (ac (parseA h).1) 30
      have hx5 := hxx4.alloc (.cells (ac (parseA h).1) 30)
      have hnx := (Ext.refl w4).alloc (.cells (ac (parseA h).1) 30)
      clear hbf
      generalize w4.alloc (.cells (ac (parseA h).1) 30) = w5 at *
      generalize w4.heap.size = b5 at *
      have hr5 := hr4.ext hnx
      have hP := okA_parse' h
      have c0 : w5.cell? ⟨b5, 0, none⟩ = some (.bool (parseA h).1.1) := hA5.cell (i := 0) rfl
      clear hnx hr4 hxx4
      cases q4 : (p4A h).2
      · have RN : Hid (tgtP s = if (nameP h).2 = true then (((nameP h).1, zadr, p), true) else (ztgt, false)) := Lib.hid (by rw [R0.out, if_neg HB.out, q4, if_neg (by simp)])
        have hpa := p4A_none q4
        have henv5 := henv.ext hx5
        have KN := Lib.hid (pname_any h w5 henv5 (by unfold maxLen; omega))
        have hnz : (nameP h).1.size ≤ maxLen := Nat.le_trans (nameP_size h) (by unfold maxLen; omega)
        have hi64 : i64ok p := by unfold i64ok; omega
        clear R0 HB q4 hA5
        generalize (parseA h).1.1 = fam at *
        generalize (parseA h).2 = ok at *
        have hokT : okT ((nameP h).1, zadr, p) := ⟨okA_zadr, hi64, hnz⟩
        clear hnz hi64
        generalize (nameP h).1 = nm at *
        generalize (nameP h).2 = nok at *
        cases ok
        · clear hpa c0
          go_wp2_with (first | (go_at_call 28; refine KN.out.mono ?_; rintro e w6 ⟨rfl, hx6⟩; refine Hid.out ?_))
          refine Lib.hid ?_
          have hr6 := hr5.ext hx6
          have hxx6 := hx5.trans hx6
          cases nok
          · have R : Hid (tgtP s = (ztgt, false)) := Lib.hid (by rw [RN.out]; rfl)
            go_wp2_with (first | refine wpList_store_T rfl _ _ rfl okT_ztgt okT_ztgt hr6 rfl rfl ?_)
            refine bodyPost_ret (res_T2 rfl rfl okT_ztgt ((hr6).row _)) rfl ⟨by rw [R.out]; rfl, (hxx6).setRow hwb _⟩
          · have R : Hid (tgtP s = ((nm, zadr, p), true)) := Lib.hid (by rw [RN.out]; rfl)
            go_wp2_with (first | refine wpList_store_T rfl _ _ rfl okT_ztgt hokT hr6 rfl rfl ?_)
            refine bodyPost_ret (res_T2 rfl rfl hokT (hr6.row _)) rfl ⟨by rw [R.out]; rfl, hxx6.setRow hwb _⟩
        · have hfam := hpa rfl
          subst hfam
          clear hpa
          go_wp2_with (first | (go_at_call 28; refine KN.out.mono ?_; rintro e w6 ⟨rfl, hx6⟩; refine Hid.out ?_))
          refine Lib.hid ?_
          have hr6 := hr5.ext hx6
          have hxx6 := hx5.trans hx6
          cases nok
          · have R : Hid (tgtP s = (ztgt, false)) := Lib.hid (by rw [RN.out]; rfl)
            go_wp2_with (first | refine wpList_store_T rfl _ _ rfl okT_ztgt okT_ztgt hr6 rfl rfl ?_)
            refine bodyPost_ret (res_T2 rfl rfl okT_ztgt ((hr6).row _)) rfl ⟨by rw [R.out]; rfl, (hxx6).setRow hwb _⟩
          · have R : Hid (tgtP s = ((nm, zadr, p), true)) := Lib.hid (by rw [RN.out]; rfl)
            go_wp2_with (first | refine wpList_store_T rfl _ _ rfl okT_ztgt hokT hr6 rfl rfl ?_)
            refine bodyPost_ret (res_T2 rfl rfl hokT (hr6.row _)) rfl ⟨by rw [R.out]; rfl, hxx6.setRow hwb _⟩
      · have hpp := p4A_some q4
        have R : Hid (tgtP s = ((⟨#[]⟩, (parseA h).1, p), true)) := Lib.hid (by rw [R0.out, if_neg HB.out, q4, if_pos rfl, hpp.1])
        have hok : (parseA h).2 = true := by rw [hpp.1]; exact q4
        have hfam : (parseA h).1.1 = false := by rw [hpp.1]; exact hpp.2
        have hokT : okT (⟨#[]⟩, (parseA h).1, p) := ⟨hP, by unfold i64ok; simp only; omega, Nat.zero_le _⟩
        rw [hfam] at c0
        generalize hok2 : (parseA h).2 = ok at *
        subst hok
        clear hok2 hpp R0 HB q4 hfam
        generalize (parseA h).1 = P at *
        go_wp2_with (first | refine wpList_load_A rfl _ rfl hP hA5 rfl ?_ | refine wpList_build_T1 rfl _ _ rfl hP rfl rfl ?_ | refine wpList_store_T rfl _ _ rfl okT_ztgt hokT hr5 rfl rfl ?_)
        refine bodyPost_ret (res_T2 rfl rfl hokT (hr5.row _)) rfl ⟨by rw [R.out]; rfl, hx5.setRow hwb _⟩
  · have HB : Hid (¬ (2 ≤ h.size ∧ B h 0 = 91 ∧ B h (h.size - 1) = 93)) := Lib.hid (by omega)
    have R0 : Hid (tgtP s = if 2 ≤ h.size ∧ B h 0 = 91 ∧ B h (h.size - 1) = 93 then (if ((parseA (h.extract 1 (h.size - 1))).2 && (parseA (h.extract 1 (h.size - 1))).1.1) = true then ((⟨#[]⟩, (parseA (h.extract 1 (h.size - 1))).1, p), true) else (ztgt, false)) else if (p4A h).2 = true then ((⟨#[]⟩, (p4A h).1, p), true) else if (nameP h).2 = true then (((nameP h).1, zadr, p), true) else (ztgt, false)) := Lib.hid R0.out
    have c2' : (B h 0 == 91) = false := by rw [beq_eq_false_iff_ne]; exact c2
    clear c2
    go_upto_region 13 with fail
    clear c1' c2' b0 b1 hj
    go_wp2_with (first | (go_at_call 48; refine (KP.out _ (henv.ext hx)).mono ?_; rintro e w4 ⟨rfl, hx4⟩; refine Hid.out ?_))
    refine Lib.hid ?_
    have hxx4 := hx.trans hx4
    have hr4 := hr.ext hx4
    clear hx hx4 hr KP
    have hbf := Blk.new w4 (ac zadr) 30
    go_upto_region 14 with (refine wpList_store_A rfl _ _ rfl okA_zadr (okA_parse' h) hbf rfl rfl ?_)
    change Code.wp _ _ _ _ ((w4.alloc (.cells (ac zadr) 30)).setRow w4.heap.size (ac (parseA h).1))
    rw [World.setRow_alloc_new]
    have hA5 := Blk.new w4 (ac (parseA h).1) 30
    have hx5 := hxx4.alloc (.cells (ac (parseA h).1) 30)
    have hnx := (Ext.refl w4).alloc (.cells (ac (parseA h).1) 30)
    clear hbf
    generalize w4.alloc (.cells (ac (parseA h).1) 30) = w5 at *
    generalize w4.heap.size = b5 at *
    have hr5 := hr4.ext hnx
    have hP := okA_parse' h
    have c0 : w5.cell? ⟨b5, 0, none⟩ = some (.bool (parseA h).1.1) := hA5.cell (i := 0) rfl
    clear hnx hr4 hxx4
    cases q4 : (p4A h).2
    · have RN : Hid (tgtP s = if (nameP h).2 = true then (((nameP h).1, zadr, p), true) else (ztgt, false)) := Lib.hid (by rw [R0.out, if_neg HB.out, q4, if_neg (by simp)])
      have hpa := p4A_none q4
      have henv5 := henv.ext hx5
      have KN := Lib.hid (pname_any h w5 henv5 (by unfold maxLen; omega))
      have hnz : (nameP h).1.size ≤ maxLen := Nat.le_trans (nameP_size h) (by unfold maxLen; omega)
      have hi64 : i64ok p := by unfold i64ok; omega
      clear R0 HB q4 hA5
      generalize (parseA h).1.1 = fam at *
      generalize (parseA h).2 = ok at *
      have hokT : okT ((nameP h).1, zadr, p) := ⟨okA_zadr, hi64, hnz⟩
      clear hnz hi64
      generalize (nameP h).1 = nm at *
      generalize (nameP h).2 = nok at *
      cases ok
      · clear hpa c0
        go_wp2_with (first | (go_at_call 28; refine KN.out.mono ?_; rintro e w6 ⟨rfl, hx6⟩; refine Hid.out ?_))
        refine Lib.hid ?_
        have hr6 := hr5.ext hx6
        have hxx6 := hx5.trans hx6
        cases nok
        · have R : Hid (tgtP s = (ztgt, false)) := Lib.hid (by rw [RN.out]; rfl)
          go_wp2_with (first | refine wpList_store_T rfl _ _ rfl okT_ztgt okT_ztgt hr6 rfl rfl ?_)
          refine bodyPost_ret (res_T2 rfl rfl okT_ztgt ((hr6).row _)) rfl ⟨by rw [R.out]; rfl, (hxx6).setRow hwb _⟩
        · have R : Hid (tgtP s = ((nm, zadr, p), true)) := Lib.hid (by rw [RN.out]; rfl)
          go_wp2_with (first | refine wpList_store_T rfl _ _ rfl okT_ztgt hokT hr6 rfl rfl ?_)
          refine bodyPost_ret (res_T2 rfl rfl hokT (hr6.row _)) rfl ⟨by rw [R.out]; rfl, hxx6.setRow hwb _⟩
      · have hfam := hpa rfl
        subst hfam
        clear hpa
        go_wp2_with (first | (go_at_call 28; refine KN.out.mono ?_; rintro e w6 ⟨rfl, hx6⟩; refine Hid.out ?_))
        refine Lib.hid ?_
        have hr6 := hr5.ext hx6
        have hxx6 := hx5.trans hx6
        cases nok
        · have R : Hid (tgtP s = (ztgt, false)) := Lib.hid (by rw [RN.out]; rfl)
          go_wp2_with (first | refine wpList_store_T rfl _ _ rfl okT_ztgt okT_ztgt hr6 rfl rfl ?_)
          refine bodyPost_ret (res_T2 rfl rfl okT_ztgt ((hr6).row _)) rfl ⟨by rw [R.out]; rfl, (hxx6).setRow hwb _⟩
        · have R : Hid (tgtP s = ((nm, zadr, p), true)) := Lib.hid (by rw [RN.out]; rfl)
          go_wp2_with (first | refine wpList_store_T rfl _ _ rfl okT_ztgt hokT hr6 rfl rfl ?_)
          refine bodyPost_ret (res_T2 rfl rfl hokT (hr6.row _)) rfl ⟨by rw [R.out]; rfl, hxx6.setRow hwb _⟩
    · have hpp := p4A_some q4
      have R : Hid (tgtP s = ((⟨#[]⟩, (parseA h).1, p), true)) := Lib.hid (by rw [R0.out, if_neg HB.out, q4, if_pos rfl, hpp.1])
      have hok : (parseA h).2 = true := by rw [hpp.1]; exact q4
      have hfam : (parseA h).1.1 = false := by rw [hpp.1]; exact hpp.2
      have hokT : okT (⟨#[]⟩, (parseA h).1, p) := ⟨hP, by unfold i64ok; simp only; omega, Nat.zero_le _⟩
      rw [hfam] at c0
      generalize hok2 : (parseA h).2 = ok at *
      subst hok
      clear hok2 hpp R0 HB q4 hfam
      generalize (parseA h).1 = P at *
      go_wp2_with (first | refine wpList_load_A rfl _ rfl hP hA5 rfl ?_ | refine wpList_build_T1 rfl _ _ rfl hP rfl rfl ?_ | refine wpList_store_T rfl _ _ rfl okT_ztgt hokT hr5 rfl rfl ?_)
      refine bodyPost_ret (res_T2 rfl rfl hokT (hr5.row _)) rfl ⟨by rw [R.out]; rfl, hx5.setRow hwb _⟩
end Go.Proofs.YtpdoddelnahlnaaGreatDoor
