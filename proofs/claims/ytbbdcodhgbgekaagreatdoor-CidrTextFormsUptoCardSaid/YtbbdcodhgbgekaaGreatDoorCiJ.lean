/-
  Contracts of cidr.Format and cidr.Parse.
-/
import Derived.Test.YtbbdcodhgbgekaaGreatDoorCiI
import Derived.Test.YtbbdcodhgbgekaaGreatDoorIpPr
set_option linter.unusedSimpArgs false
set_option linter.unusedVariables false
namespace Go.Proofs.YtbbdcodhgbgekaaGreatDoor
open Go.RowKit
theorem ext_grow (w : World) (k : Nat) (os : Array Obj) : Ext w (Sort.grow (w.drewN k) os) :=
  ⟨rfl, rfl, rfl, by simp [Sort.grow, World.drewN], fun i hi => by
    show (w.heap ++ os)[i]? = w.heap[i]?
    rw [Array.getElem?_append_left hi]⟩
def fmtP (p : Pfx) : List UInt8 := if validP p = true then fmtA p.1 ++ [47] ++ Lib.decDigits p.2.toNat else []
theorem numfmt_any (n : Int) (h0 : 0 ≤ n) (h1 : n ≤ 9223372036854775807) (w : World) (ht : Tabs w) : Calls Tryz.prog 41 #[.int .i64 n] w fun e w' => e = .returned (.string (txt (Lib.decDigits n.toNat))) ∧ Ext w w' := by
  have K := Lib.hid (Tryz.strconv_Itoa n (by omega) h1 w ht.p10)
  have E : Hid (Lib.itoa n = Lib.decDigits n.toNat) := Lib.hid (by unfold Lib.itoa; rw [if_neg (by omega)])
  go_enter Tryz.func41, Tryz.ntmps41
  go_wp2_with (go_at_call 57; refine K.out.mono ?_; rintro e w1 ⟨rfl, k, os, rfl⟩)
  go_ret
  exact ⟨by rw [← E.out]; rfl, ext_grow w k os⟩
set_option maxRecDepth 8000 in
set_option maxHeartbeats 4000000 in
theorem cformat_any (p : Pfx) (hp : okP p) (w : World) (ht : Tabs w) :
    Calls Tryz.prog 23 #[pv p] w fun e w' => e = .returned (.string (txt (fmtP p))) ∧ Ext w w' := by
  have K1 := Lib.hid (fun w => cvalid_any p hp w)
  have hvb := @validP_bits p
  have R0 : Hid (fmtP p = if validP p = true then fmtA p.1 ++ [47] ++ Lib.decDigits p.2.toNat else []) := Lib.hid rfl
  unfold pv
  go_enter Tryz.func23, Tryz.ntmps23
  go_upto_region 1 with fail
  have hx := (Ext.refl w).alloc (.cells (pc p) 26)
  have hb := Blk.new w (pc p) 26
  generalize hwq : w.alloc (.cells (pc p) 26) = w0 at *
  generalize w.heap.size = b at *
  clear hwq
  cases hva : validP p with
  | false =>
    rw [hva] at K1 R0
    have R : Hid (fmtP p = []) := Lib.hid (by rw [R0.out]; rfl)
    clear R0 hva hvb
    go_wp2_with (first | refine wpList_load_P rfl _ rfl hp hb rfl ?_ | (go_at_call 8; refine (K1.out _).mono ?_; rintro e w1 ⟨rfl, hx1⟩; refine Hid.out ?_))
    refine Lib.hid ?_
    go_wp2_with fail
    go_ret
    exact ⟨by rw [R.out]; rfl, hx.trans hx1⟩
  | true =>
    have hv := hvb hva
    rw [hva] at K1 R0
    have R : Hid (txt (fmtP p) = txt (fmtA p.1) ++ ⟨#[47]⟩ ++ txt (Lib.decDigits p.2.toNat)) := Lib.hid (by rw [R0.out, if_pos rfl, txt_append, txt_append]; rfl)
    clear R0 hva hvb
    go_wp2_with (first | refine wpList_load_P rfl _ rfl hp hb rfl ?_ | (go_at_call 8; refine (K1.out _).mono ?_; rintro e w1 ⟨rfl, hx1⟩; refine Hid.out ?_))
    refine Lib.hid ?_
    have hxx := hx.trans hx1
    have hb1 := hb.ext hx1
    have ht1 := ht.ext hxx
    have hP : ∀ w', Ext w1 w' → PBlk w' b p := fun w' h => hb1.ext h
    have F := fun (w' : World) (h : Ext w1 w') => PBlk.bits hp (hb1.ext h)
    have K2 := fun (w' : World) (h : Ext w1 w') => formatA_any p.1 hp.1 w' (ht1.ext h)
    have K3 := fun (w' : World) (h : Ext w1 w') => numfmt_any p.2 hv.1 (by omega) w' (ht1.ext h)
    have l1 : (txt (fmtA p.1)).size ≤ 45 := by rw [txt_size]; exact fmtA_len hp.1
    have l2 : (txt (Lib.decDigits p.2.toNat)).size ≤ 3 := by rw [txt_size]; exact dd_len 2 _ (by omega)
    clear hv K1 hb1 hb hx hx1
    generalize txt (fmtA p.1) = s1 at *
    generalize txt (Lib.decDigits p.2.toNat) = s2 at *
    generalize p.2 = n at *
    have y1 : ¬ 9223372036854775807 < s1.size + 1 := by omega
    have y2 : ¬ 9223372036854775807 < s1.size + 1 + s2.size := by omega
    go_wp2_with fail
    refine wp_region_rg w1 (by kernel_rfl) (by kernel_rfl) (Ext.refl _) ?_
    first
      | (apply goV_skip (by intro u; rfl))
      | (apply goV_val _ (by intro u; rfl); · (intro u w hSw hF; go_simp; try with_reducible rfl))
    try simp only [Act.put, List.setIfInBounds_toArray, List.set_cons_zero, List.set_cons_succ]
    first
      | (apply goV_skip (by intro u; rfl))
      | (apply goV_loadPA (by intro u; rfl) _ rfl hp hP (by intro u; rfl))
    try simp only [Act.put, List.setIfInBounds_toArray, List.set_cons_zero, List.set_cons_succ]
    first
      | (apply goV_skip (by intro u; rfl))
      | (apply goV_call (by intro u; rfl) K2; · (intro u w hSw hF; go_simp; try with_reducible rfl))
    try simp only [Act.put, List.setIfInBounds_toArray, List.set_cons_zero, List.set_cons_succ]
    first
      | (apply goV_skip (by intro u; rfl))
      | (apply goV_val _ (by intro u; rfl); · (intro u w hSw hF; go_simp; try with_reducible rfl))
    try simp only [Act.put, List.setIfInBounds_toArray, List.set_cons_zero, List.set_cons_succ]
    first
      | (apply goV_skip (by intro u; rfl))
      | (apply goV_val _ (by intro u; rfl); · (intro u w hSw hF; go_simp; try with_reducible rfl))
    try simp only [Act.put, List.setIfInBounds_toArray, List.set_cons_zero, List.set_cons_succ]
    first
      | (apply goV_skip (by intro u; rfl))
      | (apply goV_val (.int .i64 n) (by intro u; rfl); · (intro u w hSw hF; have c0 := F w hSw; go_simp))
    try simp only [Act.put, List.setIfInBounds_toArray, List.set_cons_zero, List.set_cons_succ]
    first
      | (apply goV_skip (by intro u; rfl))
      | (apply goV_call (by intro u; rfl) K3; · (intro u w hSw hF; go_simp; try with_reducible rfl))
    try simp only [Act.put, List.setIfInBounds_toArray, List.set_cons_zero, List.set_cons_succ]
    first
      | (apply goV_skip (by intro u; rfl))
      | (apply goV_val _ (by intro u; rfl); · (intro u w hSw hF; go_simp; try with_reducible rfl))
    try simp only [Act.put, List.setIfInBounds_toArray, List.set_cons_zero, List.set_cons_succ]
    first
      | (apply goV_skip (by intro u; rfl))
      | (apply goV_val _ (by intro u; rfl); · (intro u w hSw hF; go_simp; try with_reducible rfl))
    try simp only [Act.put, List.setIfInBounds_toArray, List.set_cons_zero, List.set_cons_succ]
    intro u w2 hx2 _
    go_wp2
    go_ret
    exact ⟨by rw [R.out]; rfl, hxx.trans hx2⟩
def headP (s : ByteArray) : ByteArray := ⟨(Lib.cut s.data.toList [47]).1.toArray⟩
def tailP (s : ByteArray) : ByteArray := ⟨(Lib.cut s.data.toList [47]).2.1.toArray⟩
theorem cutP_any (s : ByteArray) (w : World) (he : Env w) (hs : s.size < 4294967281) :
    Calls Tryz.prog 42 #[.string s, .string ⟨#[47]⟩] w fun e w' => ∃ bb, e = .returned (.tuple #[.string (headP s), .string (tailP s), .bool bb]) ∧ Ext w w' := by
  obtain ⟨m, hm⟩ := he
  refine (Tryz.strings_Cut s ⟨#[47]⟩ m w hs hm).mono fun e w' ⟨h1, n, h2⟩ => ?_
  subst h1 h2
  exact ⟨_, rfl, (Ext.refl w).drewN n⟩
theorem cut_sizes (s : ByteArray) : (headP s).size ≤ s.size ∧ (tailP s).size ≤ s.size := by
  rw [size_list s, size_list (headP s), size_list (tailP s)]
  show (Lib.cut s.data.toList [47]).1.length ≤ _ ∧ (Lib.cut s.data.toList [47]).2.1.length ≤ _
  unfold Lib.cut
  split <;> simp <;> omega
def parseP (s : ByteArray) : Pfx × Bool :=
  if ((parseA (headP s)).2 && (numP (tailP s) 0 (bitLen (parseA (headP s)).1)).2 && validP ((parseA (headP s)).1, (numP (tailP s) 0 (bitLen (parseA (headP s)).1)).1)) = true
  then (((parseA (headP s)).1, (numP (tailP s) 0 (bitLen (parseA (headP s)).1)).1), true) else (zpfx, false)
theorem numP_bd (s : ByteArray) {hi : Int} (h : 0 ≤ hi) : 0 ≤ (numP s 0 hi).1 ∧ (numP s 0 hi).1 ≤ hi := by
  unfold numP
  split
  · exact ⟨Int.le_refl _, h⟩
  · split
    · exact ⟨Int.le_refl _, h⟩
    · split
      · exact ⟨Int.le_refl _, h⟩
      · rename_i h3; simp only; omega
theorem okA_parse (s : ByteArray) : okA (parseA s).1 := by
  cases h : (parse4 s).isSome with
  | true => rw [parseA_four h]; exact okA_p4A s
  | false =>
    have h0 : parse4 s = none := by
      cases h1 : parse4 s with
      | none => rfl
      | some b => rw [h1] at h; cases h
    rw [parseA_none h0]
    split
    · cases hp : parseG s true with
      | none => exact okA_zadr
      | some l => exact okA_v6 (parseG_ok hp).1
    · cases hp1 : parseG (s.extract 0 (cutAt s).toNat) false with
      | none => exact okA_zadr
      | some l =>
        cases hp2 : parseG (s.extract ((cutAt s).toNat + 2) s.size) true with
        | none => exact okA_zadr
        | some m =>
          simp only
          split
          · exact okA_zadr
          · refine okA_v6 fun x hx => ?_
            rcases List.mem_append.1 hx with hx | hx
            · rcases List.mem_append.1 hx with hx | hx
              · exact (parseG_ok hp1).1 x hx
              · have := List.eq_of_mem_replicate hx; omega
            · exact (parseG_ok hp2).1 x hx
set_option maxRecDepth 8000 in
set_option maxHeartbeats 4000000 in
theorem cparse_any (s : ByteArray) (w : World) (henv : Env w) (hs : s.size < 4294967281) :
    Calls Tryz.prog 25 #[.string s] w fun e w' => e = .returned (.tuple #[pv (parseP s).1, .bool (parseP s).2]) ∧ Ext w w' := by
  have hcs := cut_sizes s
  have R0 : Hid (parseP s = if ((parseA (headP s)).2 && (numP (tailP s) 0 (bitLen (parseA (headP s)).1)).2 && validP ((parseA (headP s)).1, (numP (tailP s) 0 (bitLen (parseA (headP s)).1)).1)) = true
    then (((parseA (headP s)).1, (numP (tailP s) 0 (bitLen (parseA (headP s)).1)).1), true) else (zpfx, false)) := Lib.hid rfl
  have hA := okA_parse (headP s)
  have K1 := Lib.hid (fun w (h : Env w) => cutP_any s w h hs)
  have K2 := Lib.hid (fun w (h : Env w) => parse_any (headP s) w h (by omega))
  have hbl := bitLen_pos (parseA (headP s)).1
  have hnb := numP_bd (tailP s) (hi := bitLen (parseA (headP s)).1) (by omega)
  have K3 := Lib.hid (fun w => bitLen_any (parseA (headP s)).1 hA w)
  have K4 := Lib.hid (fun w => num_any (tailP s) 0 (bitLen (parseA (headP s)).1) w (by unfold maxLen; omega))
  generalize headP s = sh at *
  generalize tailP s = st at *
  generalize (parseA sh).1 = P at *
  generalize (parseA sh).2 = ps at *
  generalize bitLen P = L at *
  generalize (numP st 0 L).1 = n at *
  generalize (numP st 0 L).2 = ns at *
  have hok : okP (P, n) := ⟨hA, by unfold i64ok; omega⟩
  have K5v := Lib.hid (fun w => cvalid_any (P, n) hok w)
  go_enter Tryz.func25, Tryz.ntmps25
  go_upto_region 1 with fail
  rw [← pc_zero]
  have hx := (Ext.refl w).alloc (.cells (pc zpfx) 26)
  have hr := Blk.new w (pc zpfx) 26
  generalize hwq : w.alloc (.cells (pc zpfx) 26) = w0 at *
  clear hwq
  have hwb : w.heap.size ≤ w.heap.size := Nat.le_refl _
  go_wp2_with (first | (go_at_call 42; refine (K1.out _ (henv.ext hx)).mono ?_; rintro e w1 ⟨bb, rfl, hx1⟩; have hxx1 := hx.trans hx1) | (go_at_call 43; refine (K2.out _ (henv.ext hxx1)).mono ?_; rintro e w2 ⟨rfl, hx2⟩; refine Hid.out ?_))
  refine Lib.hid ?_
  have hxx2 := hxx1.trans hx2
  have hr2 := (hr.ext hx1).ext hx2
  clear hx hx1 hx2 hxx1 hr
  have hbf := Blk.new w2 (ac zadr) 24
  go_upto_region 3 with (refine wpList_store_A rfl _ _ rfl okA_zadr hA hbf rfl rfl ?_)
  change Code.wp _ _ _ _ ((w2.alloc (.cells (ac zadr) 24)).setRow w2.heap.size (ac P))
  rw [World.setRow_alloc_new]
  have hB3 := Blk.new w2 (ac P) 24
  have hx3 := hxx2.alloc (.cells (ac P) 24)
  have hnx := (Ext.refl w2).alloc (.cells (ac P) 24)
  clear hbf
  generalize w2.alloc (.cells (ac P) 24) = w3 at *
  generalize w2.heap.size = b3 at *
  have hr3 := hr2.ext hnx
  clear hnx hxx2 hr2
  go_wp2_with (first | refine wpList_load_A rfl _ rfl hA hB3 rfl ?_ | (go_at_call 30; refine (K3.out _).mono ?_; rintro e w4 ⟨rfl, hx4⟩) | (go_at_call 44; refine (K4.out _).mono ?_; rintro e w5 ⟨rfl, rfl⟩; refine Hid.out ?_))
  refine Lib.hid ?_
  have hxx4 := hx3.trans hx4
  have hr4 := hr3.ext hx4
  have hB4 := hB3.ext hx4
  clear hx3 hx4 hr3 hB3
  have hbf := Blk.new w4 (pc zpfx) 26
  go_upto_region 5 with (first | refine wpList_load_A rfl _ rfl hA hB4 rfl ?_ | refine wpList_build_P rfl _ _ rfl hok rfl rfl ?_ | refine wpList_store_P rfl _ _ rfl okP_zpfx hok hbf rfl rfl ?_)
  change Code.wp _ _ _ _ ((w4.alloc (.cells (pc zpfx) 26)).setRow w4.heap.size (pc (P, n)))
  rw [World.setRow_alloc_new]
  have hB8 := Blk.new w4 (pc (P, n)) 26
  have hx8 := hxx4.alloc (.cells (pc (P, n)) 26)
  have hr8 := hr4.ext ((Ext.refl w4).alloc (.cells (pc (P, n)) 26))
  clear hbf hr4 hB4 hxx4
  generalize w4.alloc (.cells (pc (P, n)) 26) = w8 at *
  generalize w4.heap.size = b8 at *
  have hPl : ∀ w', Ext w8 w' → PBlk w' b8 (P, n) := fun w' h => hB8.ext h
  have K5 := fun (w' : World) (h : Ext w8 w') => K5v.out w'
  clear K1 K2 K3 K4 K5v hB8
  generalize hvv : validP (P, n) = vv at *
  clear hvv
  generalize ((P, n) : Pfx) = pq at *
  cases ps with
  | false =>
    have R : Hid (parseP s = (zpfx, false)) := Lib.hid (by rw [R0.out]; rfl)
    clear R0
    refine wp_region_rgs ?_
    first
      | (apply goV_skip (by intro u; rfl))
      | (apply goV_val _ (by intro u; rfl); · (intro u w hSw hF; go_simp; try with_reducible rfl))
    try simp only [Act.put, List.setIfInBounds_toArray, List.set_cons_zero, List.set_cons_succ]
    first
      | (apply goV_skip (by intro u; rfl))
      | (apply goV_val _ (by intro u; rfl); · (intro u w hSw hF; go_simp; try with_reducible rfl))
    try simp only [Act.put, List.setIfInBounds_toArray, List.set_cons_zero, List.set_cons_succ]
    first
      | (apply goV_skip (by intro u; rfl))
      | (apply goV_val _ (by intro u; rfl); · (intro u w hSw hF; go_simp; try with_reducible rfl))
    try simp only [Act.put, List.setIfInBounds_toArray, List.set_cons_zero, List.set_cons_succ]
    first
      | (apply goV_skip (by intro u; rfl))
      | (apply goV_val _ (by intro u; rfl); · (intro u w hSw hF; go_simp; try with_reducible rfl))
    try simp only [Act.put, List.setIfInBounds_toArray, List.set_cons_zero, List.set_cons_succ]
    first
      | (apply goV_skip (by intro u; rfl))
      | (apply goV_val _ (by intro u; rfl); · (intro u w hSw hF; go_simp; try with_reducible rfl))
    try simp only [Act.put, List.setIfInBounds_toArray, List.set_cons_zero, List.set_cons_succ]
    first
      | (apply goV_skip (by intro u; rfl))
      | (apply goV_loadP (by intro u; rfl) _ rfl hok hPl (by intro u; rfl))
    try simp only [Act.put, List.setIfInBounds_toArray, List.set_cons_zero, List.set_cons_succ]
    first
      | (apply goV_skip (by intro u; rfl))
      | (apply goV_call (by intro u; rfl) K5; · (intro u w hSw hF; go_simp; try with_reducible rfl))
    try simp only [Act.put, List.setIfInBounds_toArray, List.set_cons_zero, List.set_cons_succ]
    first
      | (apply goV_skip (by intro u; rfl))
      | (apply goV_val _ (by intro u; rfl); · (intro u w hSw hF; go_simp; try with_reducible rfl))
    try simp only [Act.put, List.setIfInBounds_toArray, List.set_cons_zero, List.set_cons_succ]
    intro u w9 hx9 _
    have hr9 := hr8.ext hx9
    have hP9 := hPl w9 hx9
    go_wp2_with (refine wpList_store_P rfl _ _ rfl okP_zpfx okP_zpfx hr9 rfl rfl ?_)
    refine bodyPost_ret (res_P2 rfl rfl okP_zpfx (hr9.row _)) rfl ⟨by rw [R.out]; rfl, (hx8.trans hx9).setRow hwb _⟩
  | true =>
    cases ns with
    | false =>
      have R : Hid (parseP s = (zpfx, false)) := Lib.hid (by rw [R0.out]; rfl)
      clear R0
      refine wp_region_rgs ?_
      first
        | (apply goV_skip (by intro u; rfl))
        | (apply goV_val _ (by intro u; rfl); · (intro u w hSw hF; go_simp; try with_reducible rfl))
      try simp only [Act.put, List.setIfInBounds_toArray, List.set_cons_zero, List.set_cons_succ]
      first
        | (apply goV_skip (by intro u; rfl))
        | (apply goV_val _ (by intro u; rfl); · (intro u w hSw hF; go_simp; try with_reducible rfl))
      try simp only [Act.put, List.setIfInBounds_toArray, List.set_cons_zero, List.set_cons_succ]
      first
        | (apply goV_skip (by intro u; rfl))
        | (apply goV_val _ (by intro u; rfl); · (intro u w hSw hF; go_simp; try with_reducible rfl))
      try simp only [Act.put, List.setIfInBounds_toArray, List.set_cons_zero, List.set_cons_succ]
      first
        | (apply goV_skip (by intro u; rfl))
        | (apply goV_val _ (by intro u; rfl); · (intro u w hSw hF; go_simp; try with_reducible rfl))
      try simp only [Act.put, List.setIfInBounds_toArray, List.set_cons_zero, List.set_cons_succ]
      first
        | (apply goV_skip (by intro u; rfl))
        | (apply goV_val _ (by intro u; rfl); · (intro u w hSw hF; go_simp; try with_reducible rfl))
      try simp only [Act.put, List.setIfInBounds_toArray, List.set_cons_zero, List.set_cons_succ]
      first
        | (apply goV_skip (by intro u; rfl))
        | (apply goV_loadP (by intro u; rfl) _ rfl hok hPl (by intro u; rfl))
      try simp only [Act.put, List.setIfInBounds_toArray, List.set_cons_zero, List.set_cons_succ]
      first
        | (apply goV_skip (by intro u; rfl))
        | (apply goV_call (by intro u; rfl) K5; · (intro u w hSw hF; go_simp; try with_reducible rfl))
      try simp only [Act.put, List.setIfInBounds_toArray, List.set_cons_zero, List.set_cons_succ]
      first
        | (apply goV_skip (by intro u; rfl))
        | (apply goV_val _ (by intro u; rfl); · (intro u w hSw hF; go_simp; try with_reducible rfl))
      try simp only [Act.put, List.setIfInBounds_toArray, List.set_cons_zero, List.set_cons_succ]
      intro u w9 hx9 _
      have hr9 := hr8.ext hx9
      have hP9 := hPl w9 hx9
      go_wp2_with (refine wpList_store_P rfl _ _ rfl okP_zpfx okP_zpfx hr9 rfl rfl ?_)
      refine bodyPost_ret (res_P2 rfl rfl okP_zpfx (hr9.row _)) rfl ⟨by rw [R.out]; rfl, (hx8.trans hx9).setRow hwb _⟩
    | true =>
      cases vv with
      | false =>
        have R : Hid (parseP s = (zpfx, false)) := Lib.hid (by rw [R0.out]; rfl)
        clear R0
        refine wp_region_rgs ?_
        first
          | (apply goV_skip (by intro u; rfl))
          | (apply goV_val _ (by intro u; rfl); · (intro u w hSw hF; go_simp; try with_reducible rfl))
        try simp only [Act.put, List.setIfInBounds_toArray, List.set_cons_zero, List.set_cons_succ]
        first
          | (apply goV_skip (by intro u; rfl))
          | (apply goV_val _ (by intro u; rfl); · (intro u w hSw hF; go_simp; try with_reducible rfl))
        try simp only [Act.put, List.setIfInBounds_toArray, List.set_cons_zero, List.set_cons_succ]
        first
          | (apply goV_skip (by intro u; rfl))
          | (apply goV_val _ (by intro u; rfl); · (intro u w hSw hF; go_simp; try with_reducible rfl))
        try simp only [Act.put, List.setIfInBounds_toArray, List.set_cons_zero, List.set_cons_succ]
        first
          | (apply goV_skip (by intro u; rfl))
          | (apply goV_val _ (by intro u; rfl); · (intro u w hSw hF; go_simp; try with_reducible rfl))
        try simp only [Act.put, List.setIfInBounds_toArray, List.set_cons_zero, List.set_cons_succ]
        first
          | (apply goV_skip (by intro u; rfl))
          | (apply goV_val _ (by intro u; rfl); · (intro u w hSw hF; go_simp; try with_reducible rfl))
        try simp only [Act.put, List.setIfInBounds_toArray, List.set_cons_zero, List.set_cons_succ]
        first
          | (apply goV_skip (by intro u; rfl))
          | (apply goV_loadP (by intro u; rfl) _ rfl hok hPl (by intro u; rfl))
        try simp only [Act.put, List.setIfInBounds_toArray, List.set_cons_zero, List.set_cons_succ]
        first
          | (apply goV_skip (by intro u; rfl))
          | (apply goV_call (by intro u; rfl) K5; · (intro u w hSw hF; go_simp; try with_reducible rfl))
        try simp only [Act.put, List.setIfInBounds_toArray, List.set_cons_zero, List.set_cons_succ]
        first
          | (apply goV_skip (by intro u; rfl))
          | (apply goV_val _ (by intro u; rfl); · (intro u w hSw hF; go_simp; try with_reducible rfl))
        try simp only [Act.put, List.setIfInBounds_toArray, List.set_cons_zero, List.set_cons_succ]
        intro u w9 hx9 _
        have hr9 := hr8.ext hx9
        have hP9 := hPl w9 hx9
        go_wp2_with (refine wpList_store_P rfl _ _ rfl okP_zpfx okP_zpfx hr9 rfl rfl ?_)
        refine bodyPost_ret (res_P2 rfl rfl okP_zpfx (hr9.row _)) rfl ⟨by rw [R.out]; rfl, (hx8.trans hx9).setRow hwb _⟩
      | true =>
        have R : Hid (parseP s = (pq, true)) := Lib.hid (by rw [R0.out]; rfl)
        clear R0
        refine wp_region_rgs ?_
        first
          | (apply goV_skip (by intro u; rfl))
          | (apply goV_val _ (by intro u; rfl); · (intro u w hSw hF; go_simp; try with_reducible rfl))
        try simp only [Act.put, List.setIfInBounds_toArray, List.set_cons_zero, List.set_cons_succ]
        first
          | (apply goV_skip (by intro u; rfl))
          | (apply goV_val _ (by intro u; rfl); · (intro u w hSw hF; go_simp; try with_reducible rfl))
        try simp only [Act.put, List.setIfInBounds_toArray, List.set_cons_zero, List.set_cons_succ]
        first
          | (apply goV_skip (by intro u; rfl))
          | (apply goV_val _ (by intro u; rfl); · (intro u w hSw hF; go_simp; try with_reducible rfl))
        try simp only [Act.put, List.setIfInBounds_toArray, List.set_cons_zero, List.set_cons_succ]
        first
          | (apply goV_skip (by intro u; rfl))
          | (apply goV_val _ (by intro u; rfl); · (intro u w hSw hF; go_simp; try with_reducible rfl))
        try simp only [Act.put, List.setIfInBounds_toArray, List.set_cons_zero, List.set_cons_succ]
        first
          | (apply goV_skip (by intro u; rfl))
          | (apply goV_val _ (by intro u; rfl); · (intro u w hSw hF; go_simp; try with_reducible rfl))
        try simp only [Act.put, List.setIfInBounds_toArray, List.set_cons_zero, List.set_cons_succ]
        first
          | (apply goV_skip (by intro u; rfl))
          | (apply goV_loadP (by intro u; rfl) _ rfl hok hPl (by intro u; rfl))
        try simp only [Act.put, List.setIfInBounds_toArray, List.set_cons_zero, List.set_cons_succ]
        first
          | (apply goV_skip (by intro u; rfl))
          | (apply goV_call (by intro u; rfl) K5; · (intro u w hSw hF; go_simp; try with_reducible rfl))
        try simp only [Act.put, List.setIfInBounds_toArray, List.set_cons_zero, List.set_cons_succ]
        first
          | (apply goV_skip (by intro u; rfl))
          | (apply goV_val _ (by intro u; rfl); · (intro u w hSw hF; go_simp; try with_reducible rfl))
        try simp only [Act.put, List.setIfInBounds_toArray, List.set_cons_zero, List.set_cons_succ]
        intro u w9 hx9 _
        have hr9 := hr8.ext hx9
        have hP9 := hPl w9 hx9
        go_wp2_with (first | refine wpList_load_P rfl _ rfl hok hP9 rfl ?_ | refine wpList_store_P rfl _ _ rfl okP_zpfx hok hr9 rfl rfl ?_)
        refine bodyPost_ret (res_P2 rfl rfl hok (hr9.row _)) rfl ⟨by rw [R.out]; rfl, (hx8.trans hx9).setRow hwb _⟩
end Go.Proofs.YtbbdcodhgbgekaaGreatDoor
