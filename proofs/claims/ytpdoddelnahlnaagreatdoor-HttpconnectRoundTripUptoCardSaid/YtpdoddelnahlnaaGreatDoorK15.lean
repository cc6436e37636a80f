/-
  Several texts joined: HoR, HoS.
-/
import Derived.Test.YtpdoddelnahlnaaGreatDoorK12
/-
  Contracts of the reference's ValidName.
-/
set_option linter.unusedSimpArgs false
set_option linter.unusedVariables false
namespace Go.Proofs.YtpdoddelnahlnaaGreatDoor
open Go.RowKit
set_option maxRecDepth 4000 in
set_option maxHeartbeats 4000000 in
theorem rname_any (s : ByteArray) (w : World) (hs : s.size ≤ maxLen) : Calls Tryz.prog 39 #[.string s] w fun e w' => e = .returned (.bool (okName s)) ∧ Ext w w' := by
  by_cases h0 : (s.size : Int) < 1
  · have e : okName s = false := by
      have : parts 46 s = [s] := by
        have h1 : s.data.toList = [] := List.eq_nil_of_length_eq_zero (by rw [← size_list]; omega)
        unfold parts; rw [h1]
        have : s = ⟨#[]⟩ := BA_ext h1
        subst this; rfl
      unfold okName
      rw [this, List.all_cons, okLab_no (by omega), Bool.false_and, Bool.and_false, Bool.false_and]
    go_enter Tryz.func39, Tryz.ntmps39
    rw [e]; clear e; go_wp2; go_ret; exact ⟨rfl, Ext.refl _⟩
  by_cases h1 : (253 : Int) < s.size
  · have e : okName s = false := by unfold okName; rw [decide_eq_false (show ¬ s.size ≤ 253 by omega)]; rfl
    go_enter Tryz.func39, Tryz.ntmps39
    rw [e]; clear e; go_wp2; go_ret; exact ⟨rfl, Ext.refl _⟩
  have e : okName s = ((parts 46 s).all okLab && !(allB dig (lastL (parts 46 s)) (lastL (parts 46 s)).size)) := by unfold okName; rw [decide_eq_true (show s.size ≤ 253 by omega)]; rfl
  have hpz : ∀ x ∈ parts 46 s, x.size ≤ maxLen := fun x hx => Nat.le_trans (parts_size hx) hs
  have hsplit := fun w => rsplit_any s 46 w (by omega)
  have hpos := parts_pos 46 s
  have hpl := parts_len 46 s
  have hpl2 : (parts 46 s).length ≤ 254 := by omega
  clear hpl
  rw [e]
  generalize parts 46 s = ps at *
  have HS := Lib.hid hsplit; have HPZ := Lib.hid hpz
  clear hsplit hpz e
  have HL := Lib.hid (lastL_get hpos)
  go_enter Tryz.func39, Tryz.ntmps39
  go_wp2_with (first | (go_at_call 64; refine (HS.out _).mono ?_; rintro e w1 ⟨b, cap, rfl, hbl, hsc, hcap, hx⟩; refine Hid.out ?_))
  refine Lib.hid ?_
  go_wp2_with fail
  go_loopw [4, 5, 6, 7, 8] (fun c _ _ _ _ wr => ∃ k : Nat, k ≤ ps.length ∧ c = .int .i64 k ∧ (ps.take k).all okLab = true ∧ (k = ps.length → allB dig (lastL ps) (lastL ps).size = false) ∧ StrCells wr b ps ∧ Ext w wr) (fun c _ _ _ _ _ => ps.length - (intOf c).toNat)
  case atStart => exact ⟨0, Nat.zero_le _, rfl, rfl, fun h => by omega, hsc, hx⟩
  case round =>
    obtain ⟨k, hk, rfl, hok, hla, hsc, hx⟩ := hrel
    have HOK := Lib.hid hok; have HLA := Lib.hid hla; clear hok hla
    have hcp : ps.length ≤ cap := hcap
    by_cases hlt : k < ps.length
    · have hlt' : (k : Int) < ps.length := by omega
      obtain ⟨x, hxk⟩ : ∃ x, ps[k]? = some x := ⟨ps[k]'hlt, List.getElem?_eq_getElem _⟩
      have hcell := hsc.2 k x hxk
      have HX := Lib.hid hxk; clear hxk
      have hxz := size_max (HPZ.out x (List.mem_of_getElem? HX.out))
      have HE0 : Hid (okLab x = false → (ps.all okLab && !allB dig (lastL ps) (lastL ps).size) = false) := Lib.hid fun hv => by
        cases e : ps.all okLab with
        | false => rfl
        | true => have := List.all_eq_true.1 e x (List.mem_of_getElem? HX.out); rw [hv] at this; cases this
      have b0 := B_bd x 0
      have b1 := B_bd x (x.size - 1)
      by_cases g1 : (x.size : Int) < 1
      · have HE0 := Lib.hid (HE0.out (okLab_no (by omega)))
        go_wp2_with fail
        go_ret; exact ⟨by rw [HE0.out]; rfl, hx⟩
      by_cases g2 : (63 : Int) < x.size
      · have HE0 := Lib.hid (HE0.out (okLab_no (by omega)))
        go_wp2_with fail
        go_ret; exact ⟨by rw [HE0.out]; rfl, hx⟩
      by_cases g3 : B x 0 = 45
      · have HE0 := Lib.hid (HE0.out (okLab_no (fun h => h.1.2.2.1 g3)))
        have g3' : (B x 0 == 45) = true := by rw [beq_iff_eq]; exact g3
        clear g3
        go_wp2_with fail
        go_ret; exact ⟨by rw [HE0.out]; rfl, hx⟩
      have g3' : (B x 0 == 45) = false := by rw [beq_eq_false_iff_ne]; exact g3
      have hi : ((x.size : Int) - 1).toNat = x.size - 1 := by omega
      by_cases g4 : B x (x.size - 1) = 45
      · have HE0 := Lib.hid (HE0.out (okLab_no (fun h => h.1.2.2.2 g4)))
        have g4' : (B x (x.size - 1) == 45) = true := by rw [beq_iff_eq]; exact g4
        clear g3 g4
        go_wp2_with fail
        go_ret; exact ⟨by rw [HE0.out]; rfl, hx⟩
      have g4' : (B x (x.size - 1) == 45) = false := by rw [beq_eq_false_iff_ne]; exact g4
      have HQ : Hid (allB lch x x.size = true → okLab x = true) := Lib.hid fun h => (okLab_iff x).2 ⟨⟨by omega, by omega, g3, g4⟩, h⟩
      clear g3 g4
      obtain ⟨wo, hwo⟩ : ∃ wo : World, wo = wr := ⟨_, rfl⟩
      rw [← hwo]; rw [← hwo] at hsc hx hcell
      clear hwo
      go_wp2_with fail
      go_loop [6, 7, 8] (fun d c _ => ∃ j : Nat, j ≤ x.size ∧ c = .int .i64 j ∧ d = .bool (allB dig x j) ∧ allB lch x j = true) (fun _ c _ => x.size - (intOf c).toNat)
      case atStart => exact ⟨0, Nat.zero_le _, rfl, rfl, rfl⟩
      case round =>
        obtain ⟨j, hj, rfl, rfl, hlc⟩ := hrel
        have HLC := Lib.hid hlc; clear hlc
        by_cases hlt2 : j < x.size
        · have hlt3 : (j : Int) < x.size := by omega
          have bj := B_bd x j
          have HN : Hid (lch (B x j) = false → (ps.all okLab && !allB dig (lastL ps) (lastL ps).size) = false) := Lib.hid fun h => HE0.out (okLab_no (fun h2 => by rw [allB_stop hlt2 h] at h2; exact absurd h2.2 (by simp)))
          by_cases a1 : 97 ≤ B x j ∧ B x j ≤ 122
          · have HGC : Hid (lch (B x j) = true) := Lib.hid (by unfold lch; exact decide_eq_true (by omega))
            have HDG : Hid (dig (B x j) = false) := Lib.hid (by unfold dig; exact decide_eq_false (by omega))
            have c1 := a1.1
            have c2 := a1.2
            have c3 : ¬ B x j ≤ 57 := by omega
            clear a1 HN HE0
            cases hdj : allB dig x j
            · have HDJ := Lib.hid hdj; clear hdj
              go_wp2_with fail
              go_roundw
              case rel => exact ⟨j + 1, by omega, by go_num, by rw [allB, HDJ.out, HDG.out]; rfl, by rw [allB, HLC.out, HGC.out]; rfl⟩
              case measure => simp [intOf]; omega
            · have HDJ := Lib.hid hdj; clear hdj
              go_wp2_with fail
              go_roundw
              case rel => exact ⟨j + 1, by omega, by go_num, by rw [allB, HDJ.out, HDG.out]; rfl, by rw [allB, HLC.out, HGC.out]; rfl⟩
              case measure => simp [intOf]; omega
          by_cases a2 : 48 ≤ B x j ∧ B x j ≤ 57
          · have HGC : Hid (lch (B x j) = true) := Lib.hid (by unfold lch; exact decide_eq_true (by omega))
            have HDG : Hid (dig (B x j) = true) := Lib.hid (by unfold dig; exact decide_eq_true (by omega))
            have c1 := a2.1
            have c2 := a2.2
            clear a1 a2 HN HE0
            cases hdj : allB dig x j
            · have HDJ := Lib.hid hdj; clear hdj
              go_wp2_with fail
              go_roundw
              case rel => exact ⟨j + 1, by omega, by go_num, by rw [allB, HDJ.out, HDG.out]; rfl, by rw [allB, HLC.out, HGC.out]; rfl⟩
              case measure => simp [intOf]; omega
            · have HDJ := Lib.hid hdj; clear hdj
              go_wp2_with fail
              go_roundw
              case rel => exact ⟨j + 1, by omega, by go_num, by rw [allB, HDJ.out, HDG.out]; rfl, by rw [allB, HLC.out, HGC.out]; rfl⟩
              case measure => simp [intOf]; omega
          by_cases a3 : B x j = 45
          · have HGC : Hid (lch (B x j) = true) := Lib.hid (by unfold lch; exact decide_eq_true (by omega))
            have HDG : Hid (dig (B x j) = false) := Lib.hid (by unfold dig; exact decide_eq_false (by omega))
            have c1 : (B x j == 45) = true := by rw [beq_iff_eq]; exact a3
            have c2 : B x j < 48 := by omega
            clear a1 a2 a3 HN HE0
            cases hdj : allB dig x j
            · have HDJ := Lib.hid hdj; clear hdj
              go_wp2_with fail
              go_roundw
              case rel => exact ⟨j + 1, by omega, by go_num, by rw [allB, HDJ.out, HDG.out]; rfl, by rw [allB, HLC.out, HGC.out]; rfl⟩
              case measure => simp [intOf]; omega
            · have HDJ := Lib.hid hdj; clear hdj
              go_wp2_with fail
              go_roundw
              case rel => exact ⟨j + 1, by omega, by go_num, by rw [allB, HDJ.out, HDG.out]; rfl, by rw [allB, HLC.out, HGC.out]; rfl⟩
              case measure => simp [intOf]; omega
          have HE0 := Lib.hid (HN.out (by unfold lch; exact decide_eq_false (by omega)))
          have c1 : (B x j == 45) = false := by rw [beq_eq_false_iff_ne]; exact a3
          by_cases c2 : B x j < 48
          · clear a1 a2 a3 HN
            go_wp2_with fail
            go_ret; exact ⟨by rw [HE0.out]; rfl, hx⟩
          by_cases c3 : B x j < 97
          · have c4 : ¬ B x j ≤ 57 := by omega
            have c5 : 48 ≤ B x j := by omega
            clear a1 a2 a3 HN c2
            go_wp2_with fail
            go_ret; exact ⟨by rw [HE0.out]; rfl, hx⟩
          · have c4 : ¬ B x j ≤ 122 := by omega
            have c5 : 97 ≤ B x j := by omega
            have c6 : ¬ B x j ≤ 57 := by omega
            have c7 : 48 ≤ B x j := by omega
            clear a1 a2 a3 HN c2 c3
            go_wp2_with fail
            go_ret; exact ⟨by rw [HE0.out]; rfl, hx⟩
        · obtain rfl : j = x.size := by omega
          have HLB := Lib.hid (HQ.out HLC.out)
          clear HE0
          cases hd : allB dig x x.size
          · have HD := Lib.hid hd
            clear hd
            go_wp2_with fail
            go_roundw
            case rel => exact ⟨k + 1, by omega, by go_num, by rw [List.take_add_one, HX.out, List.all_append, HOK.out]; simp [HLB.out], fun h => by
              have e : lastL ps = x := by have h1 := HL.out; rw [← h, Nat.add_sub_cancel, HX.out] at h1; exact (Option.some.inj h1).symm
              rw [e]; exact HD.out, hsc, hx⟩
            case measure => simp [intOf]; omega
          · have HD := Lib.hid hd
            clear hd
            by_cases hk1 : k + 1 = ps.length
            · have e : lastL ps = x := by have h1 := HL.out; rw [← hk1, Nat.add_sub_cancel, HX.out] at h1; exact (Option.some.inj h1).symm
              have E : Hid ((ps.all okLab && !allB dig (lastL ps) (lastL ps).size) = false) := Lib.hid (by rw [e, HD.out]; simp)
              have hq : ((k : Int) == (ps.length : Int) - 1) = true := by rw [beq_iff_eq]; omega
              clear e hk1
              go_wp2_with fail
              go_ret; exact ⟨by rw [E.out]; rfl, hx⟩
            · have hq : ((k : Int) == (ps.length : Int) - 1) = false := by rw [beq_eq_false_iff_ne]; omega
              go_wp2_with fail
              go_roundw
              case rel => exact ⟨k + 1, by omega, by go_num, by rw [List.take_add_one, HX.out, List.all_append, HOK.out]; simp [HLB.out], fun h => absurd h hk1, hsc, hx⟩
              case measure => simp [intOf]; omega
    · obtain rfl : k = ps.length := by omega
      have E : Hid ((ps.all okLab && !allB dig (lastL ps) (lastL ps).size) = true) := Lib.hid (by
        have h1 := HOK.out
        rw [List.take_of_length_le (Nat.le_refl _)] at h1
        rw [h1, HLA.out rfl]; rfl)
      go_wp2_with fail
      go_ret; exact ⟨by rw [E.out]; rfl, hx⟩
end Go.Proofs.YtpdoddelnahlnaaGreatDoor
/-
  Contracts of the reference's ParseName, LabelCount, IsSubdomain, ParsePort.
-/
set_option linter.unusedSimpArgs false
set_option linter.unusedVariables false
namespace Go.Proofs.YtpdoddelnahlnaaGreatDoor
open Go.RowKit
theorem hasSuffix_one {t : ByteArray} (h : 1 ≤ t.size) (c : UInt8) : Lib.hasSuffix t.data.toList [c] = decide (B t (t.size - 1) = (c.toNat : Int)) := by
  have hl := size_list t
  rw [← Lib.hasSuffix_of_drop, List.length_singleton, decide_eq_true (show 1 ≤ t.data.toList.length by omega), Bool.true_and]
  have hk : t.data.toList.length - 1 < t.data.toList.length := by omega
  rw [List.drop_eq_getElem_cons hk, List.drop_of_length_le (by omega)]
  have e : B t (t.size - 1) = ((t.data.toList[t.data.toList.length - 1]).toNat : Int) := by
    unfold B
    rw [List.getD_eq_getElem?_getD, hl, List.getElem?_eq_getElem hk, Option.getD_some]
  rw [e]
  by_cases q : t.data.toList[t.data.toList.length - 1] = c
  · rw [q]; simp
  · have : ¬ (((t.data.toList[t.data.toList.length - 1]).toNat : Int) = (c.toNat : Int)) := fun h => q (UInt8.toNat_inj.1 (by omega))
    rw [decide_eq_false this, beq_eq_false_iff_ne]
    intro h; injection h with h1 h2; exact q h1
theorem hasSuffix_nil {t : ByteArray} (h : t.size = 0) (c : UInt8) : Lib.hasSuffix t.data.toList [c] = false := by
  rw [size_list] at h
  rw [List.eq_nil_of_length_eq_zero h]; rfl
theorem B_nums {xs : List Int} {j : Nat} {x : Int} (h : xs[j]? = some x) (hx : 0 ≤ x ∧ x < 256) : B (strOfNums xs) j = x := by
  unfold B
  rw [strOfNums_data, List.getD_eq_getElem?_getD, List.getElem?_map, h]
  exact u8_back hx.1 hx.2
theorem lowNums_get (s : ByteArray) {j : Nat} (h : j < s.size) : (lowNums s)[j]? = some (lowI (B s j)) := by
  unfold lowNums; rw [List.getElem?_map, numsB_get s j h]; rfl
theorem B_low (s : ByteArray) {j : Nat} (h : j < s.size) : B (lowB s) j = lowI (B s j) := B_nums (lowNums_get s h) (lowI_bd (B_bd s j))
theorem lowI_dot (x : Int) : lowI x = 46 ↔ x = 46 := by unfold lowI; split <;> omega
theorem nums_take (xs : List Int) (n : Nat) : (⟨((strOfNums xs).data.toList.take n).toArray⟩ : ByteArray) = strOfNums (xs.take n) := by
  unfold strOfNums; rw [List.map_take]
theorem hostS_dot {s : ByteArray} (h1 : 1 ≤ s.size) (h : B s (s.size - 1) = 46) : hostS s = strOfNums ((lowNums s).take (s.size - 1)) := by
  unfold hostS Lib.trimSuffix
  have hz := lowB_size s
  rw [hasSuffix_one (by omega), hz, B_low s (by omega), if_pos (by rw [decide_eq_true_eq]; exact (lowI_dot _).2 h), ← size_list, hz]
  exact nums_take _ _
theorem hostS_nodot {s : ByteArray} (h : 1 ≤ s.size → B s (s.size - 1) ≠ 46) : hostS s = strOfNums ((lowNums s).take s.size) := by
  have hz := lowB_size s
  have e : (lowNums s).take s.size = lowNums s := List.take_of_length_le (by rw [← lowTo_all, lowTo_len]; exact Nat.le_refl _)
  rw [e]
  unfold hostS Lib.trimSuffix
  by_cases h0 : s.size = 0
  · rw [hasSuffix_nil (by rw [hz]; exact h0), if_neg (by simp)]; rfl
  · rw [hasSuffix_one (by omega), hz, B_low s (by omega), if_neg (by rw [decide_eq_true_eq]; exact fun q => h (by omega) ((lowI_dot _).1 q))]; rfl
theorem conv_take {w : World} {b : Nat} {l : List Int} (h : BRow w b l) {n : Nat} (hn : n ≤ l.length) (cap : Nat) : (convert 22 9 (.slice (some ⟨b, 0, none⟩) n cap)).run Tryz.prog w = .ok (.string (strOfNums (l.take n))) w :=
  run_convert_bytes_arg w 22 5 Tryz.underlying22 Tryz.underlying5 b 0 n cap (l.take n) (by rw [List.length_take]; omega) (fun i hi => by
    rw [Nat.zero_add]
    refine h.cell i _ ?_
    rw [List.getD_eq_getElem?_getD, List.getElem?_take, if_pos hi, List.getElem?_eq_getElem (by omega)]; rfl) 9 Tryz.underlying9
theorem lowTo_take (s : ByteArray) {n : Nat} (h : n ≤ s.size) : (lowTo s n).take n = (lowNums s).take n := by
  have hl := numsB_len s
  have e : (((numsB s).take n).map lowI).length = n := by rw [List.length_map, List.length_take]; omega
  unfold lowTo lowNums
  rw [List.take_left' e, List.map_take]
set_option maxRecDepth 4000 in
set_option maxHeartbeats 4000000 in
theorem rpname_any (s : ByteArray) (w : World) (hs : s.size ≤ maxLen) : Calls Tryz.prog 31 #[.string s] w fun e w' => e = .returned (.tuple #[.string (nameP s).1, .bool (nameP s).2]) ∧ Ext w w' := by
  by_cases h1 : (s.size : Int) < 1
  · obtain rfl : s = ⟨#[]⟩ := BA_ext (List.eq_nil_of_length_eq_zero (by rw [← size_list]; omega))
    have HV := Lib.hid (fun w => rname_any ⟨#[]⟩ w (Nat.zero_le _))
    rw [show okName ⟨#[]⟩ = false by decide] at HV
    have E : nameP ⟨#[]⟩ = (.empty, false) := by decide
    rw [E]
    obtain ⟨w1, cap, hcv, hcap, hrow, hx⟩ := conv_str ⟨#[]⟩ w
    have HC0 := Lib.hid (fun (w' : World) (h : Ext w1 w') => conv_take (hrow.ext h) (n := 0) (Nat.zero_le _) cap)
    rw [show strOfNums (List.take 0 (numsB ⟨#[]⟩)) = ⟨#[]⟩ from rfl] at HC0
    rw [show (⟨#[]⟩ : ByteArray).size = 0 from rfl] at hcv
    clear h1 hs hcap hrow E
    go_enter Tryz.func31, Tryz.ntmps31
    go_wp2_with fail
    clear hcv
    go_loopw [5] (fun c wr => c = .int .i64 0 ∧ Ext w wr ∧ Ext w1 wr) (fun _ _ => 0)
    case atStart => exact ⟨rfl, hx, Ext.refl _⟩
    case round =>
      obtain ⟨rfl, hx, hx1⟩ := hrel
      have hcv := HC0.out wr hx1
      go_wp2_with (first | (go_at_call 39; refine (HV.out wr).mono ?_; rintro e w3 ⟨rfl, hx3⟩))
      go_ret2; exact ⟨rfl, hx.trans hx3⟩
  have HV := Lib.hid (fun w => rname_any (hostS s) w (Nat.le_trans (hostS_size s) hs))
  replace hs := size_max hs
  obtain ⟨w1, cap, hcv, hcap, hrow, hx⟩ := conv_str s w
  rw [← lowTo_zero] at hrow
  generalize hbs : w.heap.size = b at *
  replace hbs := Nat.le_of_eq hbs
  have hbw := hrow.lt
  go_enter Tryz.func31, Tryz.ntmps31
  go_upto_region 2 with fail
  clear hcv
  have h1' : (0 : Int) < s.size := by omega
  have hi : ((s.size : Int) - 1).toNat = s.size - 1 := by omega
  have hcl := hrow.cell (s.size - 1) _ (by rw [lowTo_zero]; exact numsB_get s _ (by omega))
  by_cases h2 : B s (s.size - 1) = 46
  · have HH := Lib.hid (hostS_dot (s := s) (by omega) h2)
    have h2' : (B s (s.size - 1) == 46) = true := by rw [beq_iff_eq]; exact h2
    clear h2
    go_upto_region 4 with fail
    go_wp2_with fail
    go_loopw [5] (fun c wr => ∃ k : Nat, k ≤ (s.size - 1) ∧ c = .int .i64 k ∧ BRow wr b (lowTo s k) ∧ Ext w wr) (fun c _ => (s.size - 1) - (intOf c).toNat)
    case atStart => exact ⟨0, Nat.zero_le _, rfl, hrow, hx⟩
    case round =>
      obtain ⟨k, hk, rfl, hrow, hx⟩ := hrel
      by_cases hlt : k < (s.size - 1)
      · have hlt' : (k : Int) < ((s.size - 1) : Nat) := by omega
        have hlz : k < s.size := by omega
        have hcell := hrow.cell k _ (lowTo_at s hlz)
        have hfree := hrow.free k (by rw [lowTo_len]; exact hlz)
        have bk := B_bd s k
        by_cases hu : 65 ≤ B s k ∧ B s k ≤ 90
        · have e9 : IntKind.u8.wrap (B s k + 32) = B s k + 32 := by
            have : ∀ n : Int, IntKind.u8.wrap n = n % 256 := fun n => by simp [IntKind.wrap, IntKind.bits, IntKind.signed]
            rw [this]; omega
          have hg1 := hu.1
          have hg2 := hu.2
          have HR := Lib.hid (hrow.set (i := k) (by rw [lowTo_len]; exact hlz) (B s k + 32))
          have HLW : Hid (lowI (B s k) = B s k + 32) := Lib.hid (by unfold lowI; rw [if_pos hu])
          clear hu
          go_wp2_with fail
          go_roundw
          case rel => exact ⟨k + 1, by omega, by go_num, by rw [← lowTo_set s hlz, HLW.out]; exact HR.out, hx.setCell (p := ⟨b, k, none⟩) hbs _⟩
          case measure => simp [intOf]; omega
        · have HLW : Hid (lowI (B s k) = B s k) := Lib.hid (by unfold lowI; rw [if_neg hu])
          by_cases hg : B s k < 65
          · clear hu
            go_wp2_with fail
            go_roundw
            case rel => exact ⟨k + 1, by omega, by go_num, by rw [← lowTo_keep s hlz HLW.out]; exact hrow, hx⟩
            case measure => simp [intOf]; omega
          · have hg2 : ¬ B s k ≤ 90 := by omega
            have hg3 : 65 ≤ B s k := by omega
            clear hu hg
            go_wp2_with fail
            go_roundw
            case rel => exact ⟨k + 1, by omega, by go_num, by rw [← lowTo_keep s hlz HLW.out]; exact hrow, hx⟩
            case measure => simp [intOf]; omega
      · obtain rfl : k = (s.size - 1) := by omega
        have hcv0 := fun (w' : World) (h : Ext wr w') => conv_take (hrow.ext h) (n := (s.size - 1)) (by rw [lowTo_len]; omega) cap
        rw [lowTo_take s (by omega), ← HH.out] at hcv0
        have hcv := hcv0 wr (Ext.refl _)
        have HC0 := Lib.hid hcv0
        have hlt2 : ¬ (((s.size - 1) : Nat) : Int) < ((s.size - 1) : Nat) := by omega
        clear hcv0 hlt hrow
        cases ho : okName (hostS s)
        · rw [ho] at HV
          have E : Hid (nameP s = (.empty, false)) := Lib.hid (by unfold nameP; rw [ho]; rfl)
          clear ho
          go_wp2_with (first | (go_at_call 39; refine (HV.out wr).mono ?_; rintro e w3 ⟨rfl, hx3⟩))
          go_ret2; exact ⟨by rw [E.out]; rfl, hx.trans hx3⟩
        · rw [ho] at HV
          have E : Hid (nameP s = (hostS s, true)) := Lib.hid (by unfold nameP; rw [ho]; rfl)
          clear ho
          go_wp2_with (first | (go_at_call 39; refine (HV.out wr).mono ?_; rintro e w3 ⟨rfl, hx3⟩; have hcv3 := HC0.out w3 hx3))
          go_ret2; exact ⟨by rw [E.out]; rfl, hx.trans hx3⟩
  · have HH := Lib.hid (hostS_nodot (s := s) (fun _ => h2))
    have h2' : (B s (s.size - 1) == 46) = false := by rw [beq_eq_false_iff_ne]; exact h2
    clear h2
    go_wp2_with fail
    go_loopw [5] (fun c wr => ∃ k : Nat, k ≤ s.size ∧ c = .int .i64 k ∧ BRow wr b (lowTo s k) ∧ Ext w wr) (fun c _ => s.size - (intOf c).toNat)
    case atStart => exact ⟨0, Nat.zero_le _, rfl, hrow, hx⟩
    case round =>
      obtain ⟨k, hk, rfl, hrow, hx⟩ := hrel
      by_cases hlt : k < s.size
      · have hlt' : (k : Int) < (s.size : Nat) := by omega
        have hlz : k < s.size := by omega
        have hcell := hrow.cell k _ (lowTo_at s hlz)
        have hfree := hrow.free k (by rw [lowTo_len]; exact hlz)
        have bk := B_bd s k
        by_cases hu : 65 ≤ B s k ∧ B s k ≤ 90
        · have e9 : IntKind.u8.wrap (B s k + 32) = B s k + 32 := by
            have : ∀ n : Int, IntKind.u8.wrap n = n % 256 := fun n => by simp [IntKind.wrap, IntKind.bits, IntKind.signed]
            rw [this]; omega
          have hg1 := hu.1
          have hg2 := hu.2
          have HR := Lib.hid (hrow.set (i := k) (by rw [lowTo_len]; exact hlz) (B s k + 32))
          have HLW : Hid (lowI (B s k) = B s k + 32) := Lib.hid (by unfold lowI; rw [if_pos hu])
          clear hu
          go_wp2_with fail
          go_roundw
          case rel => exact ⟨k + 1, by omega, by go_num, by rw [← lowTo_set s hlz, HLW.out]; exact HR.out, hx.setCell (p := ⟨b, k, none⟩) hbs _⟩
          case measure => simp [intOf]; omega
        · have HLW : Hid (lowI (B s k) = B s k) := Lib.hid (by unfold lowI; rw [if_neg hu])
          by_cases hg : B s k < 65
          · clear hu
            go_wp2_with fail
            go_roundw
            case rel => exact ⟨k + 1, by omega, by go_num, by rw [← lowTo_keep s hlz HLW.out]; exact hrow, hx⟩
            case measure => simp [intOf]; omega
          · have hg2 : ¬ B s k ≤ 90 := by omega
            have hg3 : 65 ≤ B s k := by omega
            clear hu hg
            go_wp2_with fail
            go_roundw
            case rel => exact ⟨k + 1, by omega, by go_num, by rw [← lowTo_keep s hlz HLW.out]; exact hrow, hx⟩
            case measure => simp [intOf]; omega
      · obtain rfl : k = s.size := by omega
        have hcv0 := fun (w' : World) (h : Ext wr w') => conv_take (hrow.ext h) (n := s.size) (by rw [lowTo_len]; omega) cap
        rw [lowTo_take s (by omega), ← HH.out] at hcv0
        have hcv := hcv0 wr (Ext.refl _)
        have HC0 := Lib.hid hcv0
        have hlt2 : ¬ ((s.size : Nat) : Int) < (s.size : Nat) := by omega
        clear hcv0 hlt hrow
        cases ho : okName (hostS s)
        · rw [ho] at HV
          have E : Hid (nameP s = (.empty, false)) := Lib.hid (by unfold nameP; rw [ho]; rfl)
          clear ho
          go_wp2_with (first | (go_at_call 39; refine (HV.out wr).mono ?_; rintro e w3 ⟨rfl, hx3⟩))
          go_ret2; exact ⟨by rw [E.out]; rfl, hx.trans hx3⟩
        · rw [ho] at HV
          have E : Hid (nameP s = (hostS s, true)) := Lib.hid (by unfold nameP; rw [ho]; rfl)
          clear ho
          go_wp2_with (first | (go_at_call 39; refine (HV.out wr).mono ?_; rintro e w3 ⟨rfl, hx3⟩; have hcv3 := HC0.out w3 hx3))
          go_ret2; exact ⟨by rw [E.out]; rfl, hx.trans hx3⟩
set_option maxRecDepth 4000 in
set_option maxHeartbeats 1000000 in
theorem rlabel_any (s : ByteArray) (w : World) (hs : s.size ≤ maxLen) : Calls Tryz.prog 35 #[.string s] w fun e w' => e = .returned (.int .i64 (labP s)) ∧ Ext w w' := by
  have K := rname_any s w hs
  have e : labP s = if okName s = true then ((parts 46 s).length : Int) else 0 := rfl
  cases ho : okName s
  · rw [ho] at e K
    rw [if_neg (by simp)] at e
    go_enter Tryz.func35, Tryz.ntmps35
    rw [e]
    clear e ho
    go_wp2_with (first | (go_at_call 39; refine K.mono ?_; rintro e w2 ⟨rfl, hx2⟩))
    go_ret; exact ⟨rfl, hx2⟩
  · have hz := okName_size ho
    rw [ho] at e K
    rw [if_pos rfl] at e
    have HS := Lib.hid (fun w => rsplit_any s 46 w (by omega))
    generalize (parts 46 s) = ps at *
    go_enter Tryz.func35, Tryz.ntmps35
    rw [e]
    clear e ho
    go_wp2_with (first | (go_at_call 39; refine K.mono ?_; rintro e w2 ⟨rfl, hx2⟩) | (go_at_call 64; refine (HS.out _).mono ?_; rintro e w3 ⟨b, cap, rfl, hbl, hsc, hcap, hx3⟩))
    go_ret; exact ⟨rfl, hx2.trans hx3⟩
theorem suffix_eq {a b : ByteArray} : Lib.hasSuffix a.data.toList (46 :: b.data.toList) = (decide (b.size + 1 ≤ a.size) && (decide (a.extract (a.size - b.size) a.size = b) && decide (B a (a.size - b.size - 1) = 46))) := by
  have h1 := size_list a
  have h2 := size_list b
  rw [← Lib.hasSuffix_of_drop, List.length_cons, ← h1, ← h2]
  by_cases hl : b.size + 1 ≤ a.size
  · rw [decide_eq_true hl, Bool.true_and, Bool.true_and]
    have hk : a.size - (b.size + 1) < a.data.toList.length := by omega
    rw [List.drop_eq_getElem_cons hk, show a.size - (b.size + 1) + 1 = a.size - b.size by omega]
    have e1 : B a (a.size - b.size - 1) = ((a.data.toList[a.size - (b.size + 1)]).toNat : Int) := by
      unfold B
      rw [List.getD_eq_getElem?_getD, show a.size - b.size - 1 = a.size - (b.size + 1) by omega, List.getElem?_eq_getElem hk, Option.getD_some]
    have e2 : (a.extract (a.size - b.size) a.size = b) ↔ a.data.toList.drop (a.size - b.size) = b.data.toList := by
      constructor
      · intro h
        have := congrArg (fun x => x.data.toList) h
        simp only [data_extract] at this
        rwa [List.take_of_length_le (by omega)] at this
      · intro h
        refine BA_ext ?_
        rw [data_extract, List.take_of_length_le (by omega)]; exact h
    rw [e1]
    by_cases q : a.data.toList[a.size - (b.size + 1)] = 46
    · rw [q]
      by_cases p : a.data.toList.drop (a.size - b.size) = b.data.toList
      · rw [p, decide_eq_true (e2.2 p)]; simp
      · rw [decide_eq_false (fun h => p (e2.1 h)), Bool.false_and, beq_eq_false_iff_ne]
        intro h; injection h with _ h; exact p h
    · have : ¬ (((a.data.toList[a.size - (b.size + 1)]).toNat : Int) = 46) := fun h => q (UInt8.toNat_inj.1 (by show _ = 46; omega))
      rw [decide_eq_false this, Bool.and_false, beq_eq_false_iff_ne]
      intro h; injection h with h _; exact q h
  · rw [decide_eq_false hl, Bool.false_and, Bool.false_and]
set_option maxRecDepth 4000 in
set_option maxHeartbeats 1000000 in
theorem rport_any (s : ByteArray) (hs : s.size ≤ maxLen) (w : World) : Calls Tryz.prog 34 #[.string s] w fun e w' => e = .returned (.tuple #[.int .i64 (portP s).1, .bool (portP s).2]) ∧ w = w' := by
  have K := decP_any s 65535 w hs
  have e : portP s = if decP s 65535 < 1 then (0, false) else (decP s 65535, true) := numP_decP s (by decide) (by decide)
  generalize decP s 65535 = d at *
  by_cases h : d < 1
  · rw [if_pos h] at e
    rw [e]; clear e
    go_enter Tryz.func34, Tryz.ntmps34
    go_wp2_with (first | (go_at_call 63; refine K.mono ?_; rintro e w2 ⟨rfl, rfl⟩))
    go_ret2; exact ⟨rfl, rfl⟩
  · rw [if_neg h] at e
    rw [e]; clear e
    go_enter Tryz.func34, Tryz.ntmps34
    go_wp2_with (first | (go_at_call 63; refine K.mono ?_; rintro e w2 ⟨rfl, rfl⟩))
    go_ret2; exact ⟨rfl, rfl⟩
end Go.Proofs.YtpdoddelnahlnaaGreatDoor
