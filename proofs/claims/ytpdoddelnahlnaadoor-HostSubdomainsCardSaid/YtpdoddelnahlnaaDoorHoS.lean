/-
  Contracts of the reference's ParseName, LabelCount, IsSubdomain, ParsePort.
-/
import Derived.Test.YtpdoddelnahlnaaDoorHoR
set_option linter.unusedSimpArgs false
set_option linter.unusedVariables false
namespace Go.Proofs.YtpdoddelnahlnaaDoor
open Go.RowKit
theorem hasSuffix_one {t : ByteArray} (h : 1 ≤ t.size) (c : UInt8) : Lib.hasSuffix t.data.toList [c] = decide (B t (t.size - 1) = (c.toNat : Int)) := by
  have hl := size_list t
  rw [← Lib.hasSuffix_of_drop, List.length_singleton, decide_eq_true (show 1 ≤ t.data.toList.length by omega), Bool.true_and]
  have hk : t.data.toList.length - 1 < t.data.toList.length := by omega
  rw [List.drop_eq_getElem_cons hk, List.drop_of_length_le (by omega)]
  have e : B t (t.size - 1) = ((t.data.toList[t.data.toList.length - 1]).toNat : Int) := by
    unfold B
    rw [List.getD_eq_getElem?_getD, hl, List.getElem?_eq_getElem hk, Option.getD_some]
  rw [e]
  by_cases q : t.data.toList[t.data.toList.length - 1] = c
  · rw [q]; simp
  · have : ¬ (((t.data.toList[t.data.toList.length - 1]).toNat : Int) = (c.toNat : Int)) := fun h => q (UInt8.toNat_inj.1 (by omega))
    rw [decide_eq_false this, beq_eq_false_iff_ne]
    intro h; injection h with h1 h2; exact q h1
theorem hasSuffix_nil {t : ByteArray} (h : t.size = 0) (c : UInt8) : Lib.hasSuffix t.data.toList [c] = false := by
  rw [size_list] at h
  rw [List.eq_nil_of_length_eq_zero h]; rfl
theorem B_nums {xs : List Int} {j : Nat} {x : Int} (h : xs[j]? = some x) (hx : 0 ≤ x ∧ x < 256) : B (strOfNums xs) j = x := by
  unfold B
  rw [strOfNums_data, List.getD_eq_getElem?_getD, List.getElem?_map, h]
  exact u8_back hx.1 hx.2
theorem lowNums_get (s : ByteArray) {j : Nat} (h : j < s.size) : (lowNums s)[j]? = some (lowI (B s j)) := by
  unfold lowNums; rw [List.getElem?_map, numsB_get s j h]; rfl
theorem B_low (s : ByteArray) {j : Nat} (h : j < s.size) : B (lowB s) j = lowI (B s j) := B_nums (lowNums_get s h) (lowI_bd (B_bd s j))
theorem lowI_dot (x : Int) : lowI x = 46 ↔ x = 46 := by unfold lowI; split <;> omega
theorem nums_take (xs : List Int) (n : Nat) : (⟨((strOfNums xs).data.toList.take n).toArray⟩ : ByteArray) = strOfNums (xs.take n) := by
  unfold strOfNums; rw [List.map_take]
theorem hostS_dot {s : ByteArray} (h1 : 1 ≤ s.size) (h : B s (s.size - 1) = 46) : hostS s = strOfNums ((lowNums s).take (s.size - 1)) := by
  unfold hostS Lib.trimSuffix
  have hz := lowB_size s
  rw [hasSuffix_one (by omega), hz, B_low s (by omega), if_pos (by rw [decide_eq_true_eq]; exact (lowI_dot _).2 h), ← size_list, hz]
  exact nums_take _ _
theorem hostS_nodot {s : ByteArray} (h : 1 ≤ s.size → B s (s.size - 1) ≠ 46) : hostS s = strOfNums ((lowNums s).take s.size) := by
  have hz := lowB_size s
  have e : (lowNums s).take s.size = lowNums s := List.take_of_length_le (by rw [← lowTo_all, lowTo_len]; exact Nat.le_refl _)
  rw [e]
  unfold hostS Lib.trimSuffix
  by_cases h0 : s.size = 0
  · rw [hasSuffix_nil (by rw [hz]; exact h0), if_neg (by simp)]; rfl
  · rw [hasSuffix_one (by omega), hz, B_low s (by omega), if_neg (by rw [decide_eq_true_eq]; exact fun q => h (by omega) ((lowI_dot _).1 q))]; rfl
theorem conv_take {w : World} {b : Nat} {l : List Int} (h : BRow w b l) {n : Nat} (hn : n ≤ l.length) (cap : Nat) : (convert 33 9 (.slice (some ⟨b, 0, none⟩) n cap)).run Tryd.prog w = .ok (.string (strOfNums (l.take n))) w :=
  run_convert_bytes_arg w 33 5 Tryd.underlying33 Tryd.underlying5 b 0 n cap (l.take n) (by rw [List.length_take]; omega) (fun i hi => by
    rw [Nat.zero_add]
    refine h.cell i _ ?_
    rw [List.getD_eq_getElem?_getD, List.getElem?_take, if_pos hi, List.getElem?_eq_getElem (by omega)]; rfl) 9 Tryd.underlying9
theorem lowTo_take (s : ByteArray) {n : Nat} (h : n ≤ s.size) : (lowTo s n).take n = (lowNums s).take n := by
  have hl := numsB_len s
  have e : (((numsB s).take n).map lowI).length = n := by rw [List.length_map, List.length_take]; omega
  unfold lowTo lowNums
  rw [List.take_left' e, List.map_take]
set_option maxRecDepth 4000 in
set_option maxHeartbeats 4000000 in
theorem rpname_any (s : ByteArray) (w : World) (hs : s.size ≤ maxLen) : Calls Tryd.prog 5 #[.string s] w fun e w' => e = .returned (.tuple #[.string (nameP s).1, .bool (nameP s).2]) ∧ Ext w w' := by
  by_cases h1 : (s.size : Int) < 1
  · obtain rfl : s = ⟨#[]⟩ := BA_ext (List.eq_nil_of_length_eq_zero (by rw [← size_list]; omega))
    have HV := Lib.hid (fun w => rname_any ⟨#[]⟩ w (Nat.zero_le _))
    rw [show okName ⟨#[]⟩ = false by decide] at HV
    have E : nameP ⟨#[]⟩ = (.empty, false) := by decide
    rw [E]
    obtain ⟨w1, cap, hcv, hcap, hrow, hx⟩ := conv_str ⟨#[]⟩ w
    have HC0 := Lib.hid (fun (w' : World) (h : Ext w1 w') => conv_take (hrow.ext h) (n := 0) (Nat.zero_le _) cap)
    rw [show strOfNums (List.take 0 (numsB ⟨#[]⟩)) = ⟨#[]⟩ from rfl] at HC0
    rw [show (⟨#[]⟩ : ByteArray).size = 0 from rfl] at hcv
    clear h1 hs hcap hrow E
    go_enter Tryd.func5, Tryd.ntmps5
    go_wp2_with fail
    clear hcv
    go_loopw [5] (fun c wr => c = .int .i64 0 ∧ Ext w wr ∧ Ext w1 wr) (fun _ _ => 0)
    case atStart => exact ⟨rfl, hx, Ext.refl _⟩
    case round =>
      obtain ⟨rfl, hx, hx1⟩ := hrel
      have hcv := HC0.out wr hx1
      go_wp2_with (first | (go_at_call 15; refine (HV.out wr).mono ?_; rintro e w3 ⟨rfl, hx3⟩))
      go_ret2; exact ⟨rfl, hx.trans hx3⟩
  have HV := Lib.hid (fun w => rname_any (hostS s) w (Nat.le_trans (hostS_size s) hs))
  replace hs := size_max hs
  obtain ⟨w1, cap, hcv, hcap, hrow, hx⟩ := conv_str s w
  rw [← lowTo_zero] at hrow
  generalize hbs : w.heap.size = b at *
  replace hbs := Nat.le_of_eq hbs
  have hbw := hrow.lt
  go_enter Tryd.func5, Tryd.ntmps5
  go_upto_region 2 with fail
  clear hcv
  have h1' : (0 : Int) < s.size := by omega
  have hi : ((s.size : Int) - 1).toNat = s.size - 1 := by omega
  have hcl := hrow.cell (s.size - 1) _ (by rw [lowTo_zero]; exact numsB_get s _ (by omega))
  by_cases h2 : B s (s.size - 1) = 46
  · have HH := Lib.hid (hostS_dot (s := s) (by omega) h2)
    have h2' : (B s (s.size - 1) == 46) = true := by rw [beq_iff_eq]; exact h2
    clear h2
    go_upto_region 4 with fail
    go_wp2_with fail
    go_loopw [5] (fun c wr => ∃ k : Nat, k ≤ (s.size - 1) ∧ c = .int .i64 k ∧ BRow wr b (lowTo s k) ∧ Ext w wr) (fun c _ => (s.size - 1) - (intOf c).toNat)
    case atStart => exact ⟨0, Nat.zero_le _, rfl, hrow, hx⟩
    case round =>
      obtain ⟨k, hk, rfl, hrow, hx⟩ := hrel
      by_cases hlt : k < (s.size - 1)
      · have hlt' : (k : Int) < ((s.size - 1) : Nat) := by omega
        have hlz : k < s.size := by omega
        have hcell := hrow.cell k _ (lowTo_at s hlz)
        have hfree := hrow.free k (by rw [lowTo_len]; exact hlz)
        have bk := B_bd s k
        by_cases hu : 65 ≤ B s k ∧ B s k ≤ 90
        · have e9 : IntKind.u8.wrap (B s k + 32) = B s k + 32 := by
            have : ∀ n : Int, IntKind.u8.wrap n = n % 256 := fun n => by simp [IntKind.wrap, IntKind.bits, IntKind.signed]
            rw [this]; omega
          have hg1 := hu.1
          have hg2 := hu.2
          have HR := Lib.hid (hrow.set (i := k) (by rw [lowTo_len]; exact hlz) (B s k + 32))
          have HLW : Hid (lowI (B s k) = B s k + 32) := Lib.hid (by unfold lowI; rw [if_pos hu])
          clear hu
          go_wp2_with fail
          go_roundw
          case rel => exact ⟨k + 1, by omega, by go_num, by rw [← lowTo_set s hlz, HLW.out]; exact HR.out, hx.setCell (p := ⟨b, k, none⟩) hbs _⟩
          case measure => simp [intOf]; omega
        · have HLW : Hid (lowI (B s k) = B s k) := Lib.hid (by unfold lowI; rw [if_neg hu])
          by_cases hg : B s k < 65
          · clear hu
            go_wp2_with fail
            go_roundw
            case rel => exact ⟨k + 1, by omega, by go_num, by rw [← lowTo_keep s hlz HLW.out]; exact hrow, hx⟩
            case measure => simp [intOf]; omega
          · have hg2 : ¬ B s k ≤ 90 := by omega
            have hg3 : 65 ≤ B s k := by omega
            clear hu hg
            go_wp2_with fail
            go_roundw
            case rel => exact ⟨k + 1, by omega, by go_num, by rw [← lowTo_keep s hlz HLW.out]; exact hrow, hx⟩
            case measure => simp [intOf]; omega
      · obtain rfl : k = (s.size - 1) := by omega
        have hcv0 := fun (w' : World) (h : Ext wr w') => conv_take (hrow.ext h) (n := (s.size - 1)) (by rw [lowTo_len]; omega) cap
        rw [lowTo_take s (by omega), ← HH.out] at hcv0
        have hcv := hcv0 wr (Ext.refl _)
        have HC0 := Lib.hid hcv0
        have hlt2 : ¬ (((s.size - 1) : Nat) : Int) < ((s.size - 1) : Nat) := by omega
        clear hcv0 hlt hrow
        cases ho : okName (hostS s)
        · rw [ho] at HV
          have E : Hid (nameP s = (.empty, false)) := Lib.hid (by unfold nameP; rw [ho]; rfl)
          clear ho
          go_wp2_with (first | (go_at_call 15; refine (HV.out wr).mono ?_; rintro e w3 ⟨rfl, hx3⟩))
          go_ret2; exact ⟨by rw [E.out]; rfl, hx.trans hx3⟩
        · rw [ho] at HV
          have E : Hid (nameP s = (hostS s, true)) := Lib.hid (by unfold nameP; rw [ho]; rfl)
          clear ho
          go_wp2_with (first | (go_at_call 15; refine (HV.out wr).mono ?_; rintro e w3 ⟨rfl, hx3⟩; have hcv3 := HC0.out w3 hx3))
          go_ret2; exact ⟨by rw [E.out]; rfl, hx.trans hx3⟩
  · have HH := Lib.hid (hostS_nodot (s := s) (fun _ => h2))
    have h2' : (B s (s.size - 1) == 46) = false := by rw [beq_eq_false_iff_ne]; exact h2
    clear h2
    go_wp2_with fail
    go_loopw [5] (fun c wr => ∃ k : Nat, k ≤ s.size ∧ c = .int .i64 k ∧ BRow wr b (lowTo s k) ∧ Ext w wr) (fun c _ => s.size - (intOf c).toNat)
    case atStart => exact ⟨0, Nat.zero_le _, rfl, hrow, hx⟩
    case round =>
      obtain ⟨k, hk, rfl, hrow, hx⟩ := hrel
      by_cases hlt : k < s.size
      · have hlt' : (k : Int) < (s.size : Nat) := by omega
        have hlz : k < s.size := by omega
        have hcell := hrow.cell k _ (lowTo_at s hlz)
        have hfree := hrow.free k (by rw [lowTo_len]; exact hlz)
        have bk := B_bd s k
        by_cases hu : 65 ≤ B s k ∧ B s k ≤ 90
        · have e9 : IntKind.u8.wrap (B s k + 32) = B s k + 32 := by
            have : ∀ n : Int, IntKind.u8.wrap n = n % 256 := fun n => by simp [IntKind.wrap, IntKind.bits, IntKind.signed]
            rw [this]; omega
          have hg1 := hu.1
          have hg2 := hu.2
          have HR := Lib.hid (hrow.set (i := k) (by rw [lowTo_len]; exact hlz) (B s k + 32))
          have HLW : Hid (lowI (B s k) = B s k + 32) := Lib.hid (by unfold lowI; rw [if_pos hu])
          clear hu
          go_wp2_with fail
          go_roundw
          case rel => exact ⟨k + 1, by omega, by go_num, by rw [← lowTo_set s hlz, HLW.out]; exact HR.out, hx.setCell (p := ⟨b, k, none⟩) hbs _⟩
          case measure => simp [intOf]; omega
        · have HLW : Hid (lowI (B s k) = B s k) := Lib.hid (by unfold lowI; rw [if_neg hu])
          by_cases hg : B s k < 65
          · clear hu
            go_wp2_with fail
            go_roundw
            case rel => exact ⟨k + 1, by omega, by go_num, by rw [← lowTo_keep s hlz HLW.out]; exact hrow, hx⟩
            case measure => simp [intOf]; omega
          · have hg2 : ¬ B s k ≤ 90 := by omega
            have hg3 : 65 ≤ B s k := by omega
            clear hu hg
            go_wp2_with fail
            go_roundw
            case rel => exact ⟨k + 1, by omega, by go_num, by rw [← lowTo_keep s hlz HLW.out]; exact hrow, hx⟩
            case measure => simp [intOf]; omega
      · obtain rfl : k = s.size := by omega
        have hcv0 := fun (w' : World) (h : Ext wr w') => conv_take (hrow.ext h) (n := s.size) (by rw [lowTo_len]; omega) cap
        rw [lowTo_take s (by omega), ← HH.out] at hcv0
        have hcv := hcv0 wr (Ext.refl _)
        have HC0 := Lib.hid hcv0
        have hlt2 : ¬ ((s.size : Nat) : Int) < (s.size : Nat) := by omega
        clear hcv0 hlt hrow
        cases ho : okName (hostS s)
        · rw [ho] at HV
          have E : Hid (nameP s = (.empty, false)) := Lib.hid (by unfold nameP; rw [ho]; rfl)
          clear ho
          go_wp2_with (first | (go_at_call 15; refine (HV.out wr).mono ?_; rintro e w3 ⟨rfl, hx3⟩))
          go_ret2; exact ⟨by rw [E.out]; rfl, hx.trans hx3⟩
        · rw [ho] at HV
          have E : Hid (nameP s = (hostS s, true)) := Lib.hid (by unfold nameP; rw [ho]; rfl)
          clear ho
          go_wp2_with (first | (go_at_call 15; refine (HV.out wr).mono ?_; rintro e w3 ⟨rfl, hx3⟩; have hcv3 := HC0.out w3 hx3))
          go_ret2; exact ⟨by rw [E.out]; rfl, hx.trans hx3⟩
set_option maxRecDepth 4000 in
set_option maxHeartbeats 1000000 in
theorem rlabel_any (s : ByteArray) (w : World) (hs : s.size ≤ maxLen) : Calls Tryd.prog 10 #[.string s] w fun e w' => e = .returned (.int .i64 (labP s)) ∧ Ext w w' := by
  have K := rname_any s w hs
  have e : labP s = if okName s = true then ((parts 46 s).length : Int) else 0 := rfl
  cases ho : okName s
  · rw [ho] at e K
    rw [if_neg (by simp)] at e
    go_enter Tryd.func10, Tryd.ntmps10
    rw [e]
    clear e ho
    go_wp2_with (first | (go_at_call 15; refine K.mono ?_; rintro e w2 ⟨rfl, hx2⟩))
    go_ret; exact ⟨rfl, hx2⟩
  · have hz := okName_size ho
    rw [ho] at e K
    rw [if_pos rfl] at e
    have HS := Lib.hid (fun w => rsplit_any s 46 w (by omega))
    generalize (parts 46 s) = ps at *
    go_enter Tryd.func10, Tryd.ntmps10
    rw [e]
    clear e ho
    go_wp2_with (first | (go_at_call 15; refine K.mono ?_; rintro e w2 ⟨rfl, hx2⟩) | (go_at_call 23; refine (HS.out _).mono ?_; rintro e w3 ⟨b, cap, rfl, hbl, hsc, hcap, hx3⟩))
    go_ret; exact ⟨rfl, hx2.trans hx3⟩
theorem suffix_eq {a b : ByteArray} : Lib.hasSuffix a.data.toList (46 :: b.data.toList) = (decide (b.size + 1 ≤ a.size) && (decide (a.extract (a.size - b.size) a.size = b) && decide (B a (a.size - b.size - 1) = 46))) := by
  have h1 := size_list a
  have h2 := size_list b
  rw [← Lib.hasSuffix_of_drop, List.length_cons, ← h1, ← h2]
  by_cases hl : b.size + 1 ≤ a.size
  · rw [decide_eq_true hl, Bool.true_and, Bool.true_and]
    have hk : a.size - (b.size + 1) < a.data.toList.length := by omega
    rw [List.drop_eq_getElem_cons hk, show a.size - (b.size + 1) + 1 = a.size - b.size by omega]
    have e1 : B a (a.size - b.size - 1) = ((a.data.toList[a.size - (b.size + 1)]).toNat : Int) := by
      unfold B
      rw [List.getD_eq_getElem?_getD, show a.size - b.size - 1 = a.size - (b.size + 1) by omega, List.getElem?_eq_getElem hk, Option.getD_some]
    have e2 : (a.extract (a.size - b.size) a.size = b) ↔ a.data.toList.drop (a.size - b.size) = b.data.toList := by
      constructor
      · intro h
        have := congrArg (fun x => x.data.toList) h
        simp only [data_extract] at this
        rwa [List.take_of_length_le (by omega)] at this
      · intro h
        refine BA_ext ?_
        rw [data_extract, List.take_of_length_le (by omega)]; exact h
    rw [e1]
    by_cases q : a.data.toList[a.size - (b.size + 1)] = 46
    · rw [q]
      by_cases p : a.data.toList.drop (a.size - b.size) = b.data.toList
      · rw [p, decide_eq_true (e2.2 p)]; simp
      · rw [decide_eq_false (fun h => p (e2.1 h)), Bool.false_and, beq_eq_false_iff_ne]
        intro h; injection h with _ h; exact p h
    · have : ¬ (((a.data.toList[a.size - (b.size + 1)]).toNat : Int) = 46) := fun h => q (UInt8.toNat_inj.1 (by show _ = 46; omega))
      rw [decide_eq_false this, Bool.and_false, beq_eq_false_iff_ne]
      intro h; injection h with h _; exact q h
  · rw [decide_eq_false hl, Bool.false_and, Bool.false_and]
set_option maxRecDepth 4000 in
set_option maxHeartbeats 1000000 in
theorem risub_any (a b : ByteArray) (w : World) (ha : a.size ≤ maxLen) (hb : b.size ≤ maxLen) : Calls Tryd.prog 7 #[.string a, .string b] w fun e w' => e = .returned (.bool (subP a b)) ∧ Ext w w' := by
  have K := rname_any a w ha
  have HK2 := Lib.hid (fun w => rname_any b w hb)
  have e : subP a b = (okName a && okName b && (decide (a = b) || Lib.hasSuffix a.data.toList (46 :: b.data.toList))) := rfl
  rw [suffix_eq] at e
  have hq := @toList_beq a b
  have hq2 := @toList_beq (a.extract (a.size - b.size) a.size) b
  have hbz := size_max hb
  have haz := size_max ha
  have bk := B_bd a (a.size - b.size - 1)
  cases hA : okName a
  · rw [hA] at K e
    rw [Bool.false_and, Bool.false_and] at e
    go_enter Tryd.func7, Tryd.ntmps7
    rw [e]
    clear e hA hq hq2
    go_wp2_with (first | (go_at_call 15; refine K.mono ?_; rintro e w2 ⟨rfl, hx2⟩))
    go_ret; exact ⟨rfl, hx2⟩
  have has := okName_size hA
  rw [hA] at K e
  rw [Bool.true_and] at e
  cases hB : okName b
  · rw [hB] at HK2 e
    rw [Bool.false_and] at e
    go_enter Tryd.func7, Tryd.ntmps7
    rw [e]
    clear e hA hB hq hq2
    go_wp2_with (first | (go_at_call 15; first | (refine K.mono ?_; rintro e w2 ⟨rfl, hx2⟩; have hK2 := HK2.out w2; clear K) | (refine hK2.mono ?_; rintro e w3 ⟨rfl, hx3⟩)))
    go_ret; exact ⟨rfl, hx2.trans hx3⟩
  have hbs := okName_size hB
  rw [hB] at HK2 e
  rw [Bool.true_and] at e
  cases hab : decide (a = b)
  · rw [hab] at e hq
    rw [Bool.false_or] at e
    clear hab
    by_cases hl : b.size + 1 ≤ a.size
    · rw [decide_eq_true hl, Bool.true_and] at e
      have hl1 : (0 : Int) < (a.size : Int) - b.size := by omega
      have hi1 : ((a.size : Int) - b.size).toNat = a.size - b.size := by omega
      have hi2 : ((a.size : Int) - b.size - 1).toNat = a.size - b.size - 1 := by omega
      have hi3 : ((a.size : Int) - (b.size : Int)) ≤ a.size := by omega
      cases he : decide (a.extract (a.size - b.size) a.size = b)
      · rw [he] at e hq2
        rw [Bool.false_and] at e
        clear he
        go_enter Tryd.func7, Tryd.ntmps7
        rw [e]
        clear e hA hB
        go_wp2_with (first | (go_at_call 15; first | (refine K.mono ?_; rintro e w2 ⟨rfl, hx2⟩; have hK2 := HK2.out w2; clear K) | (refine hK2.mono ?_; rintro e w3 ⟨rfl, hx3⟩)))
        go_ret; exact ⟨rfl, hx2.trans hx3⟩
      · rw [he] at e hq2
        rw [Bool.true_and] at e
        clear he
        by_cases hd : B a (a.size - b.size - 1) = 46
        · rw [decide_eq_true hd] at e
          have hd' : (B a (a.size - b.size - 1) == 46) = true := by rw [beq_iff_eq]; exact hd
          clear hd
          go_enter Tryd.func7, Tryd.ntmps7
          rw [e]
          clear e hA hB
          go_wp2_with (first | (go_at_call 15; first | (refine K.mono ?_; rintro e w2 ⟨rfl, hx2⟩; have hK2 := HK2.out w2; clear K) | (refine hK2.mono ?_; rintro e w3 ⟨rfl, hx3⟩)))
          go_ret; exact ⟨rfl, hx2.trans hx3⟩
        · rw [decide_eq_false hd] at e
          have hd' : (B a (a.size - b.size - 1) == 46) = false := by rw [beq_eq_false_iff_ne]; exact hd
          clear hd
          go_enter Tryd.func7, Tryd.ntmps7
          rw [e]
          clear e hA hB
          go_wp2_with (first | (go_at_call 15; first | (refine K.mono ?_; rintro e w2 ⟨rfl, hx2⟩; have hK2 := HK2.out w2; clear K) | (refine hK2.mono ?_; rintro e w3 ⟨rfl, hx3⟩)))
          go_ret; exact ⟨rfl, hx2.trans hx3⟩
    · rw [decide_eq_false hl, Bool.false_and] at e
      have hl1 : ¬ (0 : Int) < (a.size : Int) - b.size := by omega
      go_enter Tryd.func7, Tryd.ntmps7
      rw [e]
      clear e hA hB
      go_wp2_with (first | (go_at_call 15; first | (refine K.mono ?_; rintro e w2 ⟨rfl, hx2⟩; have hK2 := HK2.out w2; clear K) | (refine hK2.mono ?_; rintro e w3 ⟨rfl, hx3⟩)))
      go_ret; exact ⟨rfl, hx2.trans hx3⟩
  · rw [hab] at e hq
    rw [Bool.true_or] at e
    clear hab
    go_enter Tryd.func7, Tryd.ntmps7
    rw [e]
    clear e hA hB
    go_wp2_with (first | (go_at_call 15; first | (refine K.mono ?_; rintro e w2 ⟨rfl, hx2⟩; have hK2 := HK2.out w2; clear K) | (refine hK2.mono ?_; rintro e w3 ⟨rfl, hx3⟩)))
    go_ret; exact ⟨rfl, hx2.trans hx3⟩
set_option maxRecDepth 4000 in
set_option maxHeartbeats 1000000 in
theorem rport_any (s : ByteArray) (hs : s.size ≤ maxLen) (w : World) : Calls Tryd.prog 14 #[.string s] w fun e w' => e = .returned (.tuple #[.int .i64 (portP s).1, .bool (portP s).2]) ∧ w = w' := by
  have K := decP_any s 65535 w hs
  have e : portP s = if decP s 65535 < 1 then (0, false) else (decP s 65535, true) := numP_decP s (by decide) (by decide)
  generalize decP s 65535 = d at *
  by_cases h : d < 1
  · rw [if_pos h] at e
    rw [e]; clear e
    go_enter Tryd.func14, Tryd.ntmps14
    go_wp2_with (first | (go_at_call 25; refine K.mono ?_; rintro e w2 ⟨rfl, rfl⟩))
    go_ret2; exact ⟨rfl, rfl⟩
  · rw [if_neg h] at e
    rw [e]; clear e
    go_enter Tryd.func14, Tryd.ntmps14
    go_wp2_with (first | (go_at_call 25; refine K.mono ?_; rintro e w2 ⟨rfl, rfl⟩))
    go_ret2; exact ⟨rfl, rfl⟩
end Go.Proofs.YtpdoddelnahlnaaDoor
