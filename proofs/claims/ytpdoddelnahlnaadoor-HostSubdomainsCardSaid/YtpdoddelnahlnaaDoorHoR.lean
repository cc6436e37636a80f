/-
  Contracts of the reference's ValidName.
-/
import Derived.Test.YtpdoddelnahlnaaDoorHoL
set_option linter.unusedSimpArgs false
set_option linter.unusedVariables false
namespace Go.Proofs.YtpdoddelnahlnaaDoor
open Go.RowKit
set_option maxRecDepth 4000 in
set_option maxHeartbeats 4000000 in
theorem rname_any (s : ByteArray) (w : World) (hs : s.size ≤ maxLen) : Calls Tryd.prog 15 #[.string s] w fun e w' => e = .returned (.bool (okName s)) ∧ Ext w w' := by
  by_cases h0 : (s.size : Int) < 1
  · have e : okName s = false := by
      have : parts 46 s = [s] := by
        have h1 : s.data.toList = [] := List.eq_nil_of_length_eq_zero (by rw [← size_list]; omega)
        unfold parts; rw [h1]
        have : s = ⟨#[]⟩ := BA_ext h1
        subst this; rfl
      unfold okName
      rw [this, List.all_cons, okLab_no (by omega), Bool.false_and, Bool.and_false, Bool.false_and]
    go_enter Tryd.func15, Tryd.ntmps15
    rw [e]; clear e; go_wp2; go_ret; exact ⟨rfl, Ext.refl _⟩
  by_cases h1 : (253 : Int) < s.size
  · have e : okName s = false := by unfold okName; rw [decide_eq_false (show ¬ s.size ≤ 253 by omega)]; rfl
    go_enter Tryd.func15, Tryd.ntmps15
    rw [e]; clear e; go_wp2; go_ret; exact ⟨rfl, Ext.refl _⟩
  have e : okName s = ((parts 46 s).all okLab && !(allB dig (lastL (parts 46 s)) (lastL (parts 46 s)).size)) := by unfold okName; rw [decide_eq_true (show s.size ≤ 253 by omega)]; rfl
  have hpz : ∀ x ∈ parts 46 s, x.size ≤ maxLen := fun x hx => Nat.le_trans (parts_size hx) hs
  have hsplit := fun w => rsplit_any s 46 w (by omega)
  have hpos := parts_pos 46 s
  have hpl := parts_len 46 s
  have hpl2 : (parts 46 s).length ≤ 254 := by omega
  clear hpl
  rw [e]
  generalize parts 46 s = ps at *
  have HS := Lib.hid hsplit; have HPZ := Lib.hid hpz
  clear hsplit hpz e
  have HL := Lib.hid (lastL_get hpos)
  go_enter Tryd.func15, Tryd.ntmps15
  go_wp2_with (first | (go_at_call 23; refine (HS.out _).mono ?_; rintro e w1 ⟨b, cap, rfl, hbl, hsc, hcap, hx⟩; refine Hid.out ?_))
  refine Lib.hid ?_
  go_wp2_with fail
  go_loopw [4, 5, 6, 7, 8] (fun c _ _ _ _ wr => ∃ k : Nat, k ≤ ps.length ∧ c = .int .i64 k ∧ (ps.take k).all okLab = true ∧ (k = ps.length → allB dig (lastL ps) (lastL ps).size = false) ∧ StrCells wr b ps ∧ Ext w wr) (fun c _ _ _ _ _ => ps.length - (intOf c).toNat)
  case atStart => exact ⟨0, Nat.zero_le _, rfl, rfl, fun h => by omega, hsc, hx⟩
  case round =>
    obtain ⟨k, hk, rfl, hok, hla, hsc, hx⟩ := hrel
    have HOK := Lib.hid hok; have HLA := Lib.hid hla; clear hok hla
    have hcp : ps.length ≤ cap := hcap
    by_cases hlt : k < ps.length
    · have hlt' : (k : Int) < ps.length := by omega
      obtain ⟨x, hxk⟩ : ∃ x, ps[k]? = some x := ⟨ps[k]'hlt, List.getElem?_eq_getElem _⟩
      have hcell := hsc.2 k x hxk
      have HX := Lib.hid hxk; clear hxk
      have hxz := size_max (HPZ.out x (List.mem_of_getElem? HX.out))
      have HE0 : Hid (okLab x = false → (ps.all okLab && !allB dig (lastL ps) (lastL ps).size) = false) := Lib.hid fun hv => by
        cases e : ps.all okLab with
        | false => rfl
        | true => have := List.all_eq_true.1 e x (List.mem_of_getElem? HX.out); rw [hv] at this; cases this
      have b0 := B_bd x 0
      have b1 := B_bd x (x.size - 1)
      by_cases g1 : (x.size : Int) < 1
      · have HE0 := Lib.hid (HE0.out (okLab_no (by omega)))
        go_wp2_with fail
        go_ret; exact ⟨by rw [HE0.out]; rfl, hx⟩
      by_cases g2 : (63 : Int) < x.size
      · have HE0 := Lib.hid (HE0.out (okLab_no (by omega)))
        go_wp2_with fail
        go_ret; exact ⟨by rw [HE0.out]; rfl, hx⟩
      by_cases g3 : B x 0 = 45
      · have HE0 := Lib.hid (HE0.out (okLab_no (fun h => h.1.2.2.1 g3)))
        have g3' : (B x 0 == 45) = true := by rw [beq_iff_eq]; exact g3
        clear g3
        go_wp2_with fail
        go_ret; exact ⟨by rw [HE0.out]; rfl, hx⟩
      have g3' : (B x 0 == 45) = false := by rw [beq_eq_false_iff_ne]; exact g3
      have hi : ((x.size : Int) - 1).toNat = x.size - 1 := by omega
      by_cases g4 : B x (x.size - 1) = 45
      · have HE0 := Lib.hid (HE0.out (okLab_no (fun h => h.1.2.2.2 g4)))
        have g4' : (B x (x.size - 1) == 45) = true := by rw [beq_iff_eq]; exact g4
        clear g3 g4
        go_wp2_with fail
        go_ret; exact ⟨by rw [HE0.out]; rfl, hx⟩
      have g4' : (B x (x.size - 1) == 45) = false := by rw [beq_eq_false_iff_ne]; exact g4
      have HQ : Hid (allB lch x x.size = true → okLab x = true) := Lib.hid fun h => (okLab_iff x).2 ⟨⟨by omega, by omega, g3, g4⟩, h⟩
      clear g3 g4
      obtain ⟨wo, hwo⟩ : ∃ wo : World, wo = wr := ⟨_, rfl⟩
      rw [← hwo]; rw [← hwo] at hsc hx hcell
      clear hwo
      go_wp2_with fail
      go_loop [6, 7, 8] (fun d c _ => ∃ j : Nat, j ≤ x.size ∧ c = .int .i64 j ∧ d = .bool (allB dig x j) ∧ allB lch x j = true) (fun _ c _ => x.size - (intOf c).toNat)
      case atStart => exact ⟨0, Nat.zero_le _, rfl, rfl, rfl⟩
      case round =>
        obtain ⟨j, hj, rfl, rfl, hlc⟩ := hrel
        have HLC := Lib.hid hlc; clear hlc
        by_cases hlt2 : j < x.size
        · have hlt3 : (j : Int) < x.size := by omega
          have bj := B_bd x j
          have HN : Hid (lch (B x j) = false → (ps.all okLab && !allB dig (lastL ps) (lastL ps).size) = false) := Lib.hid fun h => HE0.out (okLab_no (fun h2 => by rw [allB_stop hlt2 h] at h2; exact absurd h2.2 (by simp)))
          by_cases a1 : 97 ≤ B x j ∧ B x j ≤ 122
          · have HGC : Hid (lch (B x j) = true) := Lib.hid (by unfold lch; exact decide_eq_true (by omega))
            have HDG : Hid (dig (B x j) = false) := Lib.hid (by unfold dig; exact decide_eq_false (by omega))
            have c1 := a1.1
            have c2 := a1.2
            have c3 : ¬ B x j ≤ 57 := by omega
            clear a1 HN HE0
            cases hdj : allB dig x j
            · have HDJ := Lib.hid hdj; clear hdj
              go_wp2_with fail
              go_roundw
              case rel => exact ⟨j + 1, by omega, by go_num, by rw [allB, HDJ.out, HDG.out]; rfl, by rw [allB, HLC.out, HGC.out]; rfl⟩
              case measure => simp [intOf]; omega
            · have HDJ := Lib.hid hdj; clear hdj
              go_wp2_with fail
              go_roundw
              case rel => exact ⟨j + 1, by omega, by go_num, by rw [allB, HDJ.out, HDG.out]; rfl, by rw [allB, HLC.out, HGC.out]; rfl⟩
              case measure => simp [intOf]; omega
          by_cases a2 : 48 ≤ B x j ∧ B x j ≤ 57
          · have HGC : Hid (lch (B x j) = true) := Lib.hid (by unfold lch; exact decide_eq_true (by omega))
            have HDG : Hid (dig (B x j) = true) := Lib.hid (by unfold dig; exact decide_eq_true (by omega))
            have c1 := a2.1
            have c2 := a2.2
            clear a1 a2 HN HE0
            cases hdj : allB dig x j
            · have HDJ := Lib.hid hdj; clear hdj
              go_wp2_with fail
              go_roundw
              case rel => exact ⟨j + 1, by omega, by go_num, by rw [allB, HDJ.out, HDG.out]; rfl, by rw [allB, HLC.out, HGC.out]; rfl⟩
              case measure => simp [intOf]; omega
            · have HDJ := Lib.hid hdj; clear hdj
              go_wp2_with fail
              go_roundw
              case rel => exact ⟨j + 1, by omega, by go_num, by rw [allB, HDJ.out, HDG.out]; rfl, by rw [allB, HLC.out, HGC.out]; rfl⟩
              case measure => simp [intOf]; omega
          by_cases a3 : B x j = 45
          · have HGC : Hid (lch (B x j) = true) := Lib.hid (by unfold lch; exact decide_eq_true (by omega))
            have HDG : Hid (dig (B x j) = false) := Lib.hid (by unfold dig; exact decide_eq_false (by omega))
            have c1 : (B x j == 45) = true := by rw [beq_iff_eq]; exact a3
            have c2 : B x j < 48 := by omega
            clear a1 a2 a3 HN HE0
            cases hdj : allB dig x j
            · have HDJ := Lib.hid hdj; clear hdj
              go_wp2_with fail
              go_roundw
              case rel => exact ⟨j + 1, by omega, by go_num, by rw [allB, HDJ.out, HDG.out]; rfl, by rw [allB, HLC.out, HGC.out]; rfl⟩
              case measure => simp [intOf]; omega
            · have HDJ := Lib.hid hdj; clear hdj
              go_wp2_with fail
              go_roundw
              case rel => exact ⟨j + 1, by omega, by go_num, by rw [allB, HDJ.out, HDG.out]; rfl, by rw [allB, HLC.out, HGC.out]; rfl⟩
              case measure => simp [intOf]; omega
          have HE0 := Lib.hid (HN.out (by unfold lch; exact decide_eq_false (by omega)))
          have c1 : (B x j == 45) = false := by rw [beq_eq_false_iff_ne]; exact a3
          by_cases c2 : B x j < 48
          · clear a1 a2 a3 HN
            go_wp2_with fail
            go_ret; exact ⟨by rw [HE0.out]; rfl, hx⟩
          by_cases c3 : B x j < 97
          · have c4 : ¬ B x j ≤ 57 := by omega
            have c5 : 48 ≤ B x j := by omega
            clear a1 a2 a3 HN c2
            go_wp2_with fail
            go_ret; exact ⟨by rw [HE0.out]; rfl, hx⟩
          · have c4 : ¬ B x j ≤ 122 := by omega
            have c5 : 97 ≤ B x j := by omega
            have c6 : ¬ B x j ≤ 57 := by omega
            have c7 : 48 ≤ B x j := by omega
            clear a1 a2 a3 HN c2 c3
            go_wp2_with fail
            go_ret; exact ⟨by rw [HE0.out]; rfl, hx⟩
        · obtain rfl : j = x.size := by omega
          have HLB := Lib.hid (HQ.out HLC.out)
          clear HE0
          cases hd : allB dig x x.size
          · have HD := Lib.hid hd
            clear hd
            go_wp2_with fail
            go_roundw
            case rel => exact ⟨k + 1, by omega, by go_num, by rw [List.take_add_one, HX.out, List.all_append, HOK.out]; simp [HLB.out], fun h => by
              have e : lastL ps = x := by have h1 := HL.out; rw [← h, Nat.add_sub_cancel, HX.out] at h1; exact (Option.some.inj h1).symm
              rw [e]; exact HD.out, hsc, hx⟩
            case measure => simp [intOf]; omega
          · have HD := Lib.hid hd
            clear hd
            by_cases hk1 : k + 1 = ps.length
            · have e : lastL ps = x := by have h1 := HL.out; rw [← hk1, Nat.add_sub_cancel, HX.out] at h1; exact (Option.some.inj h1).symm
              have E : Hid ((ps.all okLab && !allB dig (lastL ps) (lastL ps).size) = false) := Lib.hid (by rw [e, HD.out]; simp)
              have hq : ((k : Int) == (ps.length : Int) - 1) = true := by rw [beq_iff_eq]; omega
              clear e hk1
              go_wp2_with fail
              go_ret; exact ⟨by rw [E.out]; rfl, hx⟩
            · have hq : ((k : Int) == (ps.length : Int) - 1) = false := by rw [beq_eq_false_iff_ne]; omega
              go_wp2_with fail
              go_roundw
              case rel => exact ⟨k + 1, by omega, by go_num, by rw [List.take_add_one, HX.out, List.all_append, HOK.out]; simp [HLB.out], fun h => absurd h hk1, hsc, hx⟩
              case measure => simp [intOf]; omega
    · obtain rfl : k = ps.length := by omega
      have E : Hid ((ps.all okLab && !allB dig (lastL ps) (lastL ps).size) = true) := Lib.hid (by
        have h1 := HOK.out
        rw [List.take_of_length_le (Nat.le_refl _)] at h1
        rw [h1, HLA.out rfl]; rfl)
      go_wp2_with fail
      go_ret; exact ⟨by rw [E.out]; rfl, hx⟩
end Go.Proofs.YtpdoddelnahlnaaDoor
