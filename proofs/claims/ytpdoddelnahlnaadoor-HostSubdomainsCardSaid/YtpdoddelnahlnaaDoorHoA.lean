/-
  Contracts of strings.Trim at the two sets, host.validLabel, host.validName.
-/
import Derived.Test.YtpdoddelnahlnaaDoorHoSpec
import Derived.Test.YtpdoddelnahlnaaDoorIpQ
import Derived.Shelf.Strings.SlTrimAscii
set_option linter.unusedSimpArgs false
set_option linter.unusedVariables false
namespace Go.Proofs.YtpdoddelnahlnaaDoor
open Go.RowKit
theorem trim_cs (s cutset : ByteArray) (hs : s.size ≤ maxLen) (hcs : cutset.size < 4294967281) (hasc : cutset.data.toList.all (fun b => decide (b.toNat < 128)) = true) (w : World) :
    Calls Tryd.prog 28 #[.string s, .string cutset] w fun e w' => e = .returned (.string ⟨(Lib.trimS s.data.toList cutset.data.toList).toArray⟩) ∧ Ext w w' :=
  Any.strings_Trim_laid Tryd.lays160 (by kernel_rfl) s cutset w (size_max hs) hcs (ascii_of_all hasc)
theorem trim_lab_any (s : ByteArray) (hs : s.size ≤ maxLen) (w : World) : Calls Tryd.prog 28 #[.string s, .string ⟨#[97, 98, 99, 100, 101, 102, 103, 104, 105, 106, 107, 108, 109, 110, 111, 112, 113, 114, 115, 116, 117, 118, 119, 120, 121, 122, 48, 49, 50, 51, 52, 53, 54, 55, 56, 57, 45]⟩] w fun e w' =>
    ∃ t : ByteArray, e = .returned (.string t) ∧ ((t.size : Int) < 1 ↔ allB lch s s.size = true) ∧ Ext w w' := by
  refine (trim_cs s ⟨labelCs.toArray⟩ hs (by decide) (by decide) w).mono fun e w' ⟨h1, h2⟩ => ⟨_, h1, ?_, h2⟩
  rw [← trim_lab]
  show ((_ : Nat) : Int) < 1 ↔ _
  have e : (⟨(Lib.trimS s.data.toList labelCs).toArray⟩ : ByteArray).size = (Lib.trimS s.data.toList labelCs).length := by simp [ByteArray.size]
  rw [show (⟨labelCs.toArray⟩ : ByteArray).data.toList = labelCs from rfl, e]; omega
theorem trim_dig_any (s : ByteArray) (hs : s.size ≤ maxLen) (w : World) : Calls Tryd.prog 28 #[.string s, .string ⟨#[48, 49, 50, 51, 52, 53, 54, 55, 56, 57]⟩] w fun e w' =>
    ∃ t : ByteArray, e = .returned (.string t) ∧ ((t.size : Int) < 1 ↔ allB dig s s.size = true) ∧ Ext w w' := by
  refine (trim_cs s ⟨digCs.toArray⟩ hs (by decide) (by decide) w).mono fun e w' ⟨h1, h2⟩ => ⟨_, h1, ?_, h2⟩
  rw [← trim_dig]
  show ((_ : Nat) : Int) < 1 ↔ _
  have e : (⟨(Lib.trimS s.data.toList digCs).toArray⟩ : ByteArray).size = (Lib.trimS s.data.toList digCs).length := by simp [ByteArray.size]
  rw [show (⟨digCs.toArray⟩ : ByteArray).data.toList = digCs from rfl, e]; omega
theorem okLab_iff (s : ByteArray) : okLab s = true ↔ (1 ≤ s.size ∧ s.size ≤ 63 ∧ B s 0 ≠ 45 ∧ B s (s.size - 1) ≠ 45) ∧ allB lch s s.size = true := by
  unfold okLab; rw [Bool.and_eq_true, decide_eq_true_eq]
theorem okLab_no {s : ByteArray} (h : ¬ ((1 ≤ s.size ∧ s.size ≤ 63 ∧ B s 0 ≠ 45 ∧ B s (s.size - 1) ≠ 45) ∧ allB lch s s.size = true)) : okLab s = false := by
  rw [Bool.eq_false_iff, Ne, okLab_iff]; exact h
set_option maxRecDepth 4000 in
set_option maxHeartbeats 1000000 in
theorem vlab_any (s : ByteArray) (hs : s.size ≤ maxLen) (w : World) : Calls Tryd.prog 27 #[.string s] w fun e w' => e = .returned (.bool (okLab s)) ∧ Ext w w' := by
  have HT := Lib.hid (trim_lab_any s hs)
  replace hs := size_max hs
  have b0 := B_bd s 0
  have b1 := B_bd s (s.size - 1)
  go_enter Tryd.func27, Tryd.ntmps27
  by_cases h1 : (s.size : Int) < 1
  · have e : okLab s = false := okLab_no (by omega)
    rw [e]; clear HT; go_wp2; go_ret; exact ⟨rfl, Ext.refl _⟩
  by_cases h2 : (63 : Int) < s.size
  · have e : okLab s = false := okLab_no (by omega)
    rw [e]; clear HT; go_wp2; go_ret; exact ⟨rfl, Ext.refl _⟩
  by_cases h3 : B s 0 = 45
  · have e : okLab s = false := okLab_no (fun h => h.1.2.2.1 h3)
    have h3' : (B s 0 != 45) = false := by rw [bne_eq_false_iff_eq]; exact h3
    rw [e]; clear HT h3; go_wp2; go_ret; exact ⟨rfl, Ext.refl _⟩
  have h3' : (B s 0 != 45) = true := by rw [bne_iff_ne]; exact h3
  have hi : ((s.size : Int) - 1).toNat = s.size - 1 := by omega
  by_cases h4 : B s (s.size - 1) = 45
  · have e : okLab s = false := okLab_no (fun h => h.1.2.2.2 h4)
    have h4' : (B s (s.size - 1) != 45) = false := by rw [bne_eq_false_iff_eq]; exact h4
    rw [e]; clear HT h3 h4; go_wp2; go_ret; exact ⟨rfl, Ext.refl _⟩
  have h4' : (B s (s.size - 1) != 45) = true := by rw [bne_iff_ne]; exact h4
  have HE := Lib.hid (okLab_iff s)
  have H1 := Lib.hid h1
  have H3 := Lib.hid h3
  have H4 := Lib.hid h4
  clear h3 h4
  by_cases h5 : allB lch s s.size = true
  · have e : okLab s = true := HE.out.2 ⟨⟨by omega, by omega, H3.out, H4.out⟩, h5⟩
    have H5 := Lib.hid h5
    rw [e]; clear HE h5 e
    go_wp2_with (first | (go_at_call 28; refine (HT.out _).mono ?_; rintro e w1 ⟨t, rfl, ht0, hx⟩; have ht := ht0.2 H5.out; clear ht0))
    go_ret; exact ⟨rfl, hx⟩
  · have e : okLab s = false := okLab_no (fun h => h5 h.2)
    have H5 := Lib.hid h5
    rw [e]; clear HE h5 e
    go_wp2_with (first | (go_at_call 28; refine (HT.out _).mono ?_; rintro e w1 ⟨t, rfl, ht0, hx⟩; have ht : decide ((t.size : Int) < 1) = false := decide_eq_false (fun h => H5.out (ht0.1 h)); clear ht0))
    go_ret; exact ⟨rfl, hx⟩
theorem splitc_len (c : UInt8) : ∀ l : List UInt8, (splitc c l).length ≤ l.length + 1
  | [] => by simp [splitc]
  | x :: l => by
    have ih := splitc_len c l
    rw [splitc]
    split
    · simp; omega
    · split
      · simp
      · rename_i e; rw [e] at ih; simp at ih ⊢; omega
theorem parts_len (c : UInt8) (s : ByteArray) : (parts c s).length ≤ s.size + 1 := by
  unfold parts; rw [List.length_map, size_list]; exact splitc_len c _
theorem lastL_get {ps : List ByteArray} (h : 0 < ps.length) : ps[ps.length - 1]? = some (lastL ps) := by
  unfold lastL
  rw [List.getLast?_eq_getElem?, List.getElem?_eq_getElem (by omega)]; rfl
set_option maxRecDepth 4000 in
set_option maxHeartbeats 1000000 in
theorem vname_any (s : ByteArray) (w : World) (henv : Env w) (hs : s.size ≤ maxLen) : Calls Tryd.prog 16 #[.string s] w fun e w' => e = .returned (.bool (okName s)) ∧ Ext w w' := by
  by_cases h1 : (253 : Int) < s.size
  · have e : okName s = false := by unfold okName; rw [decide_eq_false (show ¬ s.size ≤ 253 by omega)]; rfl
    go_enter Tryd.func16, Tryd.ntmps16
    rw [e]; clear e; go_wp2; go_ret; exact ⟨rfl, Ext.refl _⟩
  have e : okName s = ((parts 46 s).all okLab && !(allB dig (lastL (parts 46 s)) (lastL (parts 46 s)).size)) := by unfold okName; rw [decide_eq_true (show s.size ≤ 253 by omega)]; rfl
  have hpz : ∀ x ∈ parts 46 s, x.size ≤ maxLen := fun x hx => Nat.le_trans (parts_size hx) hs
  have hsplit := fun w he => split_any s 46 w he (by omega)
  have hpos := parts_pos 46 s
  have hpl := parts_len 46 s
  have hpl2 : (parts 46 s).length ≤ 254 := by omega
  clear hpl
  rw [e]
  generalize parts 46 s = ps at *
  have HS := Lib.hid hsplit; have HPZ := Lib.hid hpz
  clear hsplit hpz e
  have hll := lastL_get hpos
  have HL := Lib.hid hll
  have HTD := Lib.hid (trim_dig_any (lastL ps) (HPZ.out _ (List.mem_of_getElem? hll)))
  clear hll
  go_enter Tryd.func16, Tryd.ntmps16
  go_wp2_with (first | (go_at_call 26; refine (HS.out _ henv).mono ?_; rintro e w1 ⟨b, cap, rfl, hbl, hsc, hcap, hx⟩; refine Hid.out ?_))
  refine Lib.hid ?_
  go_wp2_with fail
  go_loopw [5, 13] (fun _ c wr => ∃ k : Nat, k ≤ ps.length ∧ c = .int .i64 k ∧ (ps.take k).all okLab = true ∧ StrCells wr b ps ∧ Ext w wr) (fun _ c _ => ps.length - (intOf c).toNat)
  case atStart => exact ⟨0, Nat.zero_le _, rfl, rfl, hsc, hx⟩
  case round =>
    obtain ⟨k, hk, rfl, hok, hsc, hx⟩ := hrel
    have HOK := Lib.hid hok; clear hok
    have hcp : ps.length ≤ cap := hcap
    by_cases hlt : k < ps.length
    · have hlt' : (k : Int) < ps.length := by omega
      obtain ⟨x, hxk⟩ : ∃ x, ps[k]? = some x := ⟨ps[k]'hlt, List.getElem?_eq_getElem _⟩
      have hcell := hsc.2 k x hxk
      have HX := Lib.hid hxk; clear hxk
      have HV := Lib.hid (vlab_any x (HPZ.out x (List.mem_of_getElem? HX.out)) wr)
      cases hv : okLab x with
      | false =>
        rw [hv] at HV
        have E : Hid (ps.all okLab = false) := Lib.hid (by
          cases e : ps.all okLab with
          | false => rfl
          | true => have := List.all_eq_true.1 e x (List.mem_of_getElem? HX.out); rw [hv] at this; cases this)
        clear hv
        go_wp2_with (first | (go_at_call 27; refine (HV.out).mono ?_; rintro e w2 ⟨rfl, hx2⟩))
        go_ret; exact ⟨by rw [E.out]; rfl, hx.trans hx2⟩
      | true =>
        rw [hv] at HV
        have HV2 := Lib.hid hv
        clear hv
        go_wp2_with (first | (go_at_call 27; refine (HV.out).mono ?_; rintro e w2 ⟨rfl, hx2⟩))
        go_roundw
        case rel => exact ⟨k + 1, by omega, by go_num, by rw [List.take_add_one, HX.out, List.all_append, HOK.out]; simp [HV2.out], hsc.ext hx2, hx.trans hx2⟩
        case measure => simp [intOf]; omega
    · obtain rfl : k = ps.length := by omega
      have E : Hid (ps.all okLab = true) := Lib.hid (by have := HOK.out; rwa [List.take_of_length_le (Nat.le_refl _)] at this)
      have hcell := hsc.2 _ _ HL.out
      have hi : ((ps.length : Int) - 1).toNat = ps.length - 1 := by omega
      generalize hLL : lastL ps = y at *
      have HLL := Lib.hid hLL; clear hLL
      by_cases h5 : allB dig y y.size = true
      · have H5 := Lib.hid h5; clear h5
        go_wp2_with (first | (go_at_call 28; refine (HTD.out _).mono ?_; rintro e w2 ⟨t, rfl, ht0, hx2⟩; have ht := ht0.2 H5.out; clear ht0))
        go_ret; exact ⟨by rw [E.out, HLL.out, H5.out]; rfl, hx.trans hx2⟩
      · have H5 := Lib.hid (Bool.eq_false_iff.2 h5); have H6 := Lib.hid h5; clear h5
        go_wp2_with (first | (go_at_call 28; refine (HTD.out _).mono ?_; rintro e w2 ⟨t, rfl, ht0, hx2⟩; have ht : decide ((t.size : Int) < 1) = false := decide_eq_false (fun h => H6.out (ht0.1 h)); clear ht0))
        go_ret; exact ⟨by rw [E.out, HLL.out, H5.out]; rfl, hx.trans hx2⟩
end Go.Proofs.YtpdoddelnahlnaaDoor
