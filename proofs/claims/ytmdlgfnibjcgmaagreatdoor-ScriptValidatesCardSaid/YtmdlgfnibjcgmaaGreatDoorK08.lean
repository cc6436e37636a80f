/-
  Several texts joined: ScS.
-/
import Derived.Lib.EndianBits
import Derived.Deep.CutBlock
import Derived.Test.YtmdlgfnibjcgmaaGreatDoorK07
import Derived.Test.YtmdlgfnibjcgmaaGreatDoorK04
set_option maxHeartbeats 8000000
set_option maxRecDepth 10000
set_option linter.unusedVariables false
set_option linter.unusedSimpArgs false
namespace Go.Proofs.YtmdlgfnibjcgmaaGreatDoor
open Go.RowKit
def Rb (T : TypeId) (w : World) (b : Nat) : St -> Prop
 | .ok s => Blk w b [.string s, .int .i64 0] T
 | .error e => e ≠ 0 /\ ∃ s, Blk w b [.string s, .int .i64 e] T
theorem Rb.lt {T : TypeId} {w : World} {b : Nat} {x : St} (h : Rb T w b x) : b < w.heap.size := by
 cases x with
 | ok s => exact Blk.lt h
 | error e => obtain ⟨_, s, h⟩ := h; exact h.lt
theorem Rb.keep {T : TypeId} {w w' : World} {b : Nat} {x : St} {S : List Nat} (h : Rb T w b x) (k : Keep S w w') (hb : b ∉ S) : Rb T w' b x := by
 cases x with
 | ok s => exact Blk.keep h k hb
 | error e => obtain ⟨h0, s, h⟩ := h; exact ⟨h0, s, h.keep k hb⟩
theorem Rb.ext {T : TypeId} {w w' : World} {b : Nat} {x : St} (h : Rb T w b x) (k : Ext w w') : Rb T w' b x := h.keep (k.keep []) (by simp)
theorem kset (w : World) (b i : Nat) (v : Value) : Keep [b] w (w.setCell ⟨b, i, none⟩ v) := (Keep.refl [b] w).setCell (p := ⟨b, i, none⟩) (.inl (by simp)) v
theorem fail_any (c : Int) (hc : c ≠ 0) {b : Nat} {x : St} {w : World} (h : Rb 65 w b x) :
  Calls Tryz.prog 30 #[.pointer (some ⟨b, 0, none⟩), .int .i64 c] w fun e w' => e = .returned (.tuple #[]) /\ Rb 65 w' b (fl c x) /\ Keep [b] w w' := by
 cases x with
 | ok s =>
  have hb : Blk w b [.string s, .int .i64 0] 65 := h
  have c1 := hb.cell (i := 1) rfl
  have g1 := hb.free 1
  have HB := Lib.hid hb
  have HC := Lib.hid hc
  clear h hb hc
  go_enter Tryz.func30, Tryz.ntmps30
  go_wp2_with fail
  go_end0
  exact ⟨rfl, ⟨HC.out, s, Blk.set HB.out 1 (.int .i64 c)⟩, kset w b 1 _⟩
 | error e =>
  obtain ⟨h0, s, hb⟩ := h
  have c1 := hb.cell (i := 1) rfl
  have q1 : (e == 0) = false := by simp [h0]
  have HB := Lib.hid hb
  have H0 := Lib.hid h0
  clear hb hc
  go_enter Tryz.func30, Tryz.ntmps30
  go_wp2_with fail
  go_end0
  exact ⟨rfl, ⟨H0.out, s, HB.out⟩, Keep.refl _ _⟩
theorem byt_any (n : Nat) (hn : n <= 1000000) {b : Nat} {x : St} {w : World} (h : Rb 65 w b x) :
  Calls Tryz.prog 51 #[.pointer (some ⟨b, 0, none⟩), .int .i64 n] w fun e w' => e = .returned (.string (rt n x).1) /\ Rb 65 w' b (rt n x).2 /\ Keep [b] w w' := by
 cases x with
 | ok s =>
  have hb : Blk w b [.string s, .int .i64 0] 65 := h
  have c0 := hb.cell (i := 0) rfl
  have c1 := hb.cell (i := 1) rfl
  have g0 := hb.free 0
  have KF := Lib.hid (fail_any 3 (by decide) h)
  have HB := Lib.hid hb
  clear h hb
  by_cases hs : s.size < n
  ·have hs' : (s.size : Int) < n := by omega
   have HR : Hid (rt n (.ok s) = (⟨#[]⟩, .error 3)) := Lib.hid (by unfold rt rdt; simp only; rw [if_pos hs])
   go_enter Tryz.func51, Tryz.ntmps51
   go_upto_region 3 with (go_at_call 30; refine KF.out.mono ?_; rintro e w2 ⟨rfl, hr2, hk2⟩)
   obtain ⟨_, s2, hb2⟩ := hr2
   have HB2 := Lib.hid hb2
   have d1 := hb2.cell (i := 1) rfl
   clear c0 c1 g0 hb2
   go_wp2_with fail
   go_ret
   refine ⟨by rw [HR.out]; rfl, ?_, hk2⟩
   rw [HR.out]
   exact ⟨by decide, s2, HB2.out⟩
  ·have hs' : ¬ (s.size : Int) < n := by omega
   have hs2 : (n : Int) <= s.size := by omega
   have HR : Hid (rt n (.ok s) = (s.extract 0 n, .ok (s.extract n s.size))) := Lib.hid (by unfold rt rdt; simp only; rw [if_neg hs])
   go_enter Tryz.func51, Tryz.ntmps51
   go_wp2_with fail
   go_ret
   refine ⟨by rw [HR.out]; rfl, ?_, kset w b 0 _⟩
   rw [HR.out]
   exact Blk.set HB.out 0 _
 | error c =>
  obtain ⟨h0, s, hb⟩ := h
  have c1 := hb.cell (i := 1) rfl
  have q1 : (c == 0) = false := by simp [h0]
  have HB := Lib.hid hb
  have H0 := Lib.hid h0
  clear hb
  go_enter Tryz.func51, Tryz.ntmps51
  go_wp2_with fail
  go_ret
  exact ⟨rfl, ⟨H0.out, s, HB.out⟩, Keep.refl _ _⟩
theorem ext_ext (s : ByteArray) (i : Nat) (h : i < s.size) : (s.extract i s.size).extract 1 (s.extract i s.size).size = s.extract (i + 1) s.size := BA_ext (by
 have hl := size_list s
 rw [data_extract, data_extract, data_extract, size_list, data_extract, List.take_of_length_le (l := s.data.toList) (by omega)]
 rw [List.take_of_length_le (Nat.le_refl _), List.drop_drop])
theorem ext_hd (s : ByteArray) (i : Nat) (h : i < s.size) : (s.extract i s.size).extract 0 1 = str1 (B s i) := BA_ext (by
 have hl := size_list s
 rw [data_extract, data_extract, List.take_of_length_le (l := s.data.toList) (by omega), List.drop_zero]
 show _ = [UInt8.ofNat (B s i).toNat]
 rw [show s.data.toList.drop i = s.data.toList[i] :: s.data.toList.drop (i + 1) from List.drop_eq_getElem_cons (by omega)]
 unfold B
 rw [List.getD_eq_getElem?_getD, List.getElem?_eq_getElem (by omega)]
 simp)
theorem ext_sz (s : ByteArray) (i : Nat) : (s.extract i s.size).size = s.size - i := by rw [ByteArray.size_extract]; omega
theorem pow128 (i : Nat) : (2 : Int) ^ (7 * i) = 128 ^ i := by rw [Int.pow_mul]; rfl
theorem w64 {n : Int} (h0 : 0 <= n) (h1 : n < 18446744073709551616) : IntKind.u64.wrap n = n := by rw [IntKind.wrap_u64]; omega
theorem or_hi {i : Nat} (hi : i <= 9) {acc m : Int} (h0 : 0 <= acc) (h1 : acc < 128 ^ i) (m0 : 0 <= m) (m1 : m < 128) (m2 : i = 9 -> m <= 1) :
  IntKind.u64.wrap (m * 128 ^ i) = m * 128 ^ i /\ bits BinOp.or IntKind.u64 acc (m * 128 ^ i) = acc + m * 128 ^ i /\ acc + m * 128 ^ i < 18446744073709551616 /\ (i < 9 -> acc + m * 128 ^ i < 128 ^ (i + 1)) := by
 have hp : (0 : Int) < 128 ^ i := Int.pow_pos (by decide)
 have hm : 0 <= m * 128 ^ i := Int.mul_nonneg m0 (by omega)
 have key : m * 128 ^ i <= 9223372036854775808 /\ acc + m * 128 ^ i < 18446744073709551616 /\ (i < 9 -> acc + m * 128 ^ i < 128 ^ (i + 1)) := by
  have : i = 0 ∨ i = 1 ∨ i = 2 ∨ i = 3 ∨ i = 4 ∨ i = 5 ∨ i = 6 ∨ i = 7 ∨ i = 8 ∨ i = 9 := by omega
  rcases this with h | h | h | h | h | h | h | h | h | h <;> subst h <;> simp at h1 m2 ⊢ <;> omega
 have hw : IntKind.u64.wrap (m * 128 ^ i) = m * 128 ^ i := w64 hm (by omega)
 refine ⟨hw, ?_, key.2.1, key.2.2⟩
 exact bits_join_low .u64 64 (by decide) wraps_u64 (7 * i) acc (m * 128 ^ i) h0 (by rw [pow128]; exact h1) (by omega) hm (by rw [pow128]; exact Int.mul_emod_left _ _) (by omega)
theorem str1_B {v : Int} (h0 : 0 <= v) (h1 : v < 256) : B (str1 v) 0 = v := B_str1 h0 h1
def badc (i : Nat) (c : Int) : Bool := decide ((i = 9 /\ 1 < c) ∨ (0 < i /\ c = 0))
theorem uvd_end {s : ByteArray} {f i : Nat} {acc : Int} (h : ¬ i < s.size) : uvd s (f + 1) i acc = none := by unfold uvd; rw [if_pos (by omega)]
theorem uvd_bad {s : ByteArray} {f i : Nat} {acc : Int} (h : i < s.size) (hb : badc i (B s i) = true) : uvd s (f + 1) i acc = some none := by
 unfold badc at hb
 rw [decide_eq_true_eq] at hb
 unfold uvd; rw [if_neg (by omega), if_pos hb]
theorem uvd_fin {s : ByteArray} {f i : Nat} {acc : Int} (h : i < s.size) (hb : badc i (B s i) = false) (hc : B s i < 128) : uvd s (f + 1) i acc = some (some (acc + B s i * 128 ^ i, i + 1)) := by
 unfold badc at hb
 rw [decide_eq_false_iff_not] at hb
 unfold uvd; rw [if_neg (by omega), if_neg hb, if_pos hc]
theorem uvd_go {s : ByteArray} {f i : Nat} {acc : Int} (h : i < s.size) (hb : badc i (B s i) = false) (hc : ¬ B s i < 128) : uvd s (f + 1) i acc = uvd s f (i + 1) (acc + (B s i - 128) * 128 ^ i) := by
 unfold badc at hb
 rw [decide_eq_false_iff_not] at hb
 conv => lhs; unfold uvd
 rw [if_neg (by omega), if_neg hb, if_neg hc]
theorem rn_bd (lo hi : Int) (x : St) (h : 0 <= hi) : 0 <= (rn lo hi x).1 /\ (rn lo hi x).1 <= hi := by
 cases x with
 | error c => exact ⟨Int.le_refl _, h⟩
 | ok s =>
  have hn : rn lo hi (.ok s) = (match rdn lo hi s with | .ok (n, s') => (n, .ok s') | .error c => (0, .error c)) := rfl
  rcases hq : rdn lo hi s with c | ⟨n, s1⟩
  ·rw [hq] at hn; simp only at hn; rw [hn]; exact ⟨Int.le_refl _, h⟩
  ·rw [hq] at hn; simp only at hn; rw [hn]
   have := rdn_bd hq
   exact ⟨this.1, this.2.2.1⟩
theorem rn_none {lo hi : Int} {s : ByteArray} (h : uvd s 10 0 0 = none) : rn lo hi (.ok s) = (0, .error 3) := by
 unfold rn rdn; simp only; rw [h]
theorem rn_bad {lo hi : Int} {s : ByteArray} (h : uvd s 10 0 0 = some none) : rn lo hi (.ok s) = (0, .error 2) := by
 unfold rn rdn; simp only; rw [h]
theorem rn_out {lo hi : Int} {s : ByteArray} {n : Int} {k : Nat} (h : uvd s 10 0 0 = some (some (n, k))) (hb : n < lo ∨ hi < n) : rn lo hi (.ok s) = (0, .error 2) := by
 unfold rn rdn; simp only; rw [h]; simp only; rw [if_pos hb]
theorem rn_fine {lo hi : Int} {s : ByteArray} {n : Int} {k : Nat} (h : uvd s 10 0 0 = some (some (n, k))) (hb : ¬ (n < lo ∨ hi < n)) : rn lo hi (.ok s) = (n, .ok (s.extract k s.size)) := by
 unfold rn rdn; simp only; rw [h]; simp only; rw [if_neg hb]
theorem pnum_any (most : Nat) (hm : most < 18446744073709551616) {b : Nat} {x : St} {w : World} (h : Rb 65 w b x) :
  Calls Tryz.prog 50 #[.pointer (some ⟨b, 0, none⟩), .int .u64 most] w fun e w' => e = .returned (.int .u64 (rn 0 most x).1) /\ Rb 65 w' b (rn 0 most x).2 /\ Keep [b] w w' := by
 cases x with
 | error c =>
  obtain ⟨h0, s, hb⟩ := h
  have c1 := hb.cell (i := 1) rfl
  have q1 : (c == 0) = false := by simp [h0]
  have HB := Lib.hid hb
  have H0 := Lib.hid h0
  clear hb
  go_enter Tryz.func50, Tryz.ntmps50
  go_wp2_with fail
  go_loopw [5, 6, 7, 8, 9] (fun n sh s' c' l' wr => wr = w) (fun _ _ _ _ _ _ => 0)
  case atStart => rfl
  case round =>
   subst hrel
   go_wp2_with fail
   go_ret
   exact ⟨rfl, ⟨H0.out, s, HB.out⟩, Keep.refl _ _⟩
 | ok s =>
  have HS : Hid (Rb 65 w b (.ok (s.extract 0 s.size))) := Lib.hid (by rw [show s.extract 0 s.size = s from BA_ext (by rw [data_extract, List.drop_zero, size_list, List.take_length])]; exact h)
  clear h
  go_enter Tryz.func50, Tryz.ntmps50
  go_wp2_with fail
  go_loopw [5, 6, 7, 8, 9] (fun n sh s' c' l' wr => ∃ (i : Nat) (acc : Int), n = .int .u64 acc /\ sh = .int .i64 ((7 * i : Nat) : Int) /\ i <= 9 /\ 0 <= acc /\ Hid (acc < 128 ^ i) /\ Hid (uvd s 10 0 0 = uvd s (9 - i + 1) i acc) /\ Rb 65 wr b (.ok (s.extract i s.size)) /\ Keep [b] w wr) (fun _ sh _ _ _ _ => 70 - (intOf sh).toNat)
  case atStart => exact ⟨0, 0, rfl, rfl, by decide, by decide, Lib.hid (by decide), Lib.hid rfl, HS.out, Keep.refl _ _⟩
  case round =>
   obtain ⟨i, acc, rfl, rfl, hi, ha0, HA1, HU, hr, hk⟩ := hrel
   have hb : Blk wr b [.string (s.extract i s.size), .int .i64 0] 65 := hr
   have c1 := hb.cell (i := 1) rfl
   have KY := Lib.hid (byt_any 1 (by decide) hr)
   have HK := Lib.hid hk
   clear HS hr hb hk
   by_cases his : i < s.size
   ·have HR : Hid (rt 1 (.ok (s.extract i s.size)) = (str1 (B s i), .ok (s.extract (i + 1) s.size))) := Lib.hid (by
     unfold rt rdt
     simp only
     rw [if_neg (by rw [ext_sz]; omega), ext_ext s i his, ext_hd s i his])
    rw [HR.out] at KY
    have hB := B_bd s i
    have KT := Lib.hid (show ∃ t : ByteArray, t.size = 1 /\ B t 0 = B s i /\ Calls Tryz.prog 51 #[.pointer (some ⟨b, 0, none⟩), .int .i64 (1 : Nat)] wr (fun e w' => e = .returned (.string t) /\ Rb 65 w' b (.ok (s.extract (i + 1) s.size)) /\ Keep [b] wr w') from ⟨_, rfl, str1_B hB.1 hB.2, KY.out⟩)
    obtain ⟨t, ht1, ht0, hKT⟩ := KT.out
    have KT2 := Lib.hid hKT
    generalize hc : B s i = c at *
    have HC := Lib.hid hc
    have hz : (t.toList == []) = false := by
     rw [ByteArray.toList_eq]
     have hl := size_list t
     rw [ht1] at hl
     cases hd : t.data.toList with
     | nil => rw [hd] at hl; cases hl
     | cons a l => rfl
    clear KY KT hKT hc HR
    have qw : IntKind.u64.wrap c = c := w64 hB.1 (by omega)
    obtain ⟨l9, hl9⟩ : ∃ l9 : Bool, l9 = decide (i = 9) := ⟨_, rfl⟩
    have hq9 : (7 * (i : Int) == 63) = l9 := by rw [hl9, Bool.eq_iff_iff, beq_iff_eq, decide_eq_true_eq]; omega
    have HL9 := Lib.hid hl9
    clear hl9
    go_upto_region 9 with (go_at_call 51; refine KT2.out.mono ?_; rintro e w2 ⟨rfl, hr2, hk2⟩)
    clear hq9
    go_cut [38] from 26 to 37 (fun v wc => v = .bool (badc i c) /\ wc = w2)
    case first =>
     cases l9 with
     | true =>
      have hi9 : i = 9 := by have := HL9.out; simpa using this.symm
      subst hi9
      by_cases h1 : 1 < c
      ·go_wp2_with fail
       go_meet
       exact ⟨by unfold badc; simp [h1], rfl⟩
      ·have h1' : ¬ 1 < c := h1
       have h7 : (0 : Int) < 7 * 9 := by decide
       by_cases h0 : c = 0
       ·have h0' : (c == 0) = true := by simp [h0]
        have HC0 := Lib.hid h0
        clear h0
        go_wp2_with fail
        go_meet
        exact ⟨by unfold badc; simp [HC0.out], rfl⟩
       ·have h0' : (c == 0) = false := by simp [h0]
        have HC0 := Lib.hid h0
        clear h0
        go_wp2_with fail
        go_meet
        exact ⟨by unfold badc; have := HC0.out; simp [h1, this], rfl⟩
     | false =>
      have hi9 : i ≠ 9 := by have := HL9.out; simpa using this.symm
      have HI9 := Lib.hid hi9
      clear hi9
      by_cases h7 : 0 < i
      ·have h7' : (0 : Int) < 7 * (i : Int) := by omega
       by_cases h0 : c = 0
       ·have h0' : (c == 0) = true := by simp [h0]
        have HC0 := Lib.hid h0
        clear h0
        go_wp2_with fail
        go_meet
        exact ⟨by unfold badc; simp [HC0.out, h7], rfl⟩
       ·have h0' : (c == 0) = false := by simp [h0]
        have HC0 := Lib.hid h0
        clear h0
        go_wp2_with fail
        go_meet
        exact ⟨by unfold badc; have := HC0.out; have := HI9.out; simp [*], rfl⟩
      ·have h7' : ¬ (0 : Int) < 7 * (i : Int) := by omega
       go_wp2_with fail
       go_meet
       exact ⟨by unfold badc; have := HI9.out; simp [h7, this], rfl⟩
    obtain ⟨rfl, hwe⟩ := hcut
    replace hwe := hwe.symm
    subst hwe
    have KF := Lib.hid (fail_any 2 (by decide) hr2)
    have HK2 := Lib.hid (HK.out.trans hk2)
    clear HK hk2 HL9
    cases hbad : badc i c with
    | true =>
     have HRN : Hid (rn 0 most (.ok s) = (0, .error 2)) := Lib.hid (rn_bad (by rw [HU.out]; exact uvd_bad his (by rw [HC.out]; exact hbad)))
     clear hbad
     go_upto_region 15 with (go_at_call 30; refine KF.out.mono ?_; rintro e w3 ⟨rfl, hr3, hk3⟩)
     obtain ⟨_, s3, hb3⟩ := hr3
     have HB3 := Lib.hid hb3
     have d1 := hb3.cell (i := 1) rfl
     clear hb3 c1
     go_wp2_with fail
     go_ret
     refine ⟨by rw [HRN.out]; rfl, ?_, HK2.out.trans hk3⟩
     rw [HRN.out]
     exact ⟨by decide, s3, HB3.out⟩
    | false =>
     have hb9 : i = 9 -> c <= 1 := fun e => by
      unfold badc at hbad
      rw [decide_eq_false_iff_not] at hbad
      omega
     have ho := or_hi hi ha0 HA1.out (Int.emod_nonneg c (by decide)) (Int.emod_lt_of_pos c (by decide)) (m := c % 128) (fun e => by have := hb9 e; omega)
     rw [← pow128] at ho
     have hW : IntKind.u64.wrap (c % 128 * 2 ^ (7 * i)) = c % 128 * 2 ^ (7 * i) := ho.1
     obtain ⟨acc2, ha2⟩ : ∃ acc2, acc2 = acc + c % 128 * 2 ^ (7 * i) := ⟨_, rfl⟩
     have hO : bits BinOp.or IntKind.u64 acc (c % 128 * 2 ^ (7 * i)) = acc2 := by rw [ha2]; exact ho.2.1
     have HLT : Hid (acc2 < 18446744073709551616) := Lib.hid (by rw [ha2]; exact ho.2.2.1)
     have HA2 : Hid (i < 9 -> acc2 < 128 ^ (i + 1)) := Lib.hid (by rw [ha2]; exact ho.2.2.2)
     have hnn : 0 <= acc2 := by
      have : 0 <= c % 128 * 2 ^ (7 * i) := Int.mul_nonneg (Int.emod_nonneg c (by decide)) (Int.pow_nonneg (by decide))
      omega
     have HE2 : Hid (acc2 = acc + c % 128 * 128 ^ i) := Lib.hid (by rw [ha2, pow128])
     have HBAD := Lib.hid hbad
     have HB9 := Lib.hid hb9
     clear ha2 ho hbad hb9
     go_upto_region 12 with fail
     clear hW hO
     by_cases hc1 : c < 128
     ·have HUF : Hid (uvd s 10 0 0 = some (some (acc2, i + 1))) := Lib.hid (by
       rw [HU.out, uvd_fin his (by rw [HC.out]; exact HBAD.out) (by rw [HC.out]; exact hc1), HC.out, HE2.out, Int.emod_eq_of_lt hB.1 hc1])
      by_cases hmx : (most : Int) < acc2
      ·have HRN : Hid (rn 0 most (.ok s) = (0, .error 2)) := Lib.hid (rn_out HUF.out (.inr hmx))
       go_upto_region 15 with (go_at_call 30; refine KF.out.mono ?_; rintro e w3 ⟨rfl, hr3, hk3⟩)
       obtain ⟨_, s3, hb3⟩ := hr3
       have HB3 := Lib.hid hb3
       have d1 := hb3.cell (i := 1) rfl
       clear hb3 c1
       go_wp2_with fail
       go_ret
       refine ⟨by rw [HRN.out]; rfl, ?_, HK2.out.trans hk3⟩
       rw [HRN.out]
       exact ⟨by decide, s3, HB3.out⟩
      ·have HRN : Hid (rn 0 most (.ok s) = (acc2, .ok (s.extract (i + 1) s.size))) := Lib.hid (rn_fine HUF.out (by omega))
       have hb3 : Blk w2 b [.string (s.extract (i + 1) s.size), .int .i64 0] 65 := hr2
       have d1 := hb3.cell (i := 1) rfl
       have HB3 := Lib.hid hb3
       clear hb3 c1 hr2
       go_wp2_with fail
       go_ret
       refine ⟨by rw [HRN.out]; rfl, ?_, HK2.out⟩
       rw [HRN.out]
       exact HB3.out
     ·have hi8 : i < 9 := by
       rcases Nat.lt_or_ge i 9 with q | q
       ·exact q
       ·have := HB9.out (by omega); omega
      have hj1 : IntKind.i64.wrap (7 * (i : Int) + 7) = 7 * (i : Int) + 7 := IntWalk.i64_in _ (by omega)
      go_wp2_with fail
      refine ⟨⟨i + 1, acc2, rfl, by go_num, by omega, hnn, Lib.hid (HA2.out hi8), Lib.hid ?_, hr2, HK2.out⟩, ?_⟩
      ·rw [HU.out, uvd_go his (by rw [HC.out]; exact HBAD.out) (by rw [HC.out]; exact hc1), HC.out, HE2.out, show c % 128 = c - 128 by omega, show 9 - (i + 1) + 1 = 9 - i by omega]
      ·simp [intOf]; omega
   ·have HR : Hid (rt 1 (.ok (s.extract i s.size)) = (⟨#[]⟩, .error 3)) := Lib.hid (by
     unfold rt rdt
     simp only
     rw [if_pos (by rw [ext_sz]; omega)])
    rw [HR.out] at KY
    have HRN : Hid (rn 0 most (.ok s) = (0, .error 3)) := Lib.hid (rn_none (by rw [HU.out]; exact uvd_end his))
    go_upto_region 15 with (go_at_call 51; refine KY.out.mono ?_; rintro e w3 ⟨rfl, hr3, hk3⟩)
    obtain ⟨_, s3, hb3⟩ := hr3
    have HB3 := Lib.hid hb3
    have d1 := hb3.cell (i := 1) rfl
    clear hb3 c1
    go_wp2_with fail
    go_ret
    refine ⟨by rw [HRN.out]; rfl, ?_, HK.out.trans hk3⟩
    rw [HRN.out]
    exact ⟨by decide, s3, HB3.out⟩
theorem popt_any (p : Bool) (most : Nat) (hm : most <= 9223372036854775807) {b : Nat} {x : St} {w : World} (h : Rb 65 w b x) :
  Calls Tryz.prog 28 #[.pointer (some ⟨b, 0, none⟩), .bool p, .int .i64 most] w fun e w' => e = .returned (.int .i64 (ro p most x).1) /\ Rb 65 w' b (ro p most x).2 /\ Keep [b] w w' := by
 cases p with
 | false =>
  have HR := Lib.hid h
  clear h
  go_enter Tryz.func28, Tryz.ntmps28
  go_wp2_with fail
  go_ret
  exact ⟨rfl, HR.out, Keep.refl _ _⟩
 | true =>
  have KN := Lib.hid (pnum_any most (by omega) h)
  have q1 : IntKind.u64.wrap (most : Int) = (most : Int) := by rw [IntKind.wrap_u64]; omega
  have hbd := rn_bd 0 most x (by omega)
  show Calls _ _ _ _ fun e w' => e = .returned (.int .i64 (rn 0 most x).1) /\ Rb 65 w' b (rn 0 most x).2 /\ Keep [b] w w'
  generalize rn 0 most x = r at *
  have q2 : IntKind.i64.wrap r.1 = r.1 := IntWalk.i64_in _ (by omega)
  go_enter Tryz.func28, Tryz.ntmps28
  go_wp2_with (go_at_call 50; refine KN.out.mono ?_; rintro e w2 ⟨rfl, hr2, hk2⟩)
  go_ret
  exact ⟨rfl, hr2, hk2⟩
end Go.Proofs.YtmdlgfnibjcgmaaGreatDoor
