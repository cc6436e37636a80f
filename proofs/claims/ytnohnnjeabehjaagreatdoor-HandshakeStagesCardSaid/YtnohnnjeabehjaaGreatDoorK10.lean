/-
  Several texts joined: HoSpec, HbSpec, HoA.
-/
import Derived.Lib.SlTrimSet
import Derived.Lib.Strings
import Derived.Lib.LastIndexByte
import Derived.Lib.CountLaws
import Derived.Test.YtnohnnjeabehjaaGreatDoorK02
import Derived.Shelf.Strings.SlTrimAscii
import Derived.Test.YtnohnnjeabehjaaGreatDoorK06
set_option maxHeartbeats 1000000
set_option maxRecDepth 20000
set_option linter.unusedVariables false
set_option linter.unusedSimpArgs false
namespace Go.Proofs.YtnohnnjeabehjaaGreatDoor
def allB (p : Int -> Bool) (s : ByteArray) : Nat -> Bool
 | 0 => true
 | k + 1 => allB p s k && p (B s k)
theorem allB_iff {p : Int -> Bool} {s : ByteArray} : ∀ {k : Nat}, allB p s k = true ↔ ∀ j, j < k -> p (B s j) = true
 | 0 => ⟨fun _ j hj => by omega, fun _ => rfl⟩
 | k + 1 => by
  rw [allB, Bool.and_eq_true, allB_iff]
  refine ⟨fun ⟨h1, h2⟩ j hj => ?_, fun h => ⟨fun j hj => h j (by omega), h k (by omega)⟩⟩
  by_cases e : j = k
  ·subst e; exact h2
  ·exact h1 j (by omega)
theorem allDig_allB (s : ByteArray) : ∀ k, allDig s k = allB dig s k
 | 0 => rfl
 | k + 1 => by rw [allDig, allB, allDig_allB s k]
theorem allB_stop {p : Int -> Bool} {s : ByteArray} {k n : Nat} (hk : k < n) (h : p (B s k) = false) : allB p s n = false := by
 cases e : allB p s n with
 | false => rfl
 | true => have := allB_iff.1 e k hk; rw [h] at this; cases this
theorem list_B {s : ByteArray} {p : Int -> Bool} {q : UInt8 -> Bool} (h : ∀ x : UInt8, q x = p x.toNat) : (∀ x ∈ s.data.toList, q x = true) ↔ allB p s s.size = true := by
 rw [allB_iff]
 constructor
 ·intro hx j hj
  rw [size_list] at hj
  unfold B
  rw [← h]
  refine hx _ ?_
  rw [List.getD_eq_getElem?_getD, List.getElem?_eq_getElem hj, Option.getD_some]
  exact List.getElem_mem hj
 ·intro hx x hm
  obtain ⟨j, hj, e⟩ := List.mem_iff_getElem.1 hm
  have := hx j (by rw [size_list]; exact hj)
  unfold B at this
  rw [List.getD_eq_getElem?_getD, List.getElem?_eq_getElem hj, Option.getD_some, e] at this
  rw [h]; exact this
theorem dropWhile_nil8 {p : UInt8 -> Bool} : ∀ {l : List UInt8}, l.dropWhile p = [] ↔ ∀ x ∈ l, p x = true
 | [] => by simp
 | y :: l => by
  rw [List.dropWhile_cons]
  cases h : p y with
  | true =>
   simp only [if_true]
   rw [dropWhile_nil8]
   exact ⟨fun k x hx => by rcases List.mem_cons.1 hx with rfl | hx; exact h; exact k x hx, fun k x hx => k x (List.mem_cons_of_mem _ hx)⟩
  | false =>
   simp only [Bool.false_eq_true, if_false]
   exact ⟨fun k => by simp at k, fun k => by have := k y (by simp); rw [h] at this; cases this⟩
theorem trimS_nil {l cs : List UInt8} : Lib.trimS l cs = [] ↔ ∀ x ∈ l, cs.contains x = true := by
 unfold Lib.trimS Lib.trimLeftS Lib.trimRightS
 rw [dropWhile_nil8]
 constructor
 ·intro h
  have e : l.reverse.dropWhile (cs.contains ·) = [] := by
   cases hd : l.reverse.dropWhile (cs.contains ·) with
   | nil => rfl
   | cons y ys =>
    have h1 := h y (by rw [hd]; simp)
    have h2 := List.head?_dropWhile_not (cs.contains ·) l.reverse
    rw [hd] at h2
    simp only [List.head?_cons] at h2
    rw [h1] at h2
    cases h2
  rw [dropWhile_nil8] at e
  exact fun x hx => e x (by simpa using hx)
 ·intro h x hx
  rw [List.mem_reverse] at hx
  have := List.dropWhile_sublist (cs.contains ·) (l := l.reverse)
  exact h x (by simpa using this.subset hx)
theorem byte_all {p q : UInt8 -> Bool} (h : ((List.range 256).all fun n => p (UInt8.ofNat n) == q (UInt8.ofNat n)) = true) : ∀ x : UInt8, p x = q x := by
 intro x
 have h1 := List.all_eq_true.1 h x.toNat (List.mem_range.2 x.toNat_lt)
 rw [UInt8.ofNat_toNat] at h1
 simpa using h1
def lch (x : Int) : Bool := decide ((97 <= x /\ x <= 122) ∨ (48 <= x /\ x <= 57) ∨ x = 45)
def labelCs : List UInt8 := [97, 98, 99, 100, 101, 102, 103, 104, 105, 106, 107, 108, 109, 110, 111, 112, 113, 114, 115, 116, 117, 118, 119, 120, 121, 122, 48, 49, 50, 51, 52, 53, 54, 55, 56, 57, 45]
def digCs : List UInt8 := [48, 49, 50, 51, 52, 53, 54, 55, 56, 57]
theorem lch_cs : ∀ x : UInt8, labelCs.contains x = lch x.toNat := byte_all (q := fun x => lch x.toNat) (by decide)
theorem dig_cs : ∀ x : UInt8, digCs.contains x = dig x.toNat := byte_all (q := fun x => dig x.toNat) (by decide)
theorem trim_lab (s : ByteArray) : (Lib.trimS s.data.toList labelCs).length < 1 ↔ allB lch s s.size = true := by
 rw [← list_B lch_cs, ← trimS_nil, ← List.length_eq_zero_iff]; omega
theorem trim_dig (s : ByteArray) : (Lib.trimS s.data.toList digCs).length < 1 ↔ allB dig s s.size = true := by
 rw [← list_B dig_cs, ← trimS_nil, ← List.length_eq_zero_iff]; omega
def okLab (s : ByteArray) : Bool := decide (1 <= s.size /\ s.size <= 63 /\ B s 0 ≠ 45 /\ B s (s.size - 1) ≠ 45) && allB lch s s.size
def lastL (l : List ByteArray) : ByteArray := l.getLast?.getD ⟨#[]⟩
def okName (s : ByteArray) : Bool := decide (s.size <= 253) && (parts 46 s).all okLab && !(allB dig (lastL (parts 46 s)) (lastL (parts 46 s)).size)
def lowI (x : Int) : Int := if 65 <= x /\ x <= 90 then x + 32 else x
theorem lowI_bd {x : Int} (h : 0 <= x /\ x < 256) : 0 <= lowI x /\ lowI x < 256 := by unfold lowI; split <;> omega
def numsB (s : ByteArray) : List Int := s.data.toList.map fun x => (x.toNat : Int)
theorem numsB_len (s : ByteArray) : (numsB s).length = s.size := by unfold numsB; rw [List.length_map, size_list]
theorem numsB_get (s : ByteArray) (j : Nat) (h : j < s.size) : (numsB s)[j]? = some (B s j) := by
 rw [size_list] at h
 unfold numsB B
 rw [List.getElem?_map, List.getElem?_eq_getElem h, List.getD_eq_getElem?_getD, List.getElem?_eq_getElem h]; rfl
def lowNums (s : ByteArray) : List Int := (numsB s).map lowI
def lowTo (s : ByteArray) (k : Nat) : List Int := ((numsB s).take k).map lowI ++ (numsB s).drop k
theorem lowTo_len (s : ByteArray) (k : Nat) : (lowTo s k).length = s.size := by
 unfold lowTo; rw [List.length_append, List.length_map, List.length_take, List.length_drop, numsB_len]; omega
theorem lowTo_zero (s : ByteArray) : lowTo s 0 = numsB s := by unfold lowTo; simp
theorem lowTo_all (s : ByteArray) : lowTo s s.size = lowNums s := by
 unfold lowTo lowNums; rw [List.take_of_length_le (by rw [numsB_len]; exact Nat.le_refl _), List.drop_of_length_le (by rw [numsB_len]; exact Nat.le_refl _), List.append_nil]
theorem lowTo_at (s : ByteArray) {k : Nat} (h : k < s.size) : (lowTo s k)[k]? = some (B s k) := by
 unfold lowTo
 have hl := numsB_len s
 have e : (((numsB s).take k).map lowI).length = k := by rw [List.length_map, List.length_take]; omega
 rw [List.getElem?_append_right (by omega), e, Nat.sub_self, List.getElem?_drop, Nat.add_zero, numsB_get s k h]
theorem lowTo_set (s : ByteArray) {k : Nat} (h : k < s.size) : (lowTo s k).set k (lowI (B s k)) = lowTo s (k + 1) := by
 have hl := numsB_len s
 have hg := numsB_get s k h
 have e : (((numsB s).take k).map lowI).length = k := by rw [List.length_map, List.length_take]; omega
 unfold lowTo
 rw [List.set_append_right _ _ (by omega), e, Nat.sub_self, List.drop_eq_getElem_cons (show k < (numsB s).length by omega), List.set_cons_zero, List.take_add_one, hg]
 simp
theorem lowTo_keep (s : ByteArray) {k : Nat} (h : k < s.size) (hn : lowI (B s k) = B s k) : lowTo s k = lowTo s (k + 1) := by
 have hl : k < (lowTo s k).length := by rw [lowTo_len]; exact h
 have h1 := lowTo_at s h
 rw [← lowTo_set s h, hn]
 have h2 : (lowTo s k)[k] = B s k := by rw [List.getElem?_eq_getElem hl] at h1; exact Option.some.inj h1
 rw [← h2, List.set_getElem_self]
def lowB (s : ByteArray) : ByteArray := strOfNums (lowNums s)
def alpha : List UInt8 := [65, 66, 67, 68, 69, 70, 71, 72, 73, 74, 75, 76, 77, 78, 79, 80, 81, 82, 83, 84, 85, 86, 87, 88, 89, 90, 97, 98, 99, 100, 101, 102, 103, 104, 105, 106, 107, 108, 109, 110, 111, 112, 113, 114, 115, 116, 117, 118, 119, 120, 121, 122, 48, 49, 50, 51, 52, 53, 54, 55, 56, 57, 43, 47]
def L6 (n : Int) : UInt8 := alpha.getD n.toNat 0
def quad (n : Nat) (x y z : Int) : List UInt8 :=
 [L6 (x / 4), L6 (x % 4 * 16 + y / 16), if 2 <= n then L6 (y % 16 * 4 + z / 64) else 61, if 3 <= n then L6 (z % 64) else 61]
def encL : List UInt8 -> List UInt8
 | [] => []
 | [a] => quad 1 a.toNat 0 0
 | [a, b] => quad 2 a.toNat b.toNat 0
 | a :: b :: c :: r => quad 3 a.toNat b.toNat c.toNat ++ encL r
def encB (s : ByteArray) : ByteArray := txt (encL s.data.toList)
theorem quad_len (n : Nat) (x y z : Int) : (quad n x y z).length = 4 := rfl
theorem encL_len : ∀ l : List UInt8, (encL l).length = (l.length + 2) / 3 * 4
 | [] => rfl
 | [a] => by rw [encL, quad_len]; simp
 | [a, b] => by rw [encL, quad_len]; simp
 | a :: b :: c :: r => by
  rw [encL, List.length_append, quad_len, encL_len r]
  simp only [List.length_cons]; omega
def vacc (z : ByteArray) (n : Nat) : Nat -> Int
 | 0 => 0
 | k + 1 => vacc z n k * 256 + if k < n then B z k else 0
theorem vacc_bd (z : ByteArray) (n : Nat) : ∀ k, 0 <= vacc z n k /\ vacc z n k < 256 ^ k
 | 0 => by simp [vacc]
 | k + 1 => by
  have ih := vacc_bd z n k
  have hb := B_bd z k
  rw [vacc, Int.pow_succ]
  split <;> omega
def qto (v : Int) (n : Nat) : Nat -> List UInt8
 | 0 => []
 | i + 1 => qto v n i ++ [if i <= n then L6 (v / 2 ^ (6 * (3 - i)) % 64) else 61]
theorem qto_len (v : Int) (n : Nat) : ∀ i, (qto v n i).length = i
 | 0 => rfl
 | i + 1 => by rw [qto, List.length_append, qto_len v n i]; rfl
theorem qto_quad {n : Nat} {x y z : Int} (hn : 1 <= n) (hx : 0 <= x /\ x < 256) (hy : 0 <= y /\ y < 256) (hz : 0 <= z /\ z < 256) : qto ((x * 256 + y) * 256 + z) n 4 = quad n x y z := by
 have e0 : ((x * 256 + y) * 256 + z) / 262144 % 64 = x / 4 := by omega
 have e1 : ((x * 256 + y) * 256 + z) / 4096 % 64 = x % 4 * 16 + y / 16 := by omega
 have e2 : ((x * 256 + y) * 256 + z) / 64 % 64 = y % 16 * 4 + z / 64 := by omega
 have e3 : ((x * 256 + y) * 256 + z) / 1 % 64 = z % 64 := by omega
 simp only [qto, List.nil_append, List.cons_append, Nat.zero_le, if_true, hn]
 rw [show (2 : Int) ^ (6 * (3 - 0)) = 262144 by decide, show (2 : Int) ^ (6 * (3 - 1)) = 4096 by decide, show (2 : Int) ^ (6 * (3 - 2)) = 64 by decide, show (2 : Int) ^ (6 * (3 - 3)) = 1 by decide, e0, e1, e2, e3]
 rfl
theorem B_list (z : ByteArray) (k : Nat) : B z k = (((z.data.toList).getD k 0).toNat : Int) := rfl
theorem encB_step {z : ByteArray} {n : Nat} (h0 : 1 <= z.size) (hn : n = min z.size 3) : encL z.data.toList = qto (vacc z n 3) n 4 ++ encL (z.extract n z.size).data.toList := by
 have hl := size_list z
 have ez : (z.extract n z.size).data.toList = z.data.toList.drop n := by
  rw [data_extract, List.take_of_length_le (by omega)]
 rw [ez]
 have b0 := B_bd z 0
 have b1 := B_bd z 1
 have b2 := B_bd z 2
 simp only [vacc]
 rw [B_list, B_list, B_list] at *
 generalize z.data.toList = l at *
 match l with
 | [] => have : z.size = 0 := hl; omega
 | [a] =>
  replace hl : z.size = 1 := hl
  have : n = 1 := by omega
  subst this
  have := qto_quad (n := 1) (x := a.toNat) (y := 0) (z := 0) (Nat.le_refl _) (by simpa using b0) (by omega) (by omega)
  simp only [List.drop_succ_cons, List.drop_zero, encL, List.append_nil]
  rw [← this]
  simp
 | [a, b] =>
  replace hl : z.size = 2 := hl
  have : n = 2 := by omega
  subst this
  have := qto_quad (n := 2) (x := a.toNat) (y := b.toNat) (z := 0) (by decide) (by simpa using b0) (by simpa using b1) (by omega)
  simp only [List.drop_succ_cons, List.drop_zero, encL, List.append_nil]
  rw [← this]
  simp
 | a :: b :: c :: r =>
  replace hl : z.size = r.length + 3 := hl
  have : n = 3 := by omega
  subst this
  have := qto_quad (n := 3) (x := a.toNat) (y := b.toNat) (z := c.toNat) (by decide) (by simpa using b0) (by simpa using b1) (by simpa using b2)
  simp only [List.drop_succ_cons, List.drop_zero, encL]
  rw [← this]
  simp
open Go.RowKit
theorem trim_cs (s cutset : ByteArray) (hs : s.size <= maxLen) (hcs : cutset.size < 4294967281) (hasc : cutset.data.toList.all (fun b => decide (b.toNat < 128)) = true) (w : World) :
  Calls Tryz.prog 138 #[.string s, .string cutset] w fun e w' => e = .returned (.string ⟨(Lib.trimS s.data.toList cutset.data.toList).toArray⟩) /\ Ext w w' :=
 Any.strings_Trim_laid Tryz.lays160 (by kernel_rfl) s cutset w (size_max hs) hcs (ascii_of_all hasc)
theorem trim_lab_any (s : ByteArray) (hs : s.size <= maxLen) (w : World) : Calls Tryz.prog 138 #[.string s, .string ⟨#[97, 98, 99, 100, 101, 102, 103, 104, 105, 106, 107, 108, 109, 110, 111, 112, 113, 114, 115, 116, 117, 118, 119, 120, 121, 122, 48, 49, 50, 51, 52, 53, 54, 55, 56, 57, 45]⟩] w fun e w' =>
  ∃ t : ByteArray, e = .returned (.string t) /\ ((t.size : Int) < 1 ↔ allB lch s s.size = true) /\ Ext w w' := by
 refine (trim_cs s ⟨labelCs.toArray⟩ hs (by decide) (by decide) w).mono fun e w' ⟨h1, h2⟩ => ⟨_, h1, ?_, h2⟩
 rw [← trim_lab]
 show ((_ : Nat) : Int) < 1 ↔ _
 have e : (⟨(Lib.trimS s.data.toList labelCs).toArray⟩ : ByteArray).size = (Lib.trimS s.data.toList labelCs).length := by simp [ByteArray.size]
 rw [show (⟨labelCs.toArray⟩ : ByteArray).data.toList = labelCs from rfl, e]; omega
theorem trim_dig_any (s : ByteArray) (hs : s.size <= maxLen) (w : World) : Calls Tryz.prog 138 #[.string s, .string ⟨#[48, 49, 50, 51, 52, 53, 54, 55, 56, 57]⟩] w fun e w' =>
  ∃ t : ByteArray, e = .returned (.string t) /\ ((t.size : Int) < 1 ↔ allB dig s s.size = true) /\ Ext w w' := by
 refine (trim_cs s ⟨digCs.toArray⟩ hs (by decide) (by decide) w).mono fun e w' ⟨h1, h2⟩ => ⟨_, h1, ?_, h2⟩
 rw [← trim_dig]
 show ((_ : Nat) : Int) < 1 ↔ _
 have e : (⟨(Lib.trimS s.data.toList digCs).toArray⟩ : ByteArray).size = (Lib.trimS s.data.toList digCs).length := by simp [ByteArray.size]
 rw [show (⟨digCs.toArray⟩ : ByteArray).data.toList = digCs from rfl, e]; omega
theorem okLab_iff (s : ByteArray) : okLab s = true ↔ (1 <= s.size /\ s.size <= 63 /\ B s 0 ≠ 45 /\ B s (s.size - 1) ≠ 45) /\ allB lch s s.size = true := by
 unfold okLab; rw [Bool.and_eq_true, decide_eq_true_eq]
theorem okLab_no {s : ByteArray} (h : ¬ ((1 <= s.size /\ s.size <= 63 /\ B s 0 ≠ 45 /\ B s (s.size - 1) ≠ 45) /\ allB lch s s.size = true)) : okLab s = false := by
 rw [Bool.eq_false_iff, Ne, okLab_iff]; exact h
theorem vlab_any (s : ByteArray) (hs : s.size <= maxLen) (w : World) : Calls Tryz.prog 170 #[.string s] w fun e w' => e = .returned (.bool (okLab s)) /\ Ext w w' := by
 have HT := Lib.hid (trim_lab_any s hs)
 replace hs := size_max hs
 have b0 := B_bd s 0
 have b1 := B_bd s (s.size - 1)
 go_enter Tryz.func170, Tryz.ntmps170
 by_cases h1 : (s.size : Int) < 1
 ·have e : okLab s = false := okLab_no (by omega)
  rw [e]; clear HT; go_wp2; go_ret; exact ⟨rfl, Ext.refl _⟩
 by_cases h2 : (63 : Int) < s.size
 ·have e : okLab s = false := okLab_no (by omega)
  rw [e]; clear HT; go_wp2; go_ret; exact ⟨rfl, Ext.refl _⟩
 by_cases h3 : B s 0 = 45
 ·have e : okLab s = false := okLab_no (fun h => h.1.2.2.1 h3)
  have h3' : (B s 0 != 45) = false := by rw [bne_eq_false_iff_eq]; exact h3
  rw [e]; clear HT h3; go_wp2; go_ret; exact ⟨rfl, Ext.refl _⟩
 have h3' : (B s 0 != 45) = true := by rw [bne_iff_ne]; exact h3
 have hi : ((s.size : Int) - 1).toNat = s.size - 1 := by omega
 by_cases h4 : B s (s.size - 1) = 45
 ·have e : okLab s = false := okLab_no (fun h => h.1.2.2.2 h4)
  have h4' : (B s (s.size - 1) != 45) = false := by rw [bne_eq_false_iff_eq]; exact h4
  rw [e]; clear HT h3 h4; go_wp2; go_ret; exact ⟨rfl, Ext.refl _⟩
 have h4' : (B s (s.size - 1) != 45) = true := by rw [bne_iff_ne]; exact h4
 have HE := Lib.hid (okLab_iff s)
 have H1 := Lib.hid h1
 have H3 := Lib.hid h3
 have H4 := Lib.hid h4
 clear h3 h4
 by_cases h5 : allB lch s s.size = true
 ·have e : okLab s = true := HE.out.2 ⟨⟨by omega, by omega, H3.out, H4.out⟩, h5⟩
  have H5 := Lib.hid h5
  rw [e]; clear HE h5 e
  go_wp2_with (first | (go_at_call 138; refine (HT.out _).mono ?_; rintro e w1 ⟨t, rfl, ht0, hx⟩; have ht := ht0.2 H5.out; clear ht0))
  go_ret; exact ⟨rfl, hx⟩
 ·have e : okLab s = false := okLab_no (fun h => h5 h.2)
  have H5 := Lib.hid h5
  rw [e]; clear HE h5 e
  go_wp2_with (first | (go_at_call 138; refine (HT.out _).mono ?_; rintro e w1 ⟨t, rfl, ht0, hx⟩; have ht : decide ((t.size : Int) < 1) = false := decide_eq_false (fun h => H5.out (ht0.1 h)); clear ht0))
  go_ret; exact ⟨rfl, hx⟩
theorem splitc_len (c : UInt8) : ∀ l : List UInt8, (splitc c l).length <= l.length + 1
 | [] => by simp [splitc]
 | x :: l => by
  have ih := splitc_len c l
  rw [splitc]
  split
  ·simp; omega
  ·split
   ·simp
   ·rename_i e; rw [e] at ih; simp at ih ⊢; omega
theorem parts_len (c : UInt8) (s : ByteArray) : (parts c s).length <= s.size + 1 := by
 unfold parts; rw [List.length_map, size_list]; exact splitc_len c _
theorem lastL_get {ps : List ByteArray} (h : 0 < ps.length) : ps[ps.length - 1]? = some (lastL ps) := by
 unfold lastL
 rw [List.getLast?_eq_getElem?, List.getElem?_eq_getElem (by omega)]; rfl
theorem vname_any (s : ByteArray) (w : World) (henv : Env w) (hs : s.size <= maxLen) : Calls Tryz.prog 145 #[.string s] w fun e w' => e = .returned (.bool (okName s)) /\ Ext w w' := by
 by_cases h1 : (253 : Int) < s.size
 ·have e : okName s = false := by unfold okName; rw [decide_eq_false (show ¬ s.size <= 253 by omega)]; rfl
  go_enter Tryz.func145, Tryz.ntmps145
  rw [e]; clear e; go_wp2; go_ret; exact ⟨rfl, Ext.refl _⟩
 have e : okName s = ((parts 46 s).all okLab && !(allB dig (lastL (parts 46 s)) (lastL (parts 46 s)).size)) := by unfold okName; rw [decide_eq_true (show s.size <= 253 by omega)]; rfl
 have hpz : ∀ x ∈ parts 46 s, x.size <= maxLen := fun x hx => Nat.le_trans (parts_size hx) hs
 have hsplit := fun w he => split_any s 46 w he (by omega)
 have hpos := parts_pos 46 s
 have hpl := parts_len 46 s
 have hpl2 : (parts 46 s).length <= 254 := by omega
 clear hpl
 rw [e]
 generalize parts 46 s = ps at *
 have HS := Lib.hid hsplit; have HPZ := Lib.hid hpz
 clear hsplit hpz e
 have hll := lastL_get hpos
 have HL := Lib.hid hll
 have HTD := Lib.hid (trim_dig_any (lastL ps) (HPZ.out _ (List.mem_of_getElem? hll)))
 clear hll
 go_enter Tryz.func145, Tryz.ntmps145
 go_wp2_with (first | (go_at_call 169; refine (HS.out _ henv).mono ?_; rintro e w1 ⟨b, cap, rfl, hbl, hsc, hcap, hx⟩; refine Hid.out ?_))
 refine Lib.hid ?_
 go_wp2_with fail
 go_loopw [5, 13] (fun _ c wr => ∃ k : Nat, k <= ps.length /\ c = .int .i64 k /\ (ps.take k).all okLab = true /\ StrCells wr b ps /\ Ext w wr) (fun _ c _ => ps.length - (intOf c).toNat)
 case atStart => exact ⟨0, Nat.zero_le _, rfl, rfl, hsc, hx⟩
 case round =>
  obtain ⟨k, hk, rfl, hok, hsc, hx⟩ := hrel
  have HOK := Lib.hid hok; clear hok
  have hcp : ps.length <= cap := hcap
  by_cases hlt : k < ps.length
  ·have hlt' : (k : Int) < ps.length := by omega
   obtain ⟨x, hxk⟩ : ∃ x, ps[k]? = some x := ⟨ps[k]'hlt, List.getElem?_eq_getElem _⟩
   have hcell := hsc.2 k x hxk
   have HX := Lib.hid hxk; clear hxk
   have HV := Lib.hid (vlab_any x (HPZ.out x (List.mem_of_getElem? HX.out)) wr)
   cases hv : okLab x with
   | false =>
    rw [hv] at HV
    have E : Hid (ps.all okLab = false) := Lib.hid (by
     cases e : ps.all okLab with
     | false => rfl
     | true => have := List.all_eq_true.1 e x (List.mem_of_getElem? HX.out); rw [hv] at this; cases this)
    clear hv
    go_wp2_with (first | (go_at_call 170; refine (HV.out).mono ?_; rintro e w2 ⟨rfl, hx2⟩))
    go_ret; exact ⟨by rw [E.out]; rfl, hx.trans hx2⟩
   | true =>
    rw [hv] at HV
    have HV2 := Lib.hid hv
    clear hv
    go_wp2_with (first | (go_at_call 170; refine (HV.out).mono ?_; rintro e w2 ⟨rfl, hx2⟩))
    go_roundw
    case rel => exact ⟨k + 1, by omega, by go_num, by rw [List.take_add_one, HX.out, List.all_append, HOK.out]; simp [HV2.out], hsc.ext hx2, hx.trans hx2⟩
    case measure => simp [intOf]; omega
  ·obtain rfl : k = ps.length := by omega
   have E : Hid (ps.all okLab = true) := Lib.hid (by have := HOK.out; rwa [List.take_of_length_le (Nat.le_refl _)] at this)
   have hcell := hsc.2 _ _ HL.out
   have hi : ((ps.length : Int) - 1).toNat = ps.length - 1 := by omega
   generalize hLL : lastL ps = y at *
   have HLL := Lib.hid hLL; clear hLL
   by_cases h5 : allB dig y y.size = true
   ·have H5 := Lib.hid h5; clear h5
    go_wp2_with (first | (go_at_call 138; refine (HTD.out _).mono ?_; rintro e w2 ⟨t, rfl, ht0, hx2⟩; have ht := ht0.2 H5.out; clear ht0))
    go_ret; exact ⟨by rw [E.out, HLL.out, H5.out]; rfl, hx.trans hx2⟩
   ·have H5 := Lib.hid (Bool.eq_false_iff.2 h5); have H6 := Lib.hid h5; clear h5
    go_wp2_with (first | (go_at_call 138; refine (HTD.out _).mono ?_; rintro e w2 ⟨t, rfl, ht0, hx2⟩; have ht : decide ((t.size : Int) < 1) = false := decide_eq_false (fun h => H6.out (ht0.1 h)); clear ht0))
    go_ret; exact ⟨by rw [E.out, HLL.out, H5.out]; rfl, hx.trans hx2⟩
end Go.Proofs.YtnohnnjeabehjaaGreatDoor
