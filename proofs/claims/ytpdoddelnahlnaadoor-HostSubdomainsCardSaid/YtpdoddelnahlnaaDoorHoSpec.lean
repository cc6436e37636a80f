/-
  Plain Lean: names of hosts.
-/
import Derived.Test.YtpdoddelnahlnaaDoorIpSpec
import Derived.Test.YtpdoddelnahlnaaDoorIpFmtSpec
import Derived.Lib.SlTrimSet
import Derived.Lib.Strings
import Derived.Lib.LastIndexByte
import Derived.Lib.CountLaws
set_option linter.unusedSimpArgs false
set_option linter.unusedVariables false
namespace Go.Proofs.YtpdoddelnahlnaaDoor
/-- all of the first k bytes meet p -/
def allB (p : Int → Bool) (s : ByteArray) : Nat → Bool
  | 0 => true
  | k + 1 => allB p s k && p (B s k)
theorem allB_iff {p : Int → Bool} {s : ByteArray} : ∀ {k : Nat}, allB p s k = true ↔ ∀ j, j < k → p (B s j) = true
  | 0 => ⟨fun _ j hj => by omega, fun _ => rfl⟩
  | k + 1 => by
    rw [allB, Bool.and_eq_true, allB_iff]
    refine ⟨fun ⟨h1, h2⟩ j hj => ?_, fun h => ⟨fun j hj => h j (by omega), h k (by omega)⟩⟩
    by_cases e : j = k
    · subst e; exact h2
    · exact h1 j (by omega)
theorem allDig_allB (s : ByteArray) : ∀ k, allDig s k = allB dig s k
  | 0 => rfl
  | k + 1 => by rw [allDig, allB, allDig_allB s k]
theorem allB_stop {p : Int → Bool} {s : ByteArray} {k n : Nat} (hk : k < n) (h : p (B s k) = false) : allB p s n = false := by
  cases e : allB p s n with
  | false => rfl
  | true => have := allB_iff.1 e k hk; rw [h] at this; cases this
theorem list_B {s : ByteArray} {p : Int → Bool} {q : UInt8 → Bool} (h : ∀ x : UInt8, q x = p x.toNat) : (∀ x ∈ s.data.toList, q x = true) ↔ allB p s s.size = true := by
  rw [allB_iff]
  constructor
  · intro hx j hj
    rw [size_list] at hj
    unfold B
    rw [← h]
    refine hx _ ?_
    rw [List.getD_eq_getElem?_getD, List.getElem?_eq_getElem hj, Option.getD_some]
    exact List.getElem_mem hj
  · intro hx x hm
    obtain ⟨j, hj, e⟩ := List.mem_iff_getElem.1 hm
    have := hx j (by rw [size_list]; exact hj)
    unfold B at this
    rw [List.getD_eq_getElem?_getD, List.getElem?_eq_getElem hj, Option.getD_some, e] at this
    rw [h]; exact this
/-! strings.Trim -/
theorem dropWhile_nil8 {p : UInt8 → Bool} : ∀ {l : List UInt8}, l.dropWhile p = [] ↔ ∀ x ∈ l, p x = true
  | [] => by simp
  | y :: l => by
    rw [List.dropWhile_cons]
    cases h : p y with
    | true =>
      simp only [if_true]
      rw [dropWhile_nil8]
      exact ⟨fun k x hx => by rcases List.mem_cons.1 hx with rfl | hx; exact h; exact k x hx, fun k x hx => k x (List.mem_cons_of_mem _ hx)⟩
    | false =>
      simp only [Bool.false_eq_true, if_false]
      exact ⟨fun k => by simp at k, fun k => by have := k y (by simp); rw [h] at this; cases this⟩
theorem trimS_nil {l cs : List UInt8} : Lib.trimS l cs = [] ↔ ∀ x ∈ l, cs.contains x = true := by
  unfold Lib.trimS Lib.trimLeftS Lib.trimRightS
  rw [dropWhile_nil8]
  constructor
  · intro h
    have e : l.reverse.dropWhile (cs.contains ·) = [] := by
      cases hd : l.reverse.dropWhile (cs.contains ·) with
      | nil => rfl
      | cons y ys =>
        have h1 := h y (by rw [hd]; simp)
        have h2 := List.head?_dropWhile_not (cs.contains ·) l.reverse
        rw [hd] at h2
        simp only [List.head?_cons] at h2
        rw [h1] at h2
        cases h2
    rw [dropWhile_nil8] at e
    exact fun x hx => e x (by simpa using hx)
  · intro h x hx
    rw [List.mem_reverse] at hx
    have := List.dropWhile_sublist (cs.contains ·) (l := l.reverse)
    exact h x (by simpa using this.subset hx)
theorem byte_all {p q : UInt8 → Bool} (h : ((List.range 256).all fun n => p (UInt8.ofNat n) == q (UInt8.ofNat n)) = true) : ∀ x : UInt8, p x = q x := by
  intro x
  have h1 := List.all_eq_true.1 h x.toNat (List.mem_range.2 x.toNat_lt)
  rw [UInt8.ofNat_toNat] at h1
  simpa using h1
def lch (x : Int) : Bool := decide ((97 ≤ x ∧ x ≤ 122) ∨ (48 ≤ x ∧ x ≤ 57) ∨ x = 45)
def labelCs : List UInt8 := [97, 98, 99, 100, 101, 102, 103, 104, 105, 106, 107, 108, 109, 110, 111, 112, 113, 114, 115, 116, 117, 118, 119, 120, 121, 122, 48, 49, 50, 51, 52, 53, 54, 55, 56, 57, 45]
def digCs : List UInt8 := [48, 49, 50, 51, 52, 53, 54, 55, 56, 57]
set_option maxRecDepth 20000 in
theorem lch_cs : ∀ x : UInt8, labelCs.contains x = lch x.toNat := byte_all (q := fun x => lch x.toNat) (by decide)
set_option maxRecDepth 20000 in
theorem dig_cs : ∀ x : UInt8, digCs.contains x = dig x.toNat := byte_all (q := fun x => dig x.toNat) (by decide)
theorem trim_lab (s : ByteArray) : (Lib.trimS s.data.toList labelCs).length < 1 ↔ allB lch s s.size = true := by
  rw [← list_B lch_cs, ← trimS_nil, ← List.length_eq_zero_iff]; omega
theorem trim_dig (s : ByteArray) : (Lib.trimS s.data.toList digCs).length < 1 ↔ allB dig s s.size = true := by
  rw [← list_B dig_cs, ← trimS_nil, ← List.length_eq_zero_iff]; omega
/-! names -/
def okLab (s : ByteArray) : Bool := decide (1 ≤ s.size ∧ s.size ≤ 63 ∧ B s 0 ≠ 45 ∧ B s (s.size - 1) ≠ 45) && allB lch s s.size
def lastL (l : List ByteArray) : ByteArray := l.getLast?.getD ⟨#[]⟩
def okName (s : ByteArray) : Bool := decide (s.size ≤ 253) && (parts 46 s).all okLab && !(allB dig (lastL (parts 46 s)) (lastL (parts 46 s)).size)
/-- the letters in lower case -/
def lowI (x : Int) : Int := if 65 ≤ x ∧ x ≤ 90 then x + 32 else x
theorem lowI_bd {x : Int} (h : 0 ≤ x ∧ x < 256) : 0 ≤ lowI x ∧ lowI x < 256 := by unfold lowI; split <;> omega
def numsB (s : ByteArray) : List Int := s.data.toList.map fun x => (x.toNat : Int)
theorem numsB_len (s : ByteArray) : (numsB s).length = s.size := by unfold numsB; rw [List.length_map, size_list]
theorem numsB_get (s : ByteArray) (j : Nat) (h : j < s.size) : (numsB s)[j]? = some (B s j) := by
  rw [size_list] at h
  unfold numsB B
  rw [List.getElem?_map, List.getElem?_eq_getElem h, List.getD_eq_getElem?_getD, List.getElem?_eq_getElem h]; rfl
def lowNums (s : ByteArray) : List Int := (numsB s).map lowI
/-- after k steps of the loop -/
def lowTo (s : ByteArray) (k : Nat) : List Int := ((numsB s).take k).map lowI ++ (numsB s).drop k
theorem lowTo_len (s : ByteArray) (k : Nat) : (lowTo s k).length = s.size := by
  unfold lowTo; rw [List.length_append, List.length_map, List.length_take, List.length_drop, numsB_len]; omega
theorem lowTo_zero (s : ByteArray) : lowTo s 0 = numsB s := by unfold lowTo; simp
theorem lowTo_all (s : ByteArray) : lowTo s s.size = lowNums s := by
  unfold lowTo lowNums; rw [List.take_of_length_le (by rw [numsB_len]; exact Nat.le_refl _), List.drop_of_length_le (by rw [numsB_len]; exact Nat.le_refl _), List.append_nil]
theorem lowTo_at (s : ByteArray) {k : Nat} (h : k < s.size) : (lowTo s k)[k]? = some (B s k) := by
  unfold lowTo
  have hl := numsB_len s
  have e : (((numsB s).take k).map lowI).length = k := by rw [List.length_map, List.length_take]; omega
  rw [List.getElem?_append_right (by omega), e, Nat.sub_self, List.getElem?_drop, Nat.add_zero, numsB_get s k h]
theorem lowTo_set (s : ByteArray) {k : Nat} (h : k < s.size) : (lowTo s k).set k (lowI (B s k)) = lowTo s (k + 1) := by
  have hl := numsB_len s
  have hg := numsB_get s k h
  have e : (((numsB s).take k).map lowI).length = k := by rw [List.length_map, List.length_take]; omega
  unfold lowTo
  rw [List.set_append_right _ _ (by omega), e, Nat.sub_self, List.drop_eq_getElem_cons (show k < (numsB s).length by omega), List.set_cons_zero, List.take_add_one, hg]
  simp
theorem lowTo_keep (s : ByteArray) {k : Nat} (h : k < s.size) (hn : lowI (B s k) = B s k) : lowTo s k = lowTo s (k + 1) := by
  have hl : k < (lowTo s k).length := by rw [lowTo_len]; exact h
  have h1 := lowTo_at s h
  rw [← lowTo_set s h, hn]
  have h2 : (lowTo s k)[k] = B s k := by rw [List.getElem?_eq_getElem hl] at h1; exact Option.some.inj h1
  rw [← h2, List.set_getElem_self]
def lowB (s : ByteArray) : ByteArray := strOfNums (lowNums s)
end Go.Proofs.YtpdoddelnahlnaaDoor
