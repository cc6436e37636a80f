/-
  Several texts joined: IpSpec, IpFmtSpec.
-/
import Derived.Lib.SplitLaws
import Derived.Lib.CutLaws
import Derived.Lib.IndexMore
import Derived.Lib.SlTrimSet
import Derived.Test.YtpdoddelnahlnaaGreatDoorK01
import Derived.Lib.ItoaNum
/-
  Plain Lean: what the parsers of addresses and numbers compute.
-/
namespace Go.Proofs.YtpdoddelnahlnaaGreatDoor

/-- the pieces of a list between the occurrences of c -/
def splitc (c : UInt8) : List UInt8 → List (List UInt8)
  | [] => [[]]
  | x :: l => if x = c then [] :: splitc c l else match splitc c l with
    | [] => [[x]]
    | y :: ys => (x :: y) :: ys
theorem splitc_cons_ne {c x : UInt8} (h : x ≠ c) (l : List UInt8) {y : List UInt8} {ys : List (List UInt8)} (e : splitc c l = y :: ys) : splitc c (x :: l) = (x :: y) :: ys := by
  rw [splitc, if_neg h, e]
theorem splitc_none {c : UInt8} : ∀ {a : List UInt8}, (∀ x ∈ a, x ≠ c) → splitc c a = [a]
  | [], _ => rfl
  | x :: l, h => splitc_cons_ne (h x (by simp)) l (splitc_none fun y hy => h y (by simp [hy]))
theorem splitc_hit {c : UInt8} (b : List UInt8) : ∀ {a : List UInt8}, (∀ x ∈ a, x ≠ c) → splitc c (a ++ c :: b) = a :: splitc c b
  | [], _ => by rw [List.nil_append, splitc, if_pos rfl]
  | x :: l, h => splitc_cons_ne (h x (by simp)) _ (splitc_hit b fun y hy => h y (by simp [hy]))
def parts (c : UInt8) (s : ByteArray) : List ByteArray := (splitc c s.data.toList).map fun l => ⟨l.toArray⟩

theorem isPrefixOf_one (c : UInt8) (l : List UInt8) : ([c] : List UInt8).isPrefixOf l = (l.head? == some c) := by
  cases l with
  | nil => rfl
  | cons x l =>
    simp only [List.isPrefixOf, List.head?_cons, Bool.and_true]
    by_cases h : c = x
    · subst h; simp
    · rw [beq_eq_false_iff_ne.2 h, beq_eq_false_iff_ne.2 (fun e => h (Option.some.inj e).symm)]
theorem occ_one (s : List UInt8) (c : UInt8) (j : Nat) : Lib.occAt s [c] j = (s[j]? == some c) := by
  unfold Lib.occAt; rw [isPrefixOf_one, List.head?_drop]
theorem index_hit1 {s : List UInt8} {c : UInt8} {i : Nat} (h : Lib.index s [c] = i) : ∃ a b, s = a ++ c :: b ∧ a.length = i ∧ ∀ x ∈ a, x ≠ c := by
  rcases Lib.index_spec s [c] with ⟨h1, _⟩ | ⟨k, h1, h2, h3, h4⟩
  · omega
  · obtain rfl : k = i := by omega
    rw [occ_one, beq_iff_eq] at h3
    have hl : k < s.length := (List.getElem?_eq_some_iff.1 h3).1
    refine ⟨s.take k, s.drop (k + 1), ?_, by simp; omega, fun x hx e => ?_⟩
    · have := List.getElem?_eq_some_iff.1 h3
      obtain ⟨_, e⟩ := this
      rw [← e, ← List.drop_eq_getElem_cons hl, List.take_append_drop]
    · subst e
      obtain ⟨j, hj, e⟩ := List.mem_iff_getElem.1 hx
      have hjk : j < k := by simp at hj; omega
      have := h4 j hjk
      rw [occ_one, beq_eq_false_iff_ne] at this
      exact this (by rw [List.getElem?_eq_getElem (by omega)]; rw [List.getElem_take] at e; exact congrArg some e)
theorem index_miss1 {s : List UInt8} {c : UInt8} (h : Lib.index s [c] = -1) : ∀ x ∈ s, x ≠ c := by
  rcases Lib.index_spec s [c] with ⟨_, h2⟩ | ⟨k, h1, _⟩
  · intro x hx e
    subst e
    obtain ⟨j, hj, e⟩ := List.mem_iff_getElem.1 hx
    have := h2 j (by omega)
    rw [occ_one, beq_eq_false_iff_ne] at this
    exact this (by rw [List.getElem?_eq_getElem hj, e])
  · omega
theorem splitB_splitc (c : UInt8) : ∀ (n : Nat) (s : ByteArray), Lib.countB s ⟨#[c]⟩ = n → (Lib.splitB ⟨#[c]⟩ 0 n s).map (·.data.toList) = splitc c s.data.toList
  | 0, s, hn => by
    rw [Lib.splitB_zero, List.map_singleton, splitc_none]
    rcases Lib.indexB_cases s ⟨#[c]⟩ with hix | ⟨i, hix, _⟩
    · exact index_miss1 hix
    · have := Lib.countB_hit s ⟨#[c]⟩ i (Nat.le_refl 1) hix; omega
  | n + 1, s, hn => by
    rcases Lib.indexB_cases s ⟨#[c]⟩ with hix | ⟨i, hix, _⟩
    · rw [Lib.countB_miss s _ hix] at hn; omega
    · have hc := Lib.countB_hit s ⟨#[c]⟩ i (Nat.le_refl 1) hix
      rw [Lib.splitB_hit _ _ _ _ i hix, List.map_cons, splitB_splitc c n _ (by omega), Lib.extract_from_zero, Nat.add_zero, Lib.extract_to_end]
      obtain ⟨a, b, e, el, ha⟩ := index_hit1 hix
      rw [e, splitc_hit b ha, ← el]
      simp [ByteArray.size]
theorem splitB_parts (c : UInt8) (s : ByteArray) : Lib.splitB ⟨#[c]⟩ 0 (Lib.countB s ⟨#[c]⟩) s = parts c s := by
  unfold parts
  rw [← splitB_splitc c _ s rfl, List.map_map]
  refine (List.map_id'' (fun x => ?_) _).symm
  rfl
theorem parts_length (c : UInt8) (s : ByteArray) : (parts c s).length = Lib.countB s ⟨#[c]⟩ + 1 := by
  rw [← splitB_parts, Lib.splitB_all ⟨#[c]⟩ (Nat.le_refl 1) 0 _ _ rfl]
theorem splitc_size (c : UInt8) : ∀ (l : List UInt8), ∀ x ∈ splitc c l, x.length ≤ l.length
  | [], x, hx => by simp [splitc] at hx; simp [hx]
  | y :: l, x, hx => by
    have ih := splitc_size c l
    rw [splitc] at hx
    split at hx
    · rcases List.mem_cons.1 hx with rfl | h
      · simp
      · have := ih x h; simp; omega
    · split at hx
      · simp at hx; simp [hx]
      · rename_i z zs e
        rcases List.mem_cons.1 hx with rfl | h
        · have := ih z (by rw [e]; simp); simp; omega
        · have := ih x (by rw [e]; simp [h]); simp; omega
theorem parts_size {c : UInt8} {s x : ByteArray} (h : x ∈ parts c s) : x.size ≤ s.size := by
  obtain ⟨l, hl, rfl⟩ := List.mem_map.1 h
  have := splitc_size c _ l hl
  rw [size_list, size_list]; simpa using this

/-- decimal digits -/
def dig (x : Int) : Bool := decide (48 ≤ x ∧ x ≤ 57)
def allDig (s : ByteArray) : Nat → Bool
  | 0 => true
  | k + 1 => allDig s k && dig (B s k)
def dval (s : ByteArray) : Nat → Int
  | 0 => 0
  | k + 1 => 10 * dval s k + (B s k - 48)
theorem dval_bd (s : ByteArray) : ∀ k, allDig s k = true → 0 ≤ dval s k ∧ dval s k < 10 ^ k
  | 0, _ => by simp [dval]
  | k + 1, h => by
    simp only [allDig, dig, Bool.and_eq_true, decide_eq_true_eq] at h
    have := dval_bd s k h.1
    rw [dval, Int.pow_succ]; omega
theorem dval_big (s : ByteArray) (h0 : B s 0 ≠ 48) : ∀ k, allDig s (k + 1) = true → (10 ^ k : Int) ≤ dval s (k + 1)
  | 0, h => by
    simp only [allDig, dig, Bool.and_eq_true, decide_eq_true_eq] at h
    simp only [dval, Int.pow_zero]; omega
  | k + 1, h => by
    have h' := h
    simp only [allDig, dig, Bool.and_eq_true, decide_eq_true_eq] at h
    have := dval_big s h0 k (by simp only [allDig, dig, Bool.and_eq_true, decide_eq_true_eq]; exact h.1)
    rw [dval, Int.pow_succ]; omega
theorem allDig_mono (s : ByteArray) : ∀ k j, j ≤ k → allDig s k = true → allDig s j = true
  | 0, j, hj, h => by obtain rfl : j = 0 := by omega
                      exact h
  | k + 1, j, hj, h => by
    by_cases e : j = k + 1
    · subst e; exact h
    · simp only [allDig, Bool.and_eq_true] at h
      exact allDig_mono s k j (by omega) h.1
/-- what the program's parser of numbers answers -/
def numP (s : ByteArray) (lo hi : Int) : Int × Bool :=
  if s.size = 0 ∨ 9 < s.size ∨ (1 < s.size ∧ B s 0 = 48) then (0, false)
  else if allDig s s.size = false then (0, false)
  else if dval s s.size < lo ∨ hi < dval s s.size then (0, false) else (dval s s.size, true)
/-- what the document's parser of numbers answers -/
def decP (s : ByteArray) (most : Int) : Int :=
  if s.size = 0 ∨ 6 < s.size ∨ (1 < s.size ∧ B s 0 = 48) then -1
  else if allDig s s.size = false then -1
  else if most < dval s s.size then -1 else dval s s.size
theorem decP_ge (s : ByteArray) (most : Int) : -1 ≤ decP s most := by
  unfold decP
  split
  · omega
  split
  · omega
  rename_i h
  have := dval_bd s s.size (by simpa using h)
  split <;> omega
theorem decP_le (s : ByteArray) {most : Int} (h : 0 ≤ most) : decP s most ≤ most := by
  unfold decP
  (repeat' split) <;> omega
theorem numP_decP (s : ByteArray) {lo hi : Int} (h0 : 0 ≤ lo) (h : hi ≤ 999999) : numP s lo hi = if decP s hi < lo then (0, false) else (decP s hi, true) := by
  by_cases h1 : s.size = 0 ∨ 9 < s.size ∨ (1 < s.size ∧ B s 0 = 48)
  · have e : decP s hi = -1 := by unfold decP; rw [if_pos (by omega)]
    rw [e, if_pos (by omega)]; unfold numP; rw [if_pos h1]
  by_cases h3 : allDig s s.size = false
  · have e : decP s hi = -1 := by
      unfold decP
      split
      · rfl
      · first | rfl | rw [if_pos h3]
    rw [e, if_pos (by omega)]; unfold numP; rw [if_neg h1, if_pos h3]
  have h3' : allDig s s.size = true := by simpa using h3
  have hb := dval_bd s s.size h3'
  have en : numP s lo hi = if dval s s.size < lo ∨ hi < dval s s.size then (0, false) else (dval s s.size, true) := by unfold numP; rw [if_neg h1, if_neg h3]
  by_cases h2 : 6 < s.size
  · have e : decP s hi = -1 := by unfold decP; rw [if_pos (by omega)]
    rw [e, if_pos (by omega), en, if_pos]
    right
    obtain ⟨k, hk⟩ : ∃ k, s.size = k + 7 := ⟨s.size - 7, by omega⟩
    rw [hk] at h3' ⊢
    have := dval_big s (by omega) (k + 6) h3'
    have e : (10 : Int) ^ (k + 6) = 10 ^ k * 1000000 := by rw [Int.pow_add]; rfl
    have e2 : (1 : Int) ≤ 10 ^ k := Int.pow_pos (by decide)
    rw [e] at this
    rw [show k + 6 + 1 = k + 7 from rfl] at this
    generalize (10 : Int) ^ k = q at *
    omega
  · have e : decP s hi = if hi < dval s s.size then -1 else dval s s.size := by unfold decP; rw [if_neg (by omega), if_neg h3]
    rw [e, en]
    by_cases h4 : hi < dval s s.size
    · rw [if_pos (Or.inr h4), if_pos h4, if_pos (by omega)]
    · rw [if_neg h4]
      by_cases h5 : dval s s.size < lo
      · rw [if_pos (Or.inl h5), if_pos h5]
      · rw [if_neg (by omega), if_neg h5]

/-- dotted-decimal notation -/
def dec (s : ByteArray) : Int := decP s 255
theorem dec_bd (s : ByteArray) : -1 ≤ dec s ∧ dec s ≤ 255 := ⟨decP_ge _ _, decP_le _ (by decide)⟩
theorem num_dec (s : ByteArray) : numP s 0 255 = if dec s < 0 then (0, false) else (dec s, true) := numP_decP s (by decide) (by decide)
def okDec (l : List ByteArray) : Bool := l.all fun x => decide (0 ≤ dec x)
def parse4 (s : ByteArray) : Option (List Int) :=
  if (parts 46 s).length = 4 ∧ okDec (parts 46 s) = true then some ((parts 46 s).map dec) else none

/-- hexadecimal digits -/
def hexd (x : Int) : Int := if 48 ≤ x ∧ x ≤ 57 then x - 48 else if 97 ≤ x ∧ x ≤ 102 then x - 87 else if 65 ≤ x ∧ x ≤ 70 then x - 55 else -1
def allHex (s : ByteArray) : Nat → Bool
  | 0 => true
  | k + 1 => allHex s k && decide (0 ≤ hexd (B s k))
def hval (s : ByteArray) : Nat → Int
  | 0 => 0
  | k + 1 => 16 * hval s k + hexd (B s k)
theorem hexd_bd (x : Int) : -1 ≤ hexd x ∧ hexd x < 16 := by unfold hexd; (repeat' split) <;> omega
theorem hval_bd (s : ByteArray) : ∀ k, allHex s k = true → 0 ≤ hval s k ∧ hval s k < 16 ^ k
  | 0, _ => by simp [hval]
  | k + 1, h => by
    simp only [allHex, Bool.and_eq_true, decide_eq_true_eq] at h
    have := hval_bd s k h.1
    have := hexd_bd (B s k)
    rw [hval, Int.pow_succ]; omega
def hexg (s : ByteArray) : Int :=
  if s.size = 0 ∨ 4 < s.size then -1 else if allHex s s.size = false then -1 else hval s s.size
theorem hexg_bd (s : ByteArray) : -1 ≤ hexg s ∧ hexg s < 65536 := by
  unfold hexg
  split
  · omega
  split
  · omega
  rename_i h1 h2
  have h2' : allHex s s.size = true := by simpa using h2
  have := hval_bd s s.size h2'
  have : (16 : Int) ^ s.size ≤ 16 ^ 4 := by
    have : s.size ≤ 4 := by omega
    obtain ⟨k, hk⟩ : ∃ k, 4 = s.size + k := ⟨4 - s.size, by omega⟩
    rw [hk, Int.pow_add]
    have e2 : (1 : Int) ≤ 16 ^ k := Int.pow_pos (by decide)
    have e3 : (0 : Int) ≤ 16 ^ s.size := Int.le_of_lt (Int.pow_pos (by decide))
    calc (16 : Int) ^ s.size = 16 ^ s.size * 1 := by omega
      _ ≤ 16 ^ s.size * 16 ^ k := Int.mul_le_mul_of_nonneg_left e2 e3
  omega
/-- the groups of a list of pieces -/
def groups (last : Bool) : List ByteArray → Option (List Int)
  | [] => some []
  | x :: xs =>
    match (if last = true ∧ xs = [] then parse4 x else none) with
    | some b => some [b.getD 0 0 * 256 + b.getD 1 0, b.getD 2 0 * 256 + b.getD 3 0]
    | none => if hexg x < 0 then none else (groups last xs).map (hexg x :: ·)
def parseG (s : ByteArray) (last : Bool) : Option (List Int) := if s.size = 0 then some [] else groups last (parts 58 s)
/-- an address: its family and its bytes -/
abbrev Adr := Bool × List Int
def zeros : List Int := [0, 0, 0, 0, 0, 0, 0, 0, 0, 0, 0, 0, 0, 0, 0, 0]
def zadr : Adr := (false, zeros)
def hilo (l : List Int) : List Int := l.flatMap fun x => [x / 256, x % 256]
def v6 (l : List Int) : Adr × Bool := if l.length = 8 then ((true, hilo l), true) else (zadr, false)
def v4 (a b c d : Int) : Adr := (false, [a, b, c, d, 0, 0, 0, 0, 0, 0, 0, 0, 0, 0, 0, 0])
/-- where the first "::" stands -/
def cutAt (s : ByteArray) : Int := Lib.index s.data.toList [58, 58]
def parseA (s : ByteArray) : Adr × Bool :=
  match parse4 s with
  | some b => (v4 (b.getD 0 0) (b.getD 1 0) (b.getD 2 0) (b.getD 3 0), true)
  | none =>
    if cutAt s < 0 then
      match parseG s true with
      | some l => v6 l
      | none => (zadr, false)
    else
      match parseG (s.extract 0 (cutAt s).toNat) false, parseG (s.extract ((cutAt s).toNat + 2) s.size) true with
      | some l, some m => if 7 < l.length + m.length then (zadr, false) else v6 (l ++ List.replicate (8 - (l.length + m.length)) 0 ++ m)
      | _, _ => (zadr, false)
end Go.Proofs.YtpdoddelnahlnaaGreatDoor
/-
  Plain Lean: what Format writes.
-/
set_option linter.unusedVariables false
namespace Go.Proofs.YtpdoddelnahlnaaGreatDoor

def grp (l : List Int) (i : Nat) : Int := l.getD (2 * i) 0 * 256 + l.getD (2 * i + 1) 0
def zrun (l : List Int) : Nat → Nat → Nat
  | 0, _ => 0
  | f + 1, i => if grp l i = 0 then zrun l f (i + 1) + 1 else 0
/-- how many zero groups stand from i on -/
def zr (l : List Int) (i : Nat) : Nat := zrun l (8 - i) i
/-- where the first longest run of the first i starts begins, and its length -/
def best (l : List Int) : Nat → Int × Int
  | 0 => (-1, 1)
  | i + 1 => if (best l i).2 < zr l i then (i, zr l i) else best l i
def hexc (n : Nat) : UInt8 := if n < 10 then UInt8.ofNat (48 + n) else UInt8.ofNat (87 + n)
def hexT (n : Nat) : List UInt8 := if h : n < 16 then [hexc n] else hexT (n / 16) ++ [hexc (n % 16)]
termination_by n
decreasing_by omega
/-- the text from group i on -/
def tail6 (l : List Int) (f m : Int) : Nat → Nat → List UInt8
  | 0, _ => []
  | k + 1, i => if 8 ≤ i then [] else if (i : Int) = f then [58, 58] ++ tail6 l f m k (i + m.toNat)
    else (if 0 < i ∧ (i : Int) ≠ f + m then [58] else []) ++ hexT (grp l i).toNat ++ tail6 l f m k (i + 1)
def validA (a : Adr) : Bool := a.1 || (a.2.drop 4).all fun x => decide (x = 0)
def fmt4 (l : List Int) : List UInt8 :=
  Lib.decDigits (l.getD 0 0).toNat ++ [46] ++ Lib.decDigits (l.getD 1 0).toNat ++ [46] ++ Lib.decDigits (l.getD 2 0).toNat ++ [46] ++ Lib.decDigits (l.getD 3 0).toNat
def fmt6 (l : List Int) : List UInt8 := tail6 l (best l 8).1 (best l 8).2 9 0
def fmtA (a : Adr) : List UInt8 := if validA a = false then [] else if a.1 then fmt6 a.2 else fmt4 a.2
def txt (l : List UInt8) : ByteArray := ⟨l.toArray⟩
end Go.Proofs.YtpdoddelnahlnaaGreatDoor
