/-
  Several texts joined: IpRt.
-/
import Derived.Test.YtpdoddelnahlnaaGreatDoorK04
/-
  Plain law: the parser reads what Format writes.
-/
set_option linter.unusedSimpArgs false
set_option linter.unusedVariables false
namespace Go.Proofs.YtpdoddelnahlnaaGreatDoor
open Go.RowKit

theorem txt_app (l m : List UInt8) : txt (l ++ m) = txt l ++ txt m := BA_ext (by rw [data_append]; rfl)
theorem txt_sz (l : List UInt8) : (txt l).size = l.length := by rw [size_list]; rfl
theorem txt_list (l : List UInt8) : (txt l).data.toList = l := rfl
theorem B_txt (l : List UInt8) (k : Nat) : B (txt l) k = ((l.getD k 0).toNat : Int) := rfl
theorem parts_txt (c : UInt8) (l : List UInt8) : parts c (txt l) = (splitc c l).map txt := rfl
theorem dig_congr {s t : ByteArray} : ∀ k, (∀ i, i < k → B s i = B t i) → allDig s k = allDig t k ∧ dval s k = dval t k
  | 0, _ => ⟨rfl, rfl⟩
  | k + 1, h => by
    have ih := dig_congr k fun i hi => h i (by omega)
    have hk := h k (by omega)
    simp only [allDig, dval, ih.1, ih.2, hk, and_self]
theorem hex_congr {s t : ByteArray} : ∀ k, (∀ i, i < k → B s i = B t i) → allHex s k = allHex t k ∧ hval s k = hval t k
  | 0, _ => ⟨rfl, rfl⟩
  | k + 1, h => by
    have ih := hex_congr k fun i hi => h i (by omega)
    have hk := h k (by omega)
    simp only [allHex, hval, ih.1, ih.2, hk, and_self]
theorem B_snoc (l : List UInt8) (c : UInt8) : B (txt (l ++ [c])) l.length = (c.toNat : Int) := by
  rw [B_txt, List.getD_eq_getElem?_getD, List.getElem?_append_right (Nat.le_refl _)]; simp
theorem B_pre (l m : List UInt8) (i : Nat) (h : i < l.length) : B (txt (l ++ m)) i = B (txt l) i := by
  rw [B_txt, B_txt, List.getD_eq_getElem?_getD, List.getElem?_append_left h, ← List.getD_eq_getElem?_getD]
theorem dd_small {n : Nat} (h : n < 10) : Lib.decDigits n = [UInt8.ofNat (48 + n)] := Lib.decDigits_one h
theorem dd_big {n : Nat} (h : ¬ n < 10) : Lib.decDigits n = Lib.decDigits (n / 10) ++ [UInt8.ofNat (48 + n % 10)] := by rw [Lib.decDigits, dif_neg h]
theorem dd_pos (n : Nat) : 1 ≤ (Lib.decDigits n).length := by
  by_cases h : n < 10
  · rw [dd_small h]; simp
  · rw [dd_big h]; simp
theorem dd_len : ∀ k n : Nat, n < 10 ^ (k + 1) → (Lib.decDigits n).length ≤ k + 1
  | 0, n, h => by rw [dd_small (by omega)]; simp
  | k + 1, n, h => by
    by_cases h1 : n < 10
    · rw [dd_small h1]; simp
    · rw [dd_big h1, List.length_append]
      have := dd_len k (n / 10) (by rw [Nat.pow_succ] at h; omega)
      simp; omega
theorem chr10 {r : Nat} (h : r < 10) : ((UInt8.ofNat (48 + r)).toNat : Int) = 48 + r := by
  rw [UInt8.toNat_ofNat_of_lt' (by show _ < 256; omega)]; omega
theorem dd_val (n : Nat) : allDig (txt (Lib.decDigits n)) (Lib.decDigits n).length = true ∧ dval (txt (Lib.decDigits n)) (Lib.decDigits n).length = n := by
  induction n using Nat.strongRecOn with
  | _ n ih =>
    by_cases h : n < 10
    · rw [dd_small h]
      have e : B (txt [UInt8.ofNat (48 + n)]) 0 = 48 + n := chr10 h
      simp only [List.length_singleton, allDig, dval, e, dig, Bool.true_and, decide_eq_true_eq]
      omega
    · rw [dd_big h]
      have ih := ih (n / 10) (by omega)
      generalize Lib.decDigits (n / 10) = l at *
      have hc := dig_congr (s := txt (l ++ [UInt8.ofNat (48 + n % 10)])) (t := txt l) l.length fun i hi => B_pre _ _ i hi
      have e : B (txt (l ++ [UInt8.ofNat (48 + n % 10)])) l.length = 48 + (n % 10 : Nat) := by rw [B_snoc, chr10 (by omega)]
      simp only [List.length_append, List.length_singleton, allDig, dval, hc.1, hc.2, ih.1, ih.2, e, dig, Bool.true_and, decide_eq_true_eq]
      omega
theorem dd_head (n : Nat) : 1 ≤ n → B (txt (Lib.decDigits n)) 0 ≠ 48 := by
  induction n using Nat.strongRecOn with
  | _ n ih =>
    intro h1
    by_cases h : n < 10
    · rw [dd_small h]
      have e : B (txt [UInt8.ofNat (48 + n)]) 0 = 48 + n := chr10 h
      rw [e]; omega
    · rw [dd_big h, B_pre _ _ 0 (dd_pos _)]
      exact ih (n / 10) (by omega) (by omega)
theorem decP_dd {n : Nat} {most : Int} (h : (n : Int) ≤ most) (h6 : n < 1000000) : decP (txt (Lib.decDigits n)) most = n := by
  have hl := dd_len 5 n h6
  have hp := dd_pos n
  have hv := dd_val n
  unfold decP
  rw [txt_sz, if_neg, if_neg (by rw [hv.1]; simp), hv.2, if_neg (by omega)]
  rintro (h | h | ⟨h, h0⟩)
  · omega
  · omega
  · by_cases h1 : 1 ≤ n
    · exact dd_head n h1 h0
    · obtain rfl : n = 0 := by omega
      rw [dd_small (by decide)] at h; simp at h
theorem dd_chr (n : Nat) : ∀ x ∈ Lib.decDigits n, x ≠ 46 ∧ x ≠ 58 ∧ x ≠ 47 := by
  induction n using Nat.strongRecOn with
  | _ n ih =>
    have key : ∀ r : Fin 10, UInt8.ofNat (48 + r.1) ≠ 46 ∧ UInt8.ofNat (48 + r.1) ≠ 58 ∧ UInt8.ofNat (48 + r.1) ≠ 47 := by decide
    intro x hx
    by_cases h : n < 10
    · rw [dd_small h] at hx
      simp only [List.mem_singleton] at hx
      subst hx; exact key ⟨n, h⟩
    · rw [dd_big h, List.mem_append] at hx
      rcases hx with hx | hx
      · exact ih _ (by omega) x hx
      · simp only [List.mem_singleton] at hx
        subst hx; exact key ⟨n % 10, by omega⟩
theorem hexc_val : ∀ r : Fin 16, hexd ((hexc r.1).toNat : Int) = r.1 := by decide
theorem hexc_chr : ∀ r : Fin 16, hexc r.1 ≠ 46 ∧ hexc r.1 ≠ 58 ∧ hexc r.1 ≠ 47 := by decide
theorem hexT_chr (n : Nat) : ∀ x ∈ hexT n, x ≠ 46 ∧ x ≠ 58 ∧ x ≠ 47 := by
  induction n using Nat.strongRecOn with
  | _ n ih =>
    intro x hx
    by_cases h : n < 16
    · rw [hexT_small h] at hx
      simp only [List.mem_singleton] at hx
      subst hx; exact hexc_chr ⟨n, h⟩
    · rw [hexT_big h, List.mem_append] at hx
      rcases hx with hx | hx
      · exact ih _ (by omega) x hx
      · simp only [List.mem_singleton] at hx
        subst hx; exact hexc_chr ⟨n % 16, by omega⟩
theorem hexT_val (n : Nat) : allHex (txt (hexT n)) (hexT n).length = true ∧ hval (txt (hexT n)) (hexT n).length = n := by
  induction n using Nat.strongRecOn with
  | _ n ih =>
    by_cases h : n < 16
    · rw [hexT_small h]
      have e : hexd (B (txt [hexc n]) 0) = n := hexc_val ⟨n, h⟩
      simp only [List.length_singleton, allHex, hval, e, Bool.true_and, decide_eq_true_eq]
      omega
    · rw [hexT_big h]
      have ih := ih (n / 16) (by omega)
      generalize hexT (n / 16) = l at *
      have hc := hex_congr (s := txt (l ++ [hexc (n % 16)])) (t := txt l) l.length fun i hi => B_pre _ _ i hi
      have e : hexd (B (txt (l ++ [hexc (n % 16)])) l.length) = (n % 16 : Nat) := by rw [B_snoc]; exact hexc_val ⟨n % 16, by omega⟩
      simp only [List.length_append, List.length_singleton, allHex, hval, hc.1, hc.2, ih.1, ih.2, e, Bool.true_and, decide_eq_true_eq]
      omega
theorem hexg_hexT {n : Nat} (h : n < 65536) : hexg (txt (hexT n)) = n := by
  have hl := hexT_len h
  have hp := hexT_pos n
  have hv := hexT_val n
  unfold hexg
  rw [txt_sz, if_neg (by omega), if_neg (by rw [hv.1]; simp), hv.2]
theorem parse4_none {l : List UInt8} (h : ∀ x ∈ l, x ≠ 46) : parse4 (txt l) = none := by
  unfold parse4
  rw [parts_txt, splitc_none h, if_neg (by simp)]
/-- IPv4 -/
theorem parse4_fmt (x0 x1 x2 x3 : Nat) (h0 : x0 < 256) (h1 : x1 < 256) (h2 : x2 < 256) (h3 : x3 < 256) :
    parse4 (txt (Lib.decDigits x0 ++ [46] ++ Lib.decDigits x1 ++ [46] ++ Lib.decDigits x2 ++ [46] ++ Lib.decDigits x3)) = some [(x0 : Int), x1, x2, x3] := by
  have e : parts 46 (txt (Lib.decDigits x0 ++ [46] ++ Lib.decDigits x1 ++ [46] ++ Lib.decDigits x2 ++ [46] ++ Lib.decDigits x3)) = [txt (Lib.decDigits x0), txt (Lib.decDigits x1), txt (Lib.decDigits x2), txt (Lib.decDigits x3)] := by
    rw [parts_txt]
    simp only [List.append_assoc, List.cons_append, List.nil_append]
    rw [splitc_hit _ (fun x hx => (dd_chr x0 x hx).1), splitc_hit _ (fun x hx => (dd_chr x1 x hx).1), splitc_hit _ (fun x hx => (dd_chr x2 x hx).1), splitc_none (fun x hx => (dd_chr x3 x hx).1)]
    rfl
  have d : ∀ n : Nat, n < 256 → dec (txt (Lib.decDigits n)) = n := fun n hn => decP_dd (by omega) (by omega)
  unfold parse4
  rw [e, if_pos]
  · simp only [List.map_cons, List.map_nil, d _ h0, d _ h1, d _ h2, d _ h3]
  · refine ⟨rfl, ?_⟩
    simp [okDec, d _ h0, d _ h1, d _ h2, d _ h3]
/-- groups joined by colons -/
def joinG : List Nat → List UInt8
  | [] => []
  | [x] => hexT x
  | x :: y :: r => hexT x ++ 58 :: joinG (y :: r)
theorem joinG_split : ∀ (x : Nat) (xs : List Nat), splitc 58 (joinG (x :: xs)) = (x :: xs).map hexT
  | x, [] => by rw [joinG, splitc_none (fun c hc => (hexT_chr x c hc).2.1)]; rfl
  | x, y :: r => by rw [joinG, splitc_hit _ (fun c hc => (hexT_chr x c hc).2.1), joinG_split y r]; rfl
theorem joinG_chr : ∀ (xs : List Nat), ∀ c ∈ joinG xs, c ≠ 46
  | [], c, hc => by cases hc
  | [x], c, hc => (hexT_chr x c hc).1
  | x :: y :: r, c, hc => by
    rw [joinG, List.mem_append, List.mem_cons] at hc
    rcases hc with h | rfl | h
    · exact (hexT_chr x c h).1
    · decide
    · exact joinG_chr (y :: r) c h
theorem hexT_cons (x : Nat) : ∃ c l, hexT x = c :: l ∧ c ≠ 58 := by
  cases h : hexT x with
  | nil => have := hexT_pos x; rw [h] at this; simp at this
  | cons c l => exact ⟨c, l, rfl, (hexT_chr x c (by rw [h]; simp)).2.1⟩
theorem joinG_cons (x : Nat) (xs : List Nat) : ∃ c l, joinG (x :: xs) = c :: l ∧ c ≠ 58 := by
  obtain ⟨c, l, e, h⟩ := hexT_cons x
  cases xs with
  | nil => exact ⟨c, l, e, h⟩
  | cons y r => exact ⟨c, l ++ 58 :: joinG (y :: r), by rw [joinG, e]; rfl, h⟩
theorem joinG_colon : ∀ (xs : List Nat) (j : Nat), (joinG xs)[j]? = some 58 → ∃ c, (joinG xs)[j + 1]? = some c ∧ c ≠ 58
  | [], j, h => by simp [joinG] at h
  | [x], j, h => absurd rfl (hexT_chr x 58 (List.mem_of_getElem? h)).2.1
  | x :: y :: r, j, h => by
    rw [joinG] at h ⊢
    rcases Nat.lt_trichotomy j (hexT x).length with hj | rfl | hj
    · rw [List.getElem?_append_left hj] at h
      exact absurd rfl (hexT_chr x 58 (List.mem_of_getElem? h)).2.1
    · obtain ⟨c, l, e, hc⟩ := joinG_cons y r
      refine ⟨c, ?_, hc⟩
      rw [List.getElem?_append_right (by omega), show (hexT x).length + 1 - (hexT x).length = 1 by omega, e]; rfl
    · obtain ⟨i, hi⟩ : ∃ i, j - (hexT x).length = i + 1 := ⟨j - (hexT x).length - 1, by omega⟩
      rw [List.getElem?_append_right (by omega), hi, List.getElem?_cons_succ] at h
      obtain ⟨c, h1, h2⟩ := joinG_colon (y :: r) i h
      refine ⟨c, ?_, h2⟩
      rw [List.getElem?_append_right (by omega), show j + 1 - (hexT x).length = (i + 1) + 1 by omega, List.getElem?_cons_succ]; exact h1
theorem occ_two (s : List UInt8) (j : Nat) : Lib.occAt s [58, 58] j = true ↔ s[j]? = some 58 ∧ s[j + 1]? = some 58 := by
  unfold Lib.occAt
  have e0 : s[j]? = (s.drop j)[0]? := by rw [List.getElem?_drop, Nat.add_zero]
  have e1 : s[j + 1]? = (s.drop j)[1]? := by rw [List.getElem?_drop]
  rw [e0, e1]
  generalize s.drop j = t
  cases t with
  | nil => simp [List.isPrefixOf]
  | cons a l => cases l with
    | nil => simp [List.isPrefixOf]
    | cons b l =>
      simp only [List.isPrefixOf, Bool.and_true, Bool.and_eq_true, beq_iff_eq, List.getElem?_cons_zero, List.getElem?_cons_succ, Option.some.injEq]
      exact ⟨fun h => ⟨h.1.symm, h.2.symm⟩, fun h => ⟨h.1.symm, h.2.symm⟩⟩
theorem index_at {s : List UInt8} {k : Nat} (h : s[k]? = some 58 ∧ s[k + 1]? = some 58) (hn : ∀ j : Nat, j < k → ¬ (s[j]? = some (58 : UInt8) ∧ s[j + 1]? = some 58)) : Lib.index s [58, 58] = k := by
  have hk : k ≤ s.length := Nat.le_of_lt (List.getElem?_eq_some_iff.1 h.1).1
  rcases Lib.index_spec s [58, 58] with ⟨_, h2⟩ | ⟨i, h1, _, h3, h4⟩
  · have := h2 k hk
    rw [(occ_two s k).2 h] at this; cases this
  · rcases Nat.lt_trichotomy i k with hi | rfl | hi
    · exact absurd ((occ_two s i).1 h3) (hn i hi)
    · exact h1
    · have := h4 k hi
      rw [(occ_two s k).2 h] at this; cases this
theorem index_no {s : List UInt8} (hn : ∀ j : Nat, ¬ (s[j]? = some 58 ∧ s[j + 1]? = some 58)) : Lib.index s [58, 58] = -1 := by
  rcases Lib.index_spec s [58, 58] with ⟨h1, _⟩ | ⟨i, h1, _, h3, _⟩
  · exact h1
  · exact absurd ((occ_two s i).1 h3) (hn i)
theorem joinG_no (xs : List Nat) (j : Nat) : ¬ ((joinG xs)[j]? = some 58 ∧ (joinG xs)[j + 1]? = some 58) := by
  rintro ⟨h1, h2⟩
  obtain ⟨c, h3, h4⟩ := joinG_colon xs j h1
  rw [h3] at h2; exact h4 (Option.some.inj h2)
theorem joinG_at (xs : List Nat) (t : List UInt8) : Lib.index (joinG xs ++ ([58, 58] ++ t)) [58, 58] = (joinG xs).length := by
  refine index_at ⟨?_, ?_⟩ fun j hj => ?_
  · rw [List.getElem?_append_right (Nat.le_refl _)]; simp
  · rw [List.getElem?_append_right (by omega), show (joinG xs).length + 1 - (joinG xs).length = 1 by omega]; simp
  · rintro ⟨h1, h2⟩
    rw [List.getElem?_append_left hj] at h1
    obtain ⟨c, h3, h4⟩ := joinG_colon xs j h1
    have hl := (List.getElem?_eq_some_iff.1 h3).1
    rw [List.getElem?_append_left hl, h3] at h2
    exact h4 (Option.some.inj h2)
theorem groups_hexT (last : Bool) : ∀ xs : List Nat, (∀ x ∈ xs, x < 65536) → groups last ((xs.map hexT).map txt) = some (xs.map Int.ofNat)
  | [], _ => rfl
  | x :: xs, h => by
    have hx := h x (by simp)
    have ih := groups_hexT last xs fun y hy => h y (by simp [hy])
    rw [List.map_cons, List.map_cons, groups]
    have e : (if last = true ∧ (xs.map hexT).map txt = [] then parse4 (txt (hexT x)) else none) = none := by
      split
      · exact parse4_none fun c hc => (hexT_chr x c hc).1
      · rfl
    rw [e]
    simp only
    rw [hexg_hexT hx, if_neg (by omega), ih]; rfl
theorem parseG_join (last : Bool) (xs : List Nat) (h : ∀ x ∈ xs, x < 65536) : parseG (txt (joinG xs)) last = some (xs.map Int.ofNat) := by
  unfold parseG
  cases xs with
  | nil => rw [txt_sz]; rfl
  | cons x xs =>
    obtain ⟨c, l, e, _⟩ := joinG_cons x xs
    rw [txt_sz, if_neg (by rw [e]; simp), parts_txt, joinG_split, groups_hexT last _ h]
theorem extract_txt (l : List UInt8) (a b : Nat) : (txt l).extract a b = txt ((l.take b).drop a) := BA_ext (by rw [data_extract]; rfl)
theorem parse_plain (xs : List Nat) (h : ∀ x ∈ xs, x < 65536) : parseA (txt (joinG xs)) = v6 (xs.map Int.ofNat) := by
  unfold parseA
  rw [parse4_none (joinG_chr xs)]
  simp only
  unfold cutAt
  rw [txt_list, index_no (joinG_no xs), if_pos (by decide), parseG_join true xs h]
theorem parse_cut (xs ys : List Nat) (h : ∀ x ∈ xs, x < 65536) (h' : ∀ x ∈ ys, x < 65536) (hn : xs.length + ys.length ≤ 7) :
    parseA (txt (joinG xs ++ ([58, 58] ++ joinG ys))) = v6 (xs.map Int.ofNat ++ List.replicate (8 - (xs.length + ys.length)) 0 ++ ys.map Int.ofNat) := by
  unfold parseA
  rw [parse4_none (fun c hc => by
    rw [List.mem_append, List.mem_append] at hc
    rcases hc with hc | hc | hc
    · exact joinG_chr xs c hc
    · simp at hc; subst hc; decide
    · exact joinG_chr ys c hc)]
  simp only
  unfold cutAt
  rw [txt_list, joinG_at, if_neg (by omega), extract_txt, extract_txt, Int.toNat_natCast, txt_sz, List.drop_zero, List.take_left' rfl, List.take_of_length_le (Nat.le_refl _)]
  have ed : (joinG xs ++ ([58, 58] ++ joinG ys)).drop ((joinG xs).length + 2) = joinG ys := by
    rw [← List.append_assoc]
    exact List.drop_left' (by simp)
  rw [ed]
  rw [parseG_join false xs h, parseG_join true ys h']
  simp only [List.length_map]
  rw [if_neg (by omega)]
theorem zrun_zero : ∀ (f i : Nat) (l : List Int), ∀ j, j < zrun l f i → grp l (i + j) = 0
  | 0, i, l, j, h => by simp [zrun] at h
  | f + 1, i, l, j, h => by
    rw [zrun] at h
    split at h
    · rename_i h0
      cases j with
      | zero => exact h0
      | succ j => rw [show i + (j + 1) = i + 1 + j by omega]; exact zrun_zero f (i + 1) l j (by omega)
    · omega
theorem best_zero (l : List Int) : ∀ k, (best l k).1 = -1 ∨ ∀ i : Nat, (best l k).1 ≤ i → (i : Int) < (best l k).1 + (best l k).2 → grp l i = 0
  | 0 => .inl rfl
  | k + 1 => by
    rw [best]
    split
    · right
      intro i h1 h2
      simp only at h1 h2
      have := zrun_zero (8 - k) k l (i - k) (by unfold zr at h2; omega)
      rw [show k + (i - k) = i by omega] at this; exact this
    · exact best_zero l k
def gN (l : List Int) (i : Nat) : Nat := (grp l i).toNat
theorem grp_len16 {l : List Int} (hl : l.length = 16) (hb : ∀ x ∈ l, 0 ≤ x ∧ x < 256) : hilo [grp l 0, grp l 1, grp l 2, grp l 3, grp l 4, grp l 5, grp l 6, grp l 7] = l := by
  match l, hl with
  | [a0, a1, a2, a3, a4, a5, a6, a7, a8, a9, a10, a11, a12, a13, a14, a15], _ =>
    simp only [List.mem_cons, List.not_mem_nil, or_false, forall_eq_or_imp, forall_eq] at hb
    obtain ⟨h0, h1, h2, h3, h4, h5, h6, h7, h8, h9, h10, h11, h12, h13, h14, h15⟩ := hb
    have e : ∀ x y : Int, 0 ≤ y ∧ y < 256 → (x * 256 + y) / 256 = x ∧ (x * 256 + y) % 256 = y := fun x y h => by omega
    simp only [hilo, grp, List.flatMap_cons, List.flatMap_nil, List.getD_cons_succ, List.getD_cons_zero, Nat.mul_zero, Nat.mul_one, Nat.reduceMul, Nat.reduceAdd, e _ _ h1, e _ _ h3, e _ _ h5, e _ _ h7, e _ _ h9, e _ _ h11, e _ _ h13, e _ _ h15, List.cons_append, List.nil_append]
theorem fmt6_plain (l : List Int) : tail6 l (-1) 1 9 0 = joinG [gN l 0, gN l 1, gN l 2, gN l 3, gN l 4, gN l 5, gN l 6, gN l 7] := by
  simp [tail6, joinG, gN]
theorem fmt6_cut (l : List Int) (F M : Nat) (hM : 2 ≤ M) (h : F + M ≤ 8) :
    tail6 l F M 9 0 = joinG (([0, 1, 2, 3, 4, 5, 6, 7].take F).map (gN l)) ++ ([58, 58] ++ joinG (([0, 1, 2, 3, 4, 5, 6, 7].drop (F + M)).map (gN l))) := by
  have hF : F = 0 ∨ F = 1 ∨ F = 2 ∨ F = 3 ∨ F = 4 ∨ F = 5 ∨ F = 6 := by omega
  have hM' : M = 2 ∨ M = 3 ∨ M = 4 ∨ M = 5 ∨ M = 6 ∨ M = 7 ∨ M = 8 := by omega
  rcases hF with rfl | rfl | rfl | rfl | rfl | rfl | rfl <;> rcases hM' with rfl | rfl | rfl | rfl | rfl | rfl | rfl <;> first | (exfalso; omega) | simp [tail6, joinG, gN]
theorem grp_bd' {l : List Int} (hb : ∀ x ∈ l, 0 ≤ x ∧ x < 256) (i : Nat) : 0 ≤ grp l i ∧ grp l i < 65536 := by
  have h : ∀ j, 0 ≤ l.getD j 0 ∧ l.getD j 0 < 256 := fun j => by
    rw [List.getD_eq_getElem?_getD]
    rcases Nat.lt_or_ge j l.length with h1 | h1
    · rw [List.getElem?_eq_getElem h1]; exact hb _ (List.getElem_mem h1)
    · rw [List.getElem?_eq_none h1]; exact ⟨Int.le_refl _, by decide⟩
  have h1 := h (2 * i)
  have h2 := h (2 * i + 1)
  unfold grp; omega
theorem parse_fmt6 {l : List Int} (hl : l.length = 16) (hb : ∀ x ∈ l, 0 ≤ x ∧ x < 256) : parseA (txt (fmt6 l)) = ((true, l), true) := by
  have g := grp_bd' hb
  have gn : ∀ i, Int.ofNat (gN l i) = grp l i := fun i => by unfold gN; have := g i; show ((grp l i).toNat : Int) = _; omega
  have gb : ∀ i, gN l i < 65536 := fun i => by unfold gN; have := g i; omega
  have hv : v6 [grp l 0, grp l 1, grp l 2, grp l 3, grp l 4, grp l 5, grp l 6, grp l 7] = ((true, l), true) := by
    unfold v6; rw [if_pos (by simp), grp_len16 hl hb]
  unfold fmt6
  rcases best_bd l 8 (Nat.le_refl _) with h | ⟨h1, h2, h3, h4⟩
  · rw [h]
    simp only [fmt6_plain]
    rw [parse_plain _ (by intro x hx; simp at hx; rcases hx with rfl | rfl | rfl | rfl | rfl | rfl | rfl | rfl <;> exact gb _)]
    simp only [List.map_cons, List.map_nil, gn, hv]
  · have hz := best_zero l 8
    obtain ⟨F, hF⟩ : ∃ F : Nat, (best l 8).1 = F := ⟨(best l 8).1.toNat, by omega⟩
    obtain ⟨M, hM⟩ : ∃ M : Nat, (best l 8).2 = M := ⟨(best l 8).2.toNat, by omega⟩
    simp only [hF, hM] at h1 h2 h3 h4 hz ⊢
    have hz' : ∀ i : Nat, F ≤ i → i < F + M → grp l i = 0 := by
      rcases hz with h | h
      · omega
      · exact fun i a b => h i (by omega) (by omega)
    have hmem : ∀ (is : List Nat), ∀ x ∈ is.map (gN l), x < 65536 := fun is x hx => by
      obtain ⟨i, _, rfl⟩ := List.mem_map.1 hx; exact gb i
    rw [fmt6_cut l F M (by omega) (by omega), parse_cut _ _ (hmem _) (hmem _) (by simp; omega)]
    rw [← hv]
    congr 1
    simp only [List.map_map]
    have ef : (Int.ofNat ∘ gN l) = grp l := funext gn
    rw [ef]
    have hF' : F = 0 ∨ F = 1 ∨ F = 2 ∨ F = 3 ∨ F = 4 ∨ F = 5 ∨ F = 6 := by omega
    have hM' : M = 2 ∨ M = 3 ∨ M = 4 ∨ M = 5 ∨ M = 6 ∨ M = 7 ∨ M = 8 := by omega
    clear hF hM hv ef hmem hz gn gb g hb h1 h2 h3
    rcases hF' with rfl | rfl | rfl | rfl | rfl | rfl | rfl <;> rcases hM' with rfl | rfl | rfl | rfl | rfl | rfl | rfl <;> first | (exfalso; omega) | simp [hz', List.replicate]
theorem parse_format {a : Adr} (ha : okA a) (hv : validA a = true) : parseA (txt (fmtA a)) = (a, true) := by
  obtain ⟨f, l⟩ := a
  obtain ⟨hl, hb⟩ := ha
  unfold fmtA
  rw [hv]
  cases f with
  | true => exact parse_fmt6 hl hb
  | false =>
    have hz : ∀ x ∈ l.drop 4, x = 0 := by
      unfold validA at hv
      rw [Bool.false_or, List.all_eq_true] at hv
      exact fun x hx => by simpa using hv x hx
    match l, hl with
    | [a0, a1, a2, a3, a4, a5, a6, a7, a8, a9, a10, a11, a12, a13, a14, a15], _ =>
      simp only [List.mem_cons, List.not_mem_nil, or_false, forall_eq_or_imp, forall_eq] at hb
      obtain ⟨h0, h1, h2, h3, _⟩ := hb
      simp only [List.drop_succ_cons, List.drop_zero, List.mem_cons, List.not_mem_nil, or_false, forall_eq_or_imp, forall_eq] at hz
      obtain ⟨rfl, rfl, rfl, rfl, rfl, rfl, rfl, rfl, rfl, rfl, rfl, rfl⟩ := hz
      obtain ⟨n0, rfl⟩ : ∃ n : Nat, a0 = n := ⟨a0.toNat, by omega⟩
      obtain ⟨n1, rfl⟩ : ∃ n : Nat, a1 = n := ⟨a1.toNat, by omega⟩
      obtain ⟨n2, rfl⟩ : ∃ n : Nat, a2 = n := ⟨a2.toNat, by omega⟩
      obtain ⟨n3, rfl⟩ : ∃ n : Nat, a3 = n := ⟨a3.toNat, by omega⟩
      have e := parse4_fmt n0 n1 n2 n3 (by omega) (by omega) (by omega) (by omega)
      simp only [Bool.true_eq_false, if_false, Bool.false_eq_true, fmt4, List.getD_cons_zero, List.getD_cons_succ, Int.toNat_natCast]
      unfold parseA
      rw [e]
      rfl
end Go.Proofs.YtpdoddelnahlnaaGreatDoor
