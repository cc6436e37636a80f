/-
  Several texts joined: IpRt, IpRf.
-/
import Derived.Test.YtnohnnjeabehjaaGreatDoorK04
set_option maxHeartbeats 8000000
set_option maxRecDepth 8000
set_option linter.unusedVariables false
set_option linter.unusedSimpArgs false
namespace Go.Proofs.YtnohnnjeabehjaaGreatDoor
open Go.RowKit
theorem txt_sz (l : List UInt8) : (txt l).size = l.length := by rw [size_list]; rfl
theorem txt_list (l : List UInt8) : (txt l).data.toList = l := rfl
theorem B_txt (l : List UInt8) (k : Nat) : B (txt l) k = ((l.getD k 0).toNat : Int) := rfl
theorem parts_txt (c : UInt8) (l : List UInt8) : parts c (txt l) = (splitc c l).map txt := rfl
theorem dig_congr {s t : ByteArray} : ∀ k, (∀ i, i < k -> B s i = B t i) -> allDig s k = allDig t k /\ dval s k = dval t k
 | 0, _ => ⟨rfl, rfl⟩
 | k + 1, h => by
  have ih := dig_congr k fun i hi => h i (by omega)
  have hk := h k (by omega)
  simp only [allDig, dval, ih.1, ih.2, hk, and_self]
theorem hex_congr {s t : ByteArray} : ∀ k, (∀ i, i < k -> B s i = B t i) -> allHex s k = allHex t k /\ hval s k = hval t k
 | 0, _ => ⟨rfl, rfl⟩
 | k + 1, h => by
  have ih := hex_congr k fun i hi => h i (by omega)
  have hk := h k (by omega)
  simp only [allHex, hval, ih.1, ih.2, hk, and_self]
theorem B_snoc (l : List UInt8) (c : UInt8) : B (txt (l ++ [c])) l.length = (c.toNat : Int) := by
 rw [B_txt, List.getD_eq_getElem?_getD, List.getElem?_append_right (Nat.le_refl _)]; simp
theorem B_pre (l m : List UInt8) (i : Nat) (h : i < l.length) : B (txt (l ++ m)) i = B (txt l) i := by
 rw [B_txt, B_txt, List.getD_eq_getElem?_getD, List.getElem?_append_left h, ← List.getD_eq_getElem?_getD]
theorem dd_small {n : Nat} (h : n < 10) : Lib.decDigits n = [UInt8.ofNat (48 + n)] := Lib.decDigits_one h
theorem dd_big {n : Nat} (h : ¬ n < 10) : Lib.decDigits n = Lib.decDigits (n / 10) ++ [UInt8.ofNat (48 + n % 10)] := by rw [Lib.decDigits, dif_neg h]
theorem dd_pos (n : Nat) : 1 <= (Lib.decDigits n).length := by
 by_cases h : n < 10
 ·rw [dd_small h]; simp
 ·rw [dd_big h]; simp
theorem dd_len : ∀ k n : Nat, n < 10 ^ (k + 1) -> (Lib.decDigits n).length <= k + 1
 | 0, n, h => by rw [dd_small (by omega)]; simp
 | k + 1, n, h => by
  by_cases h1 : n < 10
  ·rw [dd_small h1]; simp
  ·rw [dd_big h1, List.length_append]
   have := dd_len k (n / 10) (by rw [Nat.pow_succ] at h; omega)
   simp; omega
theorem chr10 {r : Nat} (h : r < 10) : ((UInt8.ofNat (48 + r)).toNat : Int) = 48 + r := by
 rw [UInt8.toNat_ofNat_of_lt' (by show _ < 256; omega)]; omega
theorem dd_val (n : Nat) : allDig (txt (Lib.decDigits n)) (Lib.decDigits n).length = true /\ dval (txt (Lib.decDigits n)) (Lib.decDigits n).length = n := by
 induction n using Nat.strongRecOn with
 | _ n ih =>
  by_cases h : n < 10
  ·rw [dd_small h]
   have e : B (txt [UInt8.ofNat (48 + n)]) 0 = 48 + n := chr10 h
   simp only [List.length_singleton, allDig, dval, e, dig, Bool.true_and, decide_eq_true_eq]
   omega
  ·rw [dd_big h]
   have ih := ih (n / 10) (by omega)
   generalize Lib.decDigits (n / 10) = l at *
   have hc := dig_congr (s := txt (l ++ [UInt8.ofNat (48 + n % 10)])) (t := txt l) l.length fun i hi => B_pre _ _ i hi
   have e : B (txt (l ++ [UInt8.ofNat (48 + n % 10)])) l.length = 48 + (n % 10 : Nat) := by rw [B_snoc, chr10 (by omega)]
   simp only [List.length_append, List.length_singleton, allDig, dval, hc.1, hc.2, ih.1, ih.2, e, dig, Bool.true_and, decide_eq_true_eq]
   omega
theorem dd_head (n : Nat) : 1 <= n -> B (txt (Lib.decDigits n)) 0 ≠ 48 := by
 induction n using Nat.strongRecOn with
 | _ n ih =>
  intro h1
  by_cases h : n < 10
  ·rw [dd_small h]
   have e : B (txt [UInt8.ofNat (48 + n)]) 0 = 48 + n := chr10 h
   rw [e]; omega
  ·rw [dd_big h, B_pre _ _ 0 (dd_pos _)]
   exact ih (n / 10) (by omega) (by omega)
theorem decP_dd {n : Nat} {most : Int} (h : (n : Int) <= most) (h6 : n < 1000000) : decP (txt (Lib.decDigits n)) most = n := by
 have hl := dd_len 5 n h6
 have hp := dd_pos n
 have hv := dd_val n
 unfold decP
 rw [txt_sz, if_neg, if_neg (by rw [hv.1]; simp), hv.2, if_neg (by omega)]
 rintro (h | h | ⟨h, h0⟩)
 ·omega
 ·omega
 ·by_cases h1 : 1 <= n
  ·exact dd_head n h1 h0
  ·obtain rfl : n = 0 := by omega
   rw [dd_small (by decide)] at h; simp at h
theorem dd_chr (n : Nat) : ∀ x ∈ Lib.decDigits n, x ≠ 46 /\ x ≠ 58 /\ x ≠ 47 := by
 induction n using Nat.strongRecOn with
 | _ n ih =>
  have key : ∀ r : Fin 10, UInt8.ofNat (48 + r.1) ≠ 46 /\ UInt8.ofNat (48 + r.1) ≠ 58 /\ UInt8.ofNat (48 + r.1) ≠ 47 := by decide
  intro x hx
  by_cases h : n < 10
  ·rw [dd_small h] at hx
   simp only [List.mem_singleton] at hx
   subst hx; exact key ⟨n, h⟩
  ·rw [dd_big h, List.mem_append] at hx
   rcases hx with hx | hx
   ·exact ih _ (by omega) x hx
   ·simp only [List.mem_singleton] at hx
    subst hx; exact key ⟨n % 10, by omega⟩
theorem hexc_val : ∀ r : Fin 16, hexd ((hexc r.1).toNat : Int) = r.1 := by decide
theorem hexc_chr : ∀ r : Fin 16, hexc r.1 ≠ 46 /\ hexc r.1 ≠ 58 /\ hexc r.1 ≠ 47 := by decide
theorem hexT_chr (n : Nat) : ∀ x ∈ hexT n, x ≠ 46 /\ x ≠ 58 /\ x ≠ 47 := by
 induction n using Nat.strongRecOn with
 | _ n ih =>
  intro x hx
  by_cases h : n < 16
  ·rw [hexT_small h] at hx
   simp only [List.mem_singleton] at hx
   subst hx; exact hexc_chr ⟨n, h⟩
  ·rw [hexT_big h, List.mem_append] at hx
   rcases hx with hx | hx
   ·exact ih _ (by omega) x hx
   ·simp only [List.mem_singleton] at hx
    subst hx; exact hexc_chr ⟨n % 16, by omega⟩
theorem hexT_val (n : Nat) : allHex (txt (hexT n)) (hexT n).length = true /\ hval (txt (hexT n)) (hexT n).length = n := by
 induction n using Nat.strongRecOn with
 | _ n ih =>
  by_cases h : n < 16
  ·rw [hexT_small h]
   have e : hexd (B (txt [hexc n]) 0) = n := hexc_val ⟨n, h⟩
   simp only [List.length_singleton, allHex, hval, e, Bool.true_and, decide_eq_true_eq]
   omega
  ·rw [hexT_big h]
   have ih := ih (n / 16) (by omega)
   generalize hexT (n / 16) = l at *
   have hc := hex_congr (s := txt (l ++ [hexc (n % 16)])) (t := txt l) l.length fun i hi => B_pre _ _ i hi
   have e : hexd (B (txt (l ++ [hexc (n % 16)])) l.length) = (n % 16 : Nat) := by rw [B_snoc]; exact hexc_val ⟨n % 16, by omega⟩
   simp only [List.length_append, List.length_singleton, allHex, hval, hc.1, hc.2, ih.1, ih.2, e, Bool.true_and, decide_eq_true_eq]
   omega
theorem hexg_hexT {n : Nat} (h : n < 65536) : hexg (txt (hexT n)) = n := by
 have hl := hexT_len h
 have hp := hexT_pos n
 have hv := hexT_val n
 unfold hexg
 rw [txt_sz, if_neg (by omega), if_neg (by rw [hv.1]; simp), hv.2]
theorem parse4_none {l : List UInt8} (h : ∀ x ∈ l, x ≠ 46) : parse4 (txt l) = none := by
 unfold parse4
 rw [parts_txt, splitc_none h, if_neg (by simp)]
theorem parse4_fmt (x0 x1 x2 x3 : Nat) (h0 : x0 < 256) (h1 : x1 < 256) (h2 : x2 < 256) (h3 : x3 < 256) :
  parse4 (txt (Lib.decDigits x0 ++ [46] ++ Lib.decDigits x1 ++ [46] ++ Lib.decDigits x2 ++ [46] ++ Lib.decDigits x3)) = some [(x0 : Int), x1, x2, x3] := by
 have e : parts 46 (txt (Lib.decDigits x0 ++ [46] ++ Lib.decDigits x1 ++ [46] ++ Lib.decDigits x2 ++ [46] ++ Lib.decDigits x3)) = [txt (Lib.decDigits x0), txt (Lib.decDigits x1), txt (Lib.decDigits x2), txt (Lib.decDigits x3)] := by
  rw [parts_txt]
  simp only [List.append_assoc, List.cons_append, List.nil_append]
  rw [splitc_hit _ (fun x hx => (dd_chr x0 x hx).1), splitc_hit _ (fun x hx => (dd_chr x1 x hx).1), splitc_hit _ (fun x hx => (dd_chr x2 x hx).1), splitc_none (fun x hx => (dd_chr x3 x hx).1)]
  rfl
 have d : ∀ n : Nat, n < 256 -> dec (txt (Lib.decDigits n)) = n := fun n hn => decP_dd (by omega) (by omega)
 unfold parse4
 rw [e, if_pos]
 ·simp only [List.map_cons, List.map_nil, d _ h0, d _ h1, d _ h2, d _ h3]
 ·refine ⟨rfl, ?_⟩
  simp [okDec, d _ h0, d _ h1, d _ h2, d _ h3]
def joinG : List Nat -> List UInt8
 | [] => []
 | [x] => hexT x
 | x :: y :: r => hexT x ++ 58 :: joinG (y :: r)
theorem joinG_split : ∀ (x : Nat) (xs : List Nat), splitc 58 (joinG (x :: xs)) = (x :: xs).map hexT
 | x, [] => by rw [joinG, splitc_none (fun c hc => (hexT_chr x c hc).2.1)]; rfl
 | x, y :: r => by rw [joinG, splitc_hit _ (fun c hc => (hexT_chr x c hc).2.1), joinG_split y r]; rfl
theorem joinG_chr : ∀ (xs : List Nat), ∀ c ∈ joinG xs, c ≠ 46
 | [], c, hc => by cases hc
 | [x], c, hc => (hexT_chr x c hc).1
 | x :: y :: r, c, hc => by
  rw [joinG, List.mem_append, List.mem_cons] at hc
  rcases hc with h | rfl | h
  ·exact (hexT_chr x c h).1
  ·decide
  ·exact joinG_chr (y :: r) c h
theorem hexT_cons (x : Nat) : ∃ c l, hexT x = c :: l /\ c ≠ 58 := by
 cases h : hexT x with
 | nil => have := hexT_pos x; rw [h] at this; simp at this
 | cons c l => exact ⟨c, l, rfl, (hexT_chr x c (by rw [h]; simp)).2.1⟩
theorem joinG_cons (x : Nat) (xs : List Nat) : ∃ c l, joinG (x :: xs) = c :: l /\ c ≠ 58 := by
 obtain ⟨c, l, e, h⟩ := hexT_cons x
 cases xs with
 | nil => exact ⟨c, l, e, h⟩
 | cons y r => exact ⟨c, l ++ 58 :: joinG (y :: r), by rw [joinG, e]; rfl, h⟩
theorem joinG_colon : ∀ (xs : List Nat) (j : Nat), (joinG xs)[j]? = some 58 -> ∃ c, (joinG xs)[j + 1]? = some c /\ c ≠ 58
 | [], j, h => by simp [joinG] at h
 | [x], j, h => absurd rfl (hexT_chr x 58 (List.mem_of_getElem? h)).2.1
 | x :: y :: r, j, h => by
  rw [joinG] at h ⊢
  rcases Nat.lt_trichotomy j (hexT x).length with hj | rfl | hj
  ·rw [List.getElem?_append_left hj] at h
   exact absurd rfl (hexT_chr x 58 (List.mem_of_getElem? h)).2.1
  ·obtain ⟨c, l, e, hc⟩ := joinG_cons y r
   refine ⟨c, ?_, hc⟩
   rw [List.getElem?_append_right (by omega), show (hexT x).length + 1 - (hexT x).length = 1 by omega, e]; rfl
  ·obtain ⟨i, hi⟩ : ∃ i, j - (hexT x).length = i + 1 := ⟨j - (hexT x).length - 1, by omega⟩
   rw [List.getElem?_append_right (by omega), hi, List.getElem?_cons_succ] at h
   obtain ⟨c, h1, h2⟩ := joinG_colon (y :: r) i h
   refine ⟨c, ?_, h2⟩
   rw [List.getElem?_append_right (by omega), show j + 1 - (hexT x).length = (i + 1) + 1 by omega, List.getElem?_cons_succ]; exact h1
theorem occ_two (s : List UInt8) (j : Nat) : Lib.occAt s [58, 58] j = true ↔ s[j]? = some 58 /\ s[j + 1]? = some 58 := by
 unfold Lib.occAt
 have e0 : s[j]? = (s.drop j)[0]? := by rw [List.getElem?_drop, Nat.add_zero]
 have e1 : s[j + 1]? = (s.drop j)[1]? := by rw [List.getElem?_drop]
 rw [e0, e1]
 generalize s.drop j = t
 cases t with
 | nil => simp [List.isPrefixOf]
 | cons a l => cases l with
  | nil => simp [List.isPrefixOf]
  | cons b l =>
   simp only [List.isPrefixOf, Bool.and_true, Bool.and_eq_true, beq_iff_eq, List.getElem?_cons_zero, List.getElem?_cons_succ, Option.some.injEq]
   exact ⟨fun h => ⟨h.1.symm, h.2.symm⟩, fun h => ⟨h.1.symm, h.2.symm⟩⟩
theorem index_at {s : List UInt8} {k : Nat} (h : s[k]? = some 58 /\ s[k + 1]? = some 58) (hn : ∀ j : Nat, j < k -> ¬ (s[j]? = some (58 : UInt8) /\ s[j + 1]? = some 58)) : Lib.index s [58, 58] = k := by
 have hk : k <= s.length := Nat.le_of_lt (List.getElem?_eq_some_iff.1 h.1).1
 rcases Lib.index_spec s [58, 58] with ⟨_, h2⟩ | ⟨i, h1, _, h3, h4⟩
 ·have := h2 k hk
  rw [(occ_two s k).2 h] at this; cases this
 ·rcases Nat.lt_trichotomy i k with hi | rfl | hi
  ·exact absurd ((occ_two s i).1 h3) (hn i hi)
  ·exact h1
  ·have := h4 k hi
   rw [(occ_two s k).2 h] at this; cases this
theorem index_no {s : List UInt8} (hn : ∀ j : Nat, ¬ (s[j]? = some 58 /\ s[j + 1]? = some 58)) : Lib.index s [58, 58] = -1 := by
 rcases Lib.index_spec s [58, 58] with ⟨h1, _⟩ | ⟨i, h1, _, h3, _⟩
 ·exact h1
 ·exact absurd ((occ_two s i).1 h3) (hn i)
theorem joinG_no (xs : List Nat) (j : Nat) : ¬ ((joinG xs)[j]? = some 58 /\ (joinG xs)[j + 1]? = some 58) := by
 rintro ⟨h1, h2⟩
 obtain ⟨c, h3, h4⟩ := joinG_colon xs j h1
 rw [h3] at h2; exact h4 (Option.some.inj h2)
theorem joinG_at (xs : List Nat) (t : List UInt8) : Lib.index (joinG xs ++ ([58, 58] ++ t)) [58, 58] = (joinG xs).length := by
 refine index_at ⟨?_, ?_⟩ fun j hj => ?_
 ·rw [List.getElem?_append_right (Nat.le_refl _)]; simp
 ·rw [List.getElem?_append_right (by omega), show (joinG xs).length + 1 - (joinG xs).length = 1 by omega]; simp
 ·rintro ⟨h1, h2⟩
  rw [List.getElem?_append_left hj] at h1
  obtain ⟨c, h3, h4⟩ := joinG_colon xs j h1
  have hl := (List.getElem?_eq_some_iff.1 h3).1
  rw [List.getElem?_append_left hl, h3] at h2
  exact h4 (Option.some.inj h2)
theorem groups_hexT (last : Bool) : ∀ xs : List Nat, (∀ x ∈ xs, x < 65536) -> groups last ((xs.map hexT).map txt) = some (xs.map Int.ofNat)
 | [], _ => rfl
 | x :: xs, h => by
  have hx := h x (by simp)
  have ih := groups_hexT last xs fun y hy => h y (by simp [hy])
  rw [List.map_cons, List.map_cons, groups]
  have e : (if last = true /\ (xs.map hexT).map txt = [] then parse4 (txt (hexT x)) else none) = none := by
   split
   ·exact parse4_none fun c hc => (hexT_chr x c hc).1
   ·rfl
  rw [e]
  simp only
  rw [hexg_hexT hx, if_neg (by omega), ih]; rfl
theorem parseG_join (last : Bool) (xs : List Nat) (h : ∀ x ∈ xs, x < 65536) : parseG (txt (joinG xs)) last = some (xs.map Int.ofNat) := by
 unfold parseG
 cases xs with
 | nil => rw [txt_sz]; rfl
 | cons x xs =>
  obtain ⟨c, l, e, _⟩ := joinG_cons x xs
  rw [txt_sz, if_neg (by rw [e]; simp), parts_txt, joinG_split, groups_hexT last _ h]
theorem extract_txt (l : List UInt8) (a b : Nat) : (txt l).extract a b = txt ((l.take b).drop a) := BA_ext (by rw [data_extract]; rfl)
theorem parse_plain (xs : List Nat) (h : ∀ x ∈ xs, x < 65536) : parseA (txt (joinG xs)) = v6 (xs.map Int.ofNat) := by
 unfold parseA
 rw [parse4_none (joinG_chr xs)]
 simp only
 unfold cutAt
 rw [txt_list, index_no (joinG_no xs), if_pos (by decide), parseG_join true xs h]
theorem parse_cut (xs ys : List Nat) (h : ∀ x ∈ xs, x < 65536) (h' : ∀ x ∈ ys, x < 65536) (hn : xs.length + ys.length <= 7) :
  parseA (txt (joinG xs ++ ([58, 58] ++ joinG ys))) = v6 (xs.map Int.ofNat ++ List.replicate (8 - (xs.length + ys.length)) 0 ++ ys.map Int.ofNat) := by
 unfold parseA
 rw [parse4_none (fun c hc => by
  rw [List.mem_append, List.mem_append] at hc
  rcases hc with hc | hc | hc
  ·exact joinG_chr xs c hc
  ·simp at hc; subst hc; decide
  ·exact joinG_chr ys c hc)]
 simp only
 unfold cutAt
 rw [txt_list, joinG_at, if_neg (by omega), extract_txt, extract_txt, Int.toNat_natCast, txt_sz, List.drop_zero, List.take_left' rfl, List.take_of_length_le (Nat.le_refl _)]
 have ed : (joinG xs ++ ([58, 58] ++ joinG ys)).drop ((joinG xs).length + 2) = joinG ys := by
  rw [← List.append_assoc]
  exact List.drop_left' (by simp)
 rw [ed]
 rw [parseG_join false xs h, parseG_join true ys h']
 simp only [List.length_map]
 rw [if_neg (by omega)]
theorem zrun_zero : ∀ (f i : Nat) (l : List Int), ∀ j, j < zrun l f i -> grp l (i + j) = 0
 | 0, i, l, j, h => by simp [zrun] at h
 | f + 1, i, l, j, h => by
  rw [zrun] at h
  split at h
  ·rename_i h0
   cases j with
   | zero => exact h0
   | succ j => rw [show i + (j + 1) = i + 1 + j by omega]; exact zrun_zero f (i + 1) l j (by omega)
  ·omega
theorem best_zero (l : List Int) : ∀ k, (best l k).1 = -1 ∨ ∀ i : Nat, (best l k).1 <= i -> (i : Int) < (best l k).1 + (best l k).2 -> grp l i = 0
 | 0 => .inl rfl
 | k + 1 => by
  rw [best]
  split
  ·right
   intro i h1 h2
   simp only at h1 h2
   have := zrun_zero (8 - k) k l (i - k) (by unfold zr at h2; omega)
   rw [show k + (i - k) = i by omega] at this; exact this
  ·exact best_zero l k
def gN (l : List Int) (i : Nat) : Nat := (grp l i).toNat
theorem grp_len16 {l : List Int} (hl : l.length = 16) (hb : ∀ x ∈ l, 0 <= x /\ x < 256) : hilo [grp l 0, grp l 1, grp l 2, grp l 3, grp l 4, grp l 5, grp l 6, grp l 7] = l := by
 match l, hl with
 | [a0, a1, a2, a3, a4, a5, a6, a7, a8, a9, a10, a11, a12, a13, a14, a15], _ =>
  simp only [List.mem_cons, List.not_mem_nil, or_false, forall_eq_or_imp, forall_eq] at hb
  obtain ⟨h0, h1, h2, h3, h4, h5, h6, h7, h8, h9, h10, h11, h12, h13, h14, h15⟩ := hb
  have e : ∀ x y : Int, 0 <= y /\ y < 256 -> (x * 256 + y) / 256 = x /\ (x * 256 + y) % 256 = y := fun x y h => by omega
  simp only [hilo, grp, List.flatMap_cons, List.flatMap_nil, List.getD_cons_succ, List.getD_cons_zero, Nat.mul_zero, Nat.mul_one, Nat.reduceMul, Nat.reduceAdd, e _ _ h1, e _ _ h3, e _ _ h5, e _ _ h7, e _ _ h9, e _ _ h11, e _ _ h13, e _ _ h15, List.cons_append, List.nil_append]
theorem fmt6_plain (l : List Int) : tail6 l (-1) 1 9 0 = joinG [gN l 0, gN l 1, gN l 2, gN l 3, gN l 4, gN l 5, gN l 6, gN l 7] := by
 simp [tail6, joinG, gN]
theorem fmt6_cut (l : List Int) (F M : Nat) (hM : 2 <= M) (h : F + M <= 8) :
  tail6 l F M 9 0 = joinG (([0, 1, 2, 3, 4, 5, 6, 7].take F).map (gN l)) ++ ([58, 58] ++ joinG (([0, 1, 2, 3, 4, 5, 6, 7].drop (F + M)).map (gN l))) := by
 have hF : F = 0 ∨ F = 1 ∨ F = 2 ∨ F = 3 ∨ F = 4 ∨ F = 5 ∨ F = 6 := by omega
 have hM' : M = 2 ∨ M = 3 ∨ M = 4 ∨ M = 5 ∨ M = 6 ∨ M = 7 ∨ M = 8 := by omega
 rcases hF with rfl | rfl | rfl | rfl | rfl | rfl | rfl <;> rcases hM' with rfl | rfl | rfl | rfl | rfl | rfl | rfl <;> first | (exfalso; omega) | simp [tail6, joinG, gN]
theorem grp_bd' {l : List Int} (hb : ∀ x ∈ l, 0 <= x /\ x < 256) (i : Nat) : 0 <= grp l i /\ grp l i < 65536 := by
 have h : ∀ j, 0 <= l.getD j 0 /\ l.getD j 0 < 256 := fun j => by
  rw [List.getD_eq_getElem?_getD]
  rcases Nat.lt_or_ge j l.length with h1 | h1
  ·rw [List.getElem?_eq_getElem h1]; exact hb _ (List.getElem_mem h1)
  ·rw [List.getElem?_eq_none h1]; exact ⟨Int.le_refl _, by decide⟩
 have h1 := h (2 * i)
 have h2 := h (2 * i + 1)
 unfold grp; omega
theorem parse_fmt6 {l : List Int} (hl : l.length = 16) (hb : ∀ x ∈ l, 0 <= x /\ x < 256) : parseA (txt (fmt6 l)) = ((true, l), true) := by
 have g := grp_bd' hb
 have gn : ∀ i, Int.ofNat (gN l i) = grp l i := fun i => by unfold gN; have := g i; show ((grp l i).toNat : Int) = _; omega
 have gb : ∀ i, gN l i < 65536 := fun i => by unfold gN; have := g i; omega
 have hv : v6 [grp l 0, grp l 1, grp l 2, grp l 3, grp l 4, grp l 5, grp l 6, grp l 7] = ((true, l), true) := by
  unfold v6; rw [if_pos (by simp), grp_len16 hl hb]
 unfold fmt6
 rcases best_bd l 8 (Nat.le_refl _) with h | ⟨h1, h2, h3, h4⟩
 ·rw [h]
  simp only [fmt6_plain]
  rw [parse_plain _ (by intro x hx; simp at hx; rcases hx with rfl | rfl | rfl | rfl | rfl | rfl | rfl | rfl <;> exact gb _)]
  simp only [List.map_cons, List.map_nil, gn, hv]
 ·have hz := best_zero l 8
  obtain ⟨F, hF⟩ : ∃ F : Nat, (best l 8).1 = F := ⟨(best l 8).1.toNat, by omega⟩
  obtain ⟨M, hM⟩ : ∃ M : Nat, (best l 8).2 = M := ⟨(best l 8).2.toNat, by omega⟩
  simp only [hF, hM] at h1 h2 h3 h4 hz ⊢
  have hz' : ∀ i : Nat, F <= i -> i < F + M -> grp l i = 0 := by
   rcases hz with h | h
   ·omega
   ·exact fun i a b => h i (by omega) (by omega)
  have hmem : ∀ (is : List Nat), ∀ x ∈ is.map (gN l), x < 65536 := fun is x hx => by
   obtain ⟨i, _, rfl⟩ := List.mem_map.1 hx; exact gb i
  rw [fmt6_cut l F M (by omega) (by omega), parse_cut _ _ (hmem _) (hmem _) (by simp; omega)]
  rw [← hv]
  congr 1
  simp only [List.map_map]
  have ef : (Int.ofNat ∘ gN l) = grp l := funext gn
  rw [ef]
  have hF' : F = 0 ∨ F = 1 ∨ F = 2 ∨ F = 3 ∨ F = 4 ∨ F = 5 ∨ F = 6 := by omega
  have hM' : M = 2 ∨ M = 3 ∨ M = 4 ∨ M = 5 ∨ M = 6 ∨ M = 7 ∨ M = 8 := by omega
  clear hF hM hv ef hmem hz gn gb g hb h1 h2 h3
  rcases hF' with rfl | rfl | rfl | rfl | rfl | rfl | rfl <;> rcases hM' with rfl | rfl | rfl | rfl | rfl | rfl | rfl <;> first | (exfalso; omega) | simp [hz', List.replicate]
theorem parse_format {a : Adr} (ha : okA a) (hv : validA a = true) : parseA (txt (fmtA a)) = (a, true) := by
 obtain ⟨f, l⟩ := a
 obtain ⟨hl, hb⟩ := ha
 unfold fmtA
 rw [hv]
 cases f with
 | true => exact parse_fmt6 hl hb
 | false =>
  have hz : ∀ x ∈ l.drop 4, x = 0 := by
   unfold validA at hv
   rw [Bool.false_or, List.all_eq_true] at hv
   exact fun x hx => by simpa using hv x hx
  match l, hl with
  | [a0, a1, a2, a3, a4, a5, a6, a7, a8, a9, a10, a11, a12, a13, a14, a15], _ =>
   simp only [List.mem_cons, List.not_mem_nil, or_false, forall_eq_or_imp, forall_eq] at hb
   obtain ⟨h0, h1, h2, h3, _⟩ := hb
   simp only [List.drop_succ_cons, List.drop_zero, List.mem_cons, List.not_mem_nil, or_false, forall_eq_or_imp, forall_eq] at hz
   obtain ⟨rfl, rfl, rfl, rfl, rfl, rfl, rfl, rfl, rfl, rfl, rfl, rfl⟩ := hz
   obtain ⟨n0, rfl⟩ : ∃ n : Nat, a0 = n := ⟨a0.toNat, by omega⟩
   obtain ⟨n1, rfl⟩ : ∃ n : Nat, a1 = n := ⟨a1.toNat, by omega⟩
   obtain ⟨n2, rfl⟩ : ∃ n : Nat, a2 = n := ⟨a2.toNat, by omega⟩
   obtain ⟨n3, rfl⟩ : ∃ n : Nat, a3 = n := ⟨a3.toNat, by omega⟩
   have e := parse4_fmt n0 n1 n2 n3 (by omega) (by omega) (by omega) (by omega)
   simp only [Bool.true_eq_false, if_false, Bool.false_eq_true, fmt4, List.getD_cons_zero, List.getD_cons_succ, Int.toNat_natCast]
   unfold parseA
   rw [e]
   rfl
open Go.RowKit
theorem rFormat_bad (a : Adr) (ha : okA a) (hv : validA a = false) (w : World) :
  Calls Tryz.prog 59 #[av a] w fun e w' => e = .returned (.string (txt (fmtA a))) /\ Ext w w' := by
 have hfm : fmtA a = [] := by unfold fmtA; rw [hv]; rfl
 have HFM := Lib.hid hfm; clear hfm
 have hcall := fun w => rValid_any a ha w
 rw [hv] at hcall
 have HC := Lib.hid hcall; clear hcall
 unfold av
 go_enter Tryz.func59, Tryz.ntmps59
 go_upto_region 1 with fail
 have hx := (Ext.refl w).alloc (.cells (ac a) 41)
 have hb := ABox.new ha w
 generalize hwq : w.alloc (.cells (ac a) 41) = w0 at *
 clear hwq
 go_wp2_with (first | refine wpList_load_A rfl _ rfl ha hb.blk rfl ?_ | (go_at_call 56; refine (HC.out _).mono ?_; rintro e w1 ⟨rfl, hx1⟩; refine Hid.out ?_))
 refine Lib.hid ?_
 go_wp2_with fail
 go_ret
 exact ⟨by rw [HFM.out]; rfl, hx.trans hx1⟩
theorem rFormat4_any (a : Adr) (ha : okA a) (hf : a.1 = false) (hv : validA a = true) (w : World) :
  Calls Tryz.prog 59 #[av a] w fun e w' => e = .returned (.string (txt (fmtA a))) /\ Ext w w' := by
 have hfm : fmtA a = fmt4 a.2 := by unfold fmtA; rw [hv, hf]; rfl
 have HFM := Lib.hid hfm; clear hfm
 have hcall := fun w => rValid_any a ha w
 rw [hv] at hcall
 have HC := Lib.hid hcall; clear hcall
 unfold av
 go_enter Tryz.func59, Tryz.ntmps59
 go_upto_region 1 with fail
 have hx := (Ext.refl w).alloc (.cells (ac a) 41)
 have hb := ABox.new ha w
 generalize hwq : w.alloc (.cells (ac a) 41) = w0 at *
 clear hwq
 go_wp2_with (first | refine wpList_load_A rfl _ rfl ha hb.blk rfl ?_ | (go_at_call 56; refine (HC.out _).mono ?_; rintro e w1 ⟨rfl, hx1⟩; refine Hid.out ?_))
 refine Lib.hid ?_
 have hb1 := hb.ext ha hx1
 have hx11 := hx.trans hx1
 have hfam := hb1.fam
 rw [hf] at hfam
 clear hb hx hx1 HC
 have key : ∀ j, ∃ n : Nat, X a j = n /\ n < 256 /\ a.2.getD j 0 = n := fun j => ⟨(X a j).toNat, by have := X_bd ha j; omega, by have := X_bd ha j; omega, by have := X_bd ha j; unfold X at *; omega⟩
 obtain ⟨n0, k0, l0, m0⟩ := key 0
 obtain ⟨n1, k1, l1, m1⟩ := key 1
 obtain ⟨n2, k2, l2, m2⟩ := key 2
 obtain ⟨n3, k3, l3, m3⟩ := key 3
 have H0 := Lib.hid (fdec_any n0 (by omega))
 have H1 := Lib.hid (fdec_any n1 (by omega))
 have H2 := Lib.hid (fdec_any n2 (by omega))
 have H3 := Lib.hid (fdec_any n3 (by omega))
 have hsz : ∀ n, n < 256 -> (txt (Lib.decDigits n)).size <= 21 := fun n hn => by
  rw [txt_size]
  have := Lib.itoa_length_le (n : Int) (by omega) (by omega)
  rw [Lib.itoa_nonneg] at this
  exact this
 have z0 := hsz n0 l0
 have z1 := hsz n1 l1
 have z2 := hsz n2 l2
 have z3 := hsz n3 l3
 have hres : txt (fmtA a) = txt (Lib.decDigits n0) ++ ⟨#[46]⟩ ++ txt (Lib.decDigits n1) ++ ⟨#[46]⟩ ++ txt (Lib.decDigits n2) ++ ⟨#[46]⟩ ++ txt (Lib.decDigits n3) := by
  rw [HFM.out]; unfold fmt4; rw [m0, m1, m2, m3]
  simp only [Int.toNat_natCast, txt_append]; rfl
 have HR := Lib.hid hres
 clear hres hsz key m0 m1 m2 m3
 generalize txt (Lib.decDigits n0) = s0 at *
 generalize txt (Lib.decDigits n1) = s1 at *
 generalize txt (Lib.decDigits n2) = s2 at *
 generalize txt (Lib.decDigits n3) = s3 at *
 have y1 : ¬ 9223372036854775807 < s0.size + 1 := by omega
 have y2 : ¬ 9223372036854775807 < s0.size + 1 + s1.size := by omega
 have y3 : ¬ 9223372036854775807 < s0.size + 1 + s1.size + 1 := by omega
 have y4 : ¬ 9223372036854775807 < s0.size + 1 + s1.size + 1 + s2.size := by omega
 have y5 : ¬ 9223372036854775807 < s0.size + 1 + s1.size + 1 + s2.size + 1 := by omega
 have y6 : ¬ 9223372036854775807 < s0.size + 1 + s1.size + 1 + s2.size + 1 + s3.size := by omega
 go_wp2_with fail
 refine wp_region_rg w1 (by kernel_rfl) (by kernel_rfl) (Ext.refl _) ?_
 apply goV_val _ (by intro u; rfl)
 ·(intro u w hSw hF; go_simp; try with_reducible rfl)
 try simp only [aput, List.set]
 apply goV_val _ (by intro u; rfl)
 ·(intro u w hSw hF; go_simp; try with_reducible rfl)
 try simp only [aput, List.set]
 apply goV_val (.int .u8 (n0 : Int)) (by intro u; rfl)
 ·(intro u w hSw hF; have c0 := (hb1.ext ha hSw).num 0 1 rfl (by decide); rw [k0] at c0; go_simp)
 try simp only [aput, List.set]
 apply goV_val (.int .i64 (n0 : Int)) (by intro u; rfl)
 ·(intro u w hSw hF; have c1 : IntKind.i64.wrap (n0 : Int) = n0 := IntWalk.i64_in _ (by omega); go_simp)
 try simp only [aput, List.set]
 apply goV_call (by intro u; rfl) (fun w hw => H0.out w)
 ·(intro u w hSw hF; go_simp; try with_reducible rfl)
 try simp only [aput, List.set]
 apply goV_val _ (by intro u; rfl)
 ·(intro u w hSw hF; go_simp; try with_reducible rfl)
 try simp only [aput, List.set]
 apply goV_val _ (by intro u; rfl)
 ·(intro u w hSw hF; go_simp; try with_reducible rfl)
 try simp only [aput, List.set]
 apply goV_val _ (by intro u; rfl)
 ·(intro u w hSw hF; go_simp; try with_reducible rfl)
 try simp only [aput, List.set]
 apply goV_val (.int .u8 (n1 : Int)) (by intro u; rfl)
 ·(intro u w hSw hF; have c0 := (hb1.ext ha hSw).num 1 2 rfl (by decide); rw [k1] at c0; go_simp)
 try simp only [aput, List.set]
 apply goV_val (.int .i64 (n1 : Int)) (by intro u; rfl)
 ·(intro u w hSw hF; have c1 : IntKind.i64.wrap (n1 : Int) = n1 := IntWalk.i64_in _ (by omega); go_simp)
 try simp only [aput, List.set]
 apply goV_call (by intro u; rfl) (fun w hw => H1.out w)
 ·(intro u w hSw hF; go_simp; try with_reducible rfl)
 try simp only [aput, List.set]
 apply goV_val _ (by intro u; rfl)
 ·(intro u w hSw hF; go_simp; try with_reducible rfl)
 try simp only [aput, List.set]
 apply goV_val _ (by intro u; rfl)
 ·(intro u w hSw hF; go_simp; try with_reducible rfl)
 try simp only [aput, List.set]
 apply goV_val _ (by intro u; rfl)
 ·(intro u w hSw hF; go_simp; try with_reducible rfl)
 try simp only [aput, List.set]
 apply goV_val _ (by intro u; rfl)
 ·(intro u w hSw hF; go_simp; try with_reducible rfl)
 try simp only [aput, List.set]
 apply goV_val (.int .u8 (n2 : Int)) (by intro u; rfl)
 ·(intro u w hSw hF; have c0 := (hb1.ext ha hSw).num 2 3 rfl (by decide); rw [k2] at c0; go_simp)
 try simp only [aput, List.set]
 apply goV_val (.int .i64 (n2 : Int)) (by intro u; rfl)
 ·(intro u w hSw hF; have c1 : IntKind.i64.wrap (n2 : Int) = n2 := IntWalk.i64_in _ (by omega); go_simp)
 try simp only [aput, List.set]
 apply goV_call (by intro u; rfl) (fun w hw => H2.out w)
 ·(intro u w hSw hF; go_simp; try with_reducible rfl)
 try simp only [aput, List.set]
 apply goV_val _ (by intro u; rfl)
 ·(intro u w hSw hF; go_simp; try with_reducible rfl)
 try simp only [aput, List.set]
 apply goV_val _ (by intro u; rfl)
 ·(intro u w hSw hF; go_simp; try with_reducible rfl)
 try simp only [aput, List.set]
 apply goV_val _ (by intro u; rfl)
 ·(intro u w hSw hF; go_simp; try with_reducible rfl)
 try simp only [aput, List.set]
 apply goV_val _ (by intro u; rfl)
 ·(intro u w hSw hF; go_simp; try with_reducible rfl)
 try simp only [aput, List.set]
 apply goV_val (.int .u8 (n3 : Int)) (by intro u; rfl)
 ·(intro u w hSw hF; have c0 := (hb1.ext ha hSw).num 3 4 rfl (by decide); rw [k3] at c0; go_simp)
 try simp only [aput, List.set]
 apply goV_val (.int .i64 (n3 : Int)) (by intro u; rfl)
 ·(intro u w hSw hF; have c1 : IntKind.i64.wrap (n3 : Int) = n3 := IntWalk.i64_in _ (by omega); go_simp)
 try simp only [aput, List.set]
 apply goV_call (by intro u; rfl) (fun w hw => H3.out w)
 ·(intro u w hSw hF; go_simp; try with_reducible rfl)
 try simp only [aput, List.set]
 apply goV_val _ (by intro u; rfl)
 ·(intro u w hSw hF; go_simp; try with_reducible rfl)
 try simp only [aput, List.set]
 apply goV_val _ (by intro u; rfl)
 ·(intro u w hSw hF; go_simp; try with_reducible rfl)
 try simp only [aput, List.set]
 intro u w2 hx2 _
 go_wp2
 go_ret
 exact ⟨by rw [HR.out]; rfl, hx11.trans hx2⟩
def LC (F M : Int) (i : Nat) (pr : List UInt8) : Prop := (i = 0 /\ pr = []) ∨ (0 < i /\ ∃ l c, pr = l ++ [c] /\ (c = 58 ↔ (i : Int) = F + M))
theorem hexT_snoc (n : Nat) : ∃ l c, hexT n = l ++ [c] /\ c ≠ 58 := by
 by_cases h : n < 16
 ·exact ⟨[], hexc n, by rw [hexT_small h]; rfl, (hexc_chr ⟨n, h⟩).2.1⟩
 ·exact ⟨hexT (n / 16), hexc (n % 16), by rw [hexT_big h], (hexc_chr ⟨n % 16, by omega⟩).2.1⟩
theorem LC_hex {F M : Int} {i : Nat} (pr : List UInt8) (n : Nat) (h : ((i + 1 : Nat) : Int) ≠ F + M) : LC F M (i + 1) (pr ++ hexT n) := by
 obtain ⟨l, c, e, hc⟩ := hexT_snoc n
 exact .inr ⟨by omega, pr ++ l, c, by rw [e, List.append_assoc], ⟨fun h' => absurd h' hc, fun h' => absurd h' h⟩⟩
theorem rFormat6_any (a : Adr) (ha : okA a) (hf : a.1 = true) (w : World) :
  Calls Tryz.prog 59 #[av a] w fun e w' => e = .returned (.string (txt (fmtA a))) /\ Ext w w' := by
 have hv : validA a = true := by unfold validA; rw [hf]; rfl
 have hfm : fmtA a = tail6 a.2 (best a.2 8).1 (best a.2 8).2 9 0 := by unfold fmtA; rw [hv, hf]; rfl
 have HFM := Lib.hid hfm; clear hfm
 have hcall := fun w => rValid_any a ha w
 rw [hv] at hcall
 have HC := Lib.hid hcall; clear hcall
 unfold av
 go_enter Tryz.func59, Tryz.ntmps59
 go_upto_region 1 with fail
 have hx := (Ext.refl w).alloc (.cells (ac a) 41)
 have hb := ABox.new ha w
 generalize hwq : w.alloc (.cells (ac a) 41) = w0 at *
 clear hwq
 go_wp2_with (first | refine wpList_load_A rfl _ rfl ha hb.blk rfl ?_ | (go_at_call 56; refine (HC.out _).mono ?_; rintro e w1 ⟨rfl, hx1⟩; refine Hid.out ?_))
 refine Lib.hid ?_
 have hb1 := hb.ext ha hx1
 have hx11 := hx.trans hx1
 have hfam := hb1.fam
 rw [hf] at hfam
 clear hb hx hx1 HC
 go_wp2_with fail
 go_loopw [3, 4, 5] (fun f m c wr => ∃ i : Nat, i <= 8 /\ f = .int .i64 (best a.2 i).1 /\ m = .int .i64 (best a.2 i).2 /\ c = .int .i64 i /\ ABox wr w.heap.size a /\ Ext w wr) (fun _ _ c _ => 8 - (intOf c).toNat)
 case atStart => exact ⟨0, Nat.zero_le _, rfl, rfl, rfl, hb1, hx11⟩
 case round =>
  obtain ⟨i, hi, rfl, rfl, rfl, hb, hx⟩ := hrel
  by_cases hlt : i < 8
  ·have hlt' : (i : Int) < 8 := by omega
   obtain ⟨wo, hwo⟩ : ∃ wo : World, wo = wr := ⟨_, rfl⟩
   rw [← hwo]; rw [← hwo] at hb hx
   clear hwo
   generalize hF : (best a.2 i).1 = F at *
   generalize hM : (best a.2 i).2 = M at *
   have HF := Lib.hid hF; have HM := Lib.hid hM; clear hF hM
   go_wp2_with fail
   go_loopw [6] (fun n wr => ∃ j : Nat, i + j <= 8 /\ n = .int .i64 j /\ ABox wr w.heap.size a /\ Ext w wr /\ Hid (∀ q, i <= q -> q < i + j -> grp a.2 q = 0)) (fun n _ => 8 - (intOf n).toNat)
   case atStart => exact ⟨0, hi, rfl, hb, hx, Lib.hid fun q h1 h2 => by omega⟩
   case round =>
    obtain ⟨j, hj, rfl, hb, hx, hz⟩ := hrel
    by_cases hlt2 : i + j < 8
    ·have hlt3 : (i : Int) + (j : Int) < 8 := by omega
     have hcall := Group_any a ha (i + j) hlt2 wr
     rw [Int.natCast_add] at hcall
     have HC := Lib.hid hcall; clear hcall
     have hjd : decide ((i : Int) + (j : Int) < 8) = true := decide_eq_true hlt3
     by_cases hg : grp a.2 (i + j) = 0
     ·have hgb : (grp a.2 (i + j) == 0) = true := by rw [beq_iff_eq]; exact hg
      have HG := Lib.hid hg; clear hg
      go_wp2_with (first | refine wpList_load_Ag (by first | rfl | simp [Region.wanted, yielded, hjd]) _ rfl ha hb.blk rfl ?_ | (go_at_call 81; refine HC.out.mono ?_; rintro e w3 ⟨rfl, hx3⟩))
      refine ⟨⟨j + 1, by omega, by go_num, hb.ext ha hx3, hx.trans hx3, Lib.hid fun q h1 h2 => ?_⟩, by simp [intOf]; omega⟩
      by_cases h : q = i + j
      ·subst h; exact HG.out
      ·exact hz.out q h1 (by omega)
     ·have hgb : (grp a.2 (i + j) == 0) = false := by rw [beq_eq_false_iff_ne]; exact hg
      have hzr : zr a.2 i = j := by have := zr_stop (Nat.le_add_right i j) hj hz.out (.inr hg); omega
      have HZR := Lib.hid hzr; clear hzr hg
      go_upto_region 12 with (first | refine wpList_load_Ag (by first | rfl | simp [Region.wanted, yielded, hjd]) _ rfl ha hb.blk rfl ?_ | (go_at_call 81; refine HC.out.mono ?_; rintro e w3 ⟨rfl, hx3⟩))
      have hb3 := hb.ext ha hx3
      have hxx := hx.trans hx3
      have hcmp := Nat.lt_or_ge
      by_cases hc : M < (zr a.2 i : Int)
      ·have hs : best a.2 (i + 1) = ((i : Int), (zr a.2 i : Int)) := by rw [best, HM.out, if_pos hc]
       have HS := Lib.hid hs; clear hs
       have hcd : decide (M < (zr a.2 i : Int)) = true := decide_eq_true hc
       rw [HZR.out] at hcd hc HS
       clear HZR
       go_wp2_with fail
       refine ⟨⟨i + 1, by omega, by rw [HS.out], by rw [HS.out], by go_num, hb3, hxx⟩, by simp [intOf]; omega⟩
      ·have hs : best a.2 (i + 1) = best a.2 i := by rw [best, HM.out, if_neg hc]
       have HS := Lib.hid hs; clear hs
       have hcd : decide (M < (zr a.2 i : Int)) = false := decide_eq_false hc
       rw [HZR.out] at hcd hc
       clear HZR
       go_wp2_with fail
       refine ⟨⟨i + 1, by omega, by rw [HS.out, HF.out], by rw [HS.out, HM.out], by go_num, hb3, hxx⟩, by simp [intOf]; omega⟩
    ·have hj8 : i + j = 8 := by omega
     have hjd : decide ((i : Int) + (j : Int) < 8) = false := decide_eq_false (by omega)
     have hzr : zr a.2 i = j := by have := zr_stop (Nat.le_add_right i j) hj hz.out (.inl hj8); omega
     have HZR := Lib.hid hzr; clear hzr
     go_upto_region 12 with fail
     have hb3 := hb
     have hxx := hx
     have hcmp := Nat.lt_or_ge
     by_cases hc : M < (zr a.2 i : Int)
     ·have hs : best a.2 (i + 1) = ((i : Int), (zr a.2 i : Int)) := by rw [best, HM.out, if_pos hc]
      have HS := Lib.hid hs; clear hs
      have hcd : decide (M < (zr a.2 i : Int)) = true := decide_eq_true hc
      rw [HZR.out] at hcd hc HS
      clear HZR
      go_wp2_with fail
      refine ⟨⟨i + 1, by omega, by rw [HS.out], by rw [HS.out], by go_num, hb3, hxx⟩, by simp [intOf]; omega⟩
     ·have hs : best a.2 (i + 1) = best a.2 i := by rw [best, HM.out, if_neg hc]
      have HS := Lib.hid hs; clear hs
      have hcd : decide (M < (zr a.2 i : Int)) = false := decide_eq_false hc
      rw [HZR.out] at hcd hc
      clear HZR
      go_wp2_with fail
      refine ⟨⟨i + 1, by omega, by rw [HS.out, HF.out], by rw [HS.out, HM.out], by go_num, hb3, hxx⟩, by simp [intOf]; omega⟩
  ·have hi8 : i = 8 := by omega
   clear hb1 hx11 hfam hlt
   have hbb := best_bd a.2 i hi
   rw [← hi8] at HFM
   obtain ⟨F, hF⟩ : ∃ F, (best a.2 i).1 = F := ⟨_, rfl⟩
   obtain ⟨M, hM⟩ : ∃ M, (best a.2 i).2 = M := ⟨_, rfl⟩
   have hcase : (F = -1 /\ M = 1) ∨ (0 <= F /\ F < 8 /\ 2 <= M /\ F + M <= 8) := by
    rw [← hF, ← hM]
    rcases hbb with h | ⟨h1, h2, h3, h4⟩
    ·left; rw [h]; exact ⟨rfl, rfl⟩
    ·exact .inr ⟨h1, by omega, h3, h4⟩
   have hi8' : ¬ (i : Int) < 8 := by omega
   clear hi8 hi
   generalize (i : Int) = z8 at *
   have HCS := Lib.hid hcase
   rw [hF, hM] at HFM
   rw [hF, hM]
   clear hF hM hbb hcase
   obtain ⟨wo, hwo⟩ : ∃ wo : World, wo = wr := ⟨_, rfl⟩
   rw [← hwo]; rw [← hwo] at hb hx
   clear hwo
   go_wp2_with fail
   go_loopw [7, 8] (fun v c wr => ∃ (i : Nat) (pr : List UInt8) (fuel : Nat), i <= 8 /\ c = .int .i64 i /\ v = .string (txt pr) /\ pr.length <= 5 * i /\ ABox wr w.heap.size a /\ Ext w wr /\ Hid (fmtA a = pr ++ tail6 a.2 F M fuel i) /\ 9 <= fuel + i /\ Hid (LC F M i pr) /\ Hid (F < 0 ∨ (i : Int) <= F ∨ F + M <= i)) (fun _ c _ => 8 - (intOf c).toNat)
   case atStart => exact ⟨0, [], 9, Nat.zero_le _, rfl, rfl, Nat.le_refl _, hb, hx, HFM, Nat.le_refl _, Lib.hid (.inl ⟨rfl, rfl⟩), Lib.hid (by have := HCS.out; omega)⟩
   case round =>
    obtain ⟨i, pr, fuel, hi, rfl, rfl, hpl, hb, hx, hT, hfu, hlc, hpos⟩ := hrel
    by_cases hlt : i < 8
    ·have hlt' : (i : Int) < 8 := by omega
     obtain ⟨fuel, rfl⟩ : ∃ f, fuel = f + 1 := ⟨fuel - 1, by omega⟩
     have hsl := txt_size pr
     by_cases hiF : (i : Int) = F
     ·have hiFb : ((i : Int) == F) = true := by rw [beq_iff_eq]; exact hiF
      have HTX : Hid (fmtA a = pr ++ ([58, 58] ++ tail6 a.2 F M fuel (i + M.toNat))) := Lib.hid (by rw [hT.out, tail6_at hlt hiF])
      have hTm : 2 <= M /\ (i : Int) + M <= 8 := by have := HCS.out; omega
      obtain ⟨m, hm⟩ : ∃ m : Nat, M = m := ⟨M.toNat, by omega⟩
      have hm2 : 2 <= m /\ i + m <= 8 := by omega
      have HM := Lib.hid hm
      have HIF := Lib.hid hiF
      clear hTm hiF hlc hpos hT
      have TA := Lib.hid (txt_append pr [58, 58])
      generalize txt pr = s at *
      have y1 : ¬ 9223372036854775807 < s.size + 2 := by omega
      have hM1 : IntKind.i64.wrap (M - 1) = M - 1 := IntWalk.i64_in _ (by omega)
      have hM2 : IntKind.i64.wrap ((i : Int) + (M - 1)) = (i : Int) + (M - 1) := IntWalk.i64_in _ (by omega)
      have hM3 : wrap64 ((i : Int) + (M - 1) + 1) = (i : Int) + M := by rw [IntWalk.wrap64_in _ (by omega)]; omega
      clear hm
      go_wp2_with fail
      go_roundw
      case rel =>
       have hmm := HM.out
       rw [hM3]
       refine ⟨i + m, pr ++ [58, 58], fuel, hm2.2, by (have := HM.out; congr 1; omega), by rw [TA.out]; rfl, by simp; omega, hb, hx, Lib.hid ?_, by omega, Lib.hid (.inr ⟨by omega, pr ++ [58], 58, by simp, ⟨fun _ => by have := HIF.out; omega, fun _ => rfl⟩⟩), Lib.hid (by have := HIF.out; omega)⟩
       rw [HTX.out, HM.out]; simp
      case measure => rw [hM3]; have := HM.out; simp [intOf]; omega
     ·have hiFb : ((i : Int) == F) = false := by rw [beq_eq_false_iff_ne]; exact hiF
      have htx : fmtA a = pr ++ ((if 0 < i /\ (i : Int) ≠ F + M then [58] else []) ++ hexT (grp a.2 i).toNat ++ tail6 a.2 F M fuel (i + 1)) := by rw [hT.out, tail6_no hlt hiF]
      have hnx : ((i + 1 : Nat) : Int) ≠ F + M := by have := HCS.out; have := hpos.out; omega
      have HNX := Lib.hid hnx
      have HPO : Hid (F < 0 ∨ ((i + 1 : Nat) : Int) <= F ∨ F + M <= ((i + 1 : Nat) : Int)) := Lib.hid (by have := hpos.out; omega)
      clear hnx hpos hiF hT
      have hgb := grp_bd ha i
      obtain ⟨N, hN⟩ : ∃ N : Nat, grp a.2 i = N := ⟨(grp a.2 i).toNat, by omega⟩
      rw [hN] at hgb htx
      rw [Int.toNat_natCast] at htx
      have hcall := Group_any a ha i hlt
      rw [hN] at hcall
      have HG := Lib.hid hcall
      have HH := Lib.hid (fhex_any N (by omega))
      have hhl := txt_size (hexT N)
      have hh4 := hexT_len (show N < 65536 by omega)
      clear hcall hN
      rcases hlc.out with ⟨h0, hp0⟩ | ⟨h0, l, c, hp0, hc58⟩
      ·rw [if_neg (by omega), List.nil_append] at htx
       have HTX : Hid (fmtA a = pr ++ hexT N ++ tail6 a.2 F M fuel (i + 1)) := Lib.hid (by rw [htx, List.append_assoc])
       have hs0 : ((txt pr).size : Int) < 1 := by rw [hsl, hp0]; decide
       clear htx hlc hsl
       have TX : Hid (txt (pr ++ hexT N) = txt pr ++ txt (hexT N)) := Lib.hid (txt_append _ _)
       have LCN := Lib.hid (LC_hex pr N HNX.out)
       clear hp0 h0
       generalize hsq : txt pr = s at *
       generalize hhq : txt (hexT N) = hs at *
       have y0 : ¬ 9223372036854775807 < s.size + 1 := by omega
       have y1 : ¬ 9223372036854775807 < s.size + hs.size := by omega
       have y2 : ¬ 9223372036854775807 < s.size + 1 + hs.size := by omega
       go_wp2_with (first | refine wpList_load_A rfl _ rfl ha hb.blk rfl ?_ | (go_at_call 81; refine (HG.out _).mono ?_; rintro e w3 ⟨rfl, hx3⟩) | (go_at_call 82; refine (HH.out _).mono ?_; rintro e w4 ⟨rfl, hx4⟩))
       go_roundw
       case rel => exact ⟨i + 1, pr ++ hexT N, fuel, by omega, by go_num, by rw [TX.out], by simp; omega, (hb.ext ha hx3).ext ha hx4, (hx.trans hx3).trans hx4, Lib.hid (by first | exact HTX.out | (rw [HTX.out]; simp)), by omega, LCN, HPO⟩
       case measure => simp [intOf]; omega
      ·have hi0 : (0 : Int) < i := by omega
       have HB : Hid (B (txt pr) l.length = (c.toNat : Int)) := Lib.hid (by rw [hp0]; exact B_snoc l c)
       have hln : pr.length = l.length + 1 := by rw [hp0]; simp
       have hln2 : ¬ (txt pr).size < 1 := by omega
       by_cases hcol : (i : Int) = F + M
       ·rw [if_neg (by omega), List.nil_append] at htx
        have hx58 : (B (txt pr) l.length != 58) = false := by rw [HB.out, hc58.2 hcol]; rfl
        have HTX := Lib.hid htx; clear htx hlc hc58 hcol HB
        have TX : Hid (txt (pr ++ hexT N) = txt pr ++ txt (hexT N)) := Lib.hid (txt_append _ _)
        have LCN := Lib.hid (LC_hex pr N HNX.out)
        generalize hsq : txt pr = s at *
        generalize hhq : txt (hexT N) = hs at *
        have y0 : ¬ 9223372036854775807 < s.size + 1 := by omega
        have y1 : ¬ 9223372036854775807 < s.size + hs.size := by omega
        have y2 : ¬ 9223372036854775807 < s.size + 1 + hs.size := by omega
        go_wp2_with (first | refine wpList_load_A rfl _ rfl ha hb.blk rfl ?_ | (go_at_call 81; refine (HG.out _).mono ?_; rintro e w3 ⟨rfl, hx3⟩) | (go_at_call 82; refine (HH.out _).mono ?_; rintro e w4 ⟨rfl, hx4⟩))
        go_roundw
        case rel => exact ⟨i + 1, pr ++ hexT N, fuel, by omega, by go_num, by rw [TX.out], by simp; omega, (hb.ext ha hx3).ext ha hx4, (hx.trans hx3).trans hx4, Lib.hid (by first | exact HTX.out | (rw [HTX.out]; simp)), by omega, LCN, HPO⟩
        case measure => simp [intOf]; omega
       ·rw [if_pos ⟨h0, hcol⟩] at htx
        have hx58 : (B (txt pr) l.length != 58) = true := by rw [bne_iff_ne, HB.out]; intro h; exact hcol (hc58.1 (UInt8.toNat_inj.1 (by show c.toNat = 58; omega)))
        have HTX := Lib.hid htx; clear htx hlc hc58 hcol HB
        have TX : Hid (txt (pr ++ [58] ++ hexT N) = txt pr ++ ⟨#[58]⟩ ++ txt (hexT N)) := Lib.hid (by rw [txt_append, txt_append]; rfl)
        have LCN := Lib.hid (LC_hex (pr ++ [58]) N HNX.out)
        generalize hsq : txt pr = s at *
        generalize hhq : txt (hexT N) = hs at *
        have y0 : ¬ 9223372036854775807 < s.size + 1 := by omega
        have y1 : ¬ 9223372036854775807 < s.size + hs.size := by omega
        have y2 : ¬ 9223372036854775807 < s.size + 1 + hs.size := by omega
        go_wp2_with (first | refine wpList_load_A rfl _ rfl ha hb.blk rfl ?_ | (go_at_call 81; refine (HG.out _).mono ?_; rintro e w3 ⟨rfl, hx3⟩) | (go_at_call 82; refine (HH.out _).mono ?_; rintro e w4 ⟨rfl, hx4⟩))
        go_roundw
        case rel => exact ⟨i + 1, pr ++ [58] ++ hexT N, fuel, by omega, by go_num, by rw [TX.out], by simp; omega, (hb.ext ha hx3).ext ha hx4, (hx.trans hx3).trans hx4, Lib.hid (by first | exact HTX.out | (rw [HTX.out]; simp)), by omega, LCN, HPO⟩
        case measure => simp [intOf]; omega
    ·obtain rfl : i = 8 := by omega
     have E : Hid (fmtA a = pr) := Lib.hid (by rw [hT.out, tail6_end (Nat.le_refl _), List.append_nil])
     go_wp2_with fail
     go_ret
     exact ⟨by rw [E.out]; rfl, hx⟩
theorem rFormat_any (a : Adr) (ha : okA a) (w : World) :
  Calls Tryz.prog 59 #[av a] w fun e w' => e = .returned (.string (txt (fmtA a))) /\ Ext w w' := by
 cases hv : validA a with
 | false => exact rFormat_bad a ha hv w
 | true =>
  cases hf : a.1 with
  | true => exact rFormat6_any a ha hf w
  | false => exact rFormat4_any a ha hf hv w
end Go.Proofs.YtnohnnjeabehjaaGreatDoor
