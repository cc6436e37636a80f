/-
  Several texts joined: HcN, HcT, HcU, Greet, Law.
-/
import Derived.Test.YtnohnnjeabehjaaGreatDoorK20
import Derived.Test.YtnohnnjeabehjaaGreatDoorK08
import Derived.Test.YtnohnnjeabehjaaGreatDoorK13
import Derived.Test.YtnohnnjeabehjaaGreatDoorProg
import Derived.Outline
import Derived.Test.YtnohnnjeabehjaaGreatDoorK01
import Derived.Test.YtnohnnjeabehjaaGreatDoorK02
import Derived.ProofKit
import Derived.SizedLaws
import Derived.ShutString
import Derived.ChangeOld
import Derived.Below
import Derived.Lib.SmallJoins
set_option maxHeartbeats 400000
set_option linter.unusedVariables false
set_option linter.unusedSimpArgs false
namespace Go.Proofs.YtnohnnjeabehjaaGreatDoor
theorem list_cut {s : ByteArray} {c : UInt8} (h : idxB s c < s.size) : s.data.toList = (s.extract 0 (idxB s c)).data.toList ++ c :: (s.extract (idxB s c + 1) s.size).data.toList := by
 have hl := size_list s
 have ef : s.data.toList.take s.size = s.data.toList := List.take_of_length_le (by omega)
 rw [data_extract, data_extract, List.drop_zero, ef]
 have hc : s.data.toList[idxB s c]'(by omega) = c := by
  have := idxL_at c s.data.toList (by unfold idxB at h; omega)
  rw [List.getD_eq_getElem?_getD, List.getElem?_eq_getElem (by unfold idxB at h; omega), Option.getD_some] at this
  exact this
 have h3 := List.take_append_drop (idxB s c) s.data.toList
 rw [List.drop_eq_getElem_cons (by omega), hc] at h3
 exact h3.symm
theorem list_no {s : ByteArray} {c : UInt8} : ∀ x ∈ (s.extract 0 (idxB s c)).data.toList, x ≠ c := by
 intro x hx
 rw [data_extract, List.drop_zero] at hx
 obtain ⟨j, hj, e⟩ := List.mem_iff_getElem.1 hx
 rw [List.length_take] at hj
 have := idxL_no c s.data.toList j (by unfold idxB at hj; omega)
 rw [List.getElem_take] at e
 rw [List.getD_eq_getElem?_getD, List.getElem?_eq_getElem (by omega), Option.getD_some, e] at this
 exact this
theorem list_none {s : ByteArray} {c : UInt8} (h : ¬ idxB s c < s.size) : ∀ x ∈ s.data.toList, x ≠ c := by
 intro x hx
 obtain ⟨j, hj, e⟩ := List.mem_iff_getElem.1 hx
 have hl := size_list s
 have := idxL_no c s.data.toList j (by unfold idxB at h; omega)
 rw [List.getD_eq_getElem?_getD, List.getElem?_eq_getElem (by omega), Option.getD_some, e] at this
 exact this
theorem BA_mk (s : ByteArray) : (⟨s.data.toList.toArray⟩ : ByteArray) = s := BA_ext rfl
theorem parts_cut (c : UInt8) (s : ByteArray) : parts c s = if (cutB s c).2.2 = true then (cutB s c).1 :: parts c (cutB s c).2.1 else [s] := by
 unfold cutB
 by_cases h : idxB s c < s.size
 ·rw [if_pos h, if_pos rfl]
  unfold parts
  rw [list_cut h, splitc_hit _ list_no]
  simp only [List.map_cons, BA_mk]
 ·rw [if_neg h, if_neg (by simp)]
  unfold parts
  rw [splitc_none (list_none h)]
  simp only [List.map_cons, List.map_nil, BA_mk]
theorem pre_cut (s : ByteArray) : Lib.hasPrefix s.data.toList connS.data.toList = ((cutB s 32).2.2 && decide ((cutB s 32).1 = connW)) := by
 have hw : connS.data.toList = connW.data.toList ++ [32] := by decide
 have hn : ∀ x ∈ connW.data.toList, x ≠ 32 := by decide
 unfold Lib.hasPrefix cutB
 by_cases h : idxB s 32 < s.size
 ·rw [if_pos h]
  simp only [Bool.true_and]
  have e := list_cut h
  have hno := list_no (s := s) (c := 32)
  generalize s.extract 0 (idxB s 32) = a at *
  generalize s.extract (idxB s 32 + 1) s.size = r at *
  rw [e, hw]
  by_cases q : a = connW
  ·rw [decide_eq_true q, q, List.isPrefixOf_iff_prefix]
   exact ⟨r.data.toList, by simp⟩
  ·rw [decide_eq_false q]
   cases hp : (connW.data.toList ++ [32]).isPrefixOf (a.data.toList ++ 32 :: r.data.toList) with
   | false => rfl
   | true =>
    exfalso
    obtain ⟨t, ht⟩ := List.isPrefixOf_iff_prefix.1 hp
    have h1 := splitc_hit (c := 32) r.data.toList hno
    rw [← ht, List.append_assoc, show ([32] ++ t : List UInt8) = 32 :: t from rfl, splitc_hit t hn] at h1
    injection h1 with h1 _
    exact q (BA_ext h1.symm)
 ·rw [if_neg h]
  simp only [Bool.false_and]
  cases hp : connS.data.toList.isPrefixOf s.data.toList with
  | false => rfl
  | true =>
   exfalso
   obtain ⟨t, ht⟩ := List.isPrefixOf_iff_prefix.1 hp
   exact list_none h 32 (by rw [← ht, hw]; simp) rfl
theorem pre_tl {s : ByteArray} (h : Lib.hasPrefix s.data.toList connS.data.toList = true) : (⟨(Lib.trimPrefix s.data.toList connS.data.toList).toArray⟩ : ByteArray) = tl32 s := by
 have h2 := h
 rw [pre_cut, Bool.and_eq_true, decide_eq_true_eq] at h2
 unfold tl32
 unfold cutB at *
 by_cases q : idxB s 32 < s.size
 ·rw [if_pos q] at *
  have e := list_cut q
  simp only at h2 ⊢
  refine BA_ext ?_
  unfold Lib.trimPrefix
  rw [if_pos h]
  have hz : (connS.data.toList).length = (s.extract 0 (idxB s 32)).data.toList.length + 1 := by rw [h2.2]; rfl
  show List.drop _ s.data.toList = _
  rw [hz]
  conv => lhs; rw [e]
  rw [List.drop_append, List.drop_of_length_le (by omega), show (s.extract 0 (idxB s 32)).data.toList.length + 1 - (s.extract 0 (idxB s 32)).data.toList.length = 1 by omega]; rfl
 ·rw [if_neg q] at h2; exact absurd h2.1 (by simp)
def okRr (s : ByteArray) : Bool := decide ((parts 32 s).length = 3) && decide ((parts 32 s).getD 0 ⟨#[]⟩ = connW) && (decide ((parts 32 s).getD 2 ⟨#[]⟩ = v11) || decide ((parts 32 s).getD 2 ⟨#[]⟩ = v10)) && (tgtP ((parts 32 s).getD 1 ⟨#[]⟩)).2
theorem rr_eq (s : ByteArray) : (if okRr s = true then some (tgtP ((parts 32 s).getD 1 ⟨#[]⟩)).1 else none) = rqP s := by
 unfold rqP okRr okRq tl32
 rw [parts_cut 32 s]
 cases h1 : (cutB s 32).2.2 with
 | false => simp
 | true =>
  rw [if_pos rfl, parts_cut 32 (cutB s 32).2.1]
  generalize (cutB s 32).2.1 = r at *
  generalize (cutB s 32).1 = a at *
  cases h2 : (cutB r 32).2.2 with
  | false => simp
  | true =>
   rw [if_pos rfl, parts_cut 32 (cutB r 32).2.1]
   generalize (cutB r 32).1 = b at *
   generalize hv : (cutB r 32).2.1 = v at *
   cases h3 : (cutB v 32).2.2 with
   | false => simp
   | true =>
    have n1 : v ≠ v11 := fun e => by rw [e] at h3; exact absurd h3 (by decide +kernel)
    have n0 : v ≠ v10 := fun e => by rw [e] at h3; exact absurd h3 (by decide +kernel)
    rw [if_pos rfl]
    obtain ⟨y, ys, hy⟩ : ∃ y ys, parts 32 (cutB v 32).2.1 = y :: ys := by
     cases hp : parts 32 (cutB v 32).2.1 with
     | nil => exact absurd (List.map_eq_nil_iff.1 hp) (splitc_ne8 32 _)
     | cons y ys => exact ⟨y, ys, rfl⟩
    rw [hy]
    simp [n1, n0]
theorem parts_len_le (c : UInt8) (s : ByteArray) : (parts c s).length <= s.size + 1 := by
 unfold parts
 rw [List.length_map, size_list]
 generalize s.data.toList = l
 induction l with
 | nil => simp [splitc]
 | cons x l ih =>
  rw [splitc]
  split
  ·simp only [List.length_cons]; omega
  ·split
   ·simp
   ·rename_i y ys e; rw [e] at ih; simp only [List.length_cons] at *; omega
theorem allB_extract {p : Int -> Bool} {s : ByteArray} {k : Nat} (hk : k <= s.size) : allB p (s.extract 0 k) (s.extract 0 k).size = allB p s k := by
 have hz : (s.extract 0 k).size = k := by rw [ByteArray.size_extract]; omega
 rw [hz]
 have : ∀ j, j <= k -> allB p (s.extract 0 k) j = allB p s j := by
  intro j
  induction j with
  | zero => intro _; rfl
  | succ j ih => intro hj; rw [allB, allB, ih (by omega), B_extract _ _ _ _ (by omega), Nat.zero_add]
 exact this k (Nat.le_refl _)
def vname8 (s : ByteArray) : Bool := decide (1 <= s.size) && allB hch s s.size
theorem hdP_cut (s : ByteArray) : hdP s = if (cutB s 58).2.2 = true /\ vname8 (cutB s 58).1 = true then some ((cutB s 58).1, trimB (cutB s 58).2.1) else none := by
 unfold hdP cutB
 by_cases h : idxB s 58 < s.size
 ·rw [if_pos h]
  simp only
  unfold vname8
  rw [allB_extract (by omega), show (s.extract 0 (idxB s 58)).size = idxB s 58 by rw [ByteArray.size_extract]; omega]
  by_cases q : 0 < idxB s 58 /\ allB hch s (idxB s 58) = true
  ·rw [if_pos ⟨q.1, h, q.2⟩, if_pos ⟨trivial, by rw [Bool.and_eq_true, decide_eq_true_eq]; exact ⟨q.1, q.2⟩⟩]
  ·rw [if_neg (fun k => q ⟨k.1, k.2.2⟩), if_neg (fun k => q (by have := k.2; rw [Bool.and_eq_true, decide_eq_true_eq] at this; exact ⟨this.1, this.2⟩))]
 ·rw [if_neg (fun q => h q.2.1), if_neg h, if_neg (by simp)]
theorem hch_iff (x : Int) : hch x = true ↔ (97 <= x /\ x <= 122) ∨ (65 <= x /\ x <= 90) ∨ (48 <= x /\ x <= 57) ∨ x = 45 := by
 unfold hch lch lowI
 rw [decide_eq_true_eq]
 split <;> omega
def vis (x : UInt8) : Bool := decide (33 <= x.toNat /\ x.toNat <= 126)
theorem dd_vis (n : Nat) : ∀ x ∈ Lib.decDigits n, vis x = true := by
 induction n using Nat.strongRecOn with
 | _ n ih =>
  have key : ∀ r : Fin 10, vis (UInt8.ofNat (48 + r.1)) = true := by decide
  intro x hx
  by_cases h : n < 10
  ·rw [dd_small h] at hx
   simp only [List.mem_singleton] at hx
   subst hx; exact key ⟨n, h⟩
  ·rw [dd_big h, List.mem_append] at hx
   rcases hx with hx | hx
   ·exact ih _ (by omega) x hx
   ·simp only [List.mem_singleton] at hx
    subst hx; exact key ⟨n % 10, by omega⟩
theorem hexc_vis : ∀ r : Fin 16, vis (hexc r.1) = true := by decide
theorem hexT_vis (n : Nat) : ∀ x ∈ hexT n, vis x = true := by
 induction n using Nat.strongRecOn with
 | _ n ih =>
  intro x hx
  by_cases h : n < 16
  ·rw [hexT_small h] at hx
   simp only [List.mem_singleton] at hx
   subst hx; exact hexc_vis ⟨n, h⟩
  ·rw [hexT_big h, List.mem_append] at hx
   rcases hx with hx | hx
   ·exact ih _ (by omega) x hx
   ·simp only [List.mem_singleton] at hx
    subst hx; exact hexc_vis ⟨n % 16, by omega⟩
theorem tail6_vis (l : List Int) (f m : Int) : ∀ k i, ∀ x ∈ tail6 l f m k i, vis x = true
 | 0, i, x, hx => by cases hx
 | k + 1, i, x, hx => by
  unfold tail6 at hx
  split at hx
  ·cases hx
  ·split at hx
   ·rcases List.mem_append.1 hx with hx | hx
    ·simp at hx; rw [hx]; decide
    ·exact tail6_vis l f m k _ x hx
   ·rcases List.mem_append.1 hx with hx | hx
    ·rcases List.mem_append.1 hx with hx | hx
     ·split at hx
      ·simp at hx; rw [hx]; decide
      ·cases hx
     ·exact hexT_vis _ x hx
    ·exact tail6_vis l f m k _ x hx
theorem fmtA_vis (a : Adr) : ∀ x ∈ fmtA a, vis x = true := by
 intro x hx
 unfold fmtA at hx
 split at hx
 ·cases hx
 ·split at hx
  ·exact tail6_vis _ _ _ _ _ x hx
  ·unfold fmt4 at hx
   simp only [List.mem_append, List.mem_singleton] at hx
   rcases hx with ((((((hx | hx) | hx) | hx) | hx) | hx) | hx) <;> first | exact dd_vis _ x hx | (rw [hx]; decide)
def visI (x : Int) : Bool := decide (33 <= x /\ x <= 126)
theorem vis_I (x : UInt8) : vis x = visI x.toNat := by unfold vis visI; congr 1; simp only [eq_iff_iff]; omega
theorem vis_B {s : ByteArray} : (∀ x ∈ s.data.toList, vis x = true) ↔ ∀ j, j < s.size -> 33 <= B s j /\ B s j <= 126 := by
 rw [list_B (p := visI) vis_I, allB_iff]
 unfold visI
 simp only [decide_eq_true_eq]
theorem name_vis {s : ByteArray} (h : okName s = true) : ∀ x ∈ s.data.toList, vis x = true := vis_B.2 fun j hj => by
 rcases (okName_facts h).2.2.2.1 j hj with q | q
 ·unfold lch at q; rw [decide_eq_true_eq] at q; omega
 ·omega
theorem fmtT_vis {t : Tgt} : ∀ x ∈ (fmtT t).data.toList, vis x = true := by
 intro x hx
 unfold fmtT at hx
 split at hx
 ·rename_i hv
  rw [data_append, data_append, List.mem_append, List.mem_append] at hx
  rcases hx with hx | hx | hx
  ·split at hx
   ·split at hx
    ·rw [data_append, data_append, List.mem_append, List.mem_append] at hx
     rcases hx with (hx | hx) | hx
     ·simp at hx; rw [hx]; decide
     ·exact fmtA_vis _ x hx
     ·simp at hx; rw [hx]; decide
    ·exact fmtA_vis _ x hx
   ·rename_i hn
    have hv' := hv
    unfold validT at hv'
    split at hv'
    ·rw [Bool.and_eq_true] at hv'
     exact name_vis hv'.1 x hx
    ·cases hv'
  ·simp at hx; rw [hx]; decide
  ·exact dd_vis _ x hx
 ·simp at hx
theorem fmtT_size {t : Tgt} (ht : okT t) : (fmtT t).size <= 300 := by
 unfold fmtT
 split
 ·rename_i hv
  unfold validT at hv
  split at hv
  ·rename_i hp
   have hd := dd_len 4 t.2.2.toNat (by omega)
   have hA := fmtA_len ht.1
   have e1 := txt_sz (Lib.decDigits t.2.2.toNat)
   have e2 := txt_sz (fmtA t.2.1)
   have e3 : (⟨#[58]⟩ : ByteArray).size = 1 := rfl
   have e4 : (⟨#[91]⟩ : ByteArray).size = 1 := rfl
   have e5 : (⟨#[93]⟩ : ByteArray).size = 1 := rfl
   rw [ByteArray.size_append, ByteArray.size_append]
   split
   ·split
    ·rw [ByteArray.size_append, ByteArray.size_append]; omega
    ·omega
   ·rename_i hn
    rw [if_neg hn, Bool.and_eq_true] at hv
    have hz : t.1.size <= 253 := by
     have := hv.1
     unfold okName at this
     simp only [Bool.and_eq_true, decide_eq_true_eq] at this
     exact this.1.1
    omega
  ·cases hv
 ·exact Nat.zero_le _
theorem cutB_app {a r : ByteArray} {c : UInt8} (h : ∀ x ∈ a.data.toList, x ≠ c) : cutB (a ++ (⟨#[c]⟩ ++ r)) c = (a, r, true) := by
 have hs : (a ++ (⟨#[c]⟩ ++ r)).size = a.size + 1 + r.size := by
  rw [ByteArray.size_append, ByteArray.size_append]
  have : (⟨#[c]⟩ : ByteArray).size = 1 := rfl
  omega
 have hi : idxB (a ++ (⟨#[c]⟩ ++ r)) c = a.size := idxB_is (by omega) (by
  rw [B_append_right _ _ _ (Nat.le_refl _), Nat.sub_self, B_append_left _ _ _ (by show 0 < 1; decide)]; rfl) (fun j hj => by
  rw [B_append_left _ _ _ hj]
  intro e
  rw [size_list] at hj
  refine h (a.data.toList[j]'hj) (List.getElem_mem _) (UInt8.toNat_inj.1 ?_)
  unfold B at e
  rw [List.getD_eq_getElem?_getD, List.getElem?_eq_getElem hj, Option.getD_some] at e
  omega)
 unfold cutB
 rw [hi, if_pos (by omega)]
 refine Prod.ext (ext_left _ _) (Prod.ext ?_ rfl)
 show (a ++ (⟨#[c]⟩ ++ r)).extract (a.size + 1) (a ++ (⟨#[c]⟩ ++ r)).size = r
 rw [← ByteArray.append_assoc]
 have e : (a ++ (⟨#[c]⟩ : ByteArray)).size = a.size + 1 := by rw [ByteArray.size_append]; rfl
 rw [← e]
 exact ext_right _ _ _ rfl
theorem vis_ne {f : ByteArray} (h : ∀ x ∈ f.data.toList, vis x = true) : ∀ x ∈ f.data.toList, x ≠ 32 := fun x hx e => by
 have := h x hx; rw [e] at this; exact absurd this (by decide)
theorem rqP_line {f : ByteArray} {t : Tgt} (hf : ∀ x ∈ f.data.toList, vis x = true) (h : tgtP f = (t, true)) : rqP (connS ++ (f ++ (⟨#[32]⟩ ++ v11))) = some t := by
 have e : connS ++ (f ++ (⟨#[32]⟩ ++ v11)) = connW ++ (⟨#[32]⟩ ++ (f ++ (⟨#[32]⟩ ++ v11))) := by rw [← ByteArray.append_assoc (a := connW)]; rfl
 have h1 : cutB (connS ++ (f ++ (⟨#[32]⟩ ++ v11))) 32 = (connW, f ++ (⟨#[32]⟩ ++ v11), true) := by rw [e]; exact cutB_app (by decide)
 have h2 : cutB (f ++ (⟨#[32]⟩ ++ v11)) 32 = (f, v11, true) := cutB_app (vis_ne hf)
 unfold rqP okRq tl32
 rw [h1]
 simp only
 rw [h2]
 simp only
 rw [h]
 simp
def crlf : ByteArray := ⟨#[13, 10]⟩
theorem st_seg {S a l r : ByteArray} (e : S = a ++ (l ++ (crlf ++ r))) {n : Nat} {h : Cr} {b : Bool} (h0 : st S a.size = .run n a.size h b) (hp : a.size = 0 ∨ B S (a.size - 1) ≠ 13)
  (hb : ∀ j, j < l.size -> B l j ≠ 13 /\ B l j ≠ 10 /\ vbyte (B l j) j (decide (n = 0)) = true) : st S (a.size + l.size + 2) = if 0 < n /\ l.size = 0 then .done h (a.size + l.size + 2) else match lineP l n h b with
   | none => .mal
   | some (g, c) => .run (n + 1) (a.size + l.size + 2) g c := by
 have hB : ∀ j, B S (a.size + j) = B (l ++ (crlf ++ r)) j := fun j => by rw [e, B_append_right _ _ _ (by omega), show a.size + j - a.size = j by omega]
 have hC : ∀ j, B S (a.size + l.size + j) = B (crlf ++ r) j := fun j => by rw [Nat.add_assoc, hB, B_append_right _ _ _ (by omega), show l.size + j - l.size = j by omega]
 have hx : S.extract a.size (a.size + l.size) = l := by
  rw [e, ← ByteArray.append_assoc]
  have e1 : (a ++ l).size = a.size + l.size := ByteArray.size_append
  refine BA_ext ?_
  rw [data_extract, data_append, data_append, List.take_left' (by rw [List.length_append, ← size_list, ← size_list]), List.drop_left' (size_list a).symm]
 have := st_crlf h0 hp (len := l.size) (fun j hj => by rw [hB, B_append_left _ _ _ hj]; exact hb j hj) (by have := hC 0; rw [Nat.add_zero] at this; rw [this, B_append_left _ _ _ (by decide)]; rfl) (by rw [hC 1, B_append_left _ _ _ (by decide)]; rfl)
 rw [this, hx]
 split
 ·rfl
 ·cases lineP l n h b with
  | none => rfl
  | some x => rfl
theorem last_crlf {S a r : ByteArray} (e : S = (a ++ crlf) ++ r) : (a ++ crlf).size = 0 ∨ B S ((a ++ crlf).size - 1) ≠ 13 := by
 right
 have h1 : (a ++ crlf).size = a.size + 2 := by rw [ByteArray.size_append]; rfl
 rw [e, B_append_left _ _ _ (by omega), B_append_right _ _ _ (by omega), h1, show a.size + 2 - 1 - a.size = 1 by omega]
 decide
theorem vbyte_vis {c : Int} {j : Nat} (h : (32 <= c /\ c <= 126) ∨ c = 9) : vbyte c j (decide (1 = 0)) = true := by
 unfold vbyte; rw [if_neg (fun q => absurd q.1 (by simp)), decide_eq_true_eq]; exact h
theorem vbyte_late {c : Int} {j : Nat} (b : Bool) (hj : 8 <= j) (h : 32 <= c /\ c <= 126) : vbyte c j b = true := by
 unfold vbyte; rw [if_neg (by omega), decide_eq_true_eq]; exact .inl h
theorem st_rq {S f r : ByteArray} {t : Tgt} (hf : ∀ x ∈ f.data.toList, vis x = true) (ht : tgtP f = (t, true)) (e : S = connS ++ (f ++ (⟨#[32]⟩ ++ v11)) ++ (crlf ++ r)) :
  st S ((connS ++ (f ++ (⟨#[32]⟩ ++ v11))).size + 2) = .run 1 ((connS ++ (f ++ (⟨#[32]⟩ ++ v11))).size + 2) (t, false, ⟨#[]⟩, ⟨#[]⟩) false := by
 have hz : connS.size = 8 := rfl
 have := st_seg (a := ⟨#[]⟩) (l := connS ++ (f ++ (⟨#[32]⟩ ++ v11))) (r := r) (S := S) (by rw [e]; exact (ByteArray.empty_append).symm) (n := 0) (h := zcr) (b := false) rfl (.inl rfl) (fun j hj => by
  rcases Nat.lt_or_ge j 8 with q | q
  ·rw [B_append_left _ _ _ (by omega)]
   have key : ∀ j : Fin 8, B connS j.1 ≠ 13 /\ B connS j.1 ≠ 10 /\ vbyte (B connS j.1) j.1 (decide (0 = 0)) = true := by decide +kernel
   exact key ⟨j, q⟩
  ·have hk : 32 <= B (connS ++ (f ++ (⟨#[32]⟩ ++ v11))) j /\ B (connS ++ (f ++ (⟨#[32]⟩ ++ v11))) j <= 126 := by
    obtain ⟨k, rfl⟩ : ∃ k, j = 8 + k := ⟨j - 8, by omega⟩
    rw [B_append_right _ _ _ (by omega), hz, show 8 + k - 8 = k by omega]
    rw [ByteArray.size_append, hz, ByteArray.size_append] at hj
    rcases Nat.lt_or_ge k f.size with q2 | q2
    ·rw [B_append_left _ _ _ q2]
     have := vis_B.1 hf k q2
     omega
    ·rw [B_append_right _ _ _ q2]
     have key : ∀ j : Fin 9, 32 <= B (⟨#[32]⟩ ++ v11) j.1 /\ B (⟨#[32]⟩ ++ v11) j.1 <= 126 := by decide +kernel
     have hl : (⟨#[32]⟩ ++ v11 : ByteArray).size = 9 := by decide +kernel
     rcases Nat.lt_or_ge (k - f.size) 9 with q3 | q3
     ·exact key ⟨_, q3⟩
     ·exfalso
      rw [hl] at hj
      omega
   exact ⟨by omega, by omega, vbyte_late _ q hk⟩)
 have e0 : (⟨#[]⟩ : ByteArray).size = 0 := rfl
 rw [e0, Nat.zero_add, if_neg (by omega)] at this
 rw [this]
 unfold lineP
 rw [if_pos rfl, rqP_line hf ht]
 rfl
theorem L6_vis {n : Int} (h0 : 0 <= n) (h1 : n < 64) : vis (L6 n) = true := by
 have key : ∀ r : Fin 64, vis (alpha.getD r.1 0) = true := by decide
 exact key ⟨n.toNat, by omega⟩
theorem quad_vis {n : Nat} {x y z : Int} (hx : 0 <= x /\ x < 256) (hy : 0 <= y /\ y < 256) (hz : 0 <= z /\ z < 256) : ∀ c ∈ quad n x y z, vis c = true := by
 intro c hc
 unfold quad at hc
 simp only [List.mem_cons, List.not_mem_nil, or_false] at hc
 rcases hc with hc | hc | hc | hc
 ·rw [hc]; exact L6_vis (by omega) (by omega)
 ·rw [hc]; exact L6_vis (by omega) (by omega)
 ·split at hc
  ·rw [hc]; exact L6_vis (by omega) (by omega)
  ·rw [hc]; decide
 ·split at hc
  ·rw [hc]; exact L6_vis (by omega) (by omega)
  ·rw [hc]; decide
theorem u8_bd (a : UInt8) : 0 <= ((a.toNat : Nat) : Int) /\ ((a.toNat : Nat) : Int) < 256 := by
 have := a.toNat_lt
 omega
theorem encL_vis : ∀ l : List UInt8, ∀ c ∈ encL l, vis c = true
 | [], c, hc => by cases hc
 | [a], c, hc => quad_vis (u8_bd a) (by omega) (by omega) c hc
 | [a, b], c, hc => quad_vis (u8_bd a) (u8_bd b) (by omega) c hc
 | a :: b :: d :: r, c, hc => by
  rw [encL] at hc
  rcases List.mem_append.1 hc with hc | hc
  ·exact quad_vis (u8_bd a) (u8_bd b) (u8_bd d) c hc
  ·exact encL_vis r c hc
theorem encB_vis (s : ByteArray) : ∀ c ∈ (encB s).data.toList, vis c = true := encL_vis _
theorem encB_size (s : ByteArray) : (encB s).size = (s.size + 2) / 3 * 4 := by
 rw [size_list (encB s), size_list s]; exact encL_len _
def rqL (t : Tgt) : ByteArray := connS ++ (fmtT t ++ (⟨#[32]⟩ ++ v11))
def col : ByteArray := ⟨#[58]⟩
def bas : ByteArray := ⟨#[66, 97, 115, 105, 99]⟩
def spc : ByteArray := ⟨#[32]⟩
def authV (u p : ByteArray) : ByteArray := bas ++ (spc ++ encB (u ++ (col ++ p)))
def authL (u p : ByteArray) : ByteArray := authN ++ (col ++ (spc ++ authV u p))
def hdT (h : Cr) : ByteArray := rqL h.1 ++ (crlf ++ (if h.2.1 = true then authL h.2.2.1 h.2.2.2 ++ (crlf ++ crlf) else crlf))
theorem rq_ok {t : Tgt} (ht : okT t) (hv : validT t = true) {S r : ByteArray} (e : S = rqL t ++ (crlf ++ r)) : st S ((rqL t).size + 2) = .run 1 ((rqL t).size + 2) (t, false, ⟨#[]⟩, ⟨#[]⟩) false :=
 st_rq fmtT_vis (tgtP_fmt ht hv) e
theorem crlf_size : crlf.size = 2 := rfl
theorem a2_size (a : ByteArray) : (a ++ crlf).size = a.size + 2 := by rw [ByteArray.size_append, crlf_size]
theorem st_two {t : Tgt} (ht : okT t) (hv : validT t = true) {S l r : ByteArray} {g : Cr} {c : Bool} (e : S = rqL t ++ (crlf ++ (l ++ (crlf ++ (crlf ++ r)))))
  (hb : ∀ j, j < l.size -> 32 <= B l j /\ B l j <= 126) (h1 : 0 < l.size) (hl : lineP l 1 (t, false, ⟨#[]⟩, ⟨#[]⟩) false = some (g, c)) :
  st S ((rqL t).size + l.size + 6) = .done g ((rqL t).size + l.size + 6) := by
 have q1 := rq_ok ht hv e
 have e2 : S = (rqL t ++ crlf) ++ (l ++ (crlf ++ (crlf ++ r))) := by rw [ByteArray.append_assoc]; exact e
 rw [← a2_size] at q1
 have q2 := st_seg e2 q1 (last_crlf e2) (fun j hj => by
  have := hb j hj
  exact ⟨by omega, by omega, vbyte_vis (.inl this)⟩)
 rw [if_neg (by omega), hl] at q2
 simp only at q2
 have e3 : S = ((rqL t ++ crlf ++ l) ++ crlf) ++ ((⟨#[]⟩ : ByteArray) ++ (crlf ++ r)) := by
  rw [e2]
  have : ((⟨#[]⟩ : ByteArray) ++ (crlf ++ r)) = crlf ++ r := ByteArray.empty_append
  rw [this]
  simp only [ByteArray.append_assoc]
 have z3 : ((rqL t ++ crlf ++ l) ++ crlf).size = (rqL t ++ crlf).size + l.size + 2 := by rw [a2_size, ByteArray.size_append]
 rw [← z3] at q2
 have q3 := st_seg e3 q2 (last_crlf e3) (fun j hj => absurd hj (by show ¬ j < 0; omega))
 have z0 : (⟨#[]⟩ : ByteArray).size = 0 := rfl
 rw [if_pos ⟨by omega, rfl⟩, z0, z3, a2_size] at q3
 have z4 : (rqL t).size + 2 + l.size + 2 + 0 + 2 = (rqL t).size + l.size + 6 := by omega
 rw [z4] at q3
 exact q3
theorem trimB_lead {r : ByteArray} (hr : ∀ x ∈ r.data.toList, vis x = true) (q : ByteArray) (hq : ∃ c l, q.data.toList = c :: l /\ vis c = true) (h1 : 0 < r.size) : trimB (spc ++ (q ++ r)) = q ++ r := by
 obtain ⟨c, l, hql, hc⟩ := hq
 have nw : ∀ x : UInt8, vis x = true -> wsL.contains x = false := by
  intro x hx
  cases hw : wsL.contains x with
  | false => rfl
  | true =>
   have := wsp_B.1 hw
   rw [vis_I] at hx
   unfold visI at hx
   rw [decide_eq_true_eq] at hx
   omega
 refine BA_ext ?_
 rw [trimB_two, data_append, data_append, hql]
 have e1 : Lib.trimLeftS (spc.data.toList ++ (c :: l ++ r.data.toList)) wsL = c :: l ++ r.data.toList := by
  unfold Lib.trimLeftS
  show List.dropWhile _ (32 :: (c :: l ++ r.data.toList)) = _
  rw [List.dropWhile_cons, if_pos (by decide), List.cons_append, List.dropWhile_cons, if_neg (by rw [nw c hc]; simp)]
 rw [e1]
 unfold Lib.trimRightS
 obtain ⟨y, ys, hy⟩ : ∃ y ys, r.data.toList.reverse = y :: ys := by
  cases hh : r.data.toList.reverse with
  | nil =>
   have h2 := congrArg List.length hh
   rw [List.length_reverse, ← size_list, List.length_nil] at h2
   omega
  | cons y ys => exact ⟨y, ys, rfl⟩
 have hv : vis y = true := hr y (by
  have : y ∈ r.data.toList.reverse := by rw [hy]; simp
  simpa using this)
 rw [List.reverse_append, hy, List.cons_append, List.dropWhile_cons, if_neg (by rw [nw y hv]; simp), ← List.cons_append, ← hy, ← List.reverse_append, List.reverse_reverse]
theorem noC_cut {u p : ByteArray} (hu : ∀ x ∈ u.data.toList, x ≠ 58) : cutB (u ++ (col ++ p)) 58 = (u, p, true) := cutB_app hu
theorem authP_V {u p : ByteArray} (hu : ∀ x ∈ u.data.toList, x ≠ 58) : authP (authV u p) = (u, p, true) := by
 have h1 : cutB (authV u p) 32 = (bas, encB (u ++ (col ++ p)), true) := cutB_app (by decide)
 have h2 : lowB bas = basicS := by decide +kernel
 unfold authP
 rw [h1]
 simp only
 rw [if_pos ⟨trivial, h2⟩, pdec_enc]
 simp only
 rw [if_pos trivial, noC_cut hu]
 simp
theorem hdP_auth (u p : ByteArray) : hdP (authL u p) = some (authN, authV u p) := by
 have h1 : cutB (authL u p) 58 = (authN, spc ++ authV u p, true) := cutB_app (by decide)
 have h2 : vname8 authN = true := by decide +kernel
 have h3 : trimB (spc ++ authV u p) = authV u p := by
  have hs : 0 < (spc ++ encB (u ++ (col ++ p))).size := by rw [ByteArray.size_append]; show 0 < 1 + _; omega
  have he : 0 < (encB (u ++ (col ++ p))).size := by
   rw [encB_size, ByteArray.size_append, ByteArray.size_append]
   have : col.size = 1 := rfl
   omega
  have e : authV u p = (bas ++ spc) ++ encB (u ++ (col ++ p)) := by unfold authV; rw [ByteArray.append_assoc]
  rw [e]
  exact trimB_lead (encB_vis _) (bas ++ spc) ⟨66, [97, 115, 105, 99, 32], by decide, by decide⟩ he
 rw [hdP_cut, h1]
 simp only
 rw [if_pos ⟨trivial, h2⟩, h3]
theorem lineP_auth {u p : ByteArray} (hu : ∀ x ∈ u.data.toList, x ≠ 58) (h : Cr) : lineP (authL u p) 1 h false = some ((h.1, true, u, p), true) := by
 unfold lineP
 rw [if_neg (by omega), hdP_auth]
 simp only
 rw [if_pos low_authN, if_neg (by simp), authP_V hu]
theorem prt_B {s : ByteArray} (h : ∀ x ∈ s.data.toList, vis x = true ∨ x = 32) : ∀ j, j < s.size -> 32 <= B s j /\ B s j <= 126 := by
 intro j hj
 rw [size_list] at hj
 have := h (s.data.toList[j]'hj) (List.getElem_mem _)
 unfold B
 rw [List.getD_eq_getElem?_getD, List.getElem?_eq_getElem hj, Option.getD_some]
 rcases this with q | q
 ·unfold vis at q; rw [decide_eq_true_eq] at q; omega
 ·rw [q]; decide
theorem authL_prt (u p : ByteArray) : ∀ j, j < (authL u p).size -> 32 <= B (authL u p) j /\ B (authL u p) j <= 126 := prt_B fun x hx => by
 unfold authL authV at hx
 simp only [data_append, List.mem_append] at hx
 have k1 : ∀ x ∈ authN.data.toList, vis x = true ∨ x = 32 := by decide
 have k2 : ∀ x ∈ col.data.toList, vis x = true ∨ x = 32 := by decide
 have k3 : ∀ x ∈ spc.data.toList, vis x = true ∨ x = 32 := by decide
 have k4 : ∀ x ∈ bas.data.toList, vis x = true ∨ x = 32 := by decide
 rcases hx with hx | hx | hx | hx | hx | hx
 ·exact k1 x hx
 ·exact k2 x hx
 ·exact k3 x hx
 ·exact k4 x hx
 ·exact k3 x hx
 ·exact .inl (encB_vis _ x hx)
theorem fin_fmt {t : Tgt} (ht : okT t) (hv : validT t = true) {u p : ByteArray} (hu : ∀ x ∈ u.data.toList, x ≠ 58) (hz : (hdT (t, true, u, p)).size <= 512) (r : ByteArray) :
  fin (hdT (t, true, u, p) ++ r) = ((t, true, u, p), ((hdT (t, true, u, p)).size : Int), 1) := by
 have e : hdT (t, true, u, p) ++ r = rqL t ++ (crlf ++ (authL u p ++ (crlf ++ (crlf ++ r)))) := by
  unfold hdT; rw [if_pos rfl]; simp only [ByteArray.append_assoc]
 have zs : (hdT (t, true, u, p)).size = (rqL t).size + (authL u p).size + 6 := by
  unfold hdT; rw [if_pos rfl]; simp only [ByteArray.size_append, crlf_size]; omega
 have h1 : 0 < (authL u p).size := by
  unfold authL; rw [ByteArray.size_append]; show 0 < 19 + _; omega
 have q := st_two ht hv e (authL_prt u p) h1 (lineP_auth hu _)
 rw [zs]
 exact fin_done (by rw [ByteArray.size_append]; omega) (by omega) q
open Go.RowKit
def gparse (s : ByteArray) : ByteArray × Int × Int :=
 if s.size = 0 then (⟨#[]⟩, 0, 0)
 else if B s 0 ≠ 5 then (⟨#[]⟩,0,2)
 else if s.size < 2 then (⟨#[]⟩,0,0)
 else if B s 1 = 0 then (⟨#[]⟩,0,2)
 else if (s.size : Int) < 2 + B s 1 then (⟨#[]⟩,0,0)
 else (s.extract 2 (2 + B s 1).toNat, 2 + B s 1, 1)
theorem gparse_any (s : ByteArray) (w : World) (hs : s.size <= maxLen) :
  Calls Tryz.prog 101 #[.string s] w fun e w' => e = .returned (.tuple #[.string (gparse s).1, .int .i64 (gparse s).2.1, .int .i64 (gparse s).2.2]) /\ w = w' := by
 replace hs := size_max hs
 have b1 := B_bd s 1
 go_enter Tryz.func101, Tryz.ntmps101
 go_wp2
 all_goals first | go_ret3 | skip
 all_goals go_light
 all_goals (try simp only [decide_eq_true_eq, decide_eq_false_iff_not, bne_iff_ne, beq_iff_eq, ne_eq, bne_eq_false_iff_eq, beq_eq_false_iff_ne, Decidable.not_not, Bool.not_eq_true', Bool.not_eq_false'] at *)
 all_goals first | (exfalso; omega) | skip
 all_goals (refine ⟨?_, ?_⟩ <;> first | trivial | rfl | exact Dr.refl _ | exact Dr.mk _ _ | (unfold gparse; (repeat' split) <;> first | (exfalso; omega) | rfl))
theorem gparseR_any (s : ByteArray) (w : World) (hs : s.size <= maxLen) :
  Calls Tryz.prog 108 #[.string s] w fun e w' => e = .returned (.tuple #[.string (gparse s).1, .int .i64 (gparse s).2.1, .int .i64 (gparse s).2.2]) /\ Dr w w' := by
 replace hs := size_max hs
 have b1 := B_bd s 1
 go_enter Tryz.func108, Tryz.ntmps108
 go_wp2
 all_goals first | go_ret3 | (go_quiet (fail); go_wp2; go_ret3) | skip
 all_goals go_light
 all_goals (try simp only [decide_eq_true_eq, decide_eq_false_iff_not, bne_iff_ne, beq_iff_eq, ne_eq, bne_eq_false_iff_eq, beq_eq_false_iff_ne, Decidable.not_not, Bool.not_eq_true', Bool.not_eq_false'] at *)
 all_goals first | (exfalso; omega) | skip
 all_goals (refine ⟨?_, ?_⟩ <;> first | trivial | rfl | exact Dr.refl _ | exact Dr.mk _ _ | (unfold gparse; (repeat' split) <;> first | (exfalso; omega) | rfl))
def gsel (s : ByteArray) (c : Int) : Int := if ∃ j, j < s.size /\ B s j = c then c else 255
instance (s : ByteArray) (c : Int) : Decidable (∃ j, j < s.size /\ B s j = c) := inferInstance
theorem indexByte_lt_iff : ∀ (l : List UInt8) (c : UInt8), Lib.indexByte l c < 0 ↔ ∀ j, j < l.length -> l.getD j 0 ≠ c := by
 intro l
 induction l with
 | nil => intro c; simp [Lib.indexByte]
 | cons b l ih =>
  intro c
  have hge := Lib.indexByte_ge l c
  unfold Lib.indexByte
  by_cases hb : b == c
  ·simp only [hb, if_true]
   constructor
   ·intro h; omega
   ·intro h; exact absurd (by simpa using hb) (h 0 (by simp))
  ·simp only [hb]
   have hb' : b ≠ c := by simpa using hb
   have : (if false = true then (0 : Int) else if Lib.indexByte l c == -1 then -1 else Lib.indexByte l c + 1) < 0 ↔ Lib.indexByte l c < 0 := by
    by_cases h1 : Lib.indexByte l c = -1
    ·simp [h1]
    ·have : ¬ (Lib.indexByte l c == -1) = true := by simpa using h1
     simp [h1]; omega
   rw [this, ih c]
   constructor
   ·intro h j hj
    rcases j with _ | j
    ·simpa using hb'
    ·simpa using h j (by simpa using hj)
   ·intro h j hj
    simpa using h (j + 1) (by simpa using hj)
theorem gsel_lt {s : ByteArray} {c : Int} (h0 : 0 <= c) (h1 : c < 256) : Lib.indexByte s.data.toList (UInt8.ofNat c.toNat) < 0 ↔ ¬ ∃ j, j < s.size /\ B s j = c := by
 rw [indexByte_lt_iff]
 have hl : s.size = s.data.toList.length := by cases s; rfl
 constructor
 ·rintro h ⟨j, hj, e⟩
  refine h j (by omega) ?_
  unfold B at e
  apply UInt8.toNat_inj.1
  rw [UInt8.toNat_ofNat_of_lt' (by show _ < 256; omega)]
  omega
 ·intro h j hj e
  refine h ⟨j, by omega, ?_⟩
  unfold B
  rw [e, UInt8.toNat_ofNat_of_lt' (by show _ < 256; omega)]
  omega
theorem gsel_any (s : ByteArray) (c : Int) (w : World) (h0 : 0 <= c) (h1 : c < 256) :
  Calls Tryz.prog 102 #[.string s, .int .u8 c] w fun e w' => e = .returned (.int .u8 (gsel s c)) /\ w = w' := by
 have hg := gsel_lt (s := s) h0 h1
 have Hg := Lib.hid hg; clear hg
 go_enter Tryz.func102, Tryz.ntmps102
 go_wp2_with fail
 refine (Tryz.strings_IndexByte _ _ _).mono ?_
 rintro e w' ⟨rfl, rfl⟩
 go_wp2_with fail
 all_goals go_ret
 ·refine ⟨?_, rfl⟩
  unfold gsel; rw [if_neg (Hg.out.1 (by assumption))]; rfl
 ·refine ⟨?_, rfl⟩
  unfold gsel
  by_cases h : ∃ j, j < s.size /\ B s j = c
  ·rw [if_pos h]; rfl
  ·have := Hg.out.2 h; exfalso; omega
theorem gselR_any (s : ByteArray) (c : Int) (w : World) (hs : s.size <= maxLen) :
  Calls Tryz.prog 109 #[.string s, .int .u8 c] w fun e w' => e = .returned (.int .u8 (gsel s c)) /\ w = w' := by
 replace hs := size_max hs
 go_enter Tryz.func109, Tryz.ntmps109
 go_wp2_with fail
 go_loop [5] (fun i => ∃ k : Nat, k <= s.size /\ i = .int .i64 k /\ ∀ j, j < k -> B s j ≠ c) (fun i => s.size - (intOf i).toNat)
 case atStart => exact ⟨0, Nat.zero_le _, rfl, fun j hj => by omega⟩
 case round =>
  obtain ⟨k, hk, rfl, hn⟩ := hrel
  have Hn := Lib.hid hn; clear hn
  by_cases hlt : k < s.size
  ·by_cases he : B s k = c
   ·have he' : (B s k == c) = true := by simpa using he
    have hgs : gsel s c = c := by unfold gsel; rw [if_pos ⟨k, hlt, he⟩]
    clear he
    go_wp2_with fail
    go_ret
    exact ⟨rfl, rfl⟩
   ·have he' : (B s k == c) = false := by simpa using he
    go_wp2_with fail
    go_round
    case rel => exact ⟨k + 1, by omega, by go_num, fun j hj => by
     by_cases h : j = k
     ·rw [h]; exact he
     ·exact Hn.out j (by omega)⟩
    case measure => simp [intOf]; omega
  ·have hgs : gsel s c = 255 := by
    unfold gsel; rw [if_neg]; rintro ⟨j, hj, e⟩; exact Hn.out j (by omega) e
   go_wp2_with fail
   go_ret
   exact ⟨rfl, rfl⟩
theorem gmeth_any (c : Int) (w : World) :
  Calls Tryz.prog 45 #[.int .u8 c] w fun e w' => e = .returned (.string (str2 5 c)) /\ Ext w w' := by
 go_enter Tryz.func45, Tryz.ntmps45
 go_wp2_with fail
 go_ret
 exact ⟨rfl, (Ext.refl _).alloc _⟩
theorem gmethR_any (c : Int) (w : World) :
  Calls Tryz.prog 52 #[.int .u8 c] w fun e w' => e = .returned (.string (str2 5 c)) /\ Ext w w' := by
 go_enter Tryz.func52, Tryz.ntmps52
 go_wp2_with fail
 go_ret
 exact ⟨rfl, (Ext.refl _).alloc _⟩
def gencode (s : ByteArray) : ByteArray × Bool :=
 if s.size < 1 ∨ 255 < s.size then (⟨#[]⟩, false) else (str2 5 s.size ++ s, true)
theorem gencodeR_any (s : ByteArray) (w : World) (hs : s.size <= maxLen) :
  Calls Tryz.prog 12 #[.string s] w fun e w' => e = .returned (.tuple #[.string (gencode s).1, .bool (gencode s).2]) /\ Ext w w' := by
 replace hs := size_max hs
 go_enter Tryz.func12, Tryz.ntmps12
 go_wp2_with fail
 all_goals go_light
 all_goals first | (exfalso; omega) | skip
 all_goals go_ret2
 all_goals (refine ⟨?_, by (repeat' (first | exact Ext.refl _ | assumption | refine Ext.alloc ?_ _ | refine Ext.drew ?_ | refine Ext.setCell ?_ (Nat.le_refl _) _ | refine Ext.setCell ?_ (Nat.le_add_right _ _) _ | refine Ext.drewN ?_ _ | refine Ext.trans ?_ (by assumption) | refine Ext.dr ?_ (by assumption)))⟩; unfold gencode; first | (rw [if_pos (by omega)]; rfl) | (rw [if_neg (by omega)]; rfl))
open Go.ChangeShapes Go.WideShapes Go.ChangeAt Go.RowKit
theorem trodAll_carry {H : Type} {enc : TypeId × Value -> H} {P : Program} (hl : laidOutB P = true) {W W' : World} (hb : Below W.heap.size W W') :
  ∀ (ts : List TypeId) (vs : List Value) (ds : List (DataW H)) (ps : List MemPlace),
   ts.all (fun t => P.readableRec t && decide (t < P.types.size)) = true ->
   DataW.TrodAll enc P W 0 (fun _ => true) true ts vs ds ps ->
   DataW.TrodAll enc P W' 0 (fun b => decide (b < W.heap.size)) true ts vs ds ps
 | [], vs, ds, ps, _, h => by
  obtain ⟨rfl, rfl, rfl⟩ := trodAll_nil h
  exact trodAll_mk0
 | t :: ts, vs, ds, ps, hr, h => by
  obtain ⟨v, vs', d, ds', p, q, rfl, rfl, rfl, h1, h2⟩ := trodAll_cons h
  simp only [List.all_cons, Bool.and_eq_true, decide_eq_true_eq] at hr
  have hlt : ∀ x ∈ p, x.block < W.heap.size := by obtain ⟨m, hm⟩ := h1; exact DataW.trod_lt m _ _ _ hm
  exact trodAll_cons_mk (Below.trod hl hr.1.1 hr.1.2 h1 hb hlt) (trodAll_carry hl hb ts vs' ds' q (by simpa using hr.2) h2)
end Go.Proofs.YtnohnnjeabehjaaGreatDoor
