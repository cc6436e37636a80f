/-
  Several texts joined: HoRt, HcM.
-/
import Derived.Test.YtnohnnjeabehjaaGreatDoorK19
import Derived.Test.YtnohnnjeabehjaaGreatDoorK05
import Derived.Test.YtnohnnjeabehjaaGreatDoorK16
set_option linter.unusedVariables false
set_option linter.unusedSimpArgs false
namespace Go.Proofs.YtnohnnjeabehjaaGreatDoor
theorem splitc_ne8 (c : UInt8) : ∀ l, splitc c l ≠ []
 | [] => by simp [splitc]
 | x :: l => by
  rw [splitc]
  split
  ·simp
  ·split <;> simp
theorem splitc_mem (c : UInt8) : ∀ l : List UInt8, ∀ x ∈ l, x = c ∨ ∃ p ∈ splitc c l, x ∈ p
 | [], x, hx => by cases hx
 | y :: l, x, hx => by
  have ih := splitc_mem c l
  rw [splitc]
  by_cases h : y = c
  ·rw [if_pos h]
   rcases List.mem_cons.1 hx with rfl | hx
   ·exact .inl h
   ·rcases ih x hx with h | ⟨p, h1, h2⟩
    ·exact .inl h
    ·exact .inr ⟨p, List.mem_cons_of_mem _ h1, h2⟩
  ·rw [if_neg h]
   cases hs : splitc c l with
   | nil => exact absurd hs (splitc_ne8 c l)
   | cons z zs =>
    rw [hs] at ih
    simp only
    rcases List.mem_cons.1 hx with rfl | hx
    ·exact .inr ⟨x :: z, by simp, by simp⟩
    ·rcases ih x hx with h | ⟨p, h1, h2⟩
     ·exact .inl h
     ·rcases List.mem_cons.1 h1 with rfl | h1
      ·exact .inr ⟨y :: p, by simp, List.mem_cons_of_mem _ h2⟩
      ·exact .inr ⟨p, List.mem_cons_of_mem _ h1, h2⟩
theorem splitc_head (c : UInt8) : ∀ l : List UInt8, ∀ y ys, splitc c l = y :: ys -> ∃ r, l = y ++ r
 | [], y, ys, h => ⟨[], by simp [splitc] at h; simp [h.1]⟩
 | x :: l, y, ys, h => by
  rw [splitc] at h
  by_cases e : x = c
  ·rw [if_pos e] at h; injection h with h1 h2; subst h1; exact ⟨x :: l, rfl⟩
  ·rw [if_neg e] at h
   cases hs : splitc c l with
   | nil => exact absurd hs (splitc_ne8 c l)
   | cons z zs =>
    rw [hs] at h
    injection h with h1 h2
    obtain ⟨r, hr⟩ := splitc_head c l z zs hs
    exact ⟨r, by rw [← h1, hr]; rfl⟩
theorem splitc_single (c : UInt8) : ∀ l z : List UInt8, splitc c l = [z] -> z = l
 | [], z, h => by simp [splitc] at h; first | exact h | exact h.symm
 | x :: l, z, h => by
  rw [splitc] at h
  by_cases e : x = c
  ·rw [if_pos e] at h; injection h with _ h2; exact absurd h2 (splitc_ne8 c l)
  ·rw [if_neg e] at h
   cases hs : splitc c l with
   | nil => exact absurd hs (splitc_ne8 c l)
   | cons y ys =>
    rw [hs] at h
    injection h with h1 h2
    subst h2
    rw [← h1, splitc_single c l y hs]
theorem splitc_last (c : UInt8) : ∀ l : List UInt8, ∃ r, l = r ++ (splitc c l).getLast (splitc_ne8 c l)
 | [] => ⟨[], rfl⟩
 | x :: l => by
  obtain ⟨r, hr⟩ := splitc_last c l
  by_cases e : x = c
  ·have h : splitc c (x :: l) = [] :: splitc c l := by rw [splitc, if_pos e]
   have h2 : (splitc c (x :: l)).getLast (splitc_ne8 c _) = (splitc c l).getLast (splitc_ne8 c l) := by simp only [h]; exact List.getLast_cons _
   exact ⟨x :: r, by rw [h2, List.cons_append, ← hr]⟩
  ·cases hs : splitc c l with
   | nil => exact absurd hs (splitc_ne8 c l)
   | cons z zs =>
    have h : splitc c (x :: l) = (x :: z) :: zs := by rw [splitc, if_neg e, hs]
    cases zs with
    | nil => exact ⟨[], by simp only [h, List.getLast_singleton, List.nil_append]; rw [splitc_single c l z hs]⟩
    | cons z2 zs =>
     have h2 : (splitc c (x :: l)).getLast (splitc_ne8 c _) = (splitc c l).getLast (splitc_ne8 c l) := by simp only [h, hs, List.getLast_cons_cons]
     exact ⟨x :: r, by rw [h2, List.cons_append, ← hr]⟩
theorem B_txt8 (l : List UInt8) (i : Nat) : B (txt l) i = ((l.getD i 0).toNat : Int) := rfl
theorem parts_list (s : ByteArray) : (parts 46 s).map (·.data.toList) = splitc 46 s.data.toList := by
 unfold parts
 rw [List.map_map]
 exact List.map_id'' (fun x => rfl) _
theorem okName_facts {s : ByteArray} (h : okName s = true) : 1 <= s.size /\ lch (B s 0) = true /\ lch (B s (s.size - 1)) = true /\ (∀ j, j < s.size -> lch (B s j) = true ∨ B s j = 46) /\ (p4A s).2 = false := by
 unfold okName at h
 rw [Bool.and_eq_true, Bool.and_eq_true, decide_eq_true_eq] at h
 obtain ⟨⟨h1, h2⟩, h3⟩ := h
 have hall : ∀ p ∈ splitc 46 s.data.toList, 1 <= p.length /\ ∀ x ∈ p, lch (x.toNat : Int) = true := by
  intro p hp
  rw [← parts_list] at hp
  obtain ⟨y, hy, rfl⟩ := List.mem_map.1 hp
  have := (okLab_iff y).1 (List.all_eq_true.1 h2 y hy)
  refine ⟨by rw [← size_list]; exact this.1.1, ?_⟩
  have := (list_B (q := fun x => lch (x.toNat : Int)) (fun x => rfl)).2 this.2
  exact this
 have hsz := size_list s
 have hst : ∀ j, j < s.size -> B s j = (((s.data.toList)[j]?.getD 0).toNat : Int) := fun j hj => by unfold B; rw [List.getD_eq_getElem?_getD]
 cases hs : splitc 46 s.data.toList with
 | nil => exact absurd hs (splitc_ne8 _ _)
 | cons y ys =>
  obtain ⟨r, hr⟩ := splitc_head 46 _ y ys hs
  have hy := hall y (by rw [hs]; simp)
  obtain ⟨q, hq⟩ := splitc_last 46 s.data.toList
  have hl := hall _ (List.getLast_mem (splitc_ne8 46 s.data.toList))
  have hlast : lastL (parts 46 s) = txt ((splitc 46 s.data.toList).getLast (splitc_ne8 _ _)) := by
   unfold lastL parts
   rw [List.getLast?_map, List.getLast?_eq_some_getLast (splitc_ne8 46 s.data.toList)]; rfl
  generalize (splitc 46 s.data.toList).getLast (splitc_ne8 46 s.data.toList) = z at *
  have hlen1 := congrArg List.length hr
  have hlen2 := congrArg List.length hq
  rw [List.length_append] at hlen1 hlen2
  refine ⟨by omega, ?_, ?_, fun j hj => ?_, ?_⟩
  ·rw [hst 0 (by omega), hr, List.getElem?_append_left (by omega), List.getElem?_eq_getElem (by omega)]
   exact hy.2 _ (List.getElem_mem _)
  ·rw [hst _ (by omega), hq, List.getElem?_append_right (by omega), List.getElem?_eq_getElem (by omega)]
   exact hl.2 _ (List.getElem_mem _)
  ·rw [hst j hj, List.getElem?_eq_getElem (by omega)]
   rcases splitc_mem 46 s.data.toList (s.data.toList[j]'(by omega)) (List.getElem_mem _) with e | ⟨p, hp, hx⟩
   ·exact .inr (by rw [Option.getD_some, e]; rfl)
   ·exact .inl ((hall p hp).2 _ hx)
  ·unfold p4A
   have : parse4 s = none := by
    rw [parse4_eq, if_neg]
    intro ⟨h4, ho⟩
    have hg := lastL_get (ps := parts 46 s) (by omega)
    have hd : dec (lastL (parts 46 s)) < 0 := by
     unfold dec decP
     rw [allDig_allB]
     rw [Bool.not_eq_true'] at h3
     rw [h3]
     split
     ·decide
     ·rw [if_pos rfl]; decide
    rw [okDec_not hg hd] at ho
    cases ho
   rw [this]
theorem strOfNums_numsB (s : ByteArray) : strOfNums (numsB s) = s := by
 refine BA_ext ?_
 rw [strOfNums_data]
 unfold numsB
 rw [List.map_map]
 refine List.map_id'' (fun x => ?_) _
 show UInt8.ofNat (((x.toNat : Nat) : Int)).toNat = x
 rw [Int.toNat_natCast, UInt8.ofNat_toNat]
theorem lowI_lch {x : Int} (h : lch x = true ∨ x = 46) : lowI x = x := by
 unfold lowI
 rw [if_neg]
 rcases h with h | h
 ·unfold lch at h; rw [decide_eq_true_eq] at h; omega
 ·omega
theorem nameP_own {s : ByteArray} (h : okName s = true) : nameP s = (s, true) := by
 obtain ⟨h1, h2, h3, h4, -⟩ := okName_facts h
 have e : lowNums s = numsB s := by
  apply List.ext_getElem?
  intro j
  rcases Nat.lt_or_ge j s.size with hj | hj
  ·rw [lowNums_get s hj, numsB_get s j hj, lowI_lch (h4 j hj)]
  ·rw [List.getElem?_eq_none (by rw [← lowTo_all, lowTo_len]; exact hj), List.getElem?_eq_none (by rw [numsB_len]; exact hj)]
 have e2 : hostS s = s := by
  rw [hostS_nodot (s := s) (fun _ hd => by rw [hd] at h3; exact absurd h3 (by decide)), e, List.take_of_length_le (by rw [numsB_len]; exact Nat.le_refl _), strOfNums_numsB]
 unfold nameP
 rw [e2, if_pos h]
theorem dd_dig (n : Nat) {j : Nat} (hj : j < (Lib.decDigits n).length) : dig (B (txt (Lib.decDigits n)) j) = true := by
 have h := (dd_val n).1
 rw [allDig_allB] at h
 exact allB_iff.1 h j hj
theorem portP_dd {p : Int} (h : 1 <= p /\ p <= 65535) : portP (txt (Lib.decDigits p.toNat)) = (p, true) := by
 unfold portP
 rw [numP_decP _ (by decide) (by decide), decP_dd (by omega) (by omega), if_neg (by omega)]
 congr 1; omega
theorem lastIdx_app (h d : ByteArray) (hd : ∀ j, j < d.size -> B d j ≠ 58) : Lib.lastIndexByte (h ++ (⟨#[58]⟩ ++ d)) 58 = h.size := by
 have hz : (h ++ (⟨#[58]⟩ ++ d)).size = h.size + (1 + d.size) := by rw [ByteArray.size_append, ByteArray.size_append]; rfl
 have h0 : B (h ++ (⟨#[58]⟩ ++ d)) h.size = 58 := by
  rw [B_append_right _ _ _ (Nat.le_refl _), Nat.sub_self, B_append_left _ _ _ (by show 0 < 1; omega)]; rfl
 rcases Lib.lastIndexByte_spec (h ++ (⟨#[58]⟩ ++ d)) 58 with ⟨_, h2⟩ | ⟨i, h1, h2, h3, h4⟩
 ·exact absurd (by rw [data_B]; exact h0) (h2 h.size (by omega))
 ·rw [data_B] at h3
  rcases Nat.lt_trichotomy i h.size with hi | hi | hi
  ·exact absurd (by rw [data_B]; exact h0) (h4 h.size hi (by omega))
  ·rw [h2, hi]
  ·exfalso
   rw [B_append_right _ _ _ (by omega), B_append_right _ _ _ (by show 1 <= _; omega)] at h3
   exact hd _ (by show i - h.size - 1 < _; omega) h3
theorem ext_left (a b : ByteArray) : (a ++ b).extract 0 a.size = a := by
 refine BA_ext ?_
 rw [data_extract, data_append, List.drop_zero, size_list, List.take_left]
theorem ext_right (a b : ByteArray) (n : Nat) (hn : n = (a ++ b).size) : (a ++ b).extract a.size n = b := by
 refine BA_ext ?_
 rw [hn, data_extract, List.take_of_length_le (by rw [size_list]; exact Nat.le_refl _), data_append, size_list, List.drop_left]
theorem tgtP_app {h : ByteArray} {p : Int} (hp : 1 <= p /\ p <= 65535) : tgtP (h ++ (⟨#[58]⟩ ++ txt (Lib.decDigits p.toNat))) = hostT h p := by
 have hd : ∀ j, j < (txt (Lib.decDigits p.toNat)).size -> B (txt (Lib.decDigits p.toNat)) j ≠ 58 := fun j hj e => by
  have := dd_dig p.toNat (j := j) (by rw [← txt_size]; exact hj)
  rw [e] at this; exact absurd this (by decide)
 have hl := lastIdx_app h _ hd
 have he : (h ++ (⟨#[58]⟩ ++ txt (Lib.decDigits p.toNat))).extract (h.size + 1) (h ++ (⟨#[58]⟩ ++ txt (Lib.decDigits p.toNat))).size = txt (Lib.decDigits p.toNat) := by
  rw [← ByteArray.append_assoc]
  have := ext_right (h ++ ⟨#[58]⟩) (txt (Lib.decDigits p.toNat)) _ rfl
  rwa [show (h ++ (⟨#[58]⟩ : ByteArray)).size = h.size + 1 by rw [ByteArray.size_append]; rfl] at this
 unfold tgtP
 rw [hl, if_neg (by omega), show ((h.size : Nat) : Int).toNat = h.size from rfl, he, portP_dd hp, if_neg (by simp), ext_left]
theorem hostT_name {h : ByteArray} {p : Int} (ho : okName h = true) : hostT h p = ((h, zadr, p), true) := by
 obtain ⟨h1, h2, h3, h4, h5⟩ := okName_facts ho
 unfold hostT
 rw [if_neg (fun hc => by rw [hc.2.1] at h2; exact absurd h2 (by decide)), h5, if_neg (by simp), nameP_own ho, if_pos rfl]
theorem hostT_v6 {a : Adr} {p : Int} (ha : okA a) (hv : validA a = true) (hf : a.1 = true) : hostT (⟨#[91]⟩ ++ txt (fmtA a) ++ ⟨#[93]⟩) p = ((⟨#[]⟩, a, p), true) := by
 have hz : ((⟨#[91]⟩ : ByteArray) ++ txt (fmtA a) ++ ⟨#[93]⟩).size = 1 + (txt (fmtA a)).size + 1 := by rw [ByteArray.size_append, ByteArray.size_append]; rfl
 have e0 : B ((⟨#[91]⟩ : ByteArray) ++ txt (fmtA a) ++ ⟨#[93]⟩) 0 = 91 := by
  rw [B_append_left _ _ _ (by rw [ByteArray.size_append]; show 0 < 1 + _; omega), B_append_left _ _ _ (by show 0 < 1; omega)]; rfl
 have e1 : B ((⟨#[91]⟩ : ByteArray) ++ txt (fmtA a) ++ ⟨#[93]⟩) (1 + (txt (fmtA a)).size + 1 - 1) = 93 := by
  rw [B_append_right _ _ _ (by rw [ByteArray.size_append]; show 1 + _ <= _; omega)]
  rw [show 1 + (txt (fmtA a)).size + 1 - 1 - ((⟨#[91]⟩ : ByteArray) ++ txt (fmtA a)).size = 0 by rw [ByteArray.size_append]; show 1 + _ + 1 - 1 - (1 + _) = 0; omega]; rfl
 have e2 : ((⟨#[91]⟩ : ByteArray) ++ txt (fmtA a) ++ ⟨#[93]⟩).extract 1 (1 + (txt (fmtA a)).size + 1 - 1) = txt (fmtA a) := by
  refine BA_ext ?_
  rw [data_extract, data_append, data_append]
  have hl : (txt (fmtA a)).size = (txt (fmtA a)).data.toList.length := size_list _
  generalize (txt (fmtA a)).data.toList = l at *
  rw [hl, show 1 + l.length + 1 - 1 = ((⟨#[91]⟩ : ByteArray).data.toList ++ l).length by rw [List.length_append]; show _ = 1 + l.length; omega, List.take_left]
  rfl
 unfold hostT
 rw [hz, e0, e1, if_pos ⟨by omega, rfl, rfl⟩, e2, parse_format ha hv]
 simp [hf]
theorem hostT_v4 {a : Adr} {p : Int} (ha : okA a) (hv : validA a = true) (hf : a.1 = false) : hostT (txt (fmtA a)) p = ((⟨#[]⟩, a, p), true) := by
 have hpf := parse_format ha hv
 have h4 : p4A (txt (fmtA a)) = (a, true) := by
  cases q : (p4A (txt (fmtA a))).2 with
  | false =>
   have := p4A_none q (by rw [hpf])
   rw [hpf, hf] at this; cases this
  | true => rw [← (p4A_some q).1, hpf]
 have h0 : B (txt (fmtA a)) 0 ≠ 91 := by
  have e : fmtA a = Lib.decDigits (a.2.getD 0 0).toNat ++ ([46] ++ Lib.decDigits (a.2.getD 1 0).toNat ++ [46] ++ Lib.decDigits (a.2.getD 2 0).toNat ++ [46] ++ Lib.decDigits (a.2.getD 3 0).toNat) := by
   unfold fmtA fmt4; rw [hv, hf]; simp
  have hp := dd_pos (a.2.getD 0 0).toNat
  have := dd_dig (a.2.getD 0 0).toNat (j := 0) (by omega)
  rw [e, B_txt8, List.getD_eq_getElem?_getD, List.getElem?_append_left (by omega), ← List.getD_eq_getElem?_getD, ← B_txt8]
  intro q; rw [q] at this; exact absurd this (by decide)
 unfold hostT
 rw [if_neg (fun hc => h0 hc.2.1), h4, if_pos rfl]
theorem tgtP_fmt {t : Tgt} (ht : okT t) (hv : validT t = true) : tgtP (fmtT t) = (t, true) := by
 have hp := validT_port hv
 have hv0 := hv
 unfold validT at hv
 rw [if_pos hp] at hv
 obtain ⟨n, a, p⟩ := t
 unfold fmtT
 rw [if_pos hv0, tgtP_app hp]
 simp only at hv hp ⊢
 by_cases hn : n.size = 0
 ·rw [if_pos hn] at hv ⊢
  have e : n = ⟨#[]⟩ := BA_ext (List.eq_nil_of_length_eq_zero (by rw [← size_list]; exact hn))
  cases hf : a.1
  ·rw [if_neg (by simp), hostT_v4 ht.1 hv hf, e]
  ·rw [if_pos rfl, hostT_v6 ht.1 hv hf, e]
 ·rw [if_neg hn] at hv ⊢
  rw [Bool.and_eq_true, decide_eq_true_eq] at hv
  rw [hostT_name hv.1, hv.2]
abbrev Cr := Tgt × Bool × ByteArray × ByteArray
def zcr : Cr := (ztgt, false, ⟨#[]⟩, ⟨#[]⟩)
def okC (h : Cr) : Prop := okT h.1 /\ h.2.2.1.size <= maxLen /\ h.2.2.2.size <= maxLen
theorem okC_zcr : okC zcr := ⟨okT_ztgt, Nat.zero_le _, Nat.zero_le _⟩
def connW : ByteArray := ⟨#[67, 79, 78, 78, 69, 67, 84]⟩
def connS : ByteArray := ⟨#[67, 79, 78, 78, 69, 67, 84, 32]⟩
def v11 : ByteArray := ⟨#[72, 84, 84, 80, 47, 49, 46, 49]⟩
def v10 : ByteArray := ⟨#[72, 84, 84, 80, 47, 49, 46, 48]⟩
def authN : ByteArray := ⟨#[80, 114, 111, 120, 121, 45, 65, 117, 116, 104, 111, 114, 105, 122, 97, 116, 105, 111, 110]⟩
def authS : ByteArray := ⟨#[112, 114, 111, 120, 121, 45, 97, 117, 116, 104, 111, 114, 105, 122, 97, 116, 105, 111, 110]⟩
theorem low_authN : lowB authN = authS := by decide +kernel
def tl32 (s : ByteArray) : ByteArray := (cutB s 32).2.1
def okRq (s : ByteArray) : Bool := (cutB s 32).2.2 && decide ((cutB s 32).1 = connW) && (cutB (tl32 s) 32).2.2 && (decide ((cutB (tl32 s) 32).2.1 = v11) || decide ((cutB (tl32 s) 32).2.1 = v10)) && (tgtP (cutB (tl32 s) 32).1).2
def rqP (s : ByteArray) : Option Tgt := if okRq s = true then some (tgtP (cutB (tl32 s) 32).1).1 else none
def hch (x : Int) : Bool := lch (lowI x)
def hdP (s : ByteArray) : Option (ByteArray × ByteArray) :=
 if 0 < idxB s 58 /\ idxB s 58 < s.size /\ allB hch s (idxB s 58) = true then some (s.extract 0 (idxB s 58), trimB (s.extract (idxB s 58 + 1) s.size)) else none
def lineP (s : ByteArray) (n : Nat) (h : Cr) (seen : Bool) : Option (Cr × Bool) :=
 if n = 0 then (rqP s).map fun t => ((t, h.2), seen)
 else match hdP s with
  | none => none
  | some (k, v) => if lowB k = authS then (if seen = true then none else some ((h.1, (authP v).2.2, (authP v).1, (authP v).2.1), true)) else some (h, seen)
def vbyte (c : Int) (pos : Nat) (req : Bool) : Bool := if req = true /\ pos < 8 then decide (c = B connS pos) else decide ((32 <= c /\ c <= 126) ∨ c = 9)
inductive St
 | run (n f : Nat) (h : Cr) (seen : Bool)
 | mal
 | done (h : Cr) (m : Nat)
def acr (s : ByteArray) (i : Nat) : Bool := decide (0 < i /\ B s (i - 1) = 13)
def step (s : ByteArray) (i : Nat) : St -> St
 | .run n f h seen =>
  if acr s i ≠ decide (B s i = 10) then .mal
  else if acr s i = true then
   if 0 < n /\ i - 1 - f = 0 then .done h (i + 1)
   else match lineP (s.extract f (i - 1)) n h seen with
    | none => .mal
    | some (g, b) => .run (n + 1) (i + 1) g b
  else if B s i ≠ 13 /\ vbyte (B s i) (i - f) (decide (n = 0)) = false then .mal
  else .run n f h seen
 | x => x
def st (s : ByteArray) : Nat -> St
 | 0 => .run 0 0 zcr false
 | i + 1 => step s i (st s i)
def fin1 (x : St) (big : Prop) [Decidable big] : Cr × Int × Int := match x with
 | .run _ _ _ _ => if big then (zcr, 0, 2) else (zcr, 0, 0)
 | .mal => (zcr, 0, 2)
 | .done h m => (h, m, 1)
def fin (s : ByteArray) : Cr × Int × Int := fin1 (st s (min s.size 512)) (512 <= s.size)
theorem st_mal {s : ByteArray} {i : Nat} (h : st s i = .mal) : ∀ k, i <= k -> st s k = .mal := by
 intro k hk
 obtain ⟨d, rfl⟩ : ∃ d, k = i + d := ⟨k - i, by omega⟩
 induction d with
 | zero => exact h
 | succ d ih => show step s (i + d) (st s (i + d)) = _; rw [ih (by omega)]; rfl
theorem st_done {s : ByteArray} {i m : Nat} {g : Cr} (h : st s i = .done g m) : ∀ k, i <= k -> st s k = .done g m := by
 intro k hk
 obtain ⟨d, rfl⟩ : ∃ d, k = i + d := ⟨k - i, by omega⟩
 induction d with
 | zero => exact h
 | succ d ih => show step s (i + d) (st s (i + d)) = _; rw [ih (by omega)]; rfl
def Inv (s : ByteArray) (i : Nat) : St -> Prop
 | .run n f h _ => f <= i /\ (f = 0 ∨ B s (f - 1) = 10) /\ n <= i /\ (n = 0 -> f = 0) /\ okC h
 | .mal => True
 | .done h m => 1 <= m /\ m <= i /\ okC h
theorem rqP_ok {s : ByteArray} {t : Tgt} (hs : s.size <= maxLen) (h : rqP s = some t) : okT t := by
 unfold rqP at h
 split at h
 ·injection h with h; rw [← h]
  exact okT_tgtP _ (Nat.le_trans (Nat.le_trans (cutB_size _ _).1 (cutB_size _ _).2) hs)
 ·cases h
theorem authP_size (s : ByteArray) : (authP s).1.size <= s.size /\ (authP s).2.1.size <= s.size := by
 have h1 := cutB_size s 32
 have h2 := pdec_size (cutB s 32).2.1
 have h3 := cutB_size (pdec (cutB s 32).2.1).1 58
 unfold authP
 split
 ·split
  ·split
   ·exact ⟨by simp only; omega, by simp only; omega⟩
   ·exact ⟨Nat.zero_le _, Nat.zero_le _⟩
  ·exact ⟨Nat.zero_le _, Nat.zero_le _⟩
 ·exact ⟨Nat.zero_le _, Nat.zero_le _⟩
theorem hdP_size {s k v : ByteArray} (h : hdP s = some (k, v)) : k.size <= s.size /\ v.size <= s.size := by
 unfold hdP at h
 split at h
 ·injection h with h
  injection h with h1 h2
  rw [← h1, ← h2]
  exact ⟨extract_le _ _ _, Nat.le_trans (trimB_size _) (extract_le _ _ _)⟩
 ·cases h
theorem lineP_ok {s : ByteArray} {n : Nat} {h g : Cr} {seen b : Bool} (hs : s.size <= maxLen) (ho : okC h) (e : lineP s n h seen = some (g, b)) : okC g := by
 unfold lineP at e
 split at e
 ·cases hq : rqP s with
  | none => rw [hq] at e; cases e
  | some t =>
   rw [hq] at e
   injection e with e
   injection e with e1 e2
   rw [← e1]
   exact ⟨rqP_ok hs hq, ho.2.1, ho.2.2⟩
 ·cases hq : hdP s with
  | none => rw [hq] at e; cases e
  | some kv =>
   obtain ⟨k, v⟩ := kv
   rw [hq] at e
   simp only at e
   have hz := hdP_size hq
   have ha := authP_size v
   split at e
   ·split at e
    ·cases e
    ·injection e with e
     injection e with e1 e2
     rw [← e1]
     exact ⟨ho.1, by show (authP v).1.size <= _; omega, by show (authP v).2.1.size <= _; omega⟩
   ·injection e with e
    injection e with e1 e2
    rw [← e1]; exact ho
theorem acr_iff {s : ByteArray} {i : Nat} : acr s i = true ↔ 0 < i /\ B s (i - 1) = 13 := by unfold acr; rw [decide_eq_true_eq]
theorem inv_step {s : ByteArray} {i : Nat} (hs : i <= maxLen) {x : St} (h : Inv s i x) : Inv s (i + 1) (step s i x) := by
 cases x with
 | mal => trivial
 | done g m => exact ⟨h.1, by have := h.2.1; omega, h.2.2⟩
 | run n f g b =>
  obtain ⟨h1, h2, h3, h4, h5⟩ := h
  unfold step
  simp only
  split
  ·trivial
  ·rename_i q
   split
   ·rename_i q2
    have hc : B s i = 10 := by
     rw [q2] at q
     have : decide (B s i = 10) = true := by cases e : decide (B s i = 10) with
      | true => rfl
      | false => exact absurd e.symm (by rw [e] at q; simp at q)
     exact of_decide_eq_true this
    split
    ·exact ⟨by omega, by omega, h5⟩
    ·cases hl : lineP (s.extract f (i - 1)) n g b with
     | none => trivial
     | some gb =>
      obtain ⟨g', b'⟩ := gb
      exact ⟨Nat.le_refl _, .inr hc, by omega, fun e => by omega, lineP_ok (by rw [ByteArray.size_extract]; omega) h5 hl⟩
   ·split
    ·trivial
    ·exact ⟨by omega, h2, by omega, h4, h5⟩
theorem inv_st (s : ByteArray) : ∀ i, i <= maxLen -> Inv s i (st s i)
 | 0, _ => ⟨Nat.le_refl _, .inl rfl, Nat.le_refl _, fun _ => rfl, okC_zcr⟩
 | i + 1, hi => inv_step (by omega) (inv_st s i (by omega))
theorem line_le {s : ByteArray} {i f : Nat} (h1 : f <= i) (h2 : f = 0 ∨ B s (f - 1) = 10) (ha : acr s i = true) : f <= i - 1 := by
 have := acr_iff.1 ha
 rcases Nat.lt_or_ge f i with h | h
 ·omega
 ·have e : f = i := by omega
  rcases h2 with h2 | h2
  ·omega
  ·rw [e] at h2; omega
theorem ext_congr {s t : ByteArray} {i : Nat} (hs : i <= s.size) (ht : i <= t.size) (hb : ∀ k, k < i -> B s k = B t k) {f e : Nat} (he : e <= i) : s.extract f e = t.extract f e := by
 refine BA_B (by rw [ByteArray.size_extract, ByteArray.size_extract]; omega) fun j hj => ?_
 rw [ByteArray.size_extract] at hj
 rw [B_extract _ _ _ _ (by omega), B_extract _ _ _ _ (by omega)]
 exact hb _ (by omega)
theorem st_congr {s t : ByteArray} {i : Nat} (hs : i <= s.size) (ht : i <= t.size) (hb : ∀ k, k < i -> B s k = B t k) : ∀ j, j <= i -> st s j = st t j
 | 0, _ => rfl
 | j + 1, hj => by
  have ih := st_congr hs ht hb j (by omega)
  show step s j (st s j) = step t j (st t j)
  rw [ih]
  have e1 : B s j = B t j := hb j (by omega)
  have e2 : acr s j = acr t j := by
   unfold acr
   rcases Nat.eq_zero_or_pos j with h | h
   ·subst h; rw [decide_eq_false (by omega), decide_eq_false (by omega)]
   ·rw [hb (j - 1) (by omega)]
  cases st t j with
  | mal => rfl
  | done g m => rfl
  | run n f g b =>
   unfold step
   simp only
   rw [e1, e2, ext_congr hs ht hb (f := f) (e := j - 1) (by omega)]
def finAt (s : ByteArray) (i : Nat) : Cr × Int × Int := fin1 (st s (min i 512)) (512 <= i)
theorem fin_pre (s : ByteArray) {i : Nat} (h : i <= s.size) : fin (s.extract 0 i) = finAt s i := by
 have hz : (s.extract 0 i).size = i := by rw [ByteArray.size_extract]; omega
 unfold fin finAt
 rw [hz, st_congr (s := s.extract 0 i) (t := s) (i := i) (by omega) h (fun k hk => by rw [B_extract _ _ _ _ (by omega), Nat.zero_add]) (min i 512) (by omega)]
theorem fin_all (s : ByteArray) : fin s = finAt s s.size := rfl
theorem finAt_stay {s : ByteArray} {i : Nat} (h : (finAt s i).2.2 ≠ 0) : finAt s (i + 1) = finAt s i := by
 rcases Nat.lt_or_ge i 512 with hi | hi
 ·unfold finAt at *
  rw [show min i 512 = i by omega] at *
  rw [show min (i + 1) 512 = i + 1 by omega]
  cases e : st s i with
  | mal => rw [st_mal e (i + 1) (by omega)]; rfl
  | done g m => rw [st_done e (i + 1) (by omega)]; rfl
  | run n f g b =>
   rw [e] at h
   unfold fin1 at h
   simp only at h
   rw [if_neg (by omega)] at h
   exact absurd rfl h
 ·unfold finAt
  rw [show min i 512 = 512 by omega, show min (i + 1) 512 = 512 by omega]
  unfold fin1
  cases st s 512 with
  | mal => rfl
  | done g m => rfl
  | run n f g b => simp only; rw [if_pos (by omega), if_pos (by omega)]
theorem acr_no {s : ByteArray} {i : Nat} (h : i = 0 ∨ B s (i - 1) ≠ 13) : acr s i = false := by
 unfold acr; rw [decide_eq_false]; omega
theorem st_line {s : ByteArray} {p n : Nat} {h : Cr} {b : Bool} (h0 : st s p = .run n p h b) (hp : p = 0 ∨ B s (p - 1) ≠ 13) : ∀ len, (∀ j, j < len -> B s (p + j) ≠ 13 /\ B s (p + j) ≠ 10 /\ vbyte (B s (p + j)) j (decide (n = 0)) = true) -> st s (p + len) = .run n p h b
 | 0, _ => h0
 | len + 1, hb => by
  have ih := st_line h0 hp len (fun j hj => hb j (by omega))
  show step s (p + len) (st s (p + len)) = _
  rw [ih]
  have hl := hb len (by omega)
  have ha : acr s (p + len) = false := acr_no (by
   rcases Nat.eq_zero_or_pos len with q | q
   ·subst q; exact hp
   ·right; have := (hb (len - 1) (by omega)).1; rwa [show p + (len - 1) = p + len - 1 by omega] at this)
  unfold step
  simp only
  rw [ha, if_neg (by rw [decide_eq_false hl.2.1]; simp), if_neg (by simp), if_neg (fun q => by rw [show p + len - p = len by omega, hl.2.2] at q; exact absurd q.2 (by simp))]
theorem st_crlf {s : ByteArray} {p n len : Nat} {h : Cr} {b : Bool} (h0 : st s p = .run n p h b) (hp : p = 0 ∨ B s (p - 1) ≠ 13) (hb : ∀ j, j < len -> B s (p + j) ≠ 13 /\ B s (p + j) ≠ 10 /\ vbyte (B s (p + j)) j (decide (n = 0)) = true)
  (hr : B s (p + len) = 13) (hn : B s (p + len + 1) = 10) : st s (p + len + 2) = if 0 < n /\ len = 0 then .done h (p + len + 2) else match lineP (s.extract p (p + len)) n h b with
   | none => .mal
   | some (g, c) => .run (n + 1) (p + len + 2) g c := by
 have h1 := st_line h0 hp len hb
 have ha : acr s (p + len) = false := acr_no (by
  rcases Nat.eq_zero_or_pos len with q | q
  ·subst q; exact hp
  ·right; have := (hb (len - 1) (by omega)).1; rwa [show p + (len - 1) = p + len - 1 by omega] at this)
 have h2 : st s (p + len + 1) = .run n p h b := by
  show step s (p + len) (st s (p + len)) = _
  rw [h1]
  unfold step
  simp only
  rw [ha, if_neg (by rw [decide_eq_false (by omega)]; simp), if_neg (by simp), if_neg (fun q => q.1 hr)]
 have ha2 : acr s (p + len + 1) = true := acr_iff.2 ⟨by omega, by rw [show p + len + 1 - 1 = p + len by omega]; exact hr⟩
 show step s (p + len + 1) (st s (p + len + 1)) = _
 rw [h2]
 unfold step
 simp only
 rw [ha2, if_neg (by rw [decide_eq_true hn]; simp), if_pos rfl]
 rw [show p + len + 1 - 1 - p = len by omega, show p + len + 1 - 1 = p + len by omega]
theorem fin_done {s : ByteArray} {k m : Nat} {h : Cr} (hk : k <= s.size) (hk2 : k <= 512) (e : st s k = .done h m) : fin s = (h, (m : Int), 1) := by
 unfold fin
 rw [st_done e (min s.size 512) (by omega)]; rfl
end Go.Proofs.YtnohnnjeabehjaaGreatDoor
