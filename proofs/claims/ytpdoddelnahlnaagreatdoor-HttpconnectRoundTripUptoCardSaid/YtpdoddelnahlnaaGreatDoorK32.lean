/-
  Several texts joined: HoRt.
-/
import Derived.Test.YtpdoddelnahlnaaGreatDoorK31
import Derived.Test.YtpdoddelnahlnaaGreatDoorK30
import Derived.Test.YtpdoddelnahlnaaGreatDoorK21
/-
  Plain Lean: what ParseTarget reads out of what Format wrote.
-/
set_option linter.unusedSimpArgs false
set_option linter.unusedVariables false
namespace Go.Proofs.YtpdoddelnahlnaaGreatDoor
theorem splitc_ne8 (c : UInt8) : ∀ l, splitc c l ≠ []
  | [] => by simp [splitc]
  | x :: l => by
    rw [splitc]
    split
    · simp
    · split <;> simp
theorem splitc_app (c : UInt8) (b : List UInt8) : ∀ a, splitc c (a ++ c :: b) = splitc c a ++ splitc c b
  | [] => by
    have h : splitc c (c :: b) = [] :: splitc c b := by rw [splitc, if_pos rfl]
    rw [List.nil_append, h]; rfl
  | x :: a => by
    have ih := splitc_app c b a
    rw [List.cons_append, splitc, ih]
    by_cases h : x = c
    · rw [if_pos h, splitc, if_pos h]; rfl
    · rw [if_neg h, splitc, if_neg h]
      cases hs : splitc c a with
      | nil => exact absurd hs (splitc_ne8 c a)
      | cons y ys => rfl
theorem splitc_mem (c : UInt8) : ∀ l : List UInt8, ∀ x ∈ l, x = c ∨ ∃ p ∈ splitc c l, x ∈ p
  | [], x, hx => by cases hx
  | y :: l, x, hx => by
    have ih := splitc_mem c l
    rw [splitc]
    by_cases h : y = c
    · rw [if_pos h]
      rcases List.mem_cons.1 hx with rfl | hx
      · exact .inl h
      · rcases ih x hx with h | ⟨p, h1, h2⟩
        · exact .inl h
        · exact .inr ⟨p, List.mem_cons_of_mem _ h1, h2⟩
    · rw [if_neg h]
      cases hs : splitc c l with
      | nil => exact absurd hs (splitc_ne8 c l)
      | cons z zs =>
        rw [hs] at ih
        simp only
        rcases List.mem_cons.1 hx with rfl | hx
        · exact .inr ⟨x :: z, by simp, by simp⟩
        · rcases ih x hx with h | ⟨p, h1, h2⟩
          · exact .inl h
          · rcases List.mem_cons.1 h1 with rfl | h1
            · exact .inr ⟨y :: p, by simp, List.mem_cons_of_mem _ h2⟩
            · exact .inr ⟨p, List.mem_cons_of_mem _ h1, h2⟩
theorem splitc_head (c : UInt8) : ∀ l : List UInt8, ∀ y ys, splitc c l = y :: ys → ∃ r, l = y ++ r
  | [], y, ys, h => ⟨[], by simp [splitc] at h; simp [h.1]⟩
  | x :: l, y, ys, h => by
    rw [splitc] at h
    by_cases e : x = c
    · rw [if_pos e] at h; injection h with h1 h2; subst h1; exact ⟨x :: l, rfl⟩
    · rw [if_neg e] at h
      cases hs : splitc c l with
      | nil => exact absurd hs (splitc_ne8 c l)
      | cons z zs =>
        rw [hs] at h
        injection h with h1 h2
        obtain ⟨r, hr⟩ := splitc_head c l z zs hs
        exact ⟨r, by rw [← h1, hr]; rfl⟩
theorem splitc_single (c : UInt8) : ∀ l z : List UInt8, splitc c l = [z] → z = l
  | [], z, h => by simp [splitc] at h; first | exact h | exact h.symm
  | x :: l, z, h => by
    rw [splitc] at h
    by_cases e : x = c
    · rw [if_pos e] at h; injection h with _ h2; exact absurd h2 (splitc_ne8 c l)
    · rw [if_neg e] at h
      cases hs : splitc c l with
      | nil => exact absurd hs (splitc_ne8 c l)
      | cons y ys =>
        rw [hs] at h
        injection h with h1 h2
        subst h2
        rw [← h1, splitc_single c l y hs]
theorem splitc_last (c : UInt8) : ∀ l : List UInt8, ∃ r, l = r ++ (splitc c l).getLast (splitc_ne8 c l)
  | [] => ⟨[], rfl⟩
  | x :: l => by
    obtain ⟨r, hr⟩ := splitc_last c l
    by_cases e : x = c
    · have h : splitc c (x :: l) = [] :: splitc c l := by rw [splitc, if_pos e]
      have h2 : (splitc c (x :: l)).getLast (splitc_ne8 c _) = (splitc c l).getLast (splitc_ne8 c l) := by simp only [h]; exact List.getLast_cons _
      exact ⟨x :: r, by rw [h2, List.cons_append, ← hr]⟩
    · cases hs : splitc c l with
      | nil => exact absurd hs (splitc_ne8 c l)
      | cons z zs =>
        have h : splitc c (x :: l) = (x :: z) :: zs := by rw [splitc, if_neg e, hs]
        cases zs with
        | nil => exact ⟨[], by simp only [h, List.getLast_singleton, List.nil_append]; rw [splitc_single c l z hs]⟩
        | cons z2 zs =>
          have h2 : (splitc c (x :: l)).getLast (splitc_ne8 c _) = (splitc c l).getLast (splitc_ne8 c l) := by simp only [h, hs, List.getLast_cons_cons]
          exact ⟨x :: r, by rw [h2, List.cons_append, ← hr]⟩
theorem B_txt8 (l : List UInt8) (i : Nat) : B (txt l) i = ((l.getD i 0).toNat : Int) := rfl
theorem parts_list (s : ByteArray) : (parts 46 s).map (·.data.toList) = splitc 46 s.data.toList := by
  unfold parts
  rw [List.map_map]
  exact List.map_id'' (fun x => rfl) _
/-- what is known of a name -/
theorem okName_facts {s : ByteArray} (h : okName s = true) : 1 ≤ s.size ∧ lch (B s 0) = true ∧ lch (B s (s.size - 1)) = true ∧ (∀ j, j < s.size → lch (B s j) = true ∨ B s j = 46) ∧ (p4A s).2 = false := by
  unfold okName at h
  rw [Bool.and_eq_true, Bool.and_eq_true, decide_eq_true_eq] at h
  obtain ⟨⟨h1, h2⟩, h3⟩ := h
  have hall : ∀ p ∈ splitc 46 s.data.toList, 1 ≤ p.length ∧ ∀ x ∈ p, lch (x.toNat : Int) = true := by
    intro p hp
    rw [← parts_list] at hp
    obtain ⟨y, hy, rfl⟩ := List.mem_map.1 hp
    have := (okLab_iff y).1 (List.all_eq_true.1 h2 y hy)
    refine ⟨by rw [← size_list]; exact this.1.1, ?_⟩
    have := (list_B (q := fun x => lch (x.toNat : Int)) (fun x => rfl)).2 this.2
    exact this
  have hsz := size_list s
  have hst : ∀ j, j < s.size → B s j = (((s.data.toList)[j]?.getD 0).toNat : Int) := fun j hj => by unfold B; rw [List.getD_eq_getElem?_getD]
  cases hs : splitc 46 s.data.toList with
  | nil => exact absurd hs (splitc_ne8 _ _)
  | cons y ys =>
    obtain ⟨r, hr⟩ := splitc_head 46 _ y ys hs
    have hy := hall y (by rw [hs]; simp)
    obtain ⟨q, hq⟩ := splitc_last 46 s.data.toList
    have hl := hall _ (List.getLast_mem (splitc_ne8 46 s.data.toList))
    have hlast : lastL (parts 46 s) = txt ((splitc 46 s.data.toList).getLast (splitc_ne8 _ _)) := by
      unfold lastL parts
      rw [List.getLast?_map, List.getLast?_eq_some_getLast (splitc_ne8 46 s.data.toList)]; rfl
    generalize (splitc 46 s.data.toList).getLast (splitc_ne8 46 s.data.toList) = z at *
    have hlen1 := congrArg List.length hr
    have hlen2 := congrArg List.length hq
    rw [List.length_append] at hlen1 hlen2
    refine ⟨by omega, ?_, ?_, fun j hj => ?_, ?_⟩
    · rw [hst 0 (by omega), hr, List.getElem?_append_left (by omega), List.getElem?_eq_getElem (by omega)]
      exact hy.2 _ (List.getElem_mem _)
    · rw [hst _ (by omega), hq, List.getElem?_append_right (by omega), List.getElem?_eq_getElem (by omega)]
      exact hl.2 _ (List.getElem_mem _)
    · rw [hst j hj, List.getElem?_eq_getElem (by omega)]
      rcases splitc_mem 46 s.data.toList (s.data.toList[j]'(by omega)) (List.getElem_mem _) with e | ⟨p, hp, hx⟩
      · exact .inr (by rw [Option.getD_some, e]; rfl)
      · exact .inl ((hall p hp).2 _ hx)
    · unfold p4A
      have : parse4 s = none := by
        rw [parse4_eq, if_neg]
        intro ⟨h4, ho⟩
        have hg := lastL_get (ps := parts 46 s) (by omega)
        have hd : dec (lastL (parts 46 s)) < 0 := by
          unfold dec decP
          rw [allDig_allB]
          rw [Bool.not_eq_true'] at h3
          rw [h3]
          split
          · decide
          · rw [if_pos rfl]; decide
        rw [okDec_not hg hd] at ho
        cases ho
      rw [this]
theorem strOfNums_numsB (s : ByteArray) : strOfNums (numsB s) = s := by
  refine BA_ext ?_
  rw [strOfNums_data]
  unfold numsB
  rw [List.map_map]
  refine List.map_id'' (fun x => ?_) _
  show UInt8.ofNat (((x.toNat : Nat) : Int)).toNat = x
  rw [Int.toNat_natCast, UInt8.ofNat_toNat]
theorem lowI_lch {x : Int} (h : lch x = true ∨ x = 46) : lowI x = x := by
  unfold lowI
  rw [if_neg]
  rcases h with h | h
  · unfold lch at h; rw [decide_eq_true_eq] at h; omega
  · omega
theorem nameP_own {s : ByteArray} (h : okName s = true) : nameP s = (s, true) := by
  obtain ⟨h1, h2, h3, h4, -⟩ := okName_facts h
  have e : lowNums s = numsB s := by
    apply List.ext_getElem?
    intro j
    rcases Nat.lt_or_ge j s.size with hj | hj
    · rw [lowNums_get s hj, numsB_get s j hj, lowI_lch (h4 j hj)]
    · rw [List.getElem?_eq_none (by rw [← lowTo_all, lowTo_len]; exact hj), List.getElem?_eq_none (by rw [numsB_len]; exact hj)]
  have e2 : hostS s = s := by
    rw [hostS_nodot (s := s) (fun _ hd => by rw [hd] at h3; exact absurd h3 (by decide)), e, List.take_of_length_le (by rw [numsB_len]; exact Nat.le_refl _), strOfNums_numsB]
  unfold nameP
  rw [e2, if_pos h]
theorem dd_dig (n : Nat) {j : Nat} (hj : j < (Lib.decDigits n).length) : dig (B (txt (Lib.decDigits n)) j) = true := by
  have h := (dd_val n).1
  rw [allDig_allB] at h
  exact allB_iff.1 h j hj
theorem portP_dd {p : Int} (h : 1 ≤ p ∧ p ≤ 65535) : portP (txt (Lib.decDigits p.toNat)) = (p, true) := by
  unfold portP
  rw [numP_decP _ (by decide) (by decide), decP_dd (by omega) (by omega), if_neg (by omega)]
  congr 1; omega
theorem lastIdx_app (h d : ByteArray) (hd : ∀ j, j < d.size → B d j ≠ 58) : Lib.lastIndexByte (h ++ (⟨#[58]⟩ ++ d)) 58 = h.size := by
  have hz : (h ++ (⟨#[58]⟩ ++ d)).size = h.size + (1 + d.size) := by rw [ByteArray.size_append, ByteArray.size_append]; rfl
  have h0 : B (h ++ (⟨#[58]⟩ ++ d)) h.size = 58 := by
    rw [B_append_right _ _ _ (Nat.le_refl _), Nat.sub_self, B_append_left _ _ _ (by show 0 < 1; omega)]; rfl
  rcases Lib.lastIndexByte_spec (h ++ (⟨#[58]⟩ ++ d)) 58 with ⟨_, h2⟩ | ⟨i, h1, h2, h3, h4⟩
  · exact absurd (by rw [data_B]; exact h0) (h2 h.size (by omega))
  · rw [data_B] at h3
    rcases Nat.lt_trichotomy i h.size with hi | hi | hi
    · exact absurd (by rw [data_B]; exact h0) (h4 h.size hi (by omega))
    · rw [h2, hi]
    · exfalso
      rw [B_append_right _ _ _ (by omega), B_append_right _ _ _ (by show 1 ≤ _; omega)] at h3
      exact hd _ (by show i - h.size - 1 < _; omega) h3
theorem ext_left (a b : ByteArray) : (a ++ b).extract 0 a.size = a := by
  refine BA_ext ?_
  rw [data_extract, data_append, List.drop_zero, size_list, List.take_left]
theorem ext_right (a b : ByteArray) (n : Nat) (hn : n = (a ++ b).size) : (a ++ b).extract a.size n = b := by
  refine BA_ext ?_
  rw [hn, data_extract, List.take_of_length_le (by rw [size_list]; exact Nat.le_refl _), data_append, size_list, List.drop_left]
theorem tgtP_app {h : ByteArray} {p : Int} (hp : 1 ≤ p ∧ p ≤ 65535) : tgtP (h ++ (⟨#[58]⟩ ++ txt (Lib.decDigits p.toNat))) = hostT h p := by
  have hd : ∀ j, j < (txt (Lib.decDigits p.toNat)).size → B (txt (Lib.decDigits p.toNat)) j ≠ 58 := fun j hj e => by
    have := dd_dig p.toNat (j := j) (by rw [← txt_size]; exact hj)
    rw [e] at this; exact absurd this (by decide)
  have hl := lastIdx_app h _ hd
  have he : (h ++ (⟨#[58]⟩ ++ txt (Lib.decDigits p.toNat))).extract (h.size + 1) (h ++ (⟨#[58]⟩ ++ txt (Lib.decDigits p.toNat))).size = txt (Lib.decDigits p.toNat) := by
    rw [← ByteArray.append_assoc]
    have := ext_right (h ++ ⟨#[58]⟩) (txt (Lib.decDigits p.toNat)) _ rfl
    rwa [show (h ++ (⟨#[58]⟩ : ByteArray)).size = h.size + 1 by rw [ByteArray.size_append]; rfl] at this
  unfold tgtP
  rw [hl, if_neg (by omega), show ((h.size : Nat) : Int).toNat = h.size from rfl, he, portP_dd hp, if_neg (by simp), ext_left]
theorem hostT_name {h : ByteArray} {p : Int} (ho : okName h = true) : hostT h p = ((h, zadr, p), true) := by
  obtain ⟨h1, h2, h3, h4, h5⟩ := okName_facts ho
  unfold hostT
  rw [if_neg (fun hc => by rw [hc.2.1] at h2; exact absurd h2 (by decide)), h5, if_neg (by simp), nameP_own ho, if_pos rfl]
theorem hostT_v6 {a : Adr} {p : Int} (ha : okA a) (hv : validA a = true) (hf : a.1 = true) : hostT (⟨#[91]⟩ ++ txt (fmtA a) ++ ⟨#[93]⟩) p = ((⟨#[]⟩, a, p), true) := by
  have hz : ((⟨#[91]⟩ : ByteArray) ++ txt (fmtA a) ++ ⟨#[93]⟩).size = 1 + (txt (fmtA a)).size + 1 := by rw [ByteArray.size_append, ByteArray.size_append]; rfl
  have e0 : B ((⟨#[91]⟩ : ByteArray) ++ txt (fmtA a) ++ ⟨#[93]⟩) 0 = 91 := by
    rw [B_append_left _ _ _ (by rw [ByteArray.size_append]; show 0 < 1 + _; omega), B_append_left _ _ _ (by show 0 < 1; omega)]; rfl
  have e1 : B ((⟨#[91]⟩ : ByteArray) ++ txt (fmtA a) ++ ⟨#[93]⟩) (1 + (txt (fmtA a)).size + 1 - 1) = 93 := by
    rw [B_append_right _ _ _ (by rw [ByteArray.size_append]; show 1 + _ ≤ _; omega)]
    rw [show 1 + (txt (fmtA a)).size + 1 - 1 - ((⟨#[91]⟩ : ByteArray) ++ txt (fmtA a)).size = 0 by rw [ByteArray.size_append]; show 1 + _ + 1 - 1 - (1 + _) = 0; omega]; rfl
  have e2 : ((⟨#[91]⟩ : ByteArray) ++ txt (fmtA a) ++ ⟨#[93]⟩).extract 1 (1 + (txt (fmtA a)).size + 1 - 1) = txt (fmtA a) := by
    refine BA_ext ?_
    rw [data_extract, data_append, data_append]
    have hl : (txt (fmtA a)).size = (txt (fmtA a)).data.toList.length := size_list _
    generalize (txt (fmtA a)).data.toList = l at *
    rw [hl, show 1 + l.length + 1 - 1 = ((⟨#[91]⟩ : ByteArray).data.toList ++ l).length by rw [List.length_append]; show _ = 1 + l.length; omega, List.take_left]
    rfl
  unfold hostT
  rw [hz, e0, e1, if_pos ⟨by omega, rfl, rfl⟩, e2, parse_format ha hv]
  simp [hf]
theorem hostT_v4 {a : Adr} {p : Int} (ha : okA a) (hv : validA a = true) (hf : a.1 = false) : hostT (txt (fmtA a)) p = ((⟨#[]⟩, a, p), true) := by
  have hpf := parse_format ha hv
  have h4 : p4A (txt (fmtA a)) = (a, true) := by
    cases q : (p4A (txt (fmtA a))).2 with
    | false =>
      have := p4A_none q (by rw [hpf])
      rw [hpf, hf] at this; cases this
    | true => rw [← (p4A_some q).1, hpf]
  have h0 : B (txt (fmtA a)) 0 ≠ 91 := by
    have e : fmtA a = Lib.decDigits (a.2.getD 0 0).toNat ++ ([46] ++ Lib.decDigits (a.2.getD 1 0).toNat ++ [46] ++ Lib.decDigits (a.2.getD 2 0).toNat ++ [46] ++ Lib.decDigits (a.2.getD 3 0).toNat) := by
      unfold fmtA fmt4; rw [hv, hf]; simp
    have hp := dd_pos (a.2.getD 0 0).toNat
    have := dd_dig (a.2.getD 0 0).toNat (j := 0) (by omega)
    rw [e, B_txt8, List.getD_eq_getElem?_getD, List.getElem?_append_left (by omega), ← List.getD_eq_getElem?_getD, ← B_txt8]
    intro q; rw [q] at this; exact absurd this (by decide)
  unfold hostT
  rw [if_neg (fun hc => h0 hc.2.1), h4, if_pos rfl]
theorem tgtP_fmt {t : Tgt} (ht : okT t) (hv : validT t = true) : tgtP (fmtT t) = (t, true) := by
  have hp := validT_port hv
  have hv0 := hv
  unfold validT at hv
  rw [if_pos hp] at hv
  obtain ⟨n, a, p⟩ := t
  unfold fmtT
  rw [if_pos hv0, tgtP_app hp]
  simp only at hv hp ⊢
  by_cases hn : n.size = 0
  · rw [if_pos hn] at hv ⊢
    have e : n = ⟨#[]⟩ := BA_ext (List.eq_nil_of_length_eq_zero (by rw [← size_list]; exact hn))
    cases hf : a.1
    · rw [if_neg (by simp), hostT_v4 ht.1 hv hf, e]
    · rw [if_pos rfl, hostT_v6 ht.1 hv hf, e]
  · rw [if_neg hn] at hv ⊢
    rw [Bool.and_eq_true, decide_eq_true_eq] at hv
    rw [hostT_name hv.1, hv.2]
theorem fmtT_bad {t : Tgt} (hv : validT t = false) : fmtT t = ⟨#[]⟩ := by unfold fmtT; rw [hv]; rfl
theorem tgtP_nil : tgtP ⟨#[]⟩ = (ztgt, false) := by decide +kernel
end Go.Proofs.YtpdoddelnahlnaaGreatDoor
