/-
  Texts of prefixes: what both parsers answer is one; parsing inverts formatting.
-/
import Derived.Test.YtbbdcodhgbgekaaGreatDoorCiJ
set_option linter.unusedSimpArgs false
set_option linter.unusedVariables false
namespace Go.Proofs.YtbbdcodhgbgekaaGreatDoor
open Go.RowKit
theorem idx47 : ∀ (l m : List UInt8), (∀ x ∈ l, x ≠ 47) → Lib.index (l ++ 47 :: m) [47] = l.length
  | [], m, _ => by unfold Lib.index; rfl
  | x :: l, m, h => by
    have hx : x ≠ 47 := h x (by simp)
    have ih := idx47 l m (fun y hy => h y (by simp [hy]))
    show Lib.index (x :: (l ++ 47 :: m)) [47] = _
    unfold Lib.index
    rw [if_neg (by simp [List.isPrefixOf]; exact fun e => hx e.symm), ih, if_neg (by simp)]
    simp
theorem idx47_none : ∀ (l : List UInt8), (∀ x ∈ l, x ≠ 47) → Lib.index l [47] = -1
  | [], _ => rfl
  | x :: l, h => by
    have hx : x ≠ 47 := h x (by simp)
    have ih := idx47_none l (fun y hy => h y (by simp [hy]))
    unfold Lib.index
    rw [if_neg (by simp [List.isPrefixOf]; exact fun e => hx e.symm), ih]; rfl
theorem cut47 (l m : List UInt8) (h : ∀ x ∈ l, x ≠ 47) : Lib.cut (l ++ 47 :: m) [47] = (l, m, true) := by
  unfold Lib.cut
  rw [idx47 l m h, if_pos (by omega)]
  simp
theorem cut47_none (l : List UInt8) (h : ∀ x ∈ l, x ≠ 47) : Lib.cut l [47] = (l, [], false) := by
  unfold Lib.cut
  rw [idx47_none l h, if_neg (by omega)]
theorem first47 : ∀ (l : List UInt8), (∀ x ∈ l, x ≠ 47) ∨ ∃ a b, l = a ++ 47 :: b ∧ ∀ x ∈ a, x ≠ 47
  | [] => .inl (by simp)
  | x :: l => by
    by_cases hx : x = 47
    · exact .inr ⟨[], l, by simp [hx], by simp⟩
    · rcases first47 l with h | ⟨a, b, e, h⟩
      · left; intro y hy
        rcases List.mem_cons.1 hy with rfl | hy
        · exact hx
        · exact h y hy
      · refine .inr ⟨x :: a, b, by rw [e]; rfl, fun y hy => ?_⟩
        rcases List.mem_cons.1 hy with rfl | hy
        · exact hx
        · exact h y hy
theorem splitc_ne (c : UInt8) : ∀ l, splitc c l ≠ []
  | [] => by simp [splitc]
  | x :: l => by
    unfold splitc
    split
    · simp
    · split <;> simp
theorem headP_txt (l m : List UInt8) (h : ∀ x ∈ l, x ≠ 47) : headP (txt (l ++ 47 :: m)) = txt l ∧ tailP (txt (l ++ 47 :: m)) = txt m := by
  unfold headP tailP
  rw [txt_list, cut47 l m h]
  exact ⟨rfl, rfl⟩
theorem headP_none (l : List UInt8) (h : ∀ x ∈ l, x ≠ 47) : headP (txt l) = txt l ∧ tailP (txt l) = txt [] := by
  unfold headP tailP
  rw [txt_list, cut47_none l h]
  exact ⟨rfl, rfl⟩
theorem allDig_at {s : ByteArray} : ∀ {n : Nat}, allDig s n = true → ∀ k, k < n → dig (B s k) = true
  | 0, _, k, hk => by omega
  | n + 1, h, k, hk => by
    simp only [allDig, Bool.and_eq_true] at h
    by_cases e : k = n
    · subst e; exact h.2
    · exact allDig_at h.1 k (by omega)
theorem numP_slash {m : List UInt8} (h : 47 ∈ m) (hi : Int) : (numP (txt m) 0 hi).2 = false := by
  obtain ⟨k, hk, e⟩ := List.mem_iff_getElem.1 h
  have hB : B (txt m) k = 47 := by rw [B_txt, List.getD_eq_getElem?_getD, List.getElem?_eq_getElem hk, e]; rfl
  have hd : allDig (txt m) (txt m).size = false := by
    cases hc : allDig (txt m) (txt m).size with
    | false => rfl
    | true =>
      have := allDig_at hc k (by rw [txt_sz]; exact hk)
      rw [hB] at this
      exact absurd this (by decide)
  unfold numP
  rw [hd]
  split
  · rfl
  · rfl
theorem numP_empty (hi : Int) : (numP (txt []) 0 hi).2 = false := by
  unfold numP
  rw [if_pos (.inl rfl)]
theorem decP_less (s : ByteArray) {L M : Int} (h : L ≤ M) : decP s L = if decP s M ≤ L then decP s M else -1 := by
  have h0 := decP_ge s M
  unfold decP at *
  by_cases h1 : s.size = 0 ∨ 6 < s.size ∨ (1 < s.size ∧ B s 0 = 48)
  · simp only [if_pos h1]; split <;> rfl
  · simp only [if_neg h1] at *
    by_cases h2 : allDig s s.size = false
    · simp only [if_pos h2]; split <;> rfl
    · simp only [if_neg h2] at *
      have hb := (dval_bd s s.size (by simpa using h2)).1
      by_cases h3 : M < dval s s.size
      · simp only [if_pos h3]
        rw [if_pos (by omega)]; split <;> rfl
      · simp only [if_neg h3]
        by_cases h4 : L < dval s s.size
        · rw [if_pos h4, if_neg (by omega)]
        · rw [if_neg h4, if_pos (by omega)]
def rparP (s : ByteArray) : Pfx × Bool := match parts 47 s with
  | [a, b] => if ((parseA a).2 && validP ((parseA a).1, decP b 128)) = true then (((parseA a).1, decP b 128), true) else (zpfx, false)
  | _ => (zpfx, false)
theorem parseP_bad {s : ByteArray} (h : (numP (tailP s) 0 (bitLen (parseA (headP s)).1)).2 = false) : parseP s = (zpfx, false) := by
  unfold parseP
  rw [h, if_neg (by simp)]
theorem rparP_eq (s : ByteArray) : rparP s = parseP s := by
  have es : s = txt s.data.toList := rfl
  rcases first47 s.data.toList with h | ⟨a, b, e, h⟩
  · have hp : parts 47 s = [txt s.data.toList] := by
      rw [es, parts_txt, splitc_none h]; rfl
    have ht : tailP s = txt [] := by rw [es]; exact (headP_none _ h).2
    rw [parseP_bad (by rw [ht]; exact numP_empty _)]
    unfold rparP
    rw [hp]
  · rw [es, e]
    obtain ⟨e1, e2⟩ := headP_txt a b h
    have hp : parts 47 (txt (a ++ 47 :: b)) = txt a :: (splitc 47 b).map txt := by
      rw [parts_txt, splitc_hit _ h]; rfl
    by_cases hb : ∀ x ∈ b, x ≠ 47
    · unfold rparP parseP
      rw [hp, splitc_none hb, e1, e2]
      simp only [List.map_cons, List.map_nil]
      have hL := bitLen_pos (parseA (txt a)).1
      have hL2 : bitLen (parseA (txt a)).1 ≤ 128 := by unfold bitLen; split <;> decide
      generalize txt a = A at *
      generalize txt b = C at *
      generalize hP : (parseA A).1 = P at *
      generalize (parseA A).2 = ps at *
      rw [numP_decP C (by omega) (by omega), decP_less C hL2]
      have hg := decP_ge C 128
      generalize decP C 128 = d at *
      cases ps with
      | false => simp
      | true =>
        by_cases h1 : d ≤ bitLen P
        · rw [if_pos h1]
          by_cases h2 : d < 0
          · rw [if_pos h2]
            have : validP (P, d) = false := by
              cases hv : validP (P, d) with
              | false => rfl
              | true => have := (validP_bits hv).1; simp only at this; omega
            simp [this]
          · rw [if_neg h2]; simp
        · rw [if_neg h1]
          have : validP (P, d) = false := by
            cases hv : validP (P, d) with
            | false => rfl
            | true => have := (validP_bits hv).2.2.1; simp only at this; omega
          simp [this]
    · have hb' : 47 ∈ b := by
        refine Classical.byContradiction fun hn => hb fun x hx e => hn (e ▸ hx)
      rw [parseP_bad (by rw [e2]; exact numP_slash hb' _)]
      rcases first47 b with hn | ⟨a', b', e', h'⟩
      · exact absurd hn hb
      · unfold rparP
        rw [hp, e', splitc_hit _ h']
        cases hs : splitc 47 b' with
        | nil => exact absurd hs (splitc_ne 47 b')
        | cons y ys => rfl
theorem tail6_chr (l : List Int) (f m : Int) : ∀ k i, ∀ x ∈ tail6 l f m k i, x ≠ 47
  | 0, i, x, hx => by cases hx
  | k + 1, i, x, hx => by
    unfold tail6 at hx
    split at hx
    · cases hx
    · split at hx
      · rcases List.mem_append.1 hx with hx | hx
        · simp at hx; rw [hx]; decide
        · exact tail6_chr l f m k _ x hx
      · rcases List.mem_append.1 hx with hx | hx
        · rcases List.mem_append.1 hx with hx | hx
          · split at hx
            · simp at hx; rw [hx]; decide
            · cases hx
          · exact (hexT_chr _ x hx).2.2
        · exact tail6_chr l f m k _ x hx
theorem fmtA_chr (a : Adr) : ∀ x ∈ fmtA a, x ≠ 47 := by
  intro x hx
  unfold fmtA at hx
  split at hx
  · cases hx
  · split at hx
    · exact tail6_chr _ _ _ _ _ x hx
    · unfold fmt4 at hx
      simp only [List.mem_append, List.mem_singleton] at hx
      rcases hx with ((((((hx | hx) | hx) | hx) | hx) | hx) | hx) <;> first | exact (dd_chr _ x hx).2.2 | (rw [hx]; decide)
theorem parse_fmtP {q : Pfx} (hq : okP q) (hv : validP q = true) : parseP (txt (fmtP q)) = (q, true) := by
  obtain ⟨b0, b1, b2, b3, b4⟩ := validP_bits hv
  have e : fmtP q = fmtA q.1 ++ 47 :: Lib.decDigits q.2.toNat := by
    unfold fmtP; rw [if_pos hv]; simp
  rw [e]
  obtain ⟨e1, e2⟩ := headP_txt (fmtA q.1) (Lib.decDigits q.2.toNat) (fmtA_chr q.1)
  have hd : numP (txt (Lib.decDigits q.2.toNat)) 0 (bitLen q.1) = (q.2, true) := by
    have hL2 : bitLen q.1 ≤ 128 := by unfold bitLen; split <;> decide
    rw [numP_decP _ (by omega) (by omega), decP_dd (by omega) (by omega), if_neg (by omega)]
    congr 1; omega
  unfold parseP
  rw [e1, e2, parse_format hq.1 b3]
  simp only [hd]
  rw [if_pos (by simp; exact hv)]
theorem parse_nought {a : Adr} (n : Nat) : (parseP (txt (fmtA a ++ 47 :: 48 :: Lib.decDigits n))).2 = false := by
  obtain ⟨e1, e2⟩ := headP_txt (fmtA a) (48 :: Lib.decDigits n) (fmtA_chr a)
  rw [parseP_bad]
  rw [e2]
  unfold numP
  rw [if_pos]
  refine .inr (.inr ⟨?_, ?_⟩)
  · rw [txt_sz, List.length_cons]; have := dd_pos n; omega
  · rw [B_txt]; rfl
end Go.Proofs.YtbbdcodhgbgekaaGreatDoor
