/-
  Several texts joined: HcT, HcU.
-/
import Derived.Test.YtpdoddelnahlnaaGreatDoorK34
import Derived.Test.YtpdoddelnahlnaaGreatDoorK26
import Derived.Test.YtpdoddelnahlnaaGreatDoorK12
/-
  Plain Lean: the bytes of targets; heads, line by line.
-/
set_option linter.unusedSimpArgs false
set_option linter.unusedVariables false
namespace Go.Proofs.YtpdoddelnahlnaaGreatDoor
def vis (x : UInt8) : Bool := decide (33 ≤ x.toNat ∧ x.toNat ≤ 126)
theorem dd_vis (n : Nat) : ∀ x ∈ Lib.decDigits n, vis x = true := by
  induction n using Nat.strongRecOn with
  | _ n ih =>
    have key : ∀ r : Fin 10, vis (UInt8.ofNat (48 + r.1)) = true := by decide
    intro x hx
    by_cases h : n < 10
    · rw [dd_small h] at hx
      simp only [List.mem_singleton] at hx
      subst hx; exact key ⟨n, h⟩
    · rw [dd_big h, List.mem_append] at hx
      rcases hx with hx | hx
      · exact ih _ (by omega) x hx
      · simp only [List.mem_singleton] at hx
        subst hx; exact key ⟨n % 10, by omega⟩
theorem hexc_vis : ∀ r : Fin 16, vis (hexc r.1) = true := by decide
theorem hexT_vis (n : Nat) : ∀ x ∈ hexT n, vis x = true := by
  induction n using Nat.strongRecOn with
  | _ n ih =>
    intro x hx
    by_cases h : n < 16
    · rw [hexT_small h] at hx
      simp only [List.mem_singleton] at hx
      subst hx; exact hexc_vis ⟨n, h⟩
    · rw [hexT_big h, List.mem_append] at hx
      rcases hx with hx | hx
      · exact ih _ (by omega) x hx
      · simp only [List.mem_singleton] at hx
        subst hx; exact hexc_vis ⟨n % 16, by omega⟩
theorem tail6_vis (l : List Int) (f m : Int) : ∀ k i, ∀ x ∈ tail6 l f m k i, vis x = true
  | 0, i, x, hx => by cases hx
  | k + 1, i, x, hx => by
    unfold tail6 at hx
    split at hx
    · cases hx
    · split at hx
      · rcases List.mem_append.1 hx with hx | hx
        · simp at hx; rw [hx]; decide
        · exact tail6_vis l f m k _ x hx
      · rcases List.mem_append.1 hx with hx | hx
        · rcases List.mem_append.1 hx with hx | hx
          · split at hx
            · simp at hx; rw [hx]; decide
            · cases hx
          · exact hexT_vis _ x hx
        · exact tail6_vis l f m k _ x hx
theorem fmtA_vis (a : Adr) : ∀ x ∈ fmtA a, vis x = true := by
  intro x hx
  unfold fmtA at hx
  split at hx
  · cases hx
  · split at hx
    · exact tail6_vis _ _ _ _ _ x hx
    · unfold fmt4 at hx
      simp only [List.mem_append, List.mem_singleton] at hx
      rcases hx with ((((((hx | hx) | hx) | hx) | hx) | hx) | hx) <;> first | exact dd_vis _ x hx | (rw [hx]; decide)
def visI (x : Int) : Bool := decide (33 ≤ x ∧ x ≤ 126)
theorem vis_I (x : UInt8) : vis x = visI x.toNat := by unfold vis visI; congr 1; simp only [eq_iff_iff]; omega
theorem vis_B {s : ByteArray} : (∀ x ∈ s.data.toList, vis x = true) ↔ ∀ j, j < s.size → 33 ≤ B s j ∧ B s j ≤ 126 := by
  rw [list_B (p := visI) vis_I, allB_iff]
  unfold visI
  simp only [decide_eq_true_eq]
theorem name_vis {s : ByteArray} (h : okName s = true) : ∀ x ∈ s.data.toList, vis x = true := vis_B.2 fun j hj => by
  rcases (okName_facts h).2.2.2.1 j hj with q | q
  · unfold lch at q; rw [decide_eq_true_eq] at q; omega
  · omega
theorem fmtT_vis {t : Tgt} : ∀ x ∈ (fmtT t).data.toList, vis x = true := by
  intro x hx
  unfold fmtT at hx
  split at hx
  · rename_i hv
    rw [data_append, data_append, List.mem_append, List.mem_append] at hx
    rcases hx with hx | hx | hx
    · split at hx
      · split at hx
        · rw [data_append, data_append, List.mem_append, List.mem_append] at hx
          rcases hx with (hx | hx) | hx
          · simp at hx; rw [hx]; decide
          · exact fmtA_vis _ x hx
          · simp at hx; rw [hx]; decide
        · exact fmtA_vis _ x hx
      · rename_i hn
        have hv' := hv
        unfold validT at hv'
        split at hv'
        · rw [Bool.and_eq_true] at hv'
          exact name_vis hv'.1 x hx
        · cases hv'
    · simp at hx; rw [hx]; decide
    · exact dd_vis _ x hx
  · simp at hx
theorem fmtT_size {t : Tgt} (ht : okT t) : (fmtT t).size ≤ 300 := by
  unfold fmtT
  split
  · rename_i hv
    unfold validT at hv
    split at hv
    · rename_i hp
      have hd := dd_len 4 t.2.2.toNat (by omega)
      have hA := fmtA_len ht.1
      have e1 := txt_sz (Lib.decDigits t.2.2.toNat)
      have e2 := txt_sz (fmtA t.2.1)
      have e3 : (⟨#[58]⟩ : ByteArray).size = 1 := rfl
      have e4 : (⟨#[91]⟩ : ByteArray).size = 1 := rfl
      have e5 : (⟨#[93]⟩ : ByteArray).size = 1 := rfl
      rw [ByteArray.size_append, ByteArray.size_append]
      split
      · split
        · rw [ByteArray.size_append, ByteArray.size_append]; omega
        · omega
      · rename_i hn
        rw [if_neg hn, Bool.and_eq_true] at hv
        have hz : t.1.size ≤ 253 := by
          have := hv.1
          unfold okName at this
          simp only [Bool.and_eq_true, decide_eq_true_eq] at this
          exact this.1.1
        omega
    · cases hv
  · exact Nat.zero_le _
/-! cuts of sums -/
theorem cutB_app {a r : ByteArray} {c : UInt8} (h : ∀ x ∈ a.data.toList, x ≠ c) : cutB (a ++ (⟨#[c]⟩ ++ r)) c = (a, r, true) := by
  have hs : (a ++ (⟨#[c]⟩ ++ r)).size = a.size + 1 + r.size := by
    rw [ByteArray.size_append, ByteArray.size_append]
    have : (⟨#[c]⟩ : ByteArray).size = 1 := rfl
    omega
  have hi : idxB (a ++ (⟨#[c]⟩ ++ r)) c = a.size := idxB_is (by omega) (by
    rw [B_append_right _ _ _ (Nat.le_refl _), Nat.sub_self, B_append_left _ _ _ (by show 0 < 1; decide)]; rfl) (fun j hj => by
    rw [B_append_left _ _ _ hj]
    intro e
    rw [size_list] at hj
    refine h (a.data.toList[j]'hj) (List.getElem_mem _) (UInt8.toNat_inj.1 ?_)
    unfold B at e
    rw [List.getD_eq_getElem?_getD, List.getElem?_eq_getElem hj, Option.getD_some] at e
    omega)
  unfold cutB
  rw [hi, if_pos (by omega)]
  refine Prod.ext (ext_left _ _) (Prod.ext ?_ rfl)
  show (a ++ (⟨#[c]⟩ ++ r)).extract (a.size + 1) (a ++ (⟨#[c]⟩ ++ r)).size = r
  rw [← ByteArray.append_assoc]
  have e : (a ++ (⟨#[c]⟩ : ByteArray)).size = a.size + 1 := by rw [ByteArray.size_append]; rfl
  rw [← e]
  exact ext_right _ _ _ rfl
theorem vis_ne {f : ByteArray} (h : ∀ x ∈ f.data.toList, vis x = true) : ∀ x ∈ f.data.toList, x ≠ 32 := fun x hx e => by
  have := h x hx; rw [e] at this; exact absurd this (by decide)
theorem rqP_line {f : ByteArray} {t : Tgt} (hf : ∀ x ∈ f.data.toList, vis x = true) (h : tgtP f = (t, true)) : rqP (connS ++ (f ++ (⟨#[32]⟩ ++ v11))) = some t := by
  have e : connS ++ (f ++ (⟨#[32]⟩ ++ v11)) = connW ++ (⟨#[32]⟩ ++ (f ++ (⟨#[32]⟩ ++ v11))) := by rw [← ByteArray.append_assoc (a := connW)]; rfl
  have h1 : cutB (connS ++ (f ++ (⟨#[32]⟩ ++ v11))) 32 = (connW, f ++ (⟨#[32]⟩ ++ v11), true) := by rw [e]; exact cutB_app (by decide)
  have h2 : cutB (f ++ (⟨#[32]⟩ ++ v11)) 32 = (f, v11, true) := cutB_app (vis_ne hf)
  unfold rqP okRq tl32
  rw [h1]
  simp only
  rw [h2]
  simp only
  rw [h]
  simp
/-! a line of a head -/
def crlf : ByteArray := ⟨#[13, 10]⟩
theorem st_seg {S a l r : ByteArray} (e : S = a ++ (l ++ (crlf ++ r))) {n : Nat} {h : Cr} {b : Bool} (h0 : st S a.size = .run n a.size h b) (hp : a.size = 0 ∨ B S (a.size - 1) ≠ 13)
    (hb : ∀ j, j < l.size → B l j ≠ 13 ∧ B l j ≠ 10 ∧ vbyte (B l j) j (decide (n = 0)) = true) : st S (a.size + l.size + 2) = if 0 < n ∧ l.size = 0 then .done h (a.size + l.size + 2) else match lineP l n h b with
      | none => .mal
      | some (g, c) => .run (n + 1) (a.size + l.size + 2) g c := by
  have hB : ∀ j, B S (a.size + j) = B (l ++ (crlf ++ r)) j := fun j => by rw [e, B_append_right _ _ _ (by omega), show a.size + j - a.size = j by omega]
  have hC : ∀ j, B S (a.size + l.size + j) = B (crlf ++ r) j := fun j => by rw [Nat.add_assoc, hB, B_append_right _ _ _ (by omega), show l.size + j - l.size = j by omega]
  have hx : S.extract a.size (a.size + l.size) = l := by
    rw [e, ← ByteArray.append_assoc]
    have e1 : (a ++ l).size = a.size + l.size := ByteArray.size_append
    refine BA_ext ?_
    rw [data_extract, data_append, data_append, List.take_left' (by rw [List.length_append, ← size_list, ← size_list]), List.drop_left' (size_list a).symm]
  have := st_crlf h0 hp (len := l.size) (fun j hj => by rw [hB, B_append_left _ _ _ hj]; exact hb j hj) (by have := hC 0; rw [Nat.add_zero] at this; rw [this, B_append_left _ _ _ (by decide)]; rfl) (by rw [hC 1, B_append_left _ _ _ (by decide)]; rfl)
  rw [this, hx]
  split
  · rfl
  · cases lineP l n h b with
    | none => rfl
    | some x => rfl
theorem last_crlf {S a r : ByteArray} (e : S = (a ++ crlf) ++ r) : (a ++ crlf).size = 0 ∨ B S ((a ++ crlf).size - 1) ≠ 13 := by
  right
  have h1 : (a ++ crlf).size = a.size + 2 := by rw [ByteArray.size_append]; rfl
  rw [e, B_append_left _ _ _ (by omega), B_append_right _ _ _ (by omega), h1, show a.size + 2 - 1 - a.size = 1 by omega]
  decide
theorem vbyte_vis {c : Int} {j : Nat} (h : (32 ≤ c ∧ c ≤ 126) ∨ c = 9) : vbyte c j (decide (1 = 0)) = true := by
  unfold vbyte; rw [if_neg (fun q => absurd q.1 (by simp)), decide_eq_true_eq]; exact h
theorem vbyte_late {c : Int} {j : Nat} (b : Bool) (hj : 8 ≤ j) (h : 32 ≤ c ∧ c ≤ 126) : vbyte c j b = true := by
  unfold vbyte; rw [if_neg (by omega), decide_eq_true_eq]; exact .inl h
/-- the request line -/
theorem st_rq {S f r : ByteArray} {t : Tgt} (hf : ∀ x ∈ f.data.toList, vis x = true) (ht : tgtP f = (t, true)) (e : S = connS ++ (f ++ (⟨#[32]⟩ ++ v11)) ++ (crlf ++ r)) :
    st S ((connS ++ (f ++ (⟨#[32]⟩ ++ v11))).size + 2) = .run 1 ((connS ++ (f ++ (⟨#[32]⟩ ++ v11))).size + 2) (t, false, ⟨#[]⟩, ⟨#[]⟩) false := by
  have hz : connS.size = 8 := rfl
  have := st_seg (a := ⟨#[]⟩) (l := connS ++ (f ++ (⟨#[32]⟩ ++ v11))) (r := r) (S := S) (by rw [e]; exact (ByteArray.empty_append).symm) (n := 0) (h := zcr) (b := false) rfl (.inl rfl) (fun j hj => by
    rcases Nat.lt_or_ge j 8 with q | q
    · rw [B_append_left _ _ _ (by omega)]
      have key : ∀ j : Fin 8, B connS j.1 ≠ 13 ∧ B connS j.1 ≠ 10 ∧ vbyte (B connS j.1) j.1 (decide (0 = 0)) = true := by decide +kernel
      exact key ⟨j, q⟩
    · have hk : 32 ≤ B (connS ++ (f ++ (⟨#[32]⟩ ++ v11))) j ∧ B (connS ++ (f ++ (⟨#[32]⟩ ++ v11))) j ≤ 126 := by
        obtain ⟨k, rfl⟩ : ∃ k, j = 8 + k := ⟨j - 8, by omega⟩
        rw [B_append_right _ _ _ (by omega), hz, show 8 + k - 8 = k by omega]
        rw [ByteArray.size_append, hz, ByteArray.size_append] at hj
        rcases Nat.lt_or_ge k f.size with q2 | q2
        · rw [B_append_left _ _ _ q2]
          have := vis_B.1 hf k q2
          omega
        · rw [B_append_right _ _ _ q2]
          have key : ∀ j : Fin 9, 32 ≤ B (⟨#[32]⟩ ++ v11) j.1 ∧ B (⟨#[32]⟩ ++ v11) j.1 ≤ 126 := by decide +kernel
          have hl : (⟨#[32]⟩ ++ v11 : ByteArray).size = 9 := by decide +kernel
          rcases Nat.lt_or_ge (k - f.size) 9 with q3 | q3
          · exact key ⟨_, q3⟩
          · exfalso
            rw [hl] at hj
            omega
      exact ⟨by omega, by omega, vbyte_late _ q hk⟩)
  have e0 : (⟨#[]⟩ : ByteArray).size = 0 := rfl
  rw [e0, Nat.zero_add, if_neg (by omega)] at this
  rw [this]
  unfold lineP
  rw [if_pos rfl, rqP_line hf ht]
  rfl
end Go.Proofs.YtpdoddelnahlnaaGreatDoor
/-
  Plain Lean: heads that Format writes, and heads of a given length, are read back.
-/
set_option linter.unusedSimpArgs false
set_option linter.unusedVariables false
namespace Go.Proofs.YtpdoddelnahlnaaGreatDoor
theorem L6_vis {n : Int} (h0 : 0 ≤ n) (h1 : n < 64) : vis (L6 n) = true := by
  have key : ∀ r : Fin 64, vis (alpha.getD r.1 0) = true := by decide
  exact key ⟨n.toNat, by omega⟩
theorem quad_vis {n : Nat} {x y z : Int} (hx : 0 ≤ x ∧ x < 256) (hy : 0 ≤ y ∧ y < 256) (hz : 0 ≤ z ∧ z < 256) : ∀ c ∈ quad n x y z, vis c = true := by
  intro c hc
  unfold quad at hc
  simp only [List.mem_cons, List.not_mem_nil, or_false] at hc
  rcases hc with hc | hc | hc | hc
  · rw [hc]; exact L6_vis (by omega) (by omega)
  · rw [hc]; exact L6_vis (by omega) (by omega)
  · split at hc
    · rw [hc]; exact L6_vis (by omega) (by omega)
    · rw [hc]; decide
  · split at hc
    · rw [hc]; exact L6_vis (by omega) (by omega)
    · rw [hc]; decide
theorem u8_bd (a : UInt8) : 0 ≤ ((a.toNat : Nat) : Int) ∧ ((a.toNat : Nat) : Int) < 256 := by
  have := a.toNat_lt
  omega
theorem encL_vis : ∀ l : List UInt8, ∀ c ∈ encL l, vis c = true
  | [], c, hc => by cases hc
  | [a], c, hc => quad_vis (u8_bd a) (by omega) (by omega) c hc
  | [a, b], c, hc => quad_vis (u8_bd a) (u8_bd b) (by omega) c hc
  | a :: b :: d :: r, c, hc => by
    rw [encL] at hc
    rcases List.mem_append.1 hc with hc | hc
    · exact quad_vis (u8_bd a) (u8_bd b) (u8_bd d) c hc
    · exact encL_vis r c hc
theorem encB_vis (s : ByteArray) : ∀ c ∈ (encB s).data.toList, vis c = true := encL_vis _
theorem encB_size (s : ByteArray) : (encB s).size = (s.size + 2) / 3 * 4 := by
  rw [size_list (encB s), size_list s]; exact encL_len _
def rqL (t : Tgt) : ByteArray := connS ++ (fmtT t ++ (⟨#[32]⟩ ++ v11))
def col : ByteArray := ⟨#[58]⟩
def bas : ByteArray := ⟨#[66, 97, 115, 105, 99]⟩
def spc : ByteArray := ⟨#[32]⟩
def authV (u p : ByteArray) : ByteArray := bas ++ (spc ++ encB (u ++ (col ++ p)))
def authL (u p : ByteArray) : ByteArray := authN ++ (col ++ (spc ++ authV u p))
def hdT (h : Cr) : ByteArray := rqL h.1 ++ (crlf ++ (if h.2.1 = true then authL h.2.2.1 h.2.2.2 ++ (crlf ++ crlf) else crlf))
theorem rq_ok {t : Tgt} (ht : okT t) (hv : validT t = true) {S r : ByteArray} (e : S = rqL t ++ (crlf ++ r)) : st S ((rqL t).size + 2) = .run 1 ((rqL t).size + 2) (t, false, ⟨#[]⟩, ⟨#[]⟩) false :=
  st_rq fmtT_vis (tgtP_fmt ht hv) e
theorem crlf_size : crlf.size = 2 := rfl
theorem a2_size (a : ByteArray) : (a ++ crlf).size = a.size + 2 := by rw [ByteArray.size_append, crlf_size]
/-- request line, one more line, the empty line -/
theorem st_two {t : Tgt} (ht : okT t) (hv : validT t = true) {S l r : ByteArray} {g : Cr} {c : Bool} (e : S = rqL t ++ (crlf ++ (l ++ (crlf ++ (crlf ++ r)))))
    (hb : ∀ j, j < l.size → 32 ≤ B l j ∧ B l j ≤ 126) (h1 : 0 < l.size) (hl : lineP l 1 (t, false, ⟨#[]⟩, ⟨#[]⟩) false = some (g, c)) :
    st S ((rqL t).size + l.size + 6) = .done g ((rqL t).size + l.size + 6) := by
  have q1 := rq_ok ht hv e
  have e2 : S = (rqL t ++ crlf) ++ (l ++ (crlf ++ (crlf ++ r))) := by rw [ByteArray.append_assoc]; exact e
  rw [← a2_size] at q1
  have q2 := st_seg e2 q1 (last_crlf e2) (fun j hj => by
    have := hb j hj
    exact ⟨by omega, by omega, vbyte_vis (.inl this)⟩)
  rw [if_neg (by omega), hl] at q2
  simp only at q2
  have e3 : S = ((rqL t ++ crlf ++ l) ++ crlf) ++ ((⟨#[]⟩ : ByteArray) ++ (crlf ++ r)) := by
    rw [e2]
    have : ((⟨#[]⟩ : ByteArray) ++ (crlf ++ r)) = crlf ++ r := ByteArray.empty_append
    rw [this]
    simp only [ByteArray.append_assoc]
  have z3 : ((rqL t ++ crlf ++ l) ++ crlf).size = (rqL t ++ crlf).size + l.size + 2 := by rw [a2_size, ByteArray.size_append]
  rw [← z3] at q2
  have q3 := st_seg e3 q2 (last_crlf e3) (fun j hj => absurd hj (by show ¬ j < 0; omega))
  have z0 : (⟨#[]⟩ : ByteArray).size = 0 := rfl
  rw [if_pos ⟨by omega, rfl⟩, z0, z3, a2_size] at q3
  have z4 : (rqL t).size + 2 + l.size + 2 + 0 + 2 = (rqL t).size + l.size + 6 := by omega
  rw [z4] at q3
  exact q3
theorem trimB_lead {r : ByteArray} (hr : ∀ x ∈ r.data.toList, vis x = true) (q : ByteArray) (hq : ∃ c l, q.data.toList = c :: l ∧ vis c = true) (h1 : 0 < r.size) : trimB (spc ++ (q ++ r)) = q ++ r := by
  obtain ⟨c, l, hql, hc⟩ := hq
  have nw : ∀ x : UInt8, vis x = true → wsL.contains x = false := by
    intro x hx
    cases hw : wsL.contains x with
    | false => rfl
    | true =>
      have := wsp_B.1 hw
      rw [vis_I] at hx
      unfold visI at hx
      rw [decide_eq_true_eq] at hx
      omega
  refine BA_ext ?_
  rw [trimB_two, data_append, data_append, hql]
  have e1 : Lib.trimLeftS (spc.data.toList ++ (c :: l ++ r.data.toList)) wsL = c :: l ++ r.data.toList := by
    unfold Lib.trimLeftS
    show List.dropWhile _ (32 :: (c :: l ++ r.data.toList)) = _
    rw [List.dropWhile_cons, if_pos (by decide), List.cons_append, List.dropWhile_cons, if_neg (by rw [nw c hc]; simp)]
  rw [e1]
  unfold Lib.trimRightS
  obtain ⟨y, ys, hy⟩ : ∃ y ys, r.data.toList.reverse = y :: ys := by
    cases hh : r.data.toList.reverse with
    | nil =>
      have h2 := congrArg List.length hh
      rw [List.length_reverse, ← size_list, List.length_nil] at h2
      omega
    | cons y ys => exact ⟨y, ys, rfl⟩
  have hv : vis y = true := hr y (by
    have : y ∈ r.data.toList.reverse := by rw [hy]; simp
    simpa using this)
  rw [List.reverse_append, hy, List.cons_append, List.dropWhile_cons, if_neg (by rw [nw y hv]; simp), ← List.cons_append, ← hy, ← List.reverse_append, List.reverse_reverse]
theorem noC_cut {u p : ByteArray} (hu : ∀ x ∈ u.data.toList, x ≠ 58) : cutB (u ++ (col ++ p)) 58 = (u, p, true) := cutB_app hu
theorem authP_V {u p : ByteArray} (hu : ∀ x ∈ u.data.toList, x ≠ 58) : authP (authV u p) = (u, p, true) := by
  have h1 : cutB (authV u p) 32 = (bas, encB (u ++ (col ++ p)), true) := cutB_app (by decide)
  have h2 : lowB bas = basicS := by decide +kernel
  unfold authP
  rw [h1]
  simp only
  rw [if_pos ⟨trivial, h2⟩, pdec_enc]
  simp only
  rw [if_pos trivial, noC_cut hu]
  simp
theorem hdP_auth (u p : ByteArray) : hdP (authL u p) = some (authN, authV u p) := by
  have h1 : cutB (authL u p) 58 = (authN, spc ++ authV u p, true) := cutB_app (by decide)
  have h2 : vname8 authN = true := by decide +kernel
  have h3 : trimB (spc ++ authV u p) = authV u p := by
    have hs : 0 < (spc ++ encB (u ++ (col ++ p))).size := by rw [ByteArray.size_append]; show 0 < 1 + _; omega
    have he : 0 < (encB (u ++ (col ++ p))).size := by
      rw [encB_size, ByteArray.size_append, ByteArray.size_append]
      have : col.size = 1 := rfl
      omega
    have e : authV u p = (bas ++ spc) ++ encB (u ++ (col ++ p)) := by unfold authV; rw [ByteArray.append_assoc]
    rw [e]
    exact trimB_lead (encB_vis _) (bas ++ spc) ⟨66, [97, 115, 105, 99, 32], by decide, by decide⟩ he
  rw [hdP_cut, h1]
  simp only
  rw [if_pos ⟨trivial, h2⟩, h3]
theorem lineP_auth {u p : ByteArray} (hu : ∀ x ∈ u.data.toList, x ≠ 58) (h : Cr) : lineP (authL u p) 1 h false = some ((h.1, true, u, p), true) := by
  unfold lineP
  rw [if_neg (by omega), hdP_auth]
  simp only
  rw [if_pos low_authN, if_neg (by simp), authP_V hu]
theorem prt_B {s : ByteArray} (h : ∀ x ∈ s.data.toList, vis x = true ∨ x = 32) : ∀ j, j < s.size → 32 ≤ B s j ∧ B s j ≤ 126 := by
  intro j hj
  rw [size_list] at hj
  have := h (s.data.toList[j]'hj) (List.getElem_mem _)
  unfold B
  rw [List.getD_eq_getElem?_getD, List.getElem?_eq_getElem hj, Option.getD_some]
  rcases this with q | q
  · unfold vis at q; rw [decide_eq_true_eq] at q; omega
  · rw [q]; decide
theorem authL_prt (u p : ByteArray) : ∀ j, j < (authL u p).size → 32 ≤ B (authL u p) j ∧ B (authL u p) j ≤ 126 := prt_B fun x hx => by
  unfold authL authV at hx
  simp only [data_append, List.mem_append] at hx
  have k1 : ∀ x ∈ authN.data.toList, vis x = true ∨ x = 32 := by decide
  have k2 : ∀ x ∈ col.data.toList, vis x = true ∨ x = 32 := by decide
  have k3 : ∀ x ∈ spc.data.toList, vis x = true ∨ x = 32 := by decide
  have k4 : ∀ x ∈ bas.data.toList, vis x = true ∨ x = 32 := by decide
  rcases hx with hx | hx | hx | hx | hx | hx
  · exact k1 x hx
  · exact k2 x hx
  · exact k3 x hx
  · exact k4 x hx
  · exact k3 x hx
  · exact .inl (encB_vis _ x hx)
theorem fin_fmt {t : Tgt} (ht : okT t) (hv : validT t = true) {u p : ByteArray} (hu : ∀ x ∈ u.data.toList, x ≠ 58) (hz : (hdT (t, true, u, p)).size ≤ 512) (r : ByteArray) :
    fin (hdT (t, true, u, p) ++ r) = ((t, true, u, p), ((hdT (t, true, u, p)).size : Int), 1) := by
  have e : hdT (t, true, u, p) ++ r = rqL t ++ (crlf ++ (authL u p ++ (crlf ++ (crlf ++ r)))) := by
    unfold hdT; rw [if_pos rfl]; simp only [ByteArray.append_assoc]
  have zs : (hdT (t, true, u, p)).size = (rqL t).size + (authL u p).size + 6 := by
    unfold hdT; rw [if_pos rfl]; simp only [ByteArray.size_append, crlf_size]; omega
  have h1 : 0 < (authL u p).size := by
    unfold authL; rw [ByteArray.size_append]; show 0 < 19 + _; omega
  have q := st_two ht hv e (authL_prt u p) h1 (lineP_auth hu _)
  rw [zs]
  exact fin_done (by rw [ByteArray.size_append]; omega) (by omega) q
/-! a head of a given length -/
def xln (m : Nat) : ByteArray := ⟨#[88, 58, 32]⟩ ++ txt (List.replicate m 113)
theorem xln_size (m : Nat) : (xln m).size = m + 3 := by
  unfold xln; rw [ByteArray.size_append, txt_sz, List.length_replicate]; show 3 + m = _; omega
theorem xln_prt (m : Nat) : ∀ j, j < (xln m).size → 32 ≤ B (xln m) j ∧ B (xln m) j ≤ 126 := prt_B fun x hx => by
  unfold xln at hx
  rw [data_append, List.mem_append] at hx
  rcases hx with hx | hx
  · have k1 : ∀ x ∈ (⟨#[88, 58, 32]⟩ : ByteArray).data.toList, vis x = true ∨ x = 32 := by decide
    exact k1 x hx
  · have := List.eq_of_mem_replicate (show x ∈ List.replicate m 113 from hx)
    rw [this]; exact .inl (by decide)
theorem lineP_x (m : Nat) (h : Cr) : lineP (xln m) 1 h false = some (h, false) := by
  have e : xln m = ⟨#[88]⟩ ++ (⟨#[58]⟩ ++ (spc ++ txt (List.replicate m 113))) := by
    unfold xln; rw [← ByteArray.append_assoc, ← ByteArray.append_assoc]; rfl
  have h1 : cutB (xln m) 58 = (⟨#[88]⟩, spc ++ txt (List.replicate m 113), true) := by rw [e]; exact cutB_app (by decide)
  have h2 : vname8 ⟨#[88]⟩ = true := by decide +kernel
  have h3 : lowB ⟨#[88]⟩ ≠ authS := by decide +kernel
  unfold lineP
  rw [if_neg (by omega), hdP_cut, h1]
  simp only
  rw [if_pos ⟨trivial, h2⟩]
  simp only
  rw [if_neg h3]
def limS (t : Tgt) (m : Nat) : ByteArray := rqL t ++ (crlf ++ (xln m ++ (crlf ++ crlf)))
theorem limS_size (t : Tgt) (m : Nat) : (limS t m).size = (rqL t).size + m + 9 := by
  unfold limS; simp only [ByteArray.size_append, crlf_size, xln_size]; omega
theorem fin_lim {t : Tgt} (ht : okT t) (hv : validT t = true) (m : Nat) (r : ByteArray) :
    fin (limS t m ++ r) = if (limS t m).size ≤ 512 then ((t, false, ⟨#[]⟩, ⟨#[]⟩), ((limS t m).size : Int), 1) else (zcr, 0, 2) := by
  have e : limS t m ++ r = rqL t ++ (crlf ++ (xln m ++ (crlf ++ (crlf ++ r)))) := by
    unfold limS; simp only [ByteArray.append_assoc]
  have q := st_two ht hv e (xln_prt m) (by rw [xln_size]; omega) (lineP_x m _)
  have z : (limS t m).size = (rqL t).size + (xln m).size + 6 := by rw [limS_size, xln_size]; omega
  rw [← z] at q
  have hle : (limS t m).size ≤ (limS t m ++ r).size := by rw [ByteArray.size_append]; omega
  split
  · rename_i h; exact fin_done hle h q
  · rename_i h; exact fin_long (by omega) hle q rfl
end Go.Proofs.YtpdoddelnahlnaaGreatDoor
