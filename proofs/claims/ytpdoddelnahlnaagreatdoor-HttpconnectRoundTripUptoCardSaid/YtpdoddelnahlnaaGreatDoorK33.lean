/-
  Several texts joined: HcM.
-/
import Derived.Test.YtpdoddelnahlnaaGreatDoorK16
import Derived.Test.YtpdoddelnahlnaaGreatDoorK17
import Derived.Test.YtpdoddelnahlnaaGreatDoorK32
/-
  Plain Lean: what the parser of request heads computes.
-/
set_option linter.unusedSimpArgs false
set_option linter.unusedVariables false
namespace Go.Proofs.YtpdoddelnahlnaaGreatDoor
abbrev Cr := Tgt × Bool × ByteArray × ByteArray
def zcr : Cr := (ztgt, false, ⟨#[]⟩, ⟨#[]⟩)
def okC (h : Cr) : Prop := okT h.1 ∧ h.2.2.1.size ≤ maxLen ∧ h.2.2.2.size ≤ maxLen
theorem okC_zcr : okC zcr := ⟨okT_ztgt, Nat.zero_le _, Nat.zero_le _⟩
def connW : ByteArray := ⟨#[67, 79, 78, 78, 69, 67, 84]⟩
def connS : ByteArray := ⟨#[67, 79, 78, 78, 69, 67, 84, 32]⟩
def v11 : ByteArray := ⟨#[72, 84, 84, 80, 47, 49, 46, 49]⟩
def v10 : ByteArray := ⟨#[72, 84, 84, 80, 47, 49, 46, 48]⟩
def authN : ByteArray := ⟨#[80, 114, 111, 120, 121, 45, 65, 117, 116, 104, 111, 114, 105, 122, 97, 116, 105, 111, 110]⟩
def authS : ByteArray := ⟨#[112, 114, 111, 120, 121, 45, 97, 117, 116, 104, 111, 114, 105, 122, 97, 116, 105, 111, 110]⟩
theorem low_authN : lowB authN = authS := by decide +kernel
/-- the rest behind the first space -/
def tl32 (s : ByteArray) : ByteArray := (cutB s 32).2.1
def okRq (s : ByteArray) : Bool := (cutB s 32).2.2 && decide ((cutB s 32).1 = connW) && (cutB (tl32 s) 32).2.2 && (decide ((cutB (tl32 s) 32).2.1 = v11) || decide ((cutB (tl32 s) 32).2.1 = v10)) && (tgtP (cutB (tl32 s) 32).1).2
def rqP (s : ByteArray) : Option Tgt := if okRq s = true then some (tgtP (cutB (tl32 s) 32).1).1 else none
def hch (x : Int) : Bool := lch (lowI x)
def hdP (s : ByteArray) : Option (ByteArray × ByteArray) :=
  if 0 < idxB s 58 ∧ idxB s 58 < s.size ∧ allB hch s (idxB s 58) = true then some (s.extract 0 (idxB s 58), trimB (s.extract (idxB s 58 + 1) s.size)) else none
def lineP (s : ByteArray) (n : Nat) (h : Cr) (seen : Bool) : Option (Cr × Bool) :=
  if n = 0 then (rqP s).map fun t => ((t, h.2), seen)
  else match hdP s with
    | none => none
    | some (k, v) => if lowB k = authS then (if seen = true then none else some ((h.1, (authP v).2.2, (authP v).1, (authP v).2.1), true)) else some (h, seen)
def vbyte (c : Int) (pos : Nat) (req : Bool) : Bool := if req = true ∧ pos < 8 then decide (c = B connS pos) else decide ((32 ≤ c ∧ c ≤ 126) ∨ c = 9)
inductive St
  | run (n f : Nat) (h : Cr) (seen : Bool)
  | mal
  | done (h : Cr) (m : Nat)
def acr (s : ByteArray) (i : Nat) : Bool := decide (0 < i ∧ B s (i - 1) = 13)
def step (s : ByteArray) (i : Nat) : St → St
  | .run n f h seen =>
    if acr s i ≠ decide (B s i = 10) then .mal
    else if acr s i = true then
      if 0 < n ∧ i - 1 - f = 0 then .done h (i + 1)
      else match lineP (s.extract f (i - 1)) n h seen with
        | none => .mal
        | some (g, b) => .run (n + 1) (i + 1) g b
    else if B s i ≠ 13 ∧ vbyte (B s i) (i - f) (decide (n = 0)) = false then .mal
    else .run n f h seen
  | x => x
def st (s : ByteArray) : Nat → St
  | 0 => .run 0 0 zcr false
  | i + 1 => step s i (st s i)
def fin1 (x : St) (big : Prop) [Decidable big] : Cr × Int × Int := match x with
  | .run _ _ _ _ => if big then (zcr, 0, 2) else (zcr, 0, 0)
  | .mal => (zcr, 0, 2)
  | .done h m => (h, m, 1)
def fin (s : ByteArray) : Cr × Int × Int := fin1 (st s (min s.size 512)) (512 ≤ s.size)
/-! states that stay -/
theorem st_mal {s : ByteArray} {i : Nat} (h : st s i = .mal) : ∀ k, i ≤ k → st s k = .mal := by
  intro k hk
  obtain ⟨d, rfl⟩ : ∃ d, k = i + d := ⟨k - i, by omega⟩
  induction d with
  | zero => exact h
  | succ d ih => show step s (i + d) (st s (i + d)) = _; rw [ih (by omega)]; rfl
theorem st_done {s : ByteArray} {i m : Nat} {g : Cr} (h : st s i = .done g m) : ∀ k, i ≤ k → st s k = .done g m := by
  intro k hk
  obtain ⟨d, rfl⟩ : ∃ d, k = i + d := ⟨k - i, by omega⟩
  induction d with
  | zero => exact h
  | succ d ih => show step s (i + d) (st s (i + d)) = _; rw [ih (by omega)]; rfl
/-! what is known of the states -/
def Inv (s : ByteArray) (i : Nat) : St → Prop
  | .run n f h _ => f ≤ i ∧ (f = 0 ∨ B s (f - 1) = 10) ∧ n ≤ i ∧ (n = 0 → f = 0) ∧ okC h
  | .mal => True
  | .done h m => 1 ≤ m ∧ m ≤ i ∧ okC h
theorem rqP_ok {s : ByteArray} {t : Tgt} (hs : s.size ≤ maxLen) (h : rqP s = some t) : okT t := by
  unfold rqP at h
  split at h
  · injection h with h; rw [← h]
    exact okT_tgtP _ (Nat.le_trans (Nat.le_trans (cutB_size _ _).1 (cutB_size _ _).2) hs)
  · cases h
theorem authP_size (s : ByteArray) : (authP s).1.size ≤ s.size ∧ (authP s).2.1.size ≤ s.size := by
  have h1 := cutB_size s 32
  have h2 := pdec_size (cutB s 32).2.1
  have h3 := cutB_size (pdec (cutB s 32).2.1).1 58
  unfold authP
  split
  · split
    · split
      · exact ⟨by simp only; omega, by simp only; omega⟩
      · exact ⟨Nat.zero_le _, Nat.zero_le _⟩
    · exact ⟨Nat.zero_le _, Nat.zero_le _⟩
  · exact ⟨Nat.zero_le _, Nat.zero_le _⟩
theorem hdP_size {s k v : ByteArray} (h : hdP s = some (k, v)) : k.size ≤ s.size ∧ v.size ≤ s.size := by
  unfold hdP at h
  split at h
  · injection h with h
    injection h with h1 h2
    rw [← h1, ← h2]
    exact ⟨extract_le _ _ _, Nat.le_trans (trimB_size _) (extract_le _ _ _)⟩
  · cases h
theorem lineP_ok {s : ByteArray} {n : Nat} {h g : Cr} {seen b : Bool} (hs : s.size ≤ maxLen) (ho : okC h) (e : lineP s n h seen = some (g, b)) : okC g := by
  unfold lineP at e
  split at e
  · cases hq : rqP s with
    | none => rw [hq] at e; cases e
    | some t =>
      rw [hq] at e
      injection e with e
      injection e with e1 e2
      rw [← e1]
      exact ⟨rqP_ok hs hq, ho.2.1, ho.2.2⟩
  · cases hq : hdP s with
    | none => rw [hq] at e; cases e
    | some kv =>
      obtain ⟨k, v⟩ := kv
      rw [hq] at e
      simp only at e
      have hz := hdP_size hq
      have ha := authP_size v
      split at e
      · split at e
        · cases e
        · injection e with e
          injection e with e1 e2
          rw [← e1]
          exact ⟨ho.1, by show (authP v).1.size ≤ _; omega, by show (authP v).2.1.size ≤ _; omega⟩
      · injection e with e
        injection e with e1 e2
        rw [← e1]; exact ho
theorem acr_iff {s : ByteArray} {i : Nat} : acr s i = true ↔ 0 < i ∧ B s (i - 1) = 13 := by unfold acr; rw [decide_eq_true_eq]
theorem inv_step {s : ByteArray} {i : Nat} (hs : i ≤ maxLen) {x : St} (h : Inv s i x) : Inv s (i + 1) (step s i x) := by
  cases x with
  | mal => trivial
  | done g m => exact ⟨h.1, by have := h.2.1; omega, h.2.2⟩
  | run n f g b =>
    obtain ⟨h1, h2, h3, h4, h5⟩ := h
    unfold step
    simp only
    split
    · trivial
    · rename_i q
      split
      · rename_i q2
        have hc : B s i = 10 := by
          rw [q2] at q
          have : decide (B s i = 10) = true := by cases e : decide (B s i = 10) with
            | true => rfl
            | false => exact absurd e.symm (by rw [e] at q; simp at q)
          exact of_decide_eq_true this
        split
        · exact ⟨by omega, by omega, h5⟩
        · cases hl : lineP (s.extract f (i - 1)) n g b with
          | none => trivial
          | some gb =>
            obtain ⟨g', b'⟩ := gb
            exact ⟨Nat.le_refl _, .inr hc, by omega, fun e => by omega, lineP_ok (by rw [ByteArray.size_extract]; omega) h5 hl⟩
      · split
        · trivial
        · exact ⟨by omega, h2, by omega, h4, h5⟩
theorem inv_st (s : ByteArray) : ∀ i, i ≤ maxLen → Inv s i (st s i)
  | 0, _ => ⟨Nat.le_refl _, .inl rfl, Nat.le_refl _, fun _ => rfl, okC_zcr⟩
  | i + 1, hi => inv_step (by omega) (inv_st s i (by omega))
/-- the line does not end before it starts -/
theorem line_le {s : ByteArray} {i f : Nat} (h1 : f ≤ i) (h2 : f = 0 ∨ B s (f - 1) = 10) (ha : acr s i = true) : f ≤ i - 1 := by
  have := acr_iff.1 ha
  rcases Nat.lt_or_ge f i with h | h
  · omega
  · have e : f = i := by omega
    rcases h2 with h2 | h2
    · omega
    · rw [e] at h2; omega
/-! only what has been read counts -/
theorem ext_congr {s t : ByteArray} {i : Nat} (hs : i ≤ s.size) (ht : i ≤ t.size) (hb : ∀ k, k < i → B s k = B t k) {f e : Nat} (he : e ≤ i) : s.extract f e = t.extract f e := by
  refine BA_B (by rw [ByteArray.size_extract, ByteArray.size_extract]; omega) fun j hj => ?_
  rw [ByteArray.size_extract] at hj
  rw [B_extract _ _ _ _ (by omega), B_extract _ _ _ _ (by omega)]
  exact hb _ (by omega)
theorem st_congr {s t : ByteArray} {i : Nat} (hs : i ≤ s.size) (ht : i ≤ t.size) (hb : ∀ k, k < i → B s k = B t k) : ∀ j, j ≤ i → st s j = st t j
  | 0, _ => rfl
  | j + 1, hj => by
    have ih := st_congr hs ht hb j (by omega)
    show step s j (st s j) = step t j (st t j)
    rw [ih]
    have e1 : B s j = B t j := hb j (by omega)
    have e2 : acr s j = acr t j := by
      unfold acr
      rcases Nat.eq_zero_or_pos j with h | h
      · subst h; rw [decide_eq_false (by omega), decide_eq_false (by omega)]
      · rw [hb (j - 1) (by omega)]
    cases st t j with
    | mal => rfl
    | done g m => rfl
    | run n f g b =>
      unfold step
      simp only
      rw [e1, e2, ext_congr hs ht hb (f := f) (e := j - 1) (by omega)]
def finAt (s : ByteArray) (i : Nat) : Cr × Int × Int := fin1 (st s (min i 512)) (512 ≤ i)
theorem fin_pre (s : ByteArray) {i : Nat} (h : i ≤ s.size) : fin (s.extract 0 i) = finAt s i := by
  have hz : (s.extract 0 i).size = i := by rw [ByteArray.size_extract]; omega
  unfold fin finAt
  rw [hz, st_congr (s := s.extract 0 i) (t := s) (i := i) (by omega) h (fun k hk => by rw [B_extract _ _ _ _ (by omega), Nat.zero_add]) (min i 512) (by omega)]
theorem fin_all (s : ByteArray) : fin s = finAt s s.size := rfl
theorem finAt_zero (s : ByteArray) : finAt s 0 = (zcr, 0, 0) := rfl
theorem fin1_not {x : St} {p : Prop} [Decidable p] (h : (fin1 x p).2.2 ≠ 1) : fin1 x p = (zcr, 0, (fin1 x p).2.2) := by
  cases x with
  | mal => rfl
  | done g m => exact absurd rfl h
  | run n f g b => unfold fin1; simp only; split <;> rfl
theorem finAt_not {s : ByteArray} {i : Nat} (h : (finAt s i).2.2 ≠ 1) : (finAt s i).2.1 = 0 := by
  have := fin1_not h
  unfold finAt; rw [this]
theorem finAt_big {s : ByteArray} {i : Nat} (h : 512 ≤ i) : (finAt s i).2.2 ≠ 0 := by
  unfold finAt fin1
  cases st s (min i 512) with
  | mal => simp
  | done g m => simp
  | run n f g b => simp [h]
theorem finAt_stay {s : ByteArray} {i : Nat} (h : (finAt s i).2.2 ≠ 0) : finAt s (i + 1) = finAt s i := by
  rcases Nat.lt_or_ge i 512 with hi | hi
  · unfold finAt at *
    rw [show min i 512 = i by omega] at *
    rw [show min (i + 1) 512 = i + 1 by omega]
    cases e : st s i with
    | mal => rw [st_mal e (i + 1) (by omega)]; rfl
    | done g m => rw [st_done e (i + 1) (by omega)]; rfl
    | run n f g b =>
      rw [e] at h
      unfold fin1 at h
      simp only at h
      rw [if_neg (by omega)] at h
      exact absurd rfl h
  · unfold finAt
    rw [show min i 512 = 512 by omega, show min (i + 1) 512 = 512 by omega]
    unfold fin1
    cases st s 512 with
    | mal => rfl
    | done g m => rfl
    | run n f g b => simp only; rw [if_pos (by omega), if_pos (by omega)]
theorem step_done {s : ByteArray} {i n f m : Nat} {g h : Cr} {b : Bool} (e : step s i (.run n f g b) = .done h m) : m = i + 1 := by
  unfold step at e
  simp only at e
  split at e
  · cases e
  · split at e
    · split at e
      · injection e with e1 e2; exact e2.symm
      · split at e <;> cases e
    · split at e <;> cases e
theorem finAt_new {s : ByteArray} {i : Nat} (h : (finAt s i).2.2 = 0) (h1 : (finAt s (i + 1)).2.2 = 1) : (finAt s (i + 1)).2.1 = ((i + 1 : Nat) : Int) := by
  have hi : i < 512 := by
    rcases Nat.lt_or_ge i 512 with q | q
    · exact q
    · exact absurd h (finAt_big q)
  unfold finAt at *
  rw [show min i 512 = i by omega] at h
  rw [show min (i + 1) 512 = i + 1 by omega] at *
  cases e : st s i with
  | mal => rw [e] at h; cases h
  | done g m => rw [e] at h; cases h
  | run n f g b =>
    have e2 : st s (i + 1) = step s i (.run n f g b) := by show step s i (st s i) = _; rw [e]
    cases q : step s i (.run n f g b) with
    | mal => rw [e2, q] at h1; cases h1
    | run n f g b => rw [e2, q] at h1; unfold fin1 at h1; simp only at h1; split at h1 <;> cases h1
    | done g m => rw [e2, q]; show (m : Int) = _; rw [step_done q]
/-! runs over a line -/
theorem acr_no {s : ByteArray} {i : Nat} (h : i = 0 ∨ B s (i - 1) ≠ 13) : acr s i = false := by
  unfold acr; rw [decide_eq_false]; omega
theorem st_line {s : ByteArray} {p n : Nat} {h : Cr} {b : Bool} (h0 : st s p = .run n p h b) (hp : p = 0 ∨ B s (p - 1) ≠ 13) : ∀ len, (∀ j, j < len → B s (p + j) ≠ 13 ∧ B s (p + j) ≠ 10 ∧ vbyte (B s (p + j)) j (decide (n = 0)) = true) → st s (p + len) = .run n p h b
  | 0, _ => h0
  | len + 1, hb => by
    have ih := st_line h0 hp len (fun j hj => hb j (by omega))
    show step s (p + len) (st s (p + len)) = _
    rw [ih]
    have hl := hb len (by omega)
    have ha : acr s (p + len) = false := acr_no (by
      rcases Nat.eq_zero_or_pos len with q | q
      · subst q; exact hp
      · right; have := (hb (len - 1) (by omega)).1; rwa [show p + (len - 1) = p + len - 1 by omega] at this)
    unfold step
    simp only
    rw [ha, if_neg (by rw [decide_eq_false hl.2.1]; simp), if_neg (by simp), if_neg (fun q => by rw [show p + len - p = len by omega, hl.2.2] at q; exact absurd q.2 (by simp))]
theorem st_crlf {s : ByteArray} {p n len : Nat} {h : Cr} {b : Bool} (h0 : st s p = .run n p h b) (hp : p = 0 ∨ B s (p - 1) ≠ 13) (hb : ∀ j, j < len → B s (p + j) ≠ 13 ∧ B s (p + j) ≠ 10 ∧ vbyte (B s (p + j)) j (decide (n = 0)) = true)
    (hr : B s (p + len) = 13) (hn : B s (p + len + 1) = 10) : st s (p + len + 2) = if 0 < n ∧ len = 0 then .done h (p + len + 2) else match lineP (s.extract p (p + len)) n h b with
      | none => .mal
      | some (g, c) => .run (n + 1) (p + len + 2) g c := by
  have h1 := st_line h0 hp len hb
  have ha : acr s (p + len) = false := acr_no (by
    rcases Nat.eq_zero_or_pos len with q | q
    · subst q; exact hp
    · right; have := (hb (len - 1) (by omega)).1; rwa [show p + (len - 1) = p + len - 1 by omega] at this)
  have h2 : st s (p + len + 1) = .run n p h b := by
    show step s (p + len) (st s (p + len)) = _
    rw [h1]
    unfold step
    simp only
    rw [ha, if_neg (by rw [decide_eq_false (by omega)]; simp), if_neg (by simp), if_neg (fun q => q.1 hr)]
  have ha2 : acr s (p + len + 1) = true := acr_iff.2 ⟨by omega, by rw [show p + len + 1 - 1 = p + len by omega]; exact hr⟩
  show step s (p + len + 1) (st s (p + len + 1)) = _
  rw [h2]
  unfold step
  simp only
  rw [ha2, if_neg (by rw [decide_eq_true hn]; simp), if_pos rfl]
  rw [show p + len + 1 - 1 - p = len by omega, show p + len + 1 - 1 = p + len by omega]
theorem fin_done {s : ByteArray} {k m : Nat} {h : Cr} (hk : k ≤ s.size) (hk2 : k ≤ 512) (e : st s k = .done h m) : fin s = (h, (m : Int), 1) := by
  unfold fin
  rw [st_done e (min s.size 512) (by omega)]; rfl
theorem fin_long {s : ByteArray} {k m : Nat} {h : Cr} (hk : 512 < k) (hk2 : k ≤ s.size) (e : st s k = .done h m) (hm : m = k) : fin s = (zcr, 0, 2) := by
  obtain ⟨K, hK⟩ : ∃ K : Nat, K = 512 := ⟨_, rfl⟩
  have h3 := inv_st s K (by unfold maxLen; omega)
  have h1 : ∀ g l, st s K = .done g l → l = m := fun g l q => by
    have h1 := st_done q k (by omega)
    rw [e] at h1
    injection h1 with h1 h2
    exact h2.symm
  unfold fin
  rw [show min s.size 512 = K by omega]
  generalize st s K = x at *
  cases x with
  | mal => rfl
  | run n f g b => unfold fin1; simp only; rw [if_pos (by omega)]
  | done g l =>
    have := h3.2.1
    have := h1 g l rfl
    omega
end Go.Proofs.YtpdoddelnahlnaaGreatDoor
