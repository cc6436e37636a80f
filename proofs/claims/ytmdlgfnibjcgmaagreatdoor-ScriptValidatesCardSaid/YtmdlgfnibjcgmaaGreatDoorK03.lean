/-
  Several texts joined: ScA, ScB.
-/
import Derived.Test.YtmdlgfnibjcgmaaGreatDoorK02
set_option linter.unusedVariables false
set_option linter.unusedSimpArgs false
namespace Go.Proofs.YtmdlgfnibjcgmaaGreatDoor
abbrev Fl := Bool × Bool × Bool × Bool × Bool × Bool
def flds (k : Int) : Fl :=
 if k = 1 then (true, false, false, false, false, false)
 else if k = 2 then (true, true, false, false, false, true)
 else if k = 3 ∨ k = 4 ∨ k = 6 then (true, true, false, false, false, false)
 else if k = 5 then (true, false, false, true, true, false)
 else if k = 7 then (true, true, false, false, true, false)
 else if k = 8 then (true, true, true, false, false, false)
 else if k = 9 ∨ k = 11 then (false, false, true, false, false, false)
 else if k = 10 then (true, false, true, false, false, false)
 else (false, false, false, false, false, false)
structure Ev where
 k : Int
 c : Int
 a : Int
 n : Int
 v6 : Bool
 r : Int
 d : ByteArray
 ads : List Adr
def rng (n most : Int) (p : Bool) : Bool := decide (0 <= n /\ n <= if p then most else 0)
def validE (e : Ev) : Bool :=
 decide (1 <= e.k /\ e.k <= 11) && rng e.c 1048575 (flds e.k).1 && rng e.a 64 (flds e.k).2.1 && rng e.r 255 (flds e.k).2.2.2.2.1 && rng e.d.size 2000 (flds e.k).2.2.2.2.2 && rng e.ads.length 16 (flds e.k).2.2.2.1
  && (decide (e.n = 0) || (flds e.k).2.2.1) && (!e.v6 || (flds e.k).2.2.2.1) && e.ads.all validA
def validS (l : List Ev) : Bool := decide (l.length <= 1000) && l.all validE
def okEv (e : Ev) : Prop := (-9223372036854775808 <= e.k /\ e.k <= 9223372036854775807) /\ (-9223372036854775808 <= e.c /\ e.c <= 9223372036854775807) /\ (-9223372036854775808 <= e.a /\ e.a <= 9223372036854775807) /\ (0 <= e.n /\ e.n <= 18446744073709551615) /\ (-9223372036854775808 <= e.r /\ e.r <= 9223372036854775807) /\ ∀ x ∈ e.ads, okA x
def uvb : Nat -> Nat -> ByteArray
 | 0, n => str1 n
 | f + 1, n => if n < 128 then str1 n else str1 (n % 128 + 128 : Nat) ++ uvb f (n / 128)
def uv (n : Nat) : ByteArray := uvb 9 n
def opt (p : Bool) (n : Int) : ByteArray := if p then uv n.toNat else ⟨#[]⟩
def encA (a : Adr) : ByteArray := if a.1 then uv 6 ++ strOfNums a.2 else uv 4 ++ strOfNums (a.2.take 4)
def encAs : List Adr -> ByteArray
 | [] => ⟨#[]⟩
 | a :: l => encA a ++ encAs l
def encE (e : Ev) : ByteArray :=
 uv e.k.toNat ++ opt (flds e.k).1 e.c ++ opt (flds e.k).2.1 e.a ++ opt (flds e.k).2.2.1 e.n ++ opt (flds e.k).2.2.2.1 (if e.v6 then 1 else 0) ++ opt (flds e.k).2.2.2.2.1 e.r
  ++ opt (flds e.k).2.2.2.2.2 e.d.size ++ e.d ++ (if (flds e.k).2.2.2.1 then uv e.ads.length ++ encAs e.ads else ⟨#[]⟩)
def encEs : List Ev -> ByteArray
 | [] => ⟨#[]⟩
 | e :: l => encE e ++ encEs l
def encS (l : List Ev) : ByteArray := uv l.length ++ encEs l
def uvd (s : ByteArray) : Nat -> Nat -> Int -> Option (Option (Int × Nat))
 | 0, _, _ => some none
 | f + 1, i, acc => if s.size <= i then none
  else if (i = 9 /\ 1 < B s i) ∨ (0 < i /\ B s i = 0) then some none
  else if B s i < 128 then some (some (acc + B s i * 128 ^ i, i + 1)) else uvd s f (i + 1) (acc + (B s i - 128) * 128 ^ i)
def rdn (lo hi : Int) (s : ByteArray) : Except Int (Int × ByteArray) := match uvd s 10 0 0 with
 | none => .error 3
 | some none => .error 2
 | some (some (n, k)) => if n < lo ∨ hi < n then .error 2 else .ok (n, s.extract k s.size)
def rdt (n : Nat) (s : ByteArray) : Except Int (ByteArray × ByteArray) := if s.size < n then .error 3 else .ok (s.extract 0 n, s.extract n s.size)
def rdo (p : Bool) (hi : Int) (s : ByteArray) : Except Int (Int × ByteArray) := if p then rdn 0 hi s else .ok (0, s)
def octs (t : ByteArray) : List Int := (List.range 16).map fun j => if j < t.size then B t j else 0
def rda (s : ByteArray) : Except Int (Adr × ByteArray) := do
 let (k, s1) ← rdn 4 6 s
 if k = 5 then .error 2
 else
  let (t, s2) ← rdt (if k = 6 then 16 else 4) s1
  .ok ((decide (k = 6), octs t), s2)
def rdas : Nat -> ByteArray -> Except Int (List Adr × ByteArray)
 | 0, s => .ok ([], s)
 | n + 1, s => do
  let (a, s1) ← rda s
  let (l, s2) ← rdas n s1
  .ok (a :: l, s2)
def rde (s : ByteArray) : Except Int (Ev × ByteArray) := do
 let (k, s) ← rdn 1 11 s
 let (c, s) ← rdo (flds k).1 1048575 s
 let (a, s) ← rdo (flds k).2.1 64 s
 let (n, s) ← rdo (flds k).2.2.1 18446744073709551615 s
 let (v, s) ← rdo (flds k).2.2.2.1 1 s
 let (r, s) ← rdo (flds k).2.2.2.2.1 255 s
 let (z, s) ← rdo (flds k).2.2.2.2.2 2000 s
 let (d, s) ← rdt z.toNat s
 let (m, s) ← rdo (flds k).2.2.2.1 16 s
 let (l, s) ← rdas m.toNat s
 .ok (⟨k, c, a, n, decide (v = 1), r, d, l⟩, s)
def rdes : Nat -> ByteArray -> Except Int (List Ev × ByteArray)
 | 0, s => .ok ([], s)
 | n + 1, s => do
  let (e, s1) ← rde s
  let (l, s2) ← rdes n s1
  .ok (e :: l, s2)
def decS (s : ByteArray) : Except Int (List Ev) := do
 let (n, s1) ← rdn 0 1000 s
 let (l, s2) ← rdes n.toNat s1
 if s2.size = 0 then .ok l else .error 2
theorem uvb_size (f n : Nat) : 1 <= (uvb f n).size /\ (uvb f n).size <= f + 1 := by
 induction f generalizing n with
 | zero => exact ⟨Nat.le_refl _, Nat.le_refl _⟩
 | succ f ih =>
  unfold uvb
  split
  ·exact ⟨Nat.le_refl _, by show 1 <= _; omega⟩
  ·have := ih (n / 128)
   rw [size_app, size_str1]; omega
theorem exl (a b : ByteArray) : (a ++ b).extract 0 a.size = a := BA_ext (by
 rw [data_extract, data_append, List.drop_zero, size_list, List.take_left])
theorem exr (a b : ByteArray) : (a ++ b).extract a.size (a ++ b).size = b := BA_ext (by
 rw [data_extract, data_append, List.take_of_length_le (by rw [size_list, data_append]; exact Nat.le_refl _), size_list, List.drop_left])
theorem B_mid (p q r : ByteArray) {i : Nat} (hp : p.size = i) (hq : 0 < q.size) : B (p ++ (q ++ r)) i = B q 0 := by
 rw [B_append_right _ _ _ (by omega), hp, Nat.sub_self, B_append_left _ _ _ hq]
theorem uvd_uvb : ∀ (f n i : Nat) (p r : ByteArray) (acc : Int), p.size = i -> i + f = 9 -> n < 128 ^ f * 2 -> (0 < i -> 0 < n) -> uvd (p ++ (uvb f n ++ r)) (f + 1) i acc = some (some (acc + n * 128 ^ i, i + (uvb f n).size))
 | 0, n, i, p, r, acc, hp, hf, hn, h0 => by
  have hi : i = 9 := by omega
  have hz := uvb_size 0 n
  have hb : B (p ++ (uvb 0 n ++ r)) i = n := by
   rw [B_mid _ _ _ hp (by omega)]; exact B_str1 (by omega) (by omega)
  have e1 : (uvb 0 n).size = 1 := rfl
  unfold uvd
  rw [hb, if_neg (by rw [size_app, size_app]; omega), if_neg (by omega), if_pos (by omega), e1]
 | f + 1, n, i, p, r, acc, hp, hf, hn, h0 => by
  have hz := uvb_size (f + 1) n
  unfold uvd
  by_cases hl : n < 128
  ·have e0 : uvb (f + 1) n = str1 n := by unfold uvb; rw [if_pos hl]
   have hb : B (p ++ (uvb (f + 1) n ++ r)) i = n := by
    rw [B_mid _ _ _ hp (by omega), e0]; exact B_str1 (by omega) (by omega)
   rw [hb, if_neg (by rw [size_app, size_app]; omega), if_neg (by omega), if_pos (by omega), e0]
   rfl
  ·have e0 : uvb (f + 1) n = str1 (n % 128 + 128 : Nat) ++ uvb f (n / 128) := by
    conv => lhs; unfold uvb
    rw [if_neg hl]
   have hb : B (p ++ (uvb (f + 1) n ++ r)) i = (n % 128 + 128 : Nat) := by
    rw [B_mid _ _ _ hp (by omega), e0, B_append_left _ _ _ (by rw [size_str1]; omega)]; exact B_str1 (by omega) (by omega)
   rw [hb, if_neg (by rw [size_app, size_app]; omega), if_neg (by omega), if_neg (by omega)]
   have e2 : p ++ (uvb (f + 1) n ++ r) = (p ++ str1 (n % 128 + 128 : Nat)) ++ (uvb f (n / 128) ++ r) := by rw [e0]; simp only [ByteArray.append_assoc]
   have ih := uvd_uvb f (n / 128) (i + 1) (p ++ str1 (n % 128 + 128 : Nat)) r (acc + (((n % 128 + 128 : Nat) : Int) - 128) * 128 ^ i) (by rw [size_app, size_str1, hp]) (by omega) (by rw [Nat.pow_succ] at hn; omega) (by omega)
   rw [e2, ih, e0, size_app, size_str1]
   have e3 : acc + (((n % 128 + 128 : Nat) : Int) - 128) * 128 ^ i + ((n / 128 : Nat) : Int) * 128 ^ (i + 1) = acc + n * 128 ^ i := by
    have e4 : (n : Int) = ((n % 128 : Nat) : Int) + 128 * ((n / 128 : Nat) : Int) := by omega
    have e5 : ((n % 128 + 128 : Nat) : Int) - 128 = ((n % 128 : Nat) : Int) := by omega
    rw [e5, e4, Int.pow_succ]
    generalize ((n / 128 : Nat) : Int) = q
    generalize ((n % 128 : Nat) : Int) = m
    generalize (128 : Int) ^ i = P
    grind
   rw [e3, Nat.add_assoc]
theorem rdn_uv (n : Nat) (r : ByteArray) (lo hi : Int) (h : n < 18446744073709551616) (h1 : lo <= n /\ (n : Int) <= hi) : rdn lo hi (uv n ++ r) = .ok (n, r) := by
 have k := uvd_uvb 9 n 0 ⟨#[]⟩ r 0 rfl rfl (by rw [show 128 ^ 9 * 2 = 18446744073709551616 from by decide]; exact h) (by omega)
 have e : (⟨#[]⟩ : ByteArray) ++ (uvb 9 n ++ r) = uv n ++ r := ByteArray.empty_append
 rw [e] at k
 unfold rdn
 rw [k]
 simp only [Nat.zero_add]
 have e2 : (0 : Int) + n * 128 ^ 0 = n := by simp
 rw [e2, if_neg (by omega)]
 have e3 : (uv n ++ r).extract (uvb 9 n).size (uv n ++ r).size = r := exr (uv n) r
 rw [e3]
theorem ok_bind {α β : Type} (a : α) (f : α -> Except Int β) : ((Except.ok a : Except Int α) >>= f) = f a := rfl
theorem rdo_opt (p : Bool) (n : Int) (r : ByteArray) (hi : Int) (hh : hi <= 18446744073709551615) (h : rng n hi p = true) : rdo p hi (opt p n ++ r) = .ok (n, r) := by
 unfold rng at h
 simp only [decide_eq_true_eq] at h
 unfold rdo opt
 cases p with
 | true =>
  simp only [if_true] at h ⊢
  have := rdn_uv n.toNat r 0 hi (by omega) (by omega)
  rw [this, Int.toNat_of_nonneg h.1]
 | false =>
  simp only [Bool.false_eq_true, if_false] at h ⊢
  have : n = 0 := by omega
  rw [this]
  congr 2
theorem rdt_app (t r : ByteArray) : rdt t.size (t ++ r) = .ok (t, r) := by
 unfold rdt
 rw [if_neg (by rw [size_app]; omega), exl, exr]
theorem B_nums (xs : List Int) (hx : ∀ x ∈ xs, 0 <= x /\ x < 256) (j : Nat) (hj : j < xs.length) : B (strOfNums xs) j = xs.getD j 0 := by
 have hm := hx (xs.getD j 0) (by rw [List.getD_eq_getElem?_getD, List.getElem?_eq_getElem hj]; exact List.getElem_mem hj)
 unfold B
 rw [strOfNums_data, List.getD_eq_getElem?_getD, List.getElem?_map, List.getElem?_eq_getElem hj]
 rw [List.getD_eq_getElem?_getD, List.getElem?_eq_getElem hj] at hm ⊢
 simp only [Option.map_some, Option.getD_some] at hm ⊢
 rw [UInt8.toNat_ofNat_of_lt' (by show _ < 256; omega)]; omega
theorem size_nums (xs : List Int) : (strOfNums xs).size = xs.length := strOfNums_size xs
theorem octs_nums (l : List Int) (n : Nat) (hl : l.length = 16) (hx : ∀ x ∈ l, 0 <= x /\ x < 256) (hz : ∀ x ∈ l.drop n, x = 0) : octs (strOfNums (l.take n)) = l := by
 unfold octs
 refine List.ext_getElem (by simp [hl]) fun j h1 h2 => ?_
 simp only [List.length_map, List.length_range] at h1
 rw [List.getElem_map, List.getElem_range]
 split
 ·rename_i q
  rw [size_nums] at q
  rw [B_nums _ (fun x h => hx x (List.mem_of_mem_take h)) j q, List.getD_eq_getElem?_getD, List.getElem?_eq_getElem q]
  simp
 ·rename_i q
  rw [size_nums, List.length_take] at q
  refine (hz _ ?_).symm
  rw [List.mem_iff_getElem]
  exact ⟨j - n, by rw [List.length_drop]; omega, by rw [List.getElem_drop]; congr 1; omega⟩
theorem rda_enc (a : Adr) (ha : okA a) (hv : validA a = true) (r : ByteArray) : rda (encA a ++ r) = .ok (a, r) := by
 obtain ⟨v6, l⟩ := a
 unfold rda encA
 cases v6 with
 | true =>
  simp only [if_true]
  rw [ByteArray.append_assoc, rdn_uv 6 _ 4 6 (by decide) (by decide), ok_bind]
  have h16 : (strOfNums l).size = 16 := by rw [size_nums]; exact ha.1
  have := rdt_app (strOfNums l) r
  rw [h16] at this
  simp only
  rw [if_neg (by decide), if_pos (by decide), this, ok_bind]
  have e := octs_nums l 16 ha.1 ha.2 (fun x h => by rw [List.drop_eq_nil_of_le (by rw [ha.1]; exact Nat.le_refl _)] at h; cases h)
  rw [List.take_of_length_le (by rw [ha.1]; exact Nat.le_refl _)] at e
  simp only [e]
  rfl
 | false =>
  simp only [Bool.false_eq_true, if_false]
  rw [ByteArray.append_assoc, rdn_uv 4 _ 4 6 (by decide) (by decide), ok_bind]
  have h4 : (strOfNums (l.take 4)).size = 4 := by rw [size_nums, List.length_take]; have := ha.1; simp only at this; omega
  have := rdt_app (strOfNums (l.take 4)) r
  rw [h4] at this
  simp only
  rw [if_neg (by decide), if_neg (by decide), this, ok_bind]
  unfold validA at hv
  simp only [Bool.false_or, List.all_eq_true, decide_eq_true_eq] at hv
  have e := octs_nums l 4 ha.1 ha.2 hv
  simp only [e]
  rfl
theorem rdas_enc : ∀ (l : List Adr) (r : ByteArray), (∀ a ∈ l, okA a /\ validA a = true) -> rdas l.length (encAs l ++ r) = .ok (l, r)
 | [], r, _ => by
  show Except.ok ([], _) = _
  congr 2
 | a :: l, r, h => by
  have ha := h a (List.mem_cons_self ..)
  show rdas (l.length + 1) (encA a ++ encAs l ++ r) = _
  unfold rdas
  rw [ByteArray.append_assoc, rda_enc a ha.1 ha.2, ok_bind]
  simp only
  rw [rdas_enc l r (fun b hb => h b (List.mem_cons_of_mem _ hb)), ok_bind]
theorem rde_enc (e : Ev) (he : okEv e) (hv : validE e = true) (r : ByteArray) : rde (encE e ++ r) = .ok (e, r) := by
 obtain ⟨k, c, a, n, v6, rs, d, ads⟩ := e
 unfold validE at hv
 simp only [Bool.and_eq_true, decide_eq_true_eq] at hv
 obtain ⟨⟨⟨⟨⟨⟨⟨⟨hk, hc⟩, ha⟩, hr⟩, hd⟩, hl⟩, hn⟩, h6⟩, hads⟩ := hv
 obtain ⟨_, _, _, hnb, _, hok⟩ := he
 simp only at hnb hok
 unfold encE rde
 simp only [ByteArray.append_assoc]
 have e1 := rdn_uv k.toNat (opt (flds k).1 c ++ (opt (flds k).2.1 a ++ (opt (flds k).2.2.1 n ++ (opt (flds k).2.2.2.1 (if v6 = true then 1 else 0) ++ (opt (flds k).2.2.2.2.1 rs ++ (opt (flds k).2.2.2.2.2 d.size ++ (d ++ ((if (flds k).2.2.2.1 = true then uv ads.length ++ encAs ads else ⟨#[]⟩) ++ r)))))))) 1 11 (by omega) (by omega)
 rw [Int.toNat_of_nonneg (by omega)] at e1
 rw [e1, ok_bind]
 simp only
 rw [rdo_opt _ _ _ _ (by decide) hc, ok_bind]
 simp only
 rw [rdo_opt _ _ _ _ (by decide) ha, ok_bind]
 simp only
 have hn' : rng n 18446744073709551615 (flds k).2.2.1 = true := by
  unfold rng
  simp only [Bool.or_eq_true, decide_eq_true_eq] at hn ⊢
  cases hq : (flds k).2.2.1 with
  | true => simp; omega
  | false => rw [hq] at hn; simp at hn; simp; omega
 rw [rdo_opt _ _ _ _ (by decide) hn', ok_bind]
 simp only
 have h6' : rng (if v6 = true then 1 else 0) 1 (flds k).2.2.2.1 = true := by
  unfold rng
  simp only [Bool.or_eq_true, decide_eq_true_eq, Bool.not_eq_true'] at h6 ⊢
  cases hq : (flds k).2.2.2.1 with
  | true => cases v6 <;> simp
  | false => rw [hq] at h6; simp at h6; rw [h6]; simp
 rw [rdo_opt _ _ _ _ (by decide) h6', ok_bind]
 simp only
 rw [rdo_opt _ _ _ _ (by decide) hr, ok_bind]
 simp only
 rw [rdo_opt _ _ _ _ (by decide) hd, ok_bind]
 simp only
 rw [Int.toNat_natCast, rdt_app, ok_bind]
 simp only
 have e8 : (if (flds k).2.2.2.1 = true then uv ads.length ++ encAs ads else ⟨#[]⟩) ++ r = opt (flds k).2.2.2.1 ads.length ++ (encAs ads ++ r) := by
  unfold opt
  cases hq : (flds k).2.2.2.1 with
  | true => simp only [if_true, Int.toNat_natCast, ByteArray.append_assoc]
  | false =>
   unfold rng at hl
   rw [hq] at hl
   simp at hl
   have : ads = [] := List.eq_nil_of_length_eq_zero (by simpa using hl)
   subst this
   simp only [Bool.false_eq_true, if_false]
   have e9 : encAs [] ++ r = r := ByteArray.empty_append
   rw [e9]
 rw [e8, rdo_opt _ _ _ _ (by decide) hl, ok_bind]
 simp only
 rw [Int.toNat_natCast, rdas_enc ads r (fun x hx => ⟨hok x hx, List.all_eq_true.1 hads x hx⟩), ok_bind]
 simp only
 congr 2
 cases v6 <;> rfl
theorem rdes_enc : ∀ (l : List Ev) (r : ByteArray), (∀ e ∈ l, okEv e /\ validE e = true) -> rdes l.length (encEs l ++ r) = .ok (l, r)
 | [], r, _ => by
  show Except.ok ([], _) = _
  congr 2
 | e :: l, r, h => by
  have ha := h e (List.mem_cons_self ..)
  show rdes (l.length + 1) (encE e ++ encEs l ++ r) = _
  unfold rdes
  rw [ByteArray.append_assoc, rde_enc e ha.1 ha.2, ok_bind]
  simp only
  rw [rdes_enc l r (fun b hb => h b (List.mem_cons_of_mem _ hb)), ok_bind]
theorem dec_enc (l : List Ev) (ho : ∀ e ∈ l, okEv e) (hv : validS l = true) : decS (encS l) = .ok l := by
 unfold validS at hv
 simp only [Bool.and_eq_true, decide_eq_true_eq, List.all_eq_true] at hv
 unfold decS encS
 rw [rdn_uv l.length _ 0 1000 (by omega) (by omega), ok_bind]
 simp only
 have e : encEs l = encEs l ++ ⟨#[]⟩ := ByteArray.append_empty.symm
 rw [Int.toNat_natCast, e, rdes_enc l ⟨#[]⟩ (fun e he => ⟨ho e he, hv.2 e he⟩), ok_bind]
 rfl
end Go.Proofs.YtmdlgfnibjcgmaaGreatDoor
