/-
  Several texts joined: ScR.
-/
import Derived.Test.YtmdlgfnibjcgmaaGreatDoorK03
set_option linter.unusedVariables false
set_option linter.unusedSimpArgs false
namespace Go.Proofs.YtmdlgfnibjcgmaaGreatDoor
abbrev St := Except Int ByteArray
def rn (lo hi : Int) : St -> Int × St
 | .error c => (0, .error c)
 | .ok s => match rdn lo hi s with
  | .ok (n, s') => (n, .ok s')
  | .error c => (0, .error c)
def ro (p : Bool) (hi : Int) (x : St) : Int × St := if p then rn 0 hi x else (0, x)
def rt (n : Nat) : St -> ByteArray × St
 | .error c => (⟨#[]⟩, .error c)
 | .ok s => match rdt n s with
  | .ok (t, s') => (t, .ok s')
  | .error c => (⟨#[]⟩, .error c)
def fl (c : Int) : St -> St
 | .error e => .error e
 | .ok _ => .error c
def ra (x : St) : Adr × St :=
 match (rn 0 6 x).2 with
 | .error c => (zadr, .error c)
 | .ok s => if (rn 0 6 x).1 = 4 then ((false, octs (rt 4 (.ok s)).1), (rt 4 (.ok s)).2)
  else if (rn 0 6 x).1 = 6 then ((true, octs (rt 16 (.ok s)).1), (rt 16 (.ok s)).2)
  else (zadr, .error 2)
def itl {α : Type} (f : St -> α × St) (x : St) : Nat -> List α × St
 | 0 => ([], x)
 | j + 1 => ((itl f x j).1 ++ [(f (itl f x j).2).1], (f (itl f x j).2).2)
def re0 (x : St) : St := if 1 <= (rn 0 11 x).1 /\ (rn 0 11 x).1 <= 11 then (rn 0 11 x).2 else fl 2 (rn 0 11 x).2
def ref (g : St -> Adr × St) (k : Int) (x : St) : Ev × St :=
 let p1 := ro (flds k).1 1048575 x
 let p2 := ro (flds k).2.1 64 p1.2
 let p3 := ro (flds k).2.2.1 18446744073709551615 p2.2
 let p4 := ro (flds k).2.2.2.1 1 p3.2
 let p5 := ro (flds k).2.2.2.2.1 255 p4.2
 let p6 := ro (flds k).2.2.2.2.2 2000 p5.2
 let p7 := rt p6.1.toNat p6.2
 let p8 := ro (flds k).2.2.2.1 16 p7.2
 let p9 := itl g p8.2 p8.1.toNat
 (⟨k, p1.1, p2.1, p3.1, decide (p4.1 = 1), p5.1, p7.1, p9.1⟩, p9.2)
def re (x : St) : Ev × St := ref ra (rn 0 11 x).1 (re0 x)
def rra0 (x : St) : St := match (rn 4 6 x).2 with
 | .error c => .error c
 | .ok s => if (rn 4 6 x).1 = 5 then .error 2 else .ok s
def rra (x : St) : Adr × St :=
 match (rt (if (rn 4 6 x).1 = 6 then 16 else 4) (rra0 x)).2 with
 | .error c => (zadr, .error c)
 | .ok s => ((decide ((rn 4 6 x).1 = 6), octs (rt (if (rn 4 6 x).1 = 6 then 16 else 4) (rra0 x)).1), .ok s)
def rre (x : St) : Ev × St := ref rra (rn 1 11 x).1 (rn 1 11 x).2
def Like {α : Type} (p : α × St) (r : Except Int (α × ByteArray)) : Prop :=
 match r with
 | .ok (a, s) => p = (a, .ok s)
 | .error c => p.2 = .error c
theorem rn_like (lo hi : Int) (s : ByteArray) : Like (rn lo hi (.ok s)) (rdn lo hi s) := by
 unfold rn Like
 simp only
 cases rdn lo hi s with
 | error c => rfl
 | ok q => obtain ⟨n, s'⟩ := q; rfl
theorem ro_like (p : Bool) (hi : Int) (s : ByteArray) : Like (ro p hi (.ok s)) (rdo p hi s) := by
 unfold ro rdo
 cases p with
 | true => exact rn_like 0 hi s
 | false => rfl
theorem rt_like (n : Nat) (s : ByteArray) : Like (rt n (.ok s)) (rdt n s) := by
 unfold rt Like
 simp only
 cases rdt n s with
 | error c => rfl
 | ok q => obtain ⟨n, s'⟩ := q; rfl
theorem uvd_nn : ∀ (f i : Nat) (s : ByteArray) (acc : Int) (n : Int) (k : Nat), 0 <= acc -> uvd s f i acc = some (some (n, k)) -> 0 <= n
 | 0, _, _, _, _, _, _, h => by unfold uvd at h; cases h
 | f + 1, i, s, acc, n, k, ha, h => by
  have hb := B_bd s i
  have hp : (0 : Int) <= 128 ^ i := by have : (0 : Int) < 128 ^ i := Int.pow_pos (by decide); omega
  unfold uvd at h
  split at h
  ·cases h
  split at h
  ·cases h
  split at h
  ·cases h
   have : 0 <= B s i * 128 ^ i := Int.mul_nonneg hb.1 hp
   omega
  ·have : 0 <= (B s i - 128) * 128 ^ i := Int.mul_nonneg (by omega) hp
   exact uvd_nn f (i + 1) s _ n k (by omega) h
theorem rdn_bd {lo hi : Int} {s : ByteArray} {n : Int} {s' : ByteArray} (h : rdn lo hi s = .ok (n, s')) : 0 <= n /\ lo <= n /\ n <= hi /\ s'.size <= s.size := by
 unfold rdn at h
 cases hu : uvd s 10 0 0 with
 | none => rw [hu] at h; cases h
 | some o =>
  rw [hu] at h
  cases o with
  | none => cases h
  | some q =>
   obtain ⟨m, k⟩ := q
   simp only at h
   split at h
   ·cases h
   ·cases h
    exact ⟨uvd_nn _ _ _ _ _ _ (by decide) hu, by omega, by omega, extract_le _ _ _⟩
theorem rdn_lo (lo hi : Int) (s : ByteArray) (hl : 0 <= lo) : rdn lo hi s = match rdn 0 hi s with
  | .error c => .error c
  | .ok (n, s') => if n < lo then .error 2 else .ok (n, s') := by
 unfold rdn
 cases hu : uvd s 10 0 0 with
 | none => rfl
 | some o =>
  cases o with
  | none => rfl
  | some q =>
   obtain ⟨m, k⟩ := q
   simp only
   have := uvd_nn _ _ _ _ _ _ (by decide) hu
   by_cases h1 : hi < m
   ·rw [if_pos (.inr h1), if_pos (.inr h1)]
   ·rw [if_neg (show ¬ (m < 0 ∨ hi < m) by omega)]
    simp only
    by_cases h2 : m < lo
    ·rw [if_pos (.inl h2), if_pos h2]
    ·rw [if_neg (by omega), if_neg h2]
theorem ra_like (s : ByteArray) : Like (ra (.ok s)) (rda s) := by
 have hn : rn 0 6 (.ok s) = (match rdn 0 6 s with | .ok (n, s') => (n, .ok s') | .error c => (0, .error c)) := rfl
 unfold ra rda
 rw [rdn_lo 4 6 s (by decide)]
 rcases h : rdn 0 6 s with c | ⟨n, s1⟩
 ·rw [h] at hn
  simp only at hn
  rw [hn]; rfl
 ·rw [h] at hn
  simp only at hn
  rw [hn]
  have hb := rdn_bd h
  simp only
  by_cases h4 : n = 4
  ·subst h4
   rw [if_pos rfl, if_neg (by decide), ok_bind]
   simp only
   rw [if_neg (by decide), if_neg (by decide)]
   have := rt_like 4 s1
   cases hr : rdt 4 s1 with
   | error c => rw [hr] at this; unfold Like at this ⊢; exact this
   | ok q => obtain ⟨t, s2⟩ := q; rw [hr] at this; unfold Like at this; rw [this]; rfl
  ·rw [if_neg h4]
   by_cases h6 : n = 6
   ·subst h6
    rw [if_pos rfl, if_neg (by decide), ok_bind]
    simp only
    rw [if_neg (by decide), if_pos trivial]
    have := rt_like 16 s1
    cases hr : rdt 16 s1 with
    | error c => rw [hr] at this; unfold Like at this ⊢; exact this
    | ok q => obtain ⟨t, s2⟩ := q; rw [hr] at this; unfold Like at this; rw [this]; rfl
   ·rw [if_neg h6]
    by_cases h5 : n < 4
    ·rw [if_pos h5]; rfl
    ·obtain rfl : n = 5 := by omega
     rw [if_neg (by decide), ok_bind]
     rfl
theorem rra_like (s : ByteArray) : Like (rra (.ok s)) (rda s) := by
 have hn : rn 4 6 (.ok s) = (match rdn 4 6 s with | .ok (n, s') => (n, .ok s') | .error c => (0, .error c)) := rfl
 unfold rra rda rra0
 rcases h : rdn 4 6 s with c | ⟨n, s1⟩
 ·rw [h] at hn
  simp only at hn
  rw [hn]; rfl
 ·rw [h] at hn
  simp only at hn
  rw [hn, ok_bind]
  simp only
  by_cases h5 : n = 5
  ·rw [if_pos h5, if_pos h5]; rfl
  ·rw [if_neg h5, if_neg h5]
   have := rt_like (if n = 6 then 16 else 4) s1
   cases hr : rdt (if n = 6 then 16 else 4) s1 with
   | error c => rw [hr] at this; unfold Like at this ⊢; rw [this]; rfl
   | ok q => obtain ⟨t, s2⟩ := q; rw [hr] at this; unfold Like at this; rw [this]; rfl
theorem rdas_snoc : ∀ (n : Nat) (s : ByteArray), rdas (n + 1) s = (do let (l, s1) ← rdas n s; let (a, s2) ← rda s1; .ok (l ++ [a], s2))
 | 0, s => by
  show (do let (a, s1) ← rda s; let (l, s2) ← (Except.ok ([], s1)); .ok (a :: l, s2)) = (do let (a, s2) ← rda s; .ok ([] ++ [a], s2))
  cases rda s with
  | error c => rfl
  | ok q => rfl
 | n + 1, s => by
  show (do let (a, s1) ← rda s; let (l, s2) ← rdas (n + 1) s1; .ok (a :: l, s2)) = (do let (l, s1) ← (do let (a, s1) ← rda s; let (l, s2) ← rdas n s1; .ok (a :: l, s2)); let (a, s2) ← rda s1; .ok (l ++ [a], s2))
  cases rda s with
  | error c => rfl
  | ok q =>
   obtain ⟨a, s1⟩ := q
   simp only [ok_bind]
   rw [rdas_snoc n s1]
   cases rdas n s1 with
   | error c => rfl
   | ok q2 =>
    obtain ⟨l, s2⟩ := q2
    simp only [ok_bind]
    cases rda s2 with
    | error c => rfl
    | ok q3 => rfl
theorem rdes_snoc : ∀ (n : Nat) (s : ByteArray), rdes (n + 1) s = (do let (l, s1) ← rdes n s; let (a, s2) ← rde s1; .ok (l ++ [a], s2))
 | 0, s => by
  show (do let (a, s1) ← rde s; let (l, s2) ← (Except.ok ([], s1)); .ok (a :: l, s2)) = (do let (a, s2) ← rde s; .ok ([] ++ [a], s2))
  cases rde s with
  | error c => rfl
  | ok q => rfl
 | n + 1, s => by
  show (do let (a, s1) ← rde s; let (l, s2) ← rdes (n + 1) s1; .ok (a :: l, s2)) = (do let (l, s1) ← (do let (a, s1) ← rde s; let (l, s2) ← rdes n s1; .ok (a :: l, s2)); let (a, s2) ← rde s1; .ok (l ++ [a], s2))
  cases rde s with
  | error c => rfl
  | ok q =>
   obtain ⟨a, s1⟩ := q
   simp only [ok_bind]
   rw [rdes_snoc n s1]
   cases rdes n s1 with
   | error c => rfl
   | ok q2 =>
    obtain ⟨l, s2⟩ := q2
    simp only [ok_bind]
    cases rde s2 with
    | error c => rfl
    | ok q3 => rfl
def Stays {α : Type} (g : St -> α × St) : Prop := ∀ c, (g (.error c)).2 = .error c
theorem ra_stays : Stays ra := fun _ => rfl
theorem rra_stays : Stays rra := fun _ => rfl
theorem itl_stays {α : Type} {g : St -> α × St} (hg : Stays g) (c : Int) : ∀ n, (itl g (.error c) n).2 = .error c
 | 0 => rfl
 | n + 1 => by show (g (itl g (.error c) n).2).2 = _; rw [itl_stays hg c n]; exact hg c
theorem itl_more {α : Type} {g : St -> α × St} (hg : Stays g) (x : St) (c : Int) (j : Nat) (h : (itl g x j).2 = .error c) : ∀ d, (itl g x (j + d)).2 = .error c
 | 0 => h
 | d + 1 => by show (g (itl g x (j + d)).2).2 = _; rw [itl_more hg x c j h d]; exact hg c
theorem itl_len {α : Type} (g : St -> α × St) (x : St) : ∀ n, (itl g x n).1.length = n
 | 0 => rfl
 | n + 1 => by show ((itl g x n).1 ++ [_]).length = _; rw [List.length_append, itl_len g x n]; rfl
theorem itl_ads {g : St -> Adr × St} (hg : ∀ s, Like (g (.ok s)) (rda s)) (hs : Stays g) (s : ByteArray) : ∀ n, Like (itl g (.ok s) n) (rdas n s)
 | 0 => rfl
 | n + 1 => by
  have ih := itl_ads hg hs s n
  rw [rdas_snoc]
  show Like ((itl g (.ok s) n).1 ++ [(g (itl g (.ok s) n).2).1], (g (itl g (.ok s) n).2).2) _
  cases hr : rdas n s with
  | error c =>
   rw [hr] at ih
   unfold Like at ih
   rw [show (itl g (.ok s) n).2 = .error c from ih]
   exact hs c
  | ok q =>
   obtain ⟨l, s1⟩ := q
   rw [hr] at ih
   unfold Like at ih
   rw [show itl g (.ok s) n = (l, .ok s1) from ih, ok_bind]
   simp only
   have h1 := hg s1
   cases hq : rda s1 with
   | error c => rw [hq] at h1; exact h1
   | ok q2 => obtain ⟨a, s2⟩ := q2; rw [hq] at h1; unfold Like at h1; rw [show g (.ok s1) = (a, .ok s2) from h1]; rfl
theorem itl_evs {g : St -> Ev × St} (hg : ∀ s, Like (g (.ok s)) (rde s)) (hs : Stays g) (s : ByteArray) : ∀ n, Like (itl g (.ok s) n) (rdes n s)
 | 0 => rfl
 | n + 1 => by
  have ih := itl_evs hg hs s n
  rw [rdes_snoc]
  show Like ((itl g (.ok s) n).1 ++ [(g (itl g (.ok s) n).2).1], (g (itl g (.ok s) n).2).2) _
  cases hr : rdes n s with
  | error c =>
   rw [hr] at ih
   unfold Like at ih
   rw [show (itl g (.ok s) n).2 = .error c from ih]
   exact hs c
  | ok q =>
   obtain ⟨l, s1⟩ := q
   rw [hr] at ih
   unfold Like at ih
   rw [show itl g (.ok s) n = (l, .ok s1) from ih, ok_bind]
   simp only
   have h1 := hg s1
   cases hq : rde s1 with
   | error c => rw [hq] at h1; exact h1
   | ok q2 => obtain ⟨a, s2⟩ := q2; rw [hq] at h1; unfold Like at h1; rw [show g (.ok s1) = (a, .ok s2) from h1]; rfl
theorem ro_err (p : Bool) (hi c : Int) : ro p hi (.error c) = (0, .error c) := by unfold ro; cases p <;> rfl
theorem ref_err {g : St -> Adr × St} (hs : Stays g) (k c : Int) : (ref g k (.error c)).2 = .error c := by
 unfold ref
 simp only [ro_err, rt]
 exact itl_stays hs c _
def rdf (k : Int) (s : ByteArray) : Except Int (Ev × ByteArray) := do
 let (c, s) ← rdo (flds k).1 1048575 s
 let (a, s) ← rdo (flds k).2.1 64 s
 let (n, s) ← rdo (flds k).2.2.1 18446744073709551615 s
 let (v, s) ← rdo (flds k).2.2.2.1 1 s
 let (r, s) ← rdo (flds k).2.2.2.2.1 255 s
 let (z, s) ← rdo (flds k).2.2.2.2.2 2000 s
 let (d, s) ← rdt z.toNat s
 let (m, s) ← rdo (flds k).2.2.2.1 16 s
 let (l, s) ← rdas m.toNat s
 .ok (⟨k, c, a, n, decide (v = 1), r, d, l⟩, s)
theorem rde_rdf (s : ByteArray) : rde s = (do let (k, s1) ← rdn 1 11 s; rdf k s1) := rfl
theorem stp {α : Type} {r : Except Int (α × ByteArray)} {p : α × St} (q : α -> St -> Ev × St) (K : α -> ByteArray -> Except Int (Ev × ByteArray)) (h : Like p r) (h1 : ∀ a c, (q a (.error c)).2 = .error c) (h2 : ∀ a s, Like (q a (.ok s)) (K a s)) : Like (q p.1 p.2) (r >>= fun x => K x.1 x.2) := by
 cases r with
 | error c => unfold Like at h; rw [h]; exact h1 _ c
 | ok x => obtain ⟨a, s⟩ := x; unfold Like at h; rw [h]; exact h2 a s
section
variable (g : St -> Adr × St) (k c a n v r z : Int) (d : ByteArray)
def f9 (m : Int) (x : St) : Ev × St := (⟨k, c, a, n, decide (v = 1), r, d, (itl g x m.toNat).1⟩, (itl g x m.toNat).2)
def f8 (x : St) : Ev × St := f9 g k c a n v r d (ro (flds k).2.2.2.1 16 x).1 (ro (flds k).2.2.2.1 16 x).2
def f7 (z : Int) (x : St) : Ev × St := f8 g k c a n v r (rt z.toNat x).1 (rt z.toNat x).2
def f6 (r : Int) (x : St) : Ev × St := f7 g k c a n v r (ro (flds k).2.2.2.2.2 2000 x).1 (ro (flds k).2.2.2.2.2 2000 x).2
def f5 (v : Int) (x : St) : Ev × St := f6 g k c a n v (ro (flds k).2.2.2.2.1 255 x).1 (ro (flds k).2.2.2.2.1 255 x).2
def f4 (n : Int) (x : St) : Ev × St := f5 g k c a n (ro (flds k).2.2.2.1 1 x).1 (ro (flds k).2.2.2.1 1 x).2
def f3 (a : Int) (x : St) : Ev × St := f4 g k c a (ro (flds k).2.2.1 18446744073709551615 x).1 (ro (flds k).2.2.1 18446744073709551615 x).2
def f2 (c : Int) (x : St) : Ev × St := f3 g k c (ro (flds k).2.1 64 x).1 (ro (flds k).2.1 64 x).2
def f1 (x : St) : Ev × St := f2 g k (ro (flds k).1 1048575 x).1 (ro (flds k).1 1048575 x).2
def q9 (m : Int) (s : ByteArray) : Except Int (Ev × ByteArray) := rdas m.toNat s >>= fun x => .ok (⟨k, c, a, n, decide (v = 1), r, d, x.1⟩, x.2)
def q8 (s : ByteArray) : Except Int (Ev × ByteArray) := rdo (flds k).2.2.2.1 16 s >>= fun x => q9 k c a n v r d x.1 x.2
def q7 (z : Int) (s : ByteArray) : Except Int (Ev × ByteArray) := rdt z.toNat s >>= fun x => q8 k c a n v r x.1 x.2
def q6 (r : Int) (s : ByteArray) : Except Int (Ev × ByteArray) := rdo (flds k).2.2.2.2.2 2000 s >>= fun x => q7 k c a n v r x.1 x.2
def q5 (v : Int) (s : ByteArray) : Except Int (Ev × ByteArray) := rdo (flds k).2.2.2.2.1 255 s >>= fun x => q6 k c a n v x.1 x.2
def q4 (n : Int) (s : ByteArray) : Except Int (Ev × ByteArray) := rdo (flds k).2.2.2.1 1 s >>= fun x => q5 k c a n x.1 x.2
def q3 (a : Int) (s : ByteArray) : Except Int (Ev × ByteArray) := rdo (flds k).2.2.1 18446744073709551615 s >>= fun x => q4 k c a x.1 x.2
def q2 (c : Int) (s : ByteArray) : Except Int (Ev × ByteArray) := rdo (flds k).2.1 64 s >>= fun x => q3 k c x.1 x.2
def q1 (s : ByteArray) : Except Int (Ev × ByteArray) := rdo (flds k).1 1048575 s >>= fun x => q2 k x.1 x.2
theorem rdf_q (s : ByteArray) : rdf k s = q1 k s := rfl
theorem ref_f (x : St) : ref g k x = f1 g k x := rfl
variable (hg : ∀ s, Like (g (.ok s)) (rda s)) (hs : Stays g) (e : Int) (s : ByteArray)
include hs in
theorem e9 (m : Int) : (f9 g k c a n v r d m (.error e)).2 = .error e := itl_stays hs e _
include hs in
theorem e8 : (f8 g k c a n v r d (.error e)).2 = .error e := by unfold f8; rw [ro_err]; exact e9 g k c a n v r d hs e _
include hs in
theorem e7 : (f7 g k c a n v r z (.error e)).2 = .error e := e8 g k c a n v r _ hs e
include hs in
theorem e6 : (f6 g k c a n v r (.error e)).2 = .error e := by unfold f6; rw [ro_err]; exact e7 g k c a n v r _ hs e
include hs in
theorem e5 : (f5 g k c a n v (.error e)).2 = .error e := by unfold f5; rw [ro_err]; exact e6 g k c a n v _ hs e
include hs in
theorem e4 : (f4 g k c a n (.error e)).2 = .error e := by unfold f4; rw [ro_err]; exact e5 g k c a n _ hs e
include hs in
theorem e3 : (f3 g k c a (.error e)).2 = .error e := by unfold f3; rw [ro_err]; exact e4 g k c a _ hs e
include hs in
theorem e2 : (f2 g k c (.error e)).2 = .error e := by unfold f2; rw [ro_err]; exact e3 g k c _ hs e
include hg hs in
theorem l9 (m : Int) : Like (f9 g k c a n v r d m (.ok s)) (q9 k c a n v r d m s) := by
 have h := itl_ads hg hs s m.toNat
 unfold f9 q9
 cases hr : rdas m.toNat s with
 | error c => rw [hr] at h; exact h
 | ok x => obtain ⟨l, s1⟩ := x; rw [hr] at h; unfold Like at h; rw [h]; rfl
include hg hs in
theorem rdf_like : Like (ref g k (.ok s)) (rdf k s) := by
 rw [rdf_q, ref_f]
 refine stp (f2 g k) (q2 k) (ro_like _ _ s) (fun c e => e2 g k c hs e) fun c s => ?_
 refine stp (f3 g k c) (q3 k c) (ro_like _ _ s) (fun a e => e3 g k c a hs e) fun a s => ?_
 refine stp (f4 g k c a) (q4 k c a) (ro_like _ _ s) (fun n e => e4 g k c a n hs e) fun n s => ?_
 refine stp (f5 g k c a n) (q5 k c a n) (ro_like _ _ s) (fun v e => e5 g k c a n v hs e) fun v s => ?_
 refine stp (f6 g k c a n v) (q6 k c a n v) (ro_like _ _ s) (fun r e => e6 g k c a n v r hs e) fun r s => ?_
 refine stp (f7 g k c a n v r) (q7 k c a n v r) (ro_like _ _ s) (fun z e => e7 g k c a n v r z hs e) fun z s => ?_
 refine stp (f8 g k c a n v r) (q8 k c a n v r) (rt_like _ s) (fun d e => e8 g k c a n v r d hs e) fun d s => ?_
 exact stp (f9 g k c a n v r d) (q9 k c a n v r d) (ro_like _ _ s) (fun m e => e9 g k c a n v r d hs e m) fun m s => l9 g k c a n v r d hg hs s m
end
theorem rre_like (s : ByteArray) : Like (rre (.ok s)) (rde s) := by
 rw [rde_rdf]
 unfold rre rn
 simp only
 cases rdn 1 11 s with
 | error c => exact ref_err rra_stays 0 c
 | ok q => obtain ⟨k, s1⟩ := q; exact rdf_like rra k rra_like rra_stays s1
theorem re_like (s : ByteArray) : Like (re (.ok s)) (rde s) := by
 rw [rde_rdf, rdn_lo 1 11 s (by decide)]
 unfold re re0 rn
 simp only
 cases h : rdn 0 11 s with
 | error c =>
  simp only
  rw [if_neg (by decide)]
  exact ref_err ra_stays 0 c
 | ok q =>
  obtain ⟨k, s1⟩ := q
  have hb := rdn_bd h
  simp only
  by_cases h1 : k < 1
  ·rw [if_neg (by omega), if_pos h1]
   exact ref_err ra_stays k 2
  ·rw [if_pos (by omega), if_neg h1, ok_bind]
   exact rdf_like ra k ra_like ra_stays s1
theorem re_stays : Stays re := fun c => by
 unfold re re0 rn
 simp only
 rw [if_neg (by decide)]
 exact ref_err ra_stays 0 c
theorem rre_stays : Stays rre := fun c => ref_err rra_stays 0 c
def dec1 (g : St -> Ev × St) (s : ByteArray) : List Ev × St := itl g (rn 0 1000 (.ok s)).2 (rn 0 1000 (.ok s)).1.toNat
end Go.Proofs.YtmdlgfnibjcgmaaGreatDoor
