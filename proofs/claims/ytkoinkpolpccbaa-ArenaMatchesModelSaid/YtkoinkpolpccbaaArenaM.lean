/-
  The state of the law ArenaMatchesModel: an arena and the reference's arena side by side.
-/
import Derived.Test.YtkoinkpolpccbaaArenaLow
import Derived.Test.YtkoinkpolpccbaaRefArenaB
set_option linter.unusedSimpArgs false
set_option linter.unusedVariables false
namespace Go.Proofs.Ytkoinkpolpccbaa
open Go.RowKit

def FA (g : Nat → Int) (b : Nat → Bool) (x : Nat → Int) (i : Nat) : Sl := ⟨g i, b i, [.int .i64 (x i)]⟩
def upd {α : Type} (f : Nat → α) (i : Nat) (a : α) : Nat → α := fun j => if j = i then a else f j
theorem upd_same {α : Type} (f : Nat → α) (i : Nat) (a : α) : upd f i a i = a := by simp [upd]
theorem upd_ne {α : Type} (f : Nat → α) {i j : Nat} (a : α) (h : j ≠ i) : upd f i a j = f j := by simp [upd, h]
theorem upd_self {α : Type} (f : Nat → α) (i : Nat) : upd f i (f i) = f := by funext j; unfold upd; split <;> simp_all
theorem FA_set (K : Nat) (g : Nat → Int) (b : Nat → Bool) (x : Nat → Int) (i : Nat) (g' : Int) (b' : Bool) (x' : Int) :
    (slots K (FA g b x)).set i ⟨g', b', [.int .i64 x']⟩ = slots K (FA (upd g i g') (upd b i b') (upd x i x')) := by
  rw [slots_set]
  apply slots_congr
  intro j _
  unfold FA upd
  split <;> rfl

/-- is the handle (i, h) valid? -/
def vb (K : Nat) (g : Nat → Int) (b : Nat → Bool) (i h : Int) : Bool := decide (0 ≤ i ∧ i < K ∧ b i.toNat = true ∧ g i.toNat = h)
theorem vb_hit {K : Nat} {g : Nat → Int} {b : Nat → Bool} {x : Nat → Int} {i h : Int} (hv : vb K g b i h = true) : Hit (slots K (FA g b x)) i h (FA g b x i.toNat) := by
  obtain ⟨h0, h1, h2, h3⟩ := of_decide_eq_true hv
  exact ⟨h0, by rw [slots_len]; exact h1, slots_get (by omega), h2, h3⟩
theorem vb_miss {K : Nat} {g : Nat → Int} {b : Nat → Bool} {x : Nat → Int} {i h : Int} (hv : vb K g b i h = false) : ∀ s, ¬ Hit (slots K (FA g b x)) i h s := by
  rintro s ⟨h0, h1, h2, h3, h4⟩
  rw [slots_len] at h1
  rw [slots_get (by omega)] at h2
  obtain rfl := Option.some.inj h2
  exact of_decide_eq_false hv ⟨h0, h1, h3, h4⟩

theorem hand_count (l : List Sl) (i : Nat) : (hand l i).length = l.countP (·.taken) := by
  induction l generalizing i with
  | nil => rfl
  | cons s l ih =>
    simp only [hand, List.countP_cons]
    split <;> simp [ih, *]
theorem hand_alike (K : Nat) (g : Nat → Int) (b : Nat → Bool) (x y : Nat → Int) : hand (slots K (FA g b x)) 0 = hand (slots K (FA g b y)) 0 := by
  have : ∀ (l : List Nat) (i : Nat), hand (l.map (FA g b x)) i = hand (l.map (FA g b y)) i := by
    intro l
    induction l with
    | nil => intro i; rfl
    | cons j l ih => intro i; simp only [List.map_cons, hand, ih]; rfl
  exact this _ _
theorem count_upd (K : Nat) (g g' : Nat → Int) (b : Nat → Bool) (x x' : Nat → Int) (i : Nat) (hi : i < K) (v : Bool) :
    ((hand (slots K (FA g' (upd b i v) x')) 0).length : Int) = (hand (slots K (FA g b x)) 0).length - (if b i then 1 else 0) + (if v then 1 else 0) := by
  rw [hand_count, hand_count]
  have e : ∀ (g : Nat → Int) (b : Nat → Bool) (x : Nat → Int), (slots K (FA g b x)).countP (·.taken) = (List.range K).countP b := by
    intro g b x; rw [slots, List.countP_map]; rfl
  rw [e, e]
  have e2 : ∀ (l : List Nat), l.Nodup → (l.countP (upd b i v) : Int) = l.countP b - (if i ∈ l ∧ b i = true then 1 else 0) + (if i ∈ l ∧ v = true then 1 else 0) := by
    intro l
    induction l with
    | nil => intro _; simp
    | cons j l ih =>
      intro hn
      have hn' := List.nodup_cons.1 hn
      have := ih hn'.2
      rw [List.countP_cons, List.countP_cons]
      by_cases hj : i = j
      · subst hj
        rw [upd_same]
        have h2 : (List.countP (upd b i v) l : Int) = List.countP b l := by
          rw [ih hn'.2]; simp [hn'.1]
        push_cast
        rw [h2]
        cases hb : b i <;> cases v <;> simp
      · rw [upd_ne b v (fun e => hj e.symm)]
        push_cast
        rw [this]
        simp only [List.mem_cons, hj, false_or]
        omega
  have := e2 (List.range K) List.nodup_range
  simpa [hi] using this

theorem first_free (K fr : Nat) (b : Nat → Bool) (hfr : fr ≤ K) (h : ∀ i, i < fr → b i = true) : (∀ i, i < K → b i = true) ∨ ∃ f, fr ≤ f ∧ f < K ∧ b f = false ∧ ∀ i, i < f → b i = true := by
  have key : ∀ d f, f + d = K → fr ≤ f → (∀ i, i < f → b i = true) → (∀ i, i < K → b i = true) ∨ ∃ f, fr ≤ f ∧ f < K ∧ b f = false ∧ ∀ i, i < f → b i = true := by
    intro d
    induction d with
    | zero => intro f e _ h; exact .inl (fun i hi => h i (by omega))
    | succ d ih =>
      intro f e hf h
      cases hb : b f with
      | false => exact .inr ⟨f, hf, by omega, hb, h⟩
      | true => exact ih (f + 1) (by omega) (by omega) (fun i hi => by
          by_cases e : i = f
          · rw [e]; exact hb
          · exact h i (by omega))
  exact key (K - fr) fr (by omega) (Nat.le_refl _) h

/-- the two arenas side by side; T bounds the generations -/
structure St (w0 w : World) (p q rp rq K : Nat) (g : Nat → Int) (b : Nat → Bool) (x y : Nat → Int) (fr : Nat) (n : Int) (T : Nat) : Prop where
  A : ArenaInt.At w p q (slots K (FA g b x)) fr n
  R : IsRef w rp rq (slots K (FA g b y))
  eqv : ∀ i, b i = true → x i = y i
  gen : ∀ i, 0 ≤ g i ∧ g i ≤ T
  fr1 : fr ≤ K
  fr2 : ∀ i, i < fr → b i = true
  cnt : n = (hand (slots K (FA g b x)) 0).length
  keep : Keep [p, q, rp, rq] w0 w
section
variable {w0 w : World} {p q rp rq K : Nat} {g : Nat → Int} {b : Nat → Bool} {x y : Nat → Int} {fr : Nat} {n : Int} {T : Nat} (h : St w0 w p q rp rq K g b x y fr n T)
include h
theorem St.ext {w' : World} (k : Ext w w') : St w0 w' p q rp rq K g b x y fr n T := ⟨h.A.ext k, h.R.ext k, h.eqv, h.gen, h.fr1, h.fr2, h.cnt, h.keep.trans (k.keep _)⟩
theorem St.n_bd : 0 ≤ n ∧ n ≤ K := by
  have h1 := h.cnt
  have h2 := hand_le (slots K (FA g b x)) 0
  rw [slots_len] at h2
  omega
theorem St.more {T' : Nat} (ht : T ≤ T') : St w0 w p q rp rq K g b x y fr n T' := ⟨h.A, h.R, h.eqv, fun i => ⟨(h.gen i).1, by have := (h.gen i).2; omega⟩, h.fr1, h.fr2, h.cnt, h.keep⟩
/-- after both have allocated slot f -/
theorem St.alloc {w1 w2 : World} {f : Nat} (hf : f < K) (hb : b f = false) (hall : ∀ i, i < f → b i = true) (X : Int)
    (A : ArenaInt.At w1 p q ((slots K (FA g b x)).set f ⟨g f + 1, true, [.int .i64 X]⟩) f (n + 1)) (k1 : Keep [p, q] w w1)
    {wm : World} (km : Ext w1 wm) (R : IsRef w2 rp rq ((slots K (FA g b y)).set f ⟨g f + 1, true, [.int .i64 X]⟩)) (k2 : Keep [rq] wm w2) (hd : p ≠ rq ∧ q ≠ rq) :
    St w0 w2 p q rp rq K (upd g f (g f + 1)) (upd b f true) (upd x f X) (upd y f X) f (n + 1) (T + 1) := by
  rw [FA_set] at A R
  refine ⟨(A.ext km).keep k2 (by simp [hd.1]) (by simp [hd.2]), R, ?_, ?_, by omega, ?_, ?_, ?_⟩
  · intro i hi
    by_cases e : i = f
    · subst e; rw [upd_same, upd_same]
    · rw [upd_ne _ _ e] at hi; rw [upd_ne _ _ e, upd_ne _ _ e]; exact h.eqv i hi
  · intro i
    have := h.gen i
    by_cases e : i = f
    · subst e; rw [upd_same]; omega
    · rw [upd_ne _ _ e]; omega
  · intro i hi; rw [upd_ne _ _ (by omega)]; exact hall i hi
  · rw [count_upd K g _ b x _ f hf true, hb, h.cnt]; simp
  · refine h.keep.trans ((k1.mono ?_).trans ((km.keep _).trans (k2.mono ?_))) <;> (intro z hz; left; simp at hz ⊢; omega)
/-- after both have freed slot i -/
theorem St.free {w1 w2 : World} {i : Nat} (hi : i < K) (hb : b i = true)
    (A : ArenaInt.At w1 p q ((slots K (FA g b x)).set i ⟨g i, false, [.int .i64 0]⟩) (min (fr : Int) i) (n - 1)) (k1 : Keep [p, q] w w1)
    (R : IsRef w2 rp rq ((slots K (FA g b y)).set i ⟨g i, false, [.int .i64 (y i)]⟩)) (k2 : Keep [rq] w1 w2) (hd : p ≠ rq ∧ q ≠ rq) :
    St w0 w2 p q rp rq K g (upd b i false) (upd x i 0) y (min fr i) (n - 1) T := by
  rw [FA_set, upd_self] at A R
  rw [upd_self] at R
  refine ⟨?_, R, ?_, h.gen, by omega, ?_, ?_, ?_⟩
  · rw [show ((min fr i : Nat) : Int) = min (fr : Int) i from by omega]
    exact A.keep k2 (by simp [hd.1]) (by simp [hd.2])
  · intro j hj
    by_cases e : j = i
    · subst e; rw [upd_same] at hj; cases hj
    · rw [upd_ne _ _ e] at hj; rw [upd_ne _ _ e]; exact h.eqv j hj
  · intro j hj; rw [upd_ne _ _ (by omega)]; exact h.fr2 j (by omega)
  · rw [count_upd K g _ b x _ i hi false, hb, h.cnt]; simp
  · refine h.keep.trans ((k1.mono ?_).trans (k2.mono ?_)) <;> (intro z hz; left; simp at hz ⊢; omega)
/-- after both have written slot i -/
theorem St.set {w1 w2 : World} {i : Nat} (hi : i < K) (hb : b i = true) (X : Int)
    (A : ArenaInt.At w1 p q ((slots K (FA g b x)).set i ⟨g i, b i, [.int .i64 X]⟩) fr n) (k1 : Keep [q] w w1)
    (R : IsRef w2 rp rq ((slots K (FA g b y)).set i ⟨g i, b i, [.int .i64 X]⟩)) (k2 : Keep [rq] w1 w2) (hd : p ≠ rq ∧ q ≠ rq) :
    St w0 w2 p q rp rq K g b (upd x i X) (upd y i X) fr n T := by
  rw [FA_set, upd_self, upd_self] at A R
  refine ⟨A.keep k2 (by simp [hd.1]) (by simp [hd.2]), R, ?_, h.gen, h.fr1, h.fr2, ?_, ?_⟩
  · intro j hj
    by_cases e : j = i
    · subst e; rw [upd_same, upd_same]
    · rw [upd_ne _ _ e, upd_ne _ _ e]; exact h.eqv j hj
  · have := count_upd K g g b x (upd x i X) i hi (b i)
    rw [upd_self] at this
    rw [this, h.cnt]; omega
  · refine h.keep.trans ((k1.mono ?_).trans (k2.mono ?_)) <;> (intro z hz; left; simp at hz ⊢; omega)
end
end Go.Proofs.Ytkoinkpolpccbaa
