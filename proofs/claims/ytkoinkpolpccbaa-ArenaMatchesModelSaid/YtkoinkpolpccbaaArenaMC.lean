/-
  The law ArenaMatchesModel: contracts on the two arenas side by side.
-/
import Derived.Test.YtkoinkpolpccbaaArenaM
set_option linter.unusedSimpArgs false
set_option linter.unusedVariables false
namespace Go.Proofs.Ytkoinkpolpccbaa
open Go.RowKit

section
variable {w0 w : World} {p q rp rq K : Nat} {g : Nat → Int} {b : Nat → Bool} {x y : Nat → Int} {fr : Nat} {n : Int} {T : Nat} (h : St w0 w p q rp rq K g b x y fr n T)
include h
theorem St.valid (i k : Int) :
    Calls Try.prog 41 #[.pointer (some ⟨rp, 0, none⟩), .agg #[.int .i64 i, .int .i64 k]] w fun e w' => e = .returned (.bool (vb K g b i k)) ∧ Ext w w' := by
  cases hv : vb K g b i k with
  | true => exact rvalid_hit w rp rq _ h.R i k _ (vb_hit hv)
  | false => exact rvalid_miss w rp rq _ h.R i k (vb_miss hv)
theorem St.get (i k : Int) :
    Calls Try.prog 44 #[.pointer (some ⟨p, 0, none⟩), .agg #[.int .i64 i, .int .i64 k]] w fun e w' => e = .returned (.tuple #[.int .i64 (if vb K g b i k then x i.toNat else 0), .bool (vb K g b i k)]) ∧ Ext w w' := by
  cases hv : vb K g b i k with
  | true => exact ArenaInt.get_hit w p q _ _ _ h.A i k _ (vb_hit hv) (x i.toNat) rfl
  | false => exact ArenaInt.get_miss w p q _ _ _ h.A i k (vb_miss hv)
theorem St.handles :
    Calls Try.prog 40 #[.pointer (some ⟨p, 0, none⟩)] w fun e w' => ∃ a cap, e = .returned (.slice a (hand (slots K (FA g b x)) 0).length cap) ∧ HOwn w' (.slice a (hand (slots K (FA g b x)) 0).length cap) (hand (slots K (FA g b x)) 0) ∧ Ext w w' := by
  refine (handles_any w p q _ _ _ h.A ?_).mono ?_
  · intro s hs
    obtain ⟨i, _, rfl⟩ := List.mem_map.1 hs
    exact ⟨_, rfl⟩
  · rintro e w' ⟨v, rfl, ho, hx⟩
    have hh := HOwn.of ho
    rcases hh with ⟨rfl, e2⟩ | ⟨g0, cap, rfl, hr⟩
    · exact ⟨none, 0, by rw [e2]; rfl, by rw [e2]; exact .inl ⟨rfl, rfl⟩, hx⟩
    · exact ⟨_, _, rfl, .inr ⟨g0, cap, rfl, hr⟩, hx⟩
theorem St.rhandles :
    Calls Try.prog 46 #[.pointer (some ⟨rp, 0, none⟩)] w fun e w' => ∃ a cap, e = .returned (.slice a (hand (slots K (FA g b x)) 0).length cap) ∧ HOwn w' (.slice a (hand (slots K (FA g b x)) 0).length cap) (hand (slots K (FA g b x)) 0) ∧ Ext w w' := by
  refine (rhandles_any w rp rq _ h.R).mono ?_
  rw [← hand_alike K g b x y]
  rintro e w' ⟨v, rfl, ho, hx⟩
  have hh := HOwn.of ho
  rcases hh with ⟨rfl, e2⟩ | ⟨g0, cap, rfl, hr⟩
  · exact ⟨none, 0, by rw [e2]; rfl, by rw [e2]; exact .inl ⟨rfl, rfl⟩, hx⟩
  · exact ⟨_, _, rfl, .inr ⟨g0, cap, rfl, hr⟩, hx⟩
theorem St.len_calls :
    Calls Try.prog 32 #[.pointer (some ⟨p, 0, none⟩)] w fun e w' => e = .returned (.int .i64 ((hand (slots K (FA g b x)) 0).length : Nat)) ∧ w = w' := by
  have := ArenaInt.len_any w p q _ _ _ h.A
  rw [h.cnt] at this
  exact this
theorem St.cap_calls :
    Calls Try.prog 39 #[.pointer (some ⟨p, 0, none⟩)] w fun e w' => e = .returned (.int .i64 K) ∧ w = w' := by
  have := ArenaInt.cap_any w p q _ _ _ h.A
  rw [slots_len] at this
  exact this
end

/-- a round's boxes -/
structure Rd (w0 w : World) (p q rp rq K : Nat) (g : Nat → Int) (b : Nat → Bool) (x y : Nat → Int) (fr : Nat) (n : Int) (T bo br : Nat) (ok oi og ox ri rg : Int) : Prop where
  S : St w0 w p q rp rq K g b x y fr n T
  O : Blk w bo [.int .i64 ok, .int .i64 oi, .int .i64 og, .int .i64 ox] 72
  H : Blk w br [.int .i64 ri, .int .i64 rg] 48
  ne : bo ∉ [p, q, rp, rq] ∧ br ∉ [p, q, rp, rq] ∧ bo ≠ br
section
variable {w0 w : World} {p q rp rq K : Nat} {g : Nat → Int} {b : Nat → Bool} {x y : Nat → Int} {fr : Nat} {n : Int} {T bo br : Nat} {ok oi og ox ri rg : Int} (h : Rd w0 w p q rp rq K g b x y fr n T bo br ok oi og ox ri rg)
include h
theorem Rd.drew : Rd w0 w.drew p q rp rq K g b x y fr n T bo br ok oi og ox ri rg := ⟨h.S.ext (by (repeat' (first | exact Ext.refl _ | assumption | refine Ext.alloc ?_ _ | refine Ext.drew ?_ | refine Ext.setCell ?_ (Nat.le_refl _) _ | refine Ext.setCell ?_ (Nat.le_add_right _ _) _ | refine Ext.drewN ?_ _ | refine Ext.trans ?_ (by assumption) | refine Ext.dr ?_ (by assumption)))), h.O, h.H, h.ne⟩
theorem Rd.ext {w' : World} (k : Ext w w') : Rd w0 w' p q rp rq K g b x y fr n T bo br ok oi og ox ri rg := ⟨h.S.ext k, h.O.ext k, h.H.ext k, h.ne⟩
theorem Rd.to {w' : World} {g' : Nat → Int} {b' : Nat → Bool} {x' y' : Nat → Int} {fr' : Nat} {n' : Int} {T' : Nat} (k : Keep [p, q, rp, rq] w w') (S : St w0 w' p q rp rq K g' b' x' y' fr' n' T') : Rd w0 w' p q rp rq K g' b' x' y' fr' n' T' bo br ok oi og ox ri rg :=
  ⟨S, h.O.keep k h.ne.1, h.H.keep k h.ne.2.1, h.ne⟩
end

theorem Rd.boxed {w0 w : World} {p q rp rq K : Nat} {g : Nat → Int} {b : Nat → Bool} {x y : Nat → Int} {fr : Nat} {n : Int} {T : Nat} (h : St w0 w p q rp rq K g b x y fr n T) (hl : p < w.heap.size ∧ q < w.heap.size ∧ rp < w.heap.size ∧ rq < w.heap.size) (ok oi og ox ri rg : Int) :
    Rd w0 ((w.alloc (Obj.cells #[Value.int IntKind.i64 ok, Value.int IntKind.i64 oi, Value.int IntKind.i64 og, Value.int IntKind.i64 ox] 72)).alloc (Obj.cells #[Value.int IntKind.i64 ri, Value.int IntKind.i64 rg] 48))
      p q rp rq K g b x y fr n T w.heap.size (w.heap.size + 1) ok oi og ox ri rg where
  S := h.ext (((Ext.refl _).alloc _).alloc _)
  O := (Blk.new w #[Value.int IntKind.i64 ok, Value.int IntKind.i64 oi, Value.int IntKind.i64 og, Value.int IntKind.i64 ox] 72).alloc _
  H := by
    have := Blk.new (w.alloc (Obj.cells #[Value.int IntKind.i64 ok, Value.int IntKind.i64 oi, Value.int IntKind.i64 og, Value.int IntKind.i64 ox] 72)) #[Value.int IntKind.i64 ri, Value.int IntKind.i64 rg] 48
    rw [World.size_alloc] at this
    exact this
  ne := by simp; omega

/-- the reference's Alloc and the arena's, one after the other -/
theorem St.alloc_calls {w0 w : World} {p q rp rq K : Nat} {g : Nat → Int} {b : Nat → Bool} {x y : Nat → Int} {fr : Nat} {n : Int} {T : Nat} (h : St w0 w p q rp rq K g b x y fr n T) (hT : T ≤ 90) (hd : p ≠ rq ∧ q ≠ rq) (hd2 : p ≠ rp ∧ q ≠ rp) (hK : K ≤ 8) (X : Int) :
    ∃ (hx hg : Int) (put : Bool), Calls Try.prog 29 #[.pointer (some ⟨p, 0, none⟩), .int .i64 X] w fun e w' => e = .returned (.tuple #[.agg #[.int .i64 hx, .int .i64 hg], .bool put]) ∧ Keep [p, q] w w' ∧
      ∀ wm, Ext w' wm → Calls Try.prog 42 #[.pointer (some ⟨rp, 0, none⟩), .int .i64 X] wm fun e w2 => e = .returned (.tuple #[.agg #[.int .i64 hx, .int .i64 hg], .bool put]) ∧ Keep [p, q, rp, rq] wm w2 ∧
        ∃ g' b' x' y' fr' n', St w0 w2 p q rp rq K g' b' x' y' fr' n' (T + 1) := by
  have hcb := h.n_bd
  rcases first_free K fr b h.fr1 h.fr2 with hall | ⟨f, hf1, hf2, hf3, hall⟩
  · have hall' : ∀ (x : Nat → Int) i, i < (slots K (FA g b x)).length → ∃ s, (slots K (FA g b x))[i]? = some s ∧ s.taken = true := by
      intro x i hi; rw [slots_len] at hi; exact ⟨_, slots_get hi, hall i hi⟩
    refine ⟨0, 0, false, ?_⟩
    refine (ArenaInt.alloc_full w p q _ fr n X h.A (by rw [slots_len]; exact h.fr1) ?_).mono ?_
    · intro i h1 h2; exact hall' x i h2
    · rintro e w1 ⟨rfl, A, k1⟩
      refine ⟨rfl, k1, fun wm km => ?_⟩
      have R1 := (h.R.keep k1 (by simp; omega) (by simp; omega)).ext km
      refine (ralloc_full wm rp rq _ X R1 (hall' y)).mono ?_
      rintro e w2 ⟨rfl, k2⟩
      rw [slots_len] at A
      refine ⟨rfl, k2.keep _, g, b, x, y, K, n, (A.ext km).ext k2, R1.ext k2, h.eqv, fun i => ⟨(h.gen i).1, by have := (h.gen i).2; omega⟩, Nat.le_refl _, hall, h.cnt, ?_⟩
      exact h.keep.trans ((k1.mono (by intro z hz; left; simp at hz ⊢; omega)).trans ((km.keep _).trans (k2.keep _)))
  · have hall' : ∀ (x : Nat → Int) i, i < f → ∃ s, (slots K (FA g b x))[i]? = some s ∧ s.taken = true := by
      intro x i hi; exact ⟨_, slots_get (by omega), hall i hi⟩
    have hgf := h.gen f
    refine ⟨f, g f + 1, true, ?_⟩
    refine (ArenaInt.alloc_hit w p q _ fr n X f (FA g b x f) h.A hf1 (slots_get hf2) hf3 ?_ ?_ ?_ ?_ ?_).mono ?_
    all_goals first | (show _ ≤ g f; omega) | (show g f < _; omega) | omega | (intro i h1 h2; exact hall' x i h2) | skip
    rintro e w1 ⟨rfl, A, k1⟩
    refine ⟨rfl, k1, fun wm km => ?_⟩
    have R1 := (h.R.keep k1 (by simp; omega) (by simp; omega)).ext km
    refine (ralloc_hit wm rp rq _ X f (FA g b y f) (y f) R1 (slots_get hf2) hf3 rfl (by show _ ≤ g f; omega) (by show g f < _; omega) (hall' y)).mono ?_
    rintro e w2 ⟨rfl, R2, k2⟩
    refine ⟨rfl, k2.mono (by intro z hz; left; simp at hz ⊢; omega), _, _, _, _, _, _, h.alloc hf2 hf3 hall X A k1 km R2 k2 hd⟩
end Go.Proofs.Ytkoinkpolpccbaa
