/-
  The walk of Rg in a region that runs as it is written.
-/
import Derived.Test.YtpdoddelnahlnaaDoorRg
set_option linter.unusedSimpArgs false
set_option linter.unusedVariables false
namespace Go.Proofs.YtpdoddelnahlnaaDoor
section
variable {P : Program} {ops : Array Oper} {Q : Exit → Act → World → Prop} {md : Region.Mode} {w0 : World}
theorem wpList_of_goV : ∀ (l : List Oper) (i : Nat) (plan : List Yld) (A : (Nat → Value) → Act), goV P ops Q md w0 l i plan A → plan.length = i → (∀ s ∈ plan, s.ok) →
    (∀ u u' : Nat → Value, (∀ j, j < i → u j = u' j) → A u = A u') → ∀ u w, Ext w0 w → (∀ (j : Nat) (s : Yld), plan[j]? = some s → s.V (u j) w) → wpList P ops Q l (A u) w
  | [], i, plan, A, h, hp, hok, hA, u, w, hx, hV => h u w hx (holdsAt_all fun j _ s hs => hV j s hs)
  | o :: l, i, plan, A, h, hp, hok, hA, u, w, hx, hV => by
    obtain ⟨s, hs, h1, h2⟩ := h
    have ho := h1 u w hx (holdsAt_all fun j _ s hs => hV j s hs)
    have next : ∀ x w', Ext w w' → s.V x w' → wpList P ops Q l ((A u).put o.dst x) w' := fun x w' hx' hv => by
      have hu : A u = A (fun j => if j = i then x else u j) := hA _ _ fun j hj => by simp only [if_neg (show ¬ j = i by omega)]
      have := wpList_of_goV l (i + 1) (plan ++ [s]) _ h2 (by rw [List.length_append, hp]; rfl) (fun t ht => by
        rcases List.mem_append.1 ht with ht | ht
        · exact hok t ht
        · rw [List.mem_singleton] at ht; rw [ht]; exact hs) (fun u u' huu => by
        rw [hA u u' (fun j hj => huu j (by omega)), huu i (by omega)]) (fun j => if j = i then x else u j) w' (hx.trans hx') (fun j t ht => by
        rcases Nat.lt_trichotomy j plan.length with hj | hj | hj
        · rw [List.getElem?_append_left hj] at ht
          simp only [if_neg (show ¬ j = i by omega)]
          exact (hok t (List.mem_of_getElem? ht)).stay _ _ _ (hV j t ht) hx'
        · rw [List.getElem?_append_right (by omega), show j - plan.length = 0 by omega] at ht
          cases ht
          simp only [if_pos (show j = i by omega)]; exact hv
        · rw [List.getElem?_append_right (by omega)] at ht
          obtain ⟨q, hq⟩ : ∃ q, j - plan.length = q + 1 := ⟨j - plan.length - 1, by omega⟩
          rw [hq] at ht; simp at ht)
      simp only [if_true, Yld.at_eq hs hv] at this
      rw [← hu] at this
      exact this
    unfold wpList
    rcases ho with ⟨hw, hv⟩ | ⟨hw, hv⟩
    · simp only [hw, if_true, Oper.wp]
      left
      generalize (execOp (A u).eval o).run P w = r at *
      unfold OutV at hv
      split at hv
      · exact next _ _ hv.1 hv.2
      · exact Calls.mono hv.2 fun e w'' he => by
          obtain ⟨x, rfl, k1, k2⟩ := he
          exact next _ _ (hv.1.trans k1) k2
      · exact Rows.mono hv.2 fun x w'' he => next _ _ (hv.1.trans he.1) he.2
      · exact hv.elim
    · simp only [hw, Bool.false_eq_true, if_false]; exact next _ _ (Ext.refl _) hv
theorem wp_region_rgs {id : Nat} {l : List Oper} {a : Act} {w : World} (h : goV P l.toArray Q .any w l 0 [] (fun _ => a)) : (Code.region id l.toArray false).wp P Q a w :=
  wp_region_lit (wpList_of_goV l 0 [] _ h rfl (fun s hs => by cases hs) (fun _ _ _ => rfl) (fun _ => undef) w (Ext.refl _) (fun j s hs => by simp at hs))
end
end Go.Proofs.YtpdoddelnahlnaaDoor
