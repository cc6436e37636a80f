/-
  As Rg, for a region that also writes what it has made: the growth that every operation keeps to is a relation G of the walk's own choice, and what is known of a value may speak of the values that the operation comes behind.
-/
import Derived.Test.YtbbdcodhgbgekaaGreatDoorRg
set_option linter.unusedSimpArgs false
set_option linter.unusedVariables false
namespace Go.Proofs.YtbbdcodhgbgekaaGreatDoor
structure GrowOK (G : World → World → Prop) (w0 : World) : Prop where
  refl : ∀ w, G w w
  trans : ∀ a b c, G a b → G b c → G a c
  base : ∀ w w', Ext w0 w → G w w' → Ext w0 w'
  ofExt : ∀ w w', Ext w0 w → Ext w w' → G w w'
structure Yld2 where
  pv : Option Value
  V : (Nat → Value) → Value → World → Prop
def Yld2.val (v : Value) : Yld2 := ⟨some v, fun _ u _ => u = v⟩
def Yld2.rel (V : (Nat → Value) → Value → World → Prop) : Yld2 := ⟨none, V⟩
structure Yld2.ok (G : World → World → Prop) (w0 : World) (ds : List Nat) (s : Yld2) : Prop where
  stay : ∀ e u w w', Ext w0 w → s.V e u w → G w w' → s.V e u w'
  pure : ∀ v e u w, s.pv = some v → s.V e u w → u = v
  cong : ∀ e e' u w, (∀ k ∈ ds, e k = e' k) → s.V e u w → s.V e' u w
theorem Yld2.val_ok {G : World → World → Prop} {w0 : World} {ds : List Nat} (v : Value) : (Yld2.val v).ok G w0 ds := ⟨fun e u w w' _ h _ => h, fun x e u w h k => by cases h; exact k, fun e e' u w _ h => h⟩
def Yld2.at (s : Yld2) (x : Value) : Value := s.pv.getD x
theorem Yld2.at_eq {G : World → World → Prop} {w0 : World} {ds : List Nat} {s : Yld2} (h : s.ok G w0 ds) {e : Nat → Value} {x : Value} {w : World} (hx : s.V e x w) : s.at x = x := by
  unfold Yld2.at
  cases hp : s.pv with
  | none => rfl
  | some v => exact (h.pure v e x w hp hx).symm
def holdsAt2 (plan : List Yld2) (u : Nat → Value) (w : World) : List Nat → Prop
  | [] => True
  | j :: js => (match plan[j]? with
    | some ⟨none, V⟩ => V u (u j) w
    | _ => True) ∧ holdsAt2 plan u w js
theorem holdsAt2_weak {p q : List Yld2} {u : Nat → Value} {w : World} : ∀ {js : List Nat}, holdsAt2 (p ++ q) u w js → holdsAt2 p u w js
  | [], _ => trivial
  | j :: js, h => by
    refine ⟨?_, holdsAt2_weak h.2⟩
    have h1 := h.1
    rcases Nat.lt_or_ge j p.length with hj | hj
    · rw [List.getElem?_append_left hj] at h1; exact h1
    · rw [List.getElem?_eq_none hj]; trivial
theorem holdsAt2_all {p : List Yld2} {u : Nat → Value} {w : World} : ∀ {js : List Nat}, (∀ j ∈ js, ∀ s, p[j]? = some s → s.V u (u j) w) → holdsAt2 p u w js
  | [], _ => trivial
  | j :: js, h => by
    refine ⟨?_, holdsAt2_all fun i hi => h i (by simp [hi])⟩
    have := h j (by simp)
    split
    · rename_i V e; exact this _ e
    · trivial
def OutV2 (P : Program) (G : World → World → Prop) (w : World) (V : Value → World → Prop) : Result Next → Prop
  | .ok (.value u) w' => G w w' ∧ V u w'
  | .ok .skip w' => G w w' ∧ V undef w'
  | .ok (.enter f args) w' => G w w' ∧ Calls P f args w' fun e w'' => ∃ u, e = .returned u ∧ G w' w'' ∧ V u w''
  | .ok (.row row args) w' => G w w' ∧ Rows P row args w' fun u w'' => G w' w'' ∧ V u w''
  | _ => False
def OutOp2 (P : Program) (ops : Array Oper) (G : World → World → Prop) (V : Value → World → Prop) (o : Oper) (a : Act) (w : World) : Prop :=
  (Region.wanted o (yielded ops a.tmps) = true ∧ OutV2 P G w V ((execOp a.eval o).run P w)) ∨ (Region.wanted o (yielded ops a.tmps) = false ∧ V undef w)
/-- the walk: one operation after the other -/
def goW (P : Program) (ops : Array Oper) (Q : Exit → Act → World → Prop) (md : Region.Mode) (G : World → World → Prop) (w0 : World) : List Oper → Nat → List Yld2 → ((Nat → Value) → Act) → Prop
  | [], i, plan, A => ∀ u w, Ext w0 w → holdsAt2 plan u w (List.range i) → Q .normal (A u) w
  | o :: rest, i, plan, A => ∃ s : Yld2, s.ok G w0 (depsOf md o) ∧ (∀ u w, Ext w0 w → holdsAt2 plan u w (depsOf md o) → OutOp2 P ops G (s.V u) o (A u) w) ∧
      goW P ops Q md G w0 rest (i + 1) (plan ++ [s]) (fun u => (A u).put o.dst (s.at (u i)))
def canon2 (u : Nat → Value) : List Oper → List Yld2 → Nat → Act → Act
  | o :: l, s :: ss, i, a => canon2 u l ss (i + 1) (a.put o.dst (s.at (u i)))
  | _, _, _, a => a
theorem canon2_snoc (u : Nat → Value) (o : Oper) (s : Yld2) : ∀ (l : List Oper) (ss : List Yld2) (i : Nat) (a : Act), l.length = ss.length → canon2 u (l ++ [o]) (ss ++ [s]) i a = (canon2 u l ss i a).put o.dst (s.at (u (i + l.length)))
  | [], [], i, a, _ => rfl
  | [], _ :: _, _, _, h => by simp at h
  | _ :: _, [], _, _, h => by simp at h
  | x :: l, y :: ss, i, a, h => by
    rw [List.cons_append, List.cons_append, canon2, canon2, canon2_snoc u o s l ss (i + 1) _ (by simpa using h), List.length_cons, show i + 1 + l.length = i + (l.length + 1) by omega]
section
variable {P : Program} {ops : Array Oper} {Q : Exit → Act → World → Prop} {md : Region.Mode} {G : World → World → Prop} {w0 : World}
theorem goW_spec : ∀ (l : List Oper) (i : Nat) (plan : List Yld2) (A : (Nat → Value) → Act), goW P ops Q md G w0 l i plan A → ∃ ss : List Yld2, ss.length = l.length ∧ (∀ (k : Nat) (o : Oper) (s : Yld2), l[k]? = some o → ss[k]? = some s → s.ok G w0 (depsOf md o)) ∧
    (∀ (k : Nat) (o : Oper) (s : Yld2), l[k]? = some o → ss[k]? = some s → ∀ u w, Ext w0 w → holdsAt2 (plan ++ ss) u w (depsOf md o) → OutOp2 P ops G (s.V u) o (canon2 u (l.take k) (ss.take k) i (A u)) w) ∧
    (∀ u w, Ext w0 w → holdsAt2 (plan ++ ss) u w (List.range (i + l.length)) → Q .normal (canon2 u l ss i (A u)) w)
  | [], i, plan, A, h => by
    refine ⟨[], rfl, fun k o s hk => (by simp at hk), fun k o s hk => (by simp at hk), fun u w hw hh => ?_⟩
    rw [List.append_nil] at hh
    exact h u w hw hh
  | o :: l, i, plan, A, h => by
    obtain ⟨s, hs, h1, h2⟩ := h
    obtain ⟨ss, e1, e2, e3, e4⟩ := goW_spec l (i + 1) (plan ++ [s]) _ h2
    have ea : plan ++ s :: ss = plan ++ [s] ++ ss := by simp
    refine ⟨s :: ss, by simp [e1], fun k o' s' hk hk' => ?_, fun k o' s' hk hk' u w hw hh => ?_, fun u w hw hh => ?_⟩
    · cases k with
      | zero =>
        simp only [List.getElem?_cons_zero, Option.some.injEq] at hk hk'
        subst hk hk'
        exact hs
      | succ k =>
        rw [List.getElem?_cons_succ] at hk hk'
        exact e2 k o' s' hk hk'
    · cases k with
      | zero =>
        simp only [List.getElem?_cons_zero, Option.some.injEq] at hk hk'
        subst hk hk'
        exact h1 u w hw (holdsAt2_weak hh)
      | succ k =>
        rw [List.getElem?_cons_succ] at hk hk'
        rw [ea] at hh
        exact e3 k o' s' hk hk' u w hw hh
    · rw [ea, show i + (o :: l).length = i + 1 + l.length by rw [List.length_cons]; omega] at hh
      exact e4 u w hw hh
theorem OutOp2.wpOp {V : Value → World → Prop} {i : Nat} {o : Oper} {a : Act} {w : World} (hG : GrowOK G w0) (hi : ops[i]? = some o) (h : OutOp2 P ops G V o a w) {K : Act → World → Prop}
    (k : ∀ u w', G w w' → V u w' → K (a.put o.dst u) w') : wpOp P ops Q i K a w := by
  unfold Go.wpOp
  simp only [hi]
  rcases h with ⟨hw, hv⟩ | ⟨hw, hv⟩
  · simp only [hw, if_true, Oper.wp]
    left
    generalize (execOp a.eval o).run P w = r at *
    unfold OutV2 at hv
    split at hv
    · exact k _ _ hv.1 hv.2
    · exact k _ _ hv.1 hv.2
    · exact Calls.mono hv.2 fun e w'' he => by
        obtain ⟨u, rfl, h1, h2⟩ := he
        exact k _ _ (hG.trans _ _ _ hv.1 h1) h2
    · exact Rows.mono hv.2 fun u w'' he => k _ _ (hG.trans _ _ _ hv.1 he.1) he.2
    · exact hv.elim
  · simp only [hw, Bool.false_eq_true, if_false]; exact k _ _ (hG.refl _) hv
theorem canon2_rep {l : List Oper} {ss : List Yld2} (hl : ss.length = l.length) (u : Nat → Value) (a0 : Act) : ∀ k, k ≤ l.length →
    Rep l (fun j => if j < k then (ss[j]?).map (·.at (u j)) else none) a0 (canon2 u (l.take k) (ss.take k) 0 a0)
  | 0, _ => by
    refine Rep.refl _ _ fun j o _ => ?_
    simp
  | k + 1, hk => by
    have ih := canon2_rep hl u a0 k (by omega)
    have e1 : l.take (k + 1) = l.take k ++ [l[k]'(by omega)] := by rw [List.take_add_one, List.getElem?_eq_getElem (by omega)]; rfl
    have e2 : ss.take (k + 1) = ss.take k ++ [ss[k]'(by omega)] := by rw [List.take_add_one, List.getElem?_eq_getElem (by omega)]; rfl
    rw [e1, e2, canon2_snoc u _ _ _ _ _ _ (by simp; omega)]
    have e3 : 0 + (l.take k).length = k := by simp; omega
    rw [e3]
    refine ih.put (i := k) (List.getElem?_eq_getElem (by omega)) _ ?_ fun j hj => ?_
    · rw [if_pos (by omega), List.getElem?_eq_getElem (by omega)]; rfl
    · by_cases h : j < k
      · rw [if_pos h, if_pos (by omega)]
      · rw [if_neg h, if_neg (by omega)]
theorem wpAny_rw {l : List Oper} (hops : ops = l.toArray) {a0 : Act} (hok : rgOK md l = true) {ss : List Yld2} (hl : ss.length = l.length) (hG : GrowOK G w0) (hss : ∀ (k : Nat) (o : Oper) (s : Yld2), l[k]? = some o → ss[k]? = some s → s.ok G w0 (depsOf md o))
    (hob : ∀ (k : Nat) (o : Oper) (s : Yld2), l[k]? = some o → ss[k]? = some s → ∀ u w, Ext w0 w → holdsAt2 ss u w (depsOf md o) → OutOp2 P ops G (s.V u) o (canon2 u (l.take k) (ss.take k) 0 a0) w)
    (hend : ∀ u w, Ext w0 w → holdsAt2 ss u w (List.range l.length) → Q .normal (canon2 u l ss 0 a0) w) :
    ∀ (fuel : Nat) (listed : Array Bool) (a : Act) (w : World), listed.size = l.length → (List.range l.length).countP (fun j => !listed.getD j false) ≤ fuel → Ext w0 w →
      (∀ j o, l[j]? = some o → listed.getD j false = true → ∀ k ∈ depsOf md o, listed.getD k false = true) →
      (∃ u : Nat → Value, Rep l (fun j => if listed.getD j false = true then some (u j) else none) a0 a ∧ ∀ j s, ss[j]? = some s → listed.getD j false = true → s.V u (u j) w) → wpAny P md ops Q fuel listed a w := by
  obtain ⟨hdist, htop, hlook⟩ := rgOK_spec hok
  have hns : ∀ (j : Nat) (o : Oper) cs b, ops[j]? = some o → o.op ≠ .select cs b := by
    unfold rgOK at hok
    rw [Bool.and_eq_true] at hok
    rw [hops]
    exact Region.noSelect_spec hok.1
  have hget : ∀ j, ops[j]? = l[j]? := fun j => by rw [hops, List.getElem?_toArray]
  have done : ∀ (listed : Array Bool) (a : Act) (w : World), listed.size = l.length → Region.ready md ops listed = [] → Ext w0 w →
      (∃ u : Nat → Value, Rep l (fun j => if listed.getD j false = true then some (u j) else none) a0 a ∧ ∀ j s, ss[j]? = some s → listed.getD j false = true → s.V u (u j) w) → Q .normal a w := by
    intro listed a w hsz hr hw ⟨u, hrep, hV⟩
    have hall : ∀ j, j < l.length → listed.getD j false = true := by
      intro j
      induction j using Nat.strongRecOn with
      | _ j ih =>
        intro hj
        cases hlj : listed.getD j false with
        | true => rfl
        | false =>
          have : j ∈ Region.ready md ops listed := mem_ready.2 ⟨by
            rw [Array.getD_eq_getD_getElem?, Array.getElem?_eq_getElem (by omega)] at hlj ⊢
            exact hlj, l[j], by rw [hget, List.getElem?_eq_getElem hj], fun e he hb => by
            have hlt := htop j l[j] (List.getElem?_eq_getElem hj) e.on (mem_deps.2 ⟨e, he, hb, rfl⟩)
            exact ih e.on hlt (by omega)⟩
          rw [hr] at this; cases this
    have hc := canon2_rep hl u a0 l.length (Nat.le_refl _)
    rw [List.take_length, ← hl, List.take_length] at hc
    have hat : ∀ j s, ss[j]? = some s → s.at (u j) = u j := fun j s hs => by
      have hj : j < l.length := by rw [← hl]; exact (List.getElem?_eq_some_iff.1 hs).1
      exact Yld2.at_eq (hss j _ s (List.getElem?_eq_getElem hj) hs) (hV j s hs (hall j hj))
    have ea : a = canon2 u l ss 0 a0 := by
      have et : a.tmps = (canon2 u l ss 0 a0).tmps := by
        apply Array.ext_getElem?
        intro d
        refine Rep.eq hdist hrep hc d fun j o hj ho => ?_
        have hjl : j < l.length := (List.getElem?_eq_some_iff.1 hj).1
        rw [if_pos (hall j hjl), if_pos (by omega)]
        have hs : ss[j]? = some (ss[j]'(by omega)) := List.getElem?_eq_getElem (by omega)
        rw [hs, Option.map_some, hat j _ hs]
      have ed : a.defers = (canon2 u l ss 0 a0).defers := by rw [hrep.1, hc.1]
      generalize canon2 u l ss 0 a0 = c at *
      cases a; cases c
      simp only at et ed
      subst et ed; rfl
    rw [ea]
    refine hend u w hw (holdsAt2_all fun j hj s hs => hV j s hs (hall j (List.mem_range.1 hj)))
  intro fuel
  induction fuel with
  | zero =>
    intro listed a w hsz hcnt hw hcl hu
    have hr : Region.ready md ops listed = [] := by
      cases hr : Region.ready md ops listed with
      | nil => rfl
      | cons j js =>
        have hj : j ∈ Region.ready md ops listed := by rw [hr]; simp
        obtain ⟨h1, o, h2, _⟩ := mem_ready.1 hj
        rw [hget] at h2
        have hjl : j < l.length := (List.getElem?_eq_some_iff.1 h2).1
        have := (List.countP_pos_iff (p := fun j => !listed.getD j false) (l := List.range l.length)).2 ⟨j, List.mem_range.2 hjl, by
          rw [Array.getD_eq_getD_getElem?, Array.getElem?_eq_getElem (by omega)] at h1 ⊢
          simpa using h1⟩
        omega
    exact ⟨hr, done listed a w hsz hr hw hu⟩
  | succ fuel ih =>
    intro listed a w hsz hcnt hw hcl hu
    refine ⟨fun hr => done listed a w hsz hr hw hu, fun i hi => ?_⟩
    obtain ⟨u, hrep, hV⟩ := hu
    obtain ⟨hun, o, ho, hdeps⟩ := mem_ready.1 hi
    have hol : l[i]? = some o := by rw [← hget]; exact ho
    have hil : i < l.length := (List.getElem?_eq_some_iff.1 hol).1
    have hun' : listed.getD i false = false := by
      rw [Array.getD_eq_getD_getElem?, Array.getElem?_eq_getElem (by omega)] at hun ⊢
      exact hun
    have hs : ss[i]? = some (ss[i]'(by omega)) := List.getElem?_eq_getElem (by omega)
    have hd : ∀ j ∈ depsOf md o, listed.getD j false = true := fun j hj => by
      obtain ⟨e, he, hb, rfl⟩ := mem_deps.1 hj
      exact hdeps e he hb
    have h1 := hob i o _ hol hs u w hw (holdsAt2_all fun j hj s hsj => hV j s hsj (hd j hj))
    have hc := canon2_rep hl u a0 i (Nat.le_of_lt hil)
    have hagree : ∀ d ∈ o.looksAt ops, a.tmps[d]? = (canon2 u (l.take i) (ss.take i) 0 a0).tmps[d]? := fun d hdl => by
      refine Rep.eq hdist hrep hc d fun j p hj hp => ?_
      have hjl : j < l.length := (List.getElem?_eq_some_iff.1 hj).1
      rw [hops] at hdl
      rcases hlook i j o p d hol hj hp hdl with rfl | hji | hij
      · rw [if_neg (by rw [hun']; simp), if_neg (by omega)]
      · have hsj : ss[j]? = some (ss[j]'(by omega)) := List.getElem?_eq_getElem (by omega)
        rw [if_pos (hd j hji), if_pos (htop i o hol j hji), hsj, Option.map_some, Yld2.at_eq (hss j _ _ (List.getElem?_eq_getElem hjl) hsj) (hV j _ hsj (hd j hji))]
      · have hlt := htop j p hj i hij
        have : listed.getD j false = false := by
          cases hlj : listed.getD j false with
          | false => rfl
          | true => have := hcl j p hj hlj i hij; rw [hun'] at this; cases this
        rw [if_neg (by rw [this]; simp), if_neg (by omega)]
    have h2 : OutOp2 P ops G ((ss[i]'(by omega)).V u) o a w := by
      unfold OutOp2 at h1 ⊢
      rw [wanted_same hagree, exec_same (hns i o · · ho) hagree]
      exact h1
    refine h2.wpOp hG ho fun x w' hx hv => ih _ _ _ (by simpa using hsz) ?_ (hG.base _ _ hw hx) (fun j p hj hlj k hk => ?_) ⟨fun j => if j = i then x else u j, ?_, fun j s hsj hlj => ?_⟩
    · have hlt := countP_lt (p := fun j => !listed.getD j false) (q := fun j => !(listed.setIfInBounds i true).getD j false) (i := i) (by rw [hun']; rfl) (by rw [getD_set (by omega)]; simp) (fun j hj => by
        rw [getD_set (by omega)] at hj
        by_cases e : j = i
        · simp [e] at hj
        · rw [if_neg e] at hj; exact hj) (List.mem_range.2 hil)
      omega
    · rw [getD_set (by omega)] at hlj ⊢
      split
      · rfl
      · by_cases e : j = i
        · subst e
          rw [hol] at hj; cases hj
          exact hd k hk
        · rw [if_neg e] at hlj; exact hcl j p hj hlj k hk
    · refine hrep.put hol x ?_ fun j hj => ?_
      · simp only [getD_set (show i < listed.size by omega), if_true]
      · simp only [getD_set (show i < listed.size by omega), if_neg hj]
    · rw [getD_set (by omega)] at hlj
      by_cases e : j = i
      · subst e
        rw [hs] at hsj; cases hsj
        refine (hss j o _ hol hs).cong u _ _ _ (fun k hk => ?_) (by simp only [if_true]; exact hv)
        have := htop j o hol k hk
        simp only [if_neg (show ¬ k = j by omega)]
      · rw [if_neg e] at hlj
        have hjl : j < l.length := by rw [← hl]; exact (List.getElem?_eq_some_iff.1 hsj).1
        have hpj : l[j]? = some (l[j]'hjl) := List.getElem?_eq_getElem hjl
        have hst := (hss j _ s hpj hsj).stay _ _ _ _ hw (hV j s hsj hlj) hx
        refine (hss j _ s hpj hsj).cong u _ _ _ (fun k hk => ?_) (by simp only [if_neg e]; exact hst)
        have hk' := hcl j _ hpj hlj k hk
        have : ¬ k = i := fun h => by rw [h, hun'] at hk'; cases hk'
        simp only [if_neg this]
theorem wp_region_rw {id : Nat} {l : List Oper} {a : Act} {w : World} (G : World → World → Prop) (w0 : World) (hG : GrowOK G w0) (hm : P.follows .mixedOrders = true) (hok : rgOK .any l = true) (hw : Ext w0 w)
    (h : goW P l.toArray Q .any G w0 l 0 [] (fun _ => a)) : (Code.region id l.toArray true).wp P Q a w := by
  obtain ⟨ss, h1, h2, h3, h4⟩ := goW_spec l 0 [] _ h
  simp only [List.nil_append, Nat.zero_add] at h3 h4
  refine wp_region_any hm (wpAny_rw rfl hok h1 hG h2 h3 h4 _ _ _ _ (by simp) ?_ hw.drew (fun j o _ hj => ?_) ⟨fun _ => undef, ?_, fun j s _ hj => ?_⟩)
  · refine Nat.le_trans List.countP_le_length ?_
    simp
  · rw [Array.getD_eq_getD_getElem?, Array.getElem?_replicate] at hj
    split at hj <;> simp at hj
  · refine Rep.refl _ _ fun j o _ => ?_
    simp only
    rw [if_neg]
    rw [Array.getD_eq_getD_getElem?, Array.getElem?_replicate]
    split <;> simp
  · rw [Array.getD_eq_getD_getElem?, Array.getElem?_replicate] at hj
    split at hj <;> simp at hj
theorem goW_val {o : Oper} {rest : List Oper} {i : Nat} {plan : List Yld2} {A : (Nat → Value) → Act} (hG : GrowOK G w0) (v : Value) (hw : ∀ u, Region.wanted o (yielded ops (A u).tmps) = true)
    (h : ∀ u w, Ext w0 w → holdsAt2 plan u w (depsOf md o) → (execOp (A u).eval o).run P w = .ok (.value v) w) (k : goW P ops Q md G w0 rest (i + 1) (plan ++ [.val v]) (fun u => (A u).put o.dst v)) : goW P ops Q md G w0 (o :: rest) i plan A :=
  ⟨.val v, Yld2.val_ok v, fun u w hx hh => .inl ⟨hw u, by rw [h u w hx hh]; exact ⟨hG.refl _, rfl⟩⟩, k⟩
theorem goW_skip {o : Oper} {rest : List Oper} {i : Nat} {plan : List Yld2} {A : (Nat → Value) → Act} (hw : ∀ u, Region.wanted o (yielded ops (A u).tmps) = false)
    (k : goW P ops Q md G w0 rest (i + 1) (plan ++ [.val undef]) (fun u => (A u).put o.dst undef)) : goW P ops Q md G w0 (o :: rest) i plan A :=
  ⟨.val undef, Yld2.val_ok _, fun u w hx hh => .inr ⟨hw u, rfl⟩, k⟩
theorem goW_call {o : Oper} {rest : List Oper} {i : Nat} {plan : List Yld2} {A : (Nat → Value) → Act} {f : FuncId} {args : Array Value} {v : Value} (hG : GrowOK G w0) (hw : ∀ u, Region.wanted o (yielded ops (A u).tmps) = true)
    (hc : ∀ w, Ext w0 w → Calls P f args w fun e w' => e = .returned v ∧ Ext w w')
    (h : ∀ u w, Ext w0 w → holdsAt2 plan u w (depsOf md o) → (execOp (A u).eval o).run P w = .ok (.enter f args) w) (k : goW P ops Q md G w0 rest (i + 1) (plan ++ [.val v]) (fun u => (A u).put o.dst v)) : goW P ops Q md G w0 (o :: rest) i plan A :=
  ⟨.val v, Yld2.val_ok v, fun u w hx hh => .inl ⟨hw u, by rw [h u w hx hh]; exact ⟨hG.refl _, (hc w hx).mono fun e w' he => ⟨v, he.1, hG.ofExt _ _ hx he.2, rfl⟩⟩⟩, k⟩
theorem goW_rel {o : Oper} {rest : List Oper} {i : Nat} {plan : List Yld2} {A : (Nat → Value) → Act} (V : (Nat → Value) → Value → World → Prop) (hV : (Yld2.rel V).ok G w0 (depsOf md o)) (hw : ∀ u, Region.wanted o (yielded ops (A u).tmps) = true)
    (h : ∀ u w, Ext w0 w → holdsAt2 plan u w (depsOf md o) → OutV2 P G w (V u) ((execOp (A u).eval o).run P w)) (k : goW P ops Q md G w0 rest (i + 1) (plan ++ [.rel V]) (fun u => (A u).put o.dst (u i))) : goW P ops Q md G w0 (o :: rest) i plan A :=
  ⟨.rel V, hV, fun u w hx hh => .inl ⟨hw u, h u w hx hh⟩, k⟩
end
end Go.Proofs.YtbbdcodhgbgekaaGreatDoor
