/-
  Several texts joined: Rg.
-/
import Derived.OrdersHeld
import Derived.Tactics
import Derived.KernelRfl
import Derived.ProofKit
import Derived.Test.YtpdoddelnahlnaaGreatDoorK01
/-
  A region that draws its order, in which every operation only adds to the world (a load of what stays, arithmetic, a call that changes nothing that was there, a new block):
  whatever the order, what each one yields meets its own condition, and the region ends as if the operations came as they are written.
-/
set_option linter.unusedSimpArgs false
set_option linter.unusedVariables false
namespace Go.Proofs.YtpdoddelnahlnaaGreatDoor
/-- what an operation yields: one value, or any that meets a condition which growth keeps -/
structure Yld where
  pv : Option Value
  V : Value → World → Prop
def Yld.val (v : Value) : Yld := ⟨some v, fun u _ => u = v⟩
def Yld.rel (V : Value → World → Prop) : Yld := ⟨none, V⟩
structure Yld.ok (s : Yld) : Prop where
  stay : ∀ u w w', s.V u w → Ext w w' → s.V u w'
  pure : ∀ v u w, s.pv = some v → s.V u w → u = v
theorem Yld.val_ok (v : Value) : (Yld.val v).ok := ⟨fun u w w' h _ => h, fun x u w h k => by cases h; exact k⟩
theorem Yld.rel_ok {V : Value → World → Prop} (h : ∀ u w w', V u w → Ext w w' → V u w') : (Yld.rel V).ok := ⟨h, fun x u w h _ => by cases h⟩
def Yld.at (s : Yld) (x : Value) : Value := s.pv.getD x
theorem Yld.at_eq {s : Yld} (h : s.ok) {x : Value} {w : World} (hx : s.V x w) : s.at x = x := by
  unfold Yld.at
  cases hp : s.pv with
  | none => rfl
  | some v => exact (h.pure v x w hp hx).symm
def holdsAt (plan : List Yld) (u : Nat → Value) (w : World) : List Nat → Prop
  | [] => True
  | j :: js => (match plan[j]? with
    | some ⟨none, V⟩ => V (u j) w
    | _ => True) ∧ holdsAt plan u w js
theorem holdsAt_weak {p q : List Yld} {u : Nat → Value} {w : World} : ∀ {js : List Nat}, holdsAt (p ++ q) u w js → holdsAt p u w js
  | [], _ => trivial
  | j :: js, h => by
    refine ⟨?_, holdsAt_weak h.2⟩
    have h1 := h.1
    rcases Nat.lt_or_ge j p.length with hj | hj
    · rw [List.getElem?_append_left hj] at h1; exact h1
    · rw [List.getElem?_eq_none hj]; trivial
theorem holdsAt_all {p : List Yld} {u : Nat → Value} {w : World} : ∀ {js : List Nat}, (∀ j ∈ js, ∀ s, p[j]? = some s → s.V (u j) w) → holdsAt p u w js
  | [], _ => trivial
  | j :: js, h => by
    refine ⟨?_, holdsAt_all fun i hi => h i (by simp [hi])⟩
    have := h j (by simp)
    split
    · rename_i V e; exact this _ e
    · trivial
def depsOf (md : Region.Mode) (o : Oper) : List Nat := (o.after.toList.filter (Region.binds md)).map (·.on)
theorem mem_deps {md : Region.Mode} {o : Oper} {j : Nat} : j ∈ depsOf md o ↔ ∃ e ∈ o.after, Region.binds md e = true ∧ e.on = j := by
  unfold depsOf
  simp only [List.mem_map, List.mem_filter, Array.mem_toList_iff]
  exact ⟨fun ⟨e, ⟨h1, h2⟩, h3⟩ => ⟨e, h1, h2, h3⟩, fun ⟨e, h1, h2, h3⟩ => ⟨e, ⟨h1, h2⟩, h3⟩⟩
def OutV (P : Program) (w : World) (V : Value → World → Prop) : Result Next → Prop
  | .ok (.value u) w' => Ext w w' ∧ V u w'
  | .ok (.enter f args) w' => Ext w w' ∧ Calls P f args w' fun e w'' => ∃ u, e = .returned u ∧ Ext w' w'' ∧ V u w''
  | .ok (.row row args) w' => Ext w w' ∧ Rows P row args w' fun u w'' => Ext w' w'' ∧ V u w''
  | _ => False
def OutOp (P : Program) (ops : Array Oper) (V : Value → World → Prop) (o : Oper) (a : Act) (w : World) : Prop :=
  (Region.wanted o (yielded ops a.tmps) = true ∧ OutV P w V ((execOp a.eval o).run P w)) ∨ (Region.wanted o (yielded ops a.tmps) = false ∧ V undef w)
/-- the walk: one operation after the other -/
def goV (P : Program) (ops : Array Oper) (Q : Exit → Act → World → Prop) (md : Region.Mode) (w0 : World) : List Oper → Nat → List Yld → ((Nat → Value) → Act) → Prop
  | [], i, plan, A => ∀ u w, Ext w0 w → holdsAt plan u w (List.range i) → Q .normal (A u) w
  | o :: rest, i, plan, A => ∃ s : Yld, s.ok ∧ (∀ u w, Ext w0 w → holdsAt plan u w (depsOf md o) → OutOp P ops s.V o (A u) w) ∧
      goV P ops Q md w0 rest (i + 1) (plan ++ [s]) (fun u => (A u).put o.dst (s.at (u i)))
def canon (u : Nat → Value) : List Oper → List Yld → Nat → Act → Act
  | o :: l, s :: ss, i, a => canon u l ss (i + 1) (a.put o.dst (s.at (u i)))
  | _, _, _, a => a
theorem canon_snoc (u : Nat → Value) (o : Oper) (s : Yld) : ∀ (l : List Oper) (ss : List Yld) (i : Nat) (a : Act), l.length = ss.length → canon u (l ++ [o]) (ss ++ [s]) i a = (canon u l ss i a).put o.dst (s.at (u (i + l.length)))
  | [], [], i, a, _ => rfl
  | [], _ :: _, _, _, h => by simp at h
  | _ :: _, [], _, _, h => by simp at h
  | x :: l, y :: ss, i, a, h => by
    rw [List.cons_append, List.cons_append, canon, canon, canon_snoc u o s l ss (i + 1) _ (by simpa using h), List.length_cons, show i + 1 + l.length = i + (l.length + 1) by omega]
section
variable {P : Program} {ops : Array Oper} {Q : Exit → Act → World → Prop} {md : Region.Mode} {w0 : World}
theorem goV_spec : ∀ (l : List Oper) (i : Nat) (plan : List Yld) (A : (Nat → Value) → Act), goV P ops Q md w0 l i plan A → ∃ ss : List Yld, ss.length = l.length ∧ (∀ s ∈ ss, s.ok) ∧
    (∀ (k : Nat) (o : Oper) (s : Yld), l[k]? = some o → ss[k]? = some s → ∀ u w, Ext w0 w → holdsAt (plan ++ ss) u w (depsOf md o) → OutOp P ops s.V o (canon u (l.take k) (ss.take k) i (A u)) w) ∧
    (∀ u w, Ext w0 w → holdsAt (plan ++ ss) u w (List.range (i + l.length)) → Q .normal (canon u l ss i (A u)) w)
  | [], i, plan, A, h => by
    refine ⟨[], rfl, fun s hs => (by cases hs), fun k o s hk => (by simp at hk), fun u w hw hh => ?_⟩
    rw [List.append_nil] at hh
    exact h u w hw hh
  | o :: l, i, plan, A, h => by
    obtain ⟨s, hs, h1, h2⟩ := h
    obtain ⟨ss, e1, e2, e3, e4⟩ := goV_spec l (i + 1) (plan ++ [s]) _ h2
    have ea : plan ++ s :: ss = plan ++ [s] ++ ss := by simp
    refine ⟨s :: ss, by simp [e1], fun x hx => ?_, fun k o' s' hk hk' u w hw hh => ?_, fun u w hw hh => ?_⟩
    · rcases List.mem_cons.1 hx with rfl | hx
      · exact hs
      · exact e2 x hx
    · cases k with
      | zero =>
        simp only [List.getElem?_cons_zero, Option.some.injEq] at hk hk'
        subst hk hk'
        exact h1 u w hw (holdsAt_weak hh)
      | succ k =>
        rw [List.getElem?_cons_succ] at hk hk'
        rw [ea] at hh
        exact e3 k o' s' hk hk' u w hw hh
    · rw [ea, show i + (o :: l).length = i + 1 + l.length by rw [List.length_cons]; omega] at hh
      exact e4 u w hw hh
/-- what the slots hold: of the operations that 'sel' names their values, of the others what they held -/
def Rep (l : List Oper) (sel : Nat → Option Value) (a0 a : Act) : Prop :=
  a.defers = a0.defers ∧ a.tmps.size = a0.tmps.size ∧
  ∀ d, (∃ j o v, l[j]? = some o ∧ o.dst = some d ∧ sel j = some v ∧ a.tmps[d]? = if d < a0.tmps.size then some v else none) ∨
    ((∀ j o, l[j]? = some o → o.dst = some d → sel j = none) ∧ a.tmps[d]? = a0.tmps[d]?)
theorem Rep.refl (l : List Oper) (a0 : Act) {sel : Nat → Option Value} (h : ∀ j o, l[j]? = some o → sel j = none) : Rep l sel a0 a0 := ⟨rfl, rfl, fun d => .inr ⟨fun j o hj _ => h j o hj, rfl⟩⟩
theorem Rep.put {l : List Oper} {sel sel' : Nat → Option Value} {a0 a : Act} (h : Rep l sel a0 a) {i : Nat} {o : Oper} (hi : l[i]? = some o) (v : Value)
    (h1 : sel' i = some v) (h2 : ∀ j, j ≠ i → sel' j = sel j) : Rep l sel' a0 (a.put o.dst v) := by
  obtain ⟨r1, r2, r3⟩ := h
  cases hd : o.dst with
  | none =>
    refine ⟨r1, r2, fun d => ?_⟩
    rcases r3 d with ⟨j, p, x, k1, k2, k3, k4⟩ | ⟨k1, k2⟩
    · exact .inl ⟨j, p, x, k1, k2, by rw [h2 j (fun e => by subst e; rw [hi] at k1; cases k1; rw [hd] at k2; cases k2)]; exact k3, k4⟩
    · exact .inr ⟨fun j p hj hp => by rw [h2 j (fun e => by subst e; rw [hi] at hj; cases hj; rw [hd] at hp; cases hp)]; exact k1 j p hj hp, k2⟩
  | some e =>
    refine ⟨r1, by simpa [Act.put] using r2, fun d => ?_⟩
    by_cases hde : d = e
    · subst hde
      refine .inl ⟨i, o, v, hi, hd, h1, ?_⟩
      simp only [Act.put, Array.getElem?_setIfInBounds, if_true, r2]
    · have e1 : (a.put (some e) v).tmps[d]? = a.tmps[d]? := by simp only [Act.put, Array.getElem?_setIfInBounds_ne (Ne.symm hde)]
      rw [e1]
      rcases r3 d with ⟨j, p, x, k1, k2, k3, k4⟩ | ⟨k1, k2⟩
      · exact .inl ⟨j, p, x, k1, k2, by rw [h2 j (fun q => by subst q; rw [hi] at k1; cases k1; rw [hd] at k2; cases k2; exact hde rfl)]; exact k3, k4⟩
      · exact .inr ⟨fun j p hj hp => by rw [h2 j (fun q => by subst q; rw [hi] at hj; cases hj; rw [hd] at hp; cases hp; exact hde rfl)]; exact k1 j p hj hp, k2⟩
theorem Rep.eq {l : List Oper} {sel sel' : Nat → Option Value} {a0 a a' : Act} (hdist : ∀ (i j : Nat) (o p : Oper) (d : Tmp), l[i]? = some o → l[j]? = some p → o.dst = some d → p.dst = some d → i = j)
    (h : Rep l sel a0 a) (h' : Rep l sel' a0 a') (d : Nat) (hs : ∀ j o, l[j]? = some o → o.dst = some d → sel j = sel' j) : a.tmps[d]? = a'.tmps[d]? := by
  rcases h.2.2 d with ⟨j, p, x, k1, k2, k3, k4⟩ | ⟨k1, k2⟩
  · rcases h'.2.2 d with ⟨j', p', x', k1', k2', k3', k4'⟩ | ⟨k1', k2'⟩
    · obtain rfl := hdist j j' p p' d k1 k1' k2 k2'
      rw [hs j p k1 k2, k3'] at k3
      cases k3
      rw [k4, k4']
    · have := k1' j p k1 k2
      rw [← hs j p k1 k2, k3] at this; cases this
  · rcases h'.2.2 d with ⟨j', p', x', k1', k2', k3', k4'⟩ | ⟨k1', k2'⟩
    · have := k1 j' p' k1' k2'
      rw [hs j' p' k1' k2', k3'] at this; cases this
    · rw [k2, k2']
theorem exec_same {o : Oper} (hs : ∀ cs b, o.op ≠ .select cs b) {a a' : Act} (h : ∀ d ∈ o.looksAt ops, a.tmps[d]? = a'.tmps[d]?) : execOp a.eval o = execOp a'.eval o :=
  execOp_congr o hs fun x hx => by
    cases x with
    | tmp t =>
      have := h t (List.mem_append_left _ (List.mem_filterMap.2 ⟨.tmp t, by simpa using hx, rfl⟩))
      simp [Act.eval, this]
    | _ => rfl
theorem wanted_same {o : Oper} {a a' : Act} (h : ∀ d ∈ o.looksAt ops, a.tmps[d]? = a'.tmps[d]?) : Region.wanted o (yielded ops a.tmps) = Region.wanted o (yielded ops a'.tmps) := by
  unfold Region.wanted
  cases hg : o.guard with
  | none => rfl
  | some gw =>
    obtain ⟨g, want⟩ := gw
    have hy : yielded ops a.tmps g = yielded ops a'.tmps g := by
      unfold yielded
      cases ht : (ops[g]?).bind (·.dst) with
      | none => rfl
      | some t =>
        have := h t (by simp [Oper.looksAt, hg, ht])
        simp [this]
    simp only [hy]
theorem OutOp.wpOp {V : Value → World → Prop} {i : Nat} {o : Oper} {a : Act} {w : World} (hi : ops[i]? = some o) (h : OutOp P ops V o a w) {K : Act → World → Prop}
    (k : ∀ u w', Ext w w' → V u w' → K (a.put o.dst u) w') : wpOp P ops Q i K a w := by
  unfold Go.wpOp
  simp only [hi]
  rcases h with ⟨hw, hv⟩ | ⟨hw, hv⟩
  · simp only [hw, if_true, Oper.wp]
    left
    generalize (execOp a.eval o).run P w = r at *
    unfold OutV at hv
    split at hv
    · exact k _ _ hv.1 hv.2
    · exact Calls.mono hv.2 fun e w'' he => by
        obtain ⟨u, rfl, h1, h2⟩ := he
        exact k _ _ (hv.1.trans h1) h2
    · exact Rows.mono hv.2 fun u w'' he => k _ _ (hv.1.trans he.1) he.2
    · exact hv.elim
  · simp only [hw, Bool.false_eq_true, if_false]; exact k _ _ (Ext.refl _) hv
theorem countP_lt {p q : Nat → Bool} {i : Nat} (hp : p i = true) (hq : q i = false) (h : ∀ j, q j = true → p j = true) : ∀ {l : List Nat}, i ∈ l → l.countP q < l.countP p
  | [], hi => by cases hi
  | x :: l, hi => by
    have hle : l.countP q ≤ l.countP p := List.countP_mono_left fun j _ hj => h j hj
    by_cases hx : x = i
    · subst hx
      rw [List.countP_cons_of_pos hp, List.countP_cons_of_neg (by simp [hq])]; omega
    · have := countP_lt hp hq h (l := l) ((List.mem_cons.1 hi).resolve_left (fun e => hx e.symm))
      simp only [List.countP_cons]
      cases hqx : q x with
      | true => simp [h x hqx]; exact this
      | false => cases p x <;> simp <;> omega
/-- the look at the region -/
def rgOK (md : Region.Mode) (l : List Oper) : Bool :=
  Region.noSelect l.toArray && (List.range l.length).all fun i => match l[i]? with
    | none => true
    | some o => (depsOf md o).all (fun j => decide (j < i)) && (List.range l.length).all fun j => i == j || match l[j]? with
      | none => true
      | some p => match p.dst with
        | none => true
        | some d => o.dst != some d && (!(o.looksAt l.toArray).contains d || (depsOf md o).contains j || (depsOf md p).contains i)
theorem rgOK_spec {l : List Oper} (h : rgOK md l = true) : (∀ (i j : Nat) (o p : Oper) (d : Tmp), l[i]? = some o → l[j]? = some p → o.dst = some d → p.dst = some d → i = j) ∧ (∀ (i : Nat) (o : Oper), l[i]? = some o → ∀ j ∈ depsOf md o, j < i) ∧
    (∀ (i j : Nat) (o p : Oper) (d : Tmp), l[i]? = some o → l[j]? = some p → p.dst = some d → d ∈ o.looksAt l.toArray → i = j ∨ j ∈ depsOf md o ∨ i ∈ depsOf md p) := by
  unfold rgOK at h
  rw [Bool.and_eq_true, List.all_eq_true] at h
  have hh : ∀ (i : Nat) (o : Oper), l[i]? = some o → (∀ j ∈ depsOf md o, j < i) ∧ ∀ (j : Nat) (p : Oper) (d : Tmp), l[j]? = some p → p.dst = some d → i = j ∨ (o.dst ≠ some d ∧ (d ∉ o.looksAt l.toArray ∨ j ∈ depsOf md o ∨ i ∈ depsOf md p)) := by
    intro i o hi
    have := h.2 i (List.mem_range.2 (List.getElem?_eq_some_iff.1 hi).1)
    rw [hi] at this
    simp only [Bool.and_eq_true, List.all_eq_true, decide_eq_true_eq] at this
    refine ⟨this.1, fun j p d hj hd => ?_⟩
    have h2 := this.2 j (List.mem_range.2 (List.getElem?_eq_some_iff.1 hj).1)
    rw [hj] at h2
    simp only [hd, Bool.or_eq_true, beq_iff_eq, Bool.and_eq_true, bne_iff_ne, Bool.not_eq_true', List.contains_eq_mem, decide_eq_true_eq, decide_eq_false_iff_not] at h2
    rcases h2 with h2 | ⟨h2, h3⟩
    · exact .inl h2
    · refine .inr ⟨h2, ?_⟩
      rcases h3 with (h3 | h3) | h3
      · exact .inl h3
      · exact .inr (.inl h3)
      · exact .inr (.inr h3)
  refine ⟨fun i j o p d hi hj ho hp => ?_, fun i o hi => (hh i o hi).1, fun i j o p d hi hj hp hd => ?_⟩
  · rcases (hh i o hi).2 j p d hj hp with e | ⟨e, _⟩
    · exact e
    · exact absurd ho e
  · rcases (hh i o hi).2 j p d hj hp with e | ⟨_, e | e⟩
    · exact .inl e
    · exact absurd hd e
    · exact .inr e
theorem canon_rep {l : List Oper} {ss : List Yld} (hl : ss.length = l.length) (u : Nat → Value) (a0 : Act) : ∀ k, k ≤ l.length →
    Rep l (fun j => if j < k then (ss[j]?).map (·.at (u j)) else none) a0 (canon u (l.take k) (ss.take k) 0 a0)
  | 0, _ => by
    refine Rep.refl _ _ fun j o _ => ?_
    simp
  | k + 1, hk => by
    have ih := canon_rep hl u a0 k (by omega)
    have e1 : l.take (k + 1) = l.take k ++ [l[k]'(by omega)] := by rw [List.take_add_one, List.getElem?_eq_getElem (by omega)]; rfl
    have e2 : ss.take (k + 1) = ss.take k ++ [ss[k]'(by omega)] := by rw [List.take_add_one, List.getElem?_eq_getElem (by omega)]; rfl
    rw [e1, e2, canon_snoc u _ _ _ _ _ _ (by simp; omega)]
    have e3 : 0 + (l.take k).length = k := by simp; omega
    rw [e3]
    refine ih.put (i := k) (List.getElem?_eq_getElem (by omega)) _ ?_ fun j hj => ?_
    · rw [if_pos (by omega), List.getElem?_eq_getElem (by omega)]; rfl
    · by_cases h : j < k
      · rw [if_pos h, if_pos (by omega)]
      · rw [if_neg h, if_neg (by omega)]
theorem getD_set {listed : Array Bool} {i j : Nat} (hi : i < listed.size) : (listed.setIfInBounds i true).getD j false = if j = i then true else listed.getD j false := by
  rw [Array.getD_eq_getD_getElem?, Array.getElem?_setIfInBounds, Array.getD_eq_getD_getElem?]
  by_cases h : i = j
  · subst h; simp [hi]
  · rw [if_neg h, if_neg (fun e => h e.symm)]
theorem wpAny_rg {l : List Oper} (hops : ops = l.toArray) {a0 : Act} (hok : rgOK md l = true) {ss : List Yld} (hl : ss.length = l.length) (hss : ∀ s ∈ ss, s.ok)
    (hob : ∀ (k : Nat) (o : Oper) (s : Yld), l[k]? = some o → ss[k]? = some s → ∀ u w, Ext w0 w → holdsAt ss u w (depsOf md o) → OutOp P ops s.V o (canon u (l.take k) (ss.take k) 0 a0) w)
    (hend : ∀ u w, Ext w0 w → holdsAt ss u w (List.range l.length) → Q .normal (canon u l ss 0 a0) w) :
    ∀ (fuel : Nat) (listed : Array Bool) (a : Act) (w : World), listed.size = l.length → (List.range l.length).countP (fun j => !listed.getD j false) ≤ fuel → Ext w0 w →
      (∀ j o, l[j]? = some o → listed.getD j false = true → ∀ k ∈ depsOf md o, listed.getD k false = true) →
      (∃ u : Nat → Value, Rep l (fun j => if listed.getD j false = true then some (u j) else none) a0 a ∧ ∀ j s, ss[j]? = some s → listed.getD j false = true → s.V (u j) w) → wpAny P md ops Q fuel listed a w := by
  obtain ⟨hdist, htop, hlook⟩ := rgOK_spec hok
  have hns : ∀ (j : Nat) (o : Oper) cs b, ops[j]? = some o → o.op ≠ .select cs b := by
    unfold rgOK at hok
    rw [Bool.and_eq_true] at hok
    rw [hops]
    exact Region.noSelect_spec hok.1
  have hget : ∀ j, ops[j]? = l[j]? := fun j => by rw [hops, List.getElem?_toArray]
  have done : ∀ (listed : Array Bool) (a : Act) (w : World), listed.size = l.length → Region.ready md ops listed = [] → Ext w0 w →
      (∃ u : Nat → Value, Rep l (fun j => if listed.getD j false = true then some (u j) else none) a0 a ∧ ∀ j s, ss[j]? = some s → listed.getD j false = true → s.V (u j) w) → Q .normal a w := by
    intro listed a w hsz hr hw ⟨u, hrep, hV⟩
    have hall : ∀ j, j < l.length → listed.getD j false = true := by
      intro j
      induction j using Nat.strongRecOn with
      | _ j ih =>
        intro hj
        cases hlj : listed.getD j false with
        | true => rfl
        | false =>
          have : j ∈ Region.ready md ops listed := mem_ready.2 ⟨by
            rw [Array.getD_eq_getD_getElem?, Array.getElem?_eq_getElem (by omega)] at hlj ⊢
            exact hlj, l[j], by rw [hget, List.getElem?_eq_getElem hj], fun e he hb => by
            have hlt := htop j l[j] (List.getElem?_eq_getElem hj) e.on (mem_deps.2 ⟨e, he, hb, rfl⟩)
            exact ih e.on hlt (by omega)⟩
          rw [hr] at this; cases this
    have hc := canon_rep hl u a0 l.length (Nat.le_refl _)
    rw [List.take_length, ← hl, List.take_length] at hc
    have hat : ∀ j s, ss[j]? = some s → s.at (u j) = u j := fun j s hs => by
      have hj : j < l.length := by rw [← hl]; exact (List.getElem?_eq_some_iff.1 hs).1
      exact Yld.at_eq (hss s (List.mem_of_getElem? hs)) (hV j s hs (hall j hj))
    have ea : a = canon u l ss 0 a0 := by
      have et : a.tmps = (canon u l ss 0 a0).tmps := by
        apply Array.ext_getElem?
        intro d
        refine Rep.eq hdist hrep hc d fun j o hj ho => ?_
        have hjl : j < l.length := (List.getElem?_eq_some_iff.1 hj).1
        rw [if_pos (hall j hjl), if_pos (by omega)]
        have hs : ss[j]? = some (ss[j]'(by omega)) := List.getElem?_eq_getElem (by omega)
        rw [hs, Option.map_some, hat j _ hs]
      have ed : a.defers = (canon u l ss 0 a0).defers := by rw [hrep.1, hc.1]
      generalize canon u l ss 0 a0 = c at *
      cases a; cases c
      simp only at et ed
      subst et ed; rfl
    rw [ea]
    refine hend u w hw (holdsAt_all fun j hj s hs => hV j s hs (hall j (List.mem_range.1 hj)))
  intro fuel
  induction fuel with
  | zero =>
    intro listed a w hsz hcnt hw hcl hu
    have hr : Region.ready md ops listed = [] := by
      cases hr : Region.ready md ops listed with
      | nil => rfl
      | cons j js =>
        have hj : j ∈ Region.ready md ops listed := by rw [hr]; simp
        obtain ⟨h1, o, h2, _⟩ := mem_ready.1 hj
        rw [hget] at h2
        have hjl : j < l.length := (List.getElem?_eq_some_iff.1 h2).1
        have := (List.countP_pos_iff (p := fun j => !listed.getD j false) (l := List.range l.length)).2 ⟨j, List.mem_range.2 hjl, by
          rw [Array.getD_eq_getD_getElem?, Array.getElem?_eq_getElem (by omega)] at h1 ⊢
          simpa using h1⟩
        omega
    exact ⟨hr, done listed a w hsz hr hw hu⟩
  | succ fuel ih =>
    intro listed a w hsz hcnt hw hcl hu
    refine ⟨fun hr => done listed a w hsz hr hw hu, fun i hi => ?_⟩
    obtain ⟨u, hrep, hV⟩ := hu
    obtain ⟨hun, o, ho, hdeps⟩ := mem_ready.1 hi
    have hol : l[i]? = some o := by rw [← hget]; exact ho
    have hil : i < l.length := (List.getElem?_eq_some_iff.1 hol).1
    have hun' : listed.getD i false = false := by
      rw [Array.getD_eq_getD_getElem?, Array.getElem?_eq_getElem (by omega)] at hun ⊢
      exact hun
    have hs : ss[i]? = some (ss[i]'(by omega)) := List.getElem?_eq_getElem (by omega)
    have hd : ∀ j ∈ depsOf md o, listed.getD j false = true := fun j hj => by
      obtain ⟨e, he, hb, rfl⟩ := mem_deps.1 hj
      exact hdeps e he hb
    have h1 := hob i o _ hol hs u w hw (holdsAt_all fun j hj s hsj => hV j s hsj (hd j hj))
    have hc := canon_rep hl u a0 i (Nat.le_of_lt hil)
    have hagree : ∀ d ∈ o.looksAt ops, a.tmps[d]? = (canon u (l.take i) (ss.take i) 0 a0).tmps[d]? := fun d hdl => by
      refine Rep.eq hdist hrep hc d fun j p hj hp => ?_
      have hjl : j < l.length := (List.getElem?_eq_some_iff.1 hj).1
      rw [hops] at hdl
      rcases hlook i j o p d hol hj hp hdl with rfl | hji | hij
      · rw [if_neg (by rw [hun']; simp), if_neg (by omega)]
      · have hsj : ss[j]? = some (ss[j]'(by omega)) := List.getElem?_eq_getElem (by omega)
        rw [if_pos (hd j hji), if_pos (htop i o hol j hji), hsj, Option.map_some, Yld.at_eq (hss _ (List.getElem_mem _)) (hV j _ hsj (hd j hji))]
      · have hlt := htop j p hj i hij
        have : listed.getD j false = false := by
          cases hlj : listed.getD j false with
          | false => rfl
          | true => have := hcl j p hj hlj i hij; rw [hun'] at this; cases this
        rw [if_neg (by rw [this]; simp), if_neg (by omega)]
    have h2 : OutOp P ops (ss[i]'(by omega)).V o a w := by
      unfold OutOp at h1 ⊢
      rw [wanted_same hagree, exec_same (hns i o · · ho) hagree]
      exact h1
    refine h2.wpOp ho fun x w' hx hv => ih _ _ _ (by simpa using hsz) ?_ (hw.trans hx) (fun j p hj hlj k hk => ?_) ⟨fun j => if j = i then x else u j, ?_, fun j s hsj hlj => ?_⟩
    · have hlt := countP_lt (p := fun j => !listed.getD j false) (q := fun j => !(listed.setIfInBounds i true).getD j false) (i := i) (by rw [hun']; rfl) (by rw [getD_set (by omega)]; simp) (fun j hj => by
        rw [getD_set (by omega)] at hj
        by_cases e : j = i
        · simp [e] at hj
        · rw [if_neg e] at hj; exact hj) (List.mem_range.2 hil)
      omega
    · rw [getD_set (by omega)] at hlj ⊢
      split
      · rfl
      · by_cases e : j = i
        · subst e
          rw [hol] at hj; cases hj
          exact hd k hk
        · rw [if_neg e] at hlj; exact hcl j p hj hlj k hk
    · refine hrep.put hol x ?_ fun j hj => ?_
      · simp only [getD_set (show i < listed.size by omega), if_true]
      · simp only [getD_set (show i < listed.size by omega), if_neg hj]
    · rw [getD_set (by omega)] at hlj
      by_cases e : j = i
      · subst e
        rw [hs] at hsj; cases hsj
        simp only [if_true]; exact hv
      · rw [if_neg e] at hlj
        simp only [if_neg e]
        exact (hss s (List.mem_of_getElem? hsj)).stay _ _ _ (hV j s hsj hlj) hx
theorem wp_region_rg {id : Nat} {l : List Oper} {a : Act} {w : World} (w0 : World) (hm : P.follows .mixedOrders = true) (hok : rgOK .any l = true) (hw : Ext w0 w)
    (h : goV P l.toArray Q .any w0 l 0 [] (fun _ => a)) : (Code.region id l.toArray true).wp P Q a w := by
  obtain ⟨ss, h1, h2, h3, h4⟩ := goV_spec l 0 [] _ h
  simp only [List.nil_append, Nat.zero_add] at h3 h4
  refine wp_region_any hm (wpAny_rg rfl hok h1 h2 h3 h4 _ _ _ _ (by simp) ?_ hw.drew (fun j o _ hj => ?_) ⟨fun _ => undef, ?_, fun j s _ hj => ?_⟩)
  · refine Nat.le_trans List.countP_le_length ?_
    simp
  · rw [Array.getD_eq_getD_getElem?, Array.getElem?_replicate] at hj
    split at hj <;> simp at hj
  · refine Rep.refl _ _ fun j o _ => ?_
    simp only
    rw [if_neg]
    rw [Array.getD_eq_getD_getElem?, Array.getElem?_replicate]
    split <;> simp
  · rw [Array.getD_eq_getD_getElem?, Array.getElem?_replicate] at hj
    split at hj <;> simp at hj
theorem goV_val {o : Oper} {rest : List Oper} {i : Nat} {plan : List Yld} {A : (Nat → Value) → Act} (v : Value) (hw : ∀ u, Region.wanted o (yielded ops (A u).tmps) = true)
    (h : ∀ u w, Ext w0 w → holdsAt plan u w (depsOf md o) → (execOp (A u).eval o).run P w = .ok (.value v) w) (k : goV P ops Q md w0 rest (i + 1) (plan ++ [.val v]) (fun u => (A u).put o.dst v)) : goV P ops Q md w0 (o :: rest) i plan A :=
  ⟨.val v, Yld.val_ok v, fun u w hx hh => .inl ⟨hw u, by rw [h u w hx hh]; exact ⟨Ext.refl _, rfl⟩⟩, k⟩
theorem goV_skip {o : Oper} {rest : List Oper} {i : Nat} {plan : List Yld} {A : (Nat → Value) → Act} (hw : ∀ u, Region.wanted o (yielded ops (A u).tmps) = false)
    (k : goV P ops Q md w0 rest (i + 1) (plan ++ [.val undef]) (fun u => (A u).put o.dst undef)) : goV P ops Q md w0 (o :: rest) i plan A :=
  ⟨.val undef, Yld.val_ok _, fun u w hx hh => .inr ⟨hw u, rfl⟩, k⟩
theorem goV_call {o : Oper} {rest : List Oper} {i : Nat} {plan : List Yld} {A : (Nat → Value) → Act} {f : FuncId} {args : Array Value} {v : Value} (hw : ∀ u, Region.wanted o (yielded ops (A u).tmps) = true)
    (hc : ∀ w, Ext w0 w → Calls P f args w fun e w' => e = .returned v ∧ Ext w w')
    (h : ∀ u w, Ext w0 w → holdsAt plan u w (depsOf md o) → (execOp (A u).eval o).run P w = .ok (.enter f args) w) (k : goV P ops Q md w0 rest (i + 1) (plan ++ [.val v]) (fun u => (A u).put o.dst v)) : goV P ops Q md w0 (o :: rest) i plan A :=
  ⟨.val v, Yld.val_ok v, fun u w hx hh => .inl ⟨hw u, by rw [h u w hx hh]; exact ⟨Ext.refl _, (hc w hx).mono fun e w' he => ⟨v, he.1, he.2, rfl⟩⟩⟩, k⟩
theorem goV_rel {o : Oper} {rest : List Oper} {i : Nat} {plan : List Yld} {A : (Nat → Value) → Act} (V : Value → World → Prop) (hV : ∀ u w w', V u w → Ext w w' → V u w') (hw : ∀ u, Region.wanted o (yielded ops (A u).tmps) = true)
    (h : ∀ u w, Ext w0 w → holdsAt plan u w (depsOf md o) → OutV P w V ((execOp (A u).eval o).run P w)) (k : goV P ops Q md w0 rest (i + 1) (plan ++ [.rel V]) (fun u => (A u).put o.dst (u i))) : goV P ops Q md w0 (o :: rest) i plan A :=
  ⟨.rel V, Yld.rel_ok hV, fun u w hx hh => .inl ⟨hw u, h u w hx hh⟩, k⟩
end
end Go.Proofs.YtpdoddelnahlnaaGreatDoor
