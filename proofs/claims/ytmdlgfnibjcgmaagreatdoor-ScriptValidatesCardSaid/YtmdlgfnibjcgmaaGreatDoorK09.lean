/-
  Several texts joined: Rg.
-/
import Derived.OrdersHeld
import Derived.Tactics
import Derived.KernelRfl
import Derived.ProofKit
import Derived.Test.YtmdlgfnibjcgmaaGreatDoorK01
set_option linter.unusedVariables false
set_option linter.unusedSimpArgs false
namespace Go.Proofs.YtmdlgfnibjcgmaaGreatDoor
structure Yld where
 pv : Option Value
 V : Value -> World -> Prop
def Yld.val (v : Value) : Yld := ⟨some v, fun u _ => u = v⟩
def Yld.rel (V : Value -> World -> Prop) : Yld := ⟨none, V⟩
structure Yld.ok (s : Yld) : Prop where
 stay : ∀ u w w', s.V u w -> Ext w w' -> s.V u w'
 pure : ∀ v u w, s.pv = some v -> s.V u w -> u = v
theorem Yld.val_ok (v : Value) : (Yld.val v).ok := ⟨fun u w w' h _ => h, fun x u w h k => by cases h; exact k⟩
def Yld.at (s : Yld) (x : Value) : Value := s.pv.getD x
theorem Yld.at_eq {s : Yld} (h : s.ok) {x : Value} {w : World} (hx : s.V x w) : s.at x = x := by
 unfold Yld.at
 cases hp : s.pv with
 | none => rfl
 | some v => exact (h.pure v x w hp hx).symm
def holdsAt (plan : List Yld) (u : Nat -> Value) (w : World) : List Nat -> Prop
 | [] => True
 | j :: js => (match plan[j]? with
  | some ⟨none, V⟩ => V (u j) w
  | _ => True) /\ holdsAt plan u w js
theorem holdsAt_weak {p q : List Yld} {u : Nat -> Value} {w : World} : ∀ {js : List Nat}, holdsAt (p ++ q) u w js -> holdsAt p u w js
 | [], _ => trivial
 | j :: js, h => by
  refine ⟨?_, holdsAt_weak h.2⟩
  have h1 := h.1
  rcases Nat.lt_or_ge j p.length with hj | hj
  ·rw [List.getElem?_append_left hj] at h1; exact h1
  ·rw [List.getElem?_eq_none hj]; trivial
theorem holdsAt_all {p : List Yld} {u : Nat -> Value} {w : World} : ∀ {js : List Nat}, (∀ j ∈ js, ∀ s, p[j]? = some s -> s.V (u j) w) -> holdsAt p u w js
 | [], _ => trivial
 | j :: js, h => by
  refine ⟨?_, holdsAt_all fun i hi => h i (by simp [hi])⟩
  have := h j (by simp)
  split
  ·rename_i V e; exact this _ e
  ·trivial
def depsOf (md : Region.Mode) (o : Oper) : List Nat := (o.after.toList.filter (Region.binds md)).map (·.on)
theorem mem_deps {md : Region.Mode} {o : Oper} {j : Nat} : j ∈ depsOf md o ↔ ∃ e ∈ o.after, Region.binds md e = true /\ e.on = j := by
 unfold depsOf
 simp only [List.mem_map, List.mem_filter, Array.mem_toList_iff]
 exact ⟨fun ⟨e, ⟨h1, h2⟩, h3⟩ => ⟨e, h1, h2, h3⟩, fun ⟨e, h1, h2, h3⟩ => ⟨e, ⟨h1, h2⟩, h3⟩⟩
def OutV (P : Program) (w : World) (V : Value -> World -> Prop) : Result Next -> Prop
 | .ok (.value u) w' => Ext w w' /\ V u w'
 | .ok (.enter f args) w' => Ext w w' /\ Calls P f args w' fun e w'' => ∃ u, e = .returned u /\ Ext w' w'' /\ V u w''
 | .ok (.row row args) w' => Ext w w' /\ Rows P row args w' fun u w'' => Ext w' w'' /\ V u w''
 | _ => False
def OutOp (P : Program) (ops : Array Oper) (V : Value -> World -> Prop) (o : Oper) (a : Act) (w : World) : Prop :=
 (Region.wanted o (yielded ops a.tmps) = true /\ OutV P w V ((execOp a.eval o).run P w)) ∨ (Region.wanted o (yielded ops a.tmps) = false /\ V undef w)
def goV (P : Program) (ops : Array Oper) (Q : Exit -> Act -> World -> Prop) (md : Region.Mode) (w0 : World) : List Oper -> Nat -> List Yld -> ((Nat -> Value) -> Act) -> Prop
 | [], i, plan, A => ∀ u w, Ext w0 w -> holdsAt plan u w (List.range i) -> Q .normal (A u) w
 | o :: rest, i, plan, A => ∃ s : Yld, s.ok /\ (∀ u w, Ext w0 w -> holdsAt plan u w (depsOf md o) -> OutOp P ops s.V o (A u) w) /\
   goV P ops Q md w0 rest (i + 1) (plan ++ [s]) (fun u => (A u).put o.dst (s.at (u i)))
def canon (u : Nat -> Value) : List Oper -> List Yld -> Nat -> Act -> Act
 | o :: l, s :: ss, i, a => canon u l ss (i + 1) (a.put o.dst (s.at (u i)))
 | _, _, _, a => a
theorem canon_snoc (u : Nat -> Value) (o : Oper) (s : Yld) : ∀ (l : List Oper) (ss : List Yld) (i : Nat) (a : Act), l.length = ss.length -> canon u (l ++ [o]) (ss ++ [s]) i a = (canon u l ss i a).put o.dst (s.at (u (i + l.length)))
 | [], [], i, a, _ => rfl
 | [], _ :: _, _, _, h => by simp at h
 | _ :: _, [], _, _, h => by simp at h
 | x :: l, y :: ss, i, a, h => by
  rw [List.cons_append, List.cons_append, canon, canon, canon_snoc u o s l ss (i + 1) _ (by simpa using h), List.length_cons, show i + 1 + l.length = i + (l.length + 1) by omega]
section
variable {P : Program} {ops : Array Oper} {Q : Exit -> Act -> World -> Prop} {md : Region.Mode} {w0 : World}
theorem goV_spec : ∀ (l : List Oper) (i : Nat) (plan : List Yld) (A : (Nat -> Value) -> Act), goV P ops Q md w0 l i plan A -> ∃ ss : List Yld, ss.length = l.length /\ (∀ s ∈ ss, s.ok) /\
  (∀ (k : Nat) (o : Oper) (s : Yld), l[k]? = some o -> ss[k]? = some s -> ∀ u w, Ext w0 w -> holdsAt (plan ++ ss) u w (depsOf md o) -> OutOp P ops s.V o (canon u (l.take k) (ss.take k) i (A u)) w) /\
  (∀ u w, Ext w0 w -> holdsAt (plan ++ ss) u w (List.range (i + l.length)) -> Q .normal (canon u l ss i (A u)) w)
 | [], i, plan, A, h => by
  refine ⟨[], rfl, fun s hs => (by cases hs), fun k o s hk => (by simp at hk), fun u w hw hh => ?_⟩
  rw [List.append_nil] at hh
  exact h u w hw hh
 | o :: l, i, plan, A, h => by
  obtain ⟨s, hs, h1, h2⟩ := h
  obtain ⟨ss, e1, e2, e3, e4⟩ := goV_spec l (i + 1) (plan ++ [s]) _ h2
  have ea : plan ++ s :: ss = plan ++ [s] ++ ss := by simp
  refine ⟨s :: ss, by simp [e1], fun x hx => ?_, fun k o' s' hk hk' u w hw hh => ?_, fun u w hw hh => ?_⟩
  ·rcases List.mem_cons.1 hx with rfl | hx
   ·exact hs
   ·exact e2 x hx
  ·cases k with
   | zero =>
    simp only [List.getElem?_cons_zero, Option.some.injEq] at hk hk'
    subst hk hk'
    exact h1 u w hw (holdsAt_weak hh)
   | succ k =>
    rw [List.getElem?_cons_succ] at hk hk'
    rw [ea] at hh
    exact e3 k o' s' hk hk' u w hw hh
  ·rw [ea, show i + (o :: l).length = i + 1 + l.length by rw [List.length_cons]; omega] at hh
   exact e4 u w hw hh
def Rep (l : List Oper) (sel : Nat -> Option Value) (a0 a : Act) : Prop :=
 a.defers = a0.defers /\ a.tmps.size = a0.tmps.size /\
 ∀ d, (∃ j o v, l[j]? = some o /\ o.dst = some d /\ sel j = some v /\ a.tmps[d]? = if d < a0.tmps.size then some v else none) ∨
  ((∀ j o, l[j]? = some o -> o.dst = some d -> sel j = none) /\ a.tmps[d]? = a0.tmps[d]?)
theorem Rep.refl (l : List Oper) (a0 : Act) {sel : Nat -> Option Value} (h : ∀ j o, l[j]? = some o -> sel j = none) : Rep l sel a0 a0 := ⟨rfl, rfl, fun d => .inr ⟨fun j o hj _ => h j o hj, rfl⟩⟩
theorem Rep.put {l : List Oper} {sel sel' : Nat -> Option Value} {a0 a : Act} (h : Rep l sel a0 a) {i : Nat} {o : Oper} (hi : l[i]? = some o) (v : Value)
  (h1 : sel' i = some v) (h2 : ∀ j, j ≠ i -> sel' j = sel j) : Rep l sel' a0 (a.put o.dst v) := by
 obtain ⟨r1, r2, r3⟩ := h
 cases hd : o.dst with
 | none =>
  refine ⟨r1, r2, fun d => ?_⟩
  rcases r3 d with ⟨j, p, x, k1, k2, k3, k4⟩ | ⟨k1, k2⟩
  ·exact .inl ⟨j, p, x, k1, k2, by rw [h2 j (fun e => by subst e; rw [hi] at k1; cases k1; rw [hd] at k2; cases k2)]; exact k3, k4⟩
  ·exact .inr ⟨fun j p hj hp => by rw [h2 j (fun e => by subst e; rw [hi] at hj; cases hj; rw [hd] at hp; cases hp)]; exact k1 j p hj hp, k2⟩
 | some e =>
  refine ⟨r1, by simpa [Act.put] using r2, fun d => ?_⟩
  by_cases hde : d = e
  ·subst hde
   refine .inl ⟨i, o, v, hi, hd, h1, ?_⟩
   simp only [Act.put, Array.getElem?_setIfInBounds, if_true, r2]
  ·have e1 : (a.put (some e) v).tmps[d]? = a.tmps[d]? := by simp only [Act.put, Array.getElem?_setIfInBounds_ne (Ne.symm hde)]
   rw [e1]
   rcases r3 d with ⟨j, p, x, k1, k2, k3, k4⟩ | ⟨k1, k2⟩
   ·exact .inl ⟨j, p, x, k1, k2, by rw [h2 j (fun q => by subst q; rw [hi] at k1; cases k1; rw [hd] at k2; cases k2; exact hde rfl)]; exact k3, k4⟩
   ·exact .inr ⟨fun j p hj hp => by rw [h2 j (fun q => by subst q; rw [hi] at hj; cases hj; rw [hd] at hp; cases hp; exact hde rfl)]; exact k1 j p hj hp, k2⟩
theorem Rep.eq {l : List Oper} {sel sel' : Nat -> Option Value} {a0 a a' : Act} (hdist : ∀ (i j : Nat) (o p : Oper) (d : Tmp), l[i]? = some o -> l[j]? = some p -> o.dst = some d -> p.dst = some d -> i = j)
  (h : Rep l sel a0 a) (h' : Rep l sel' a0 a') (d : Nat) (hs : ∀ j o, l[j]? = some o -> o.dst = some d -> sel j = sel' j) : a.tmps[d]? = a'.tmps[d]? := by
 rcases h.2.2 d with ⟨j, p, x, k1, k2, k3, k4⟩ | ⟨k1, k2⟩
 ·rcases h'.2.2 d with ⟨j', p', x', k1', k2', k3', k4'⟩ | ⟨k1', k2'⟩
  ·obtain rfl := hdist j j' p p' d k1 k1' k2 k2'
   rw [hs j p k1 k2, k3'] at k3
   cases k3
   rw [k4, k4']
  ·have := k1' j p k1 k2
   rw [← hs j p k1 k2, k3] at this; cases this
 ·rcases h'.2.2 d with ⟨j', p', x', k1', k2', k3', k4'⟩ | ⟨k1', k2'⟩
  ·have := k1 j' p' k1' k2'
   rw [hs j' p' k1' k2', k3'] at this; cases this
  ·rw [k2, k2']
theorem exec_same {o : Oper} (hs : ∀ cs b, o.op ≠ .select cs b) {a a' : Act} (h : ∀ d ∈ o.looksAt ops, a.tmps[d]? = a'.tmps[d]?) : execOp a.eval o = execOp a'.eval o :=
 execOp_congr o hs fun x hx => by
  cases x with
  | tmp t =>
   have := h t (List.mem_append_left _ (List.mem_filterMap.2 ⟨.tmp t, by simpa using hx, rfl⟩))
   simp [Act.eval, this]
  | _ => rfl
theorem wanted_same {o : Oper} {a a' : Act} (h : ∀ d ∈ o.looksAt ops, a.tmps[d]? = a'.tmps[d]?) : Region.wanted o (yielded ops a.tmps) = Region.wanted o (yielded ops a'.tmps) := by
 unfold Region.wanted
 cases hg : o.guard with
 | none => rfl
 | some gw =>
  obtain ⟨g, want⟩ := gw
  have hy : yielded ops a.tmps g = yielded ops a'.tmps g := by
   unfold yielded
   cases ht : (ops[g]?).bind (·.dst) with
   | none => rfl
   | some t =>
    have := h t (by simp [Oper.looksAt, hg, ht])
    simp [this]
  simp only [hy]
theorem OutOp.wpOp {V : Value -> World -> Prop} {i : Nat} {o : Oper} {a : Act} {w : World} (hi : ops[i]? = some o) (h : OutOp P ops V o a w) {K : Act -> World -> Prop}
  (k : ∀ u w', Ext w w' -> V u w' -> K (a.put o.dst u) w') : wpOp P ops Q i K a w := by
 unfold Go.wpOp
 simp only [hi]
 rcases h with ⟨hw, hv⟩ | ⟨hw, hv⟩
 ·simp only [hw, if_true, Oper.wp]
  left
  generalize (execOp a.eval o).run P w = r at *
  unfold OutV at hv
  split at hv
  ·exact k _ _ hv.1 hv.2
  ·exact Calls.mono hv.2 fun e w'' he => by
    obtain ⟨u, rfl, h1, h2⟩ := he
    exact k _ _ (hv.1.trans h1) h2
  ·exact Rows.mono hv.2 fun u w'' he => k _ _ (hv.1.trans he.1) he.2
  ·exact hv.elim
 ·simp only [hw, Bool.false_eq_true, if_false]; exact k _ _ (Ext.refl _) hv
theorem countP_lt {p q : Nat -> Bool} {i : Nat} (hp : p i = true) (hq : q i = false) (h : ∀ j, q j = true -> p j = true) : ∀ {l : List Nat}, i ∈ l -> l.countP q < l.countP p
 | [], hi => by cases hi
 | x :: l, hi => by
  have hle : l.countP q <= l.countP p := List.countP_mono_left fun j _ hj => h j hj
  by_cases hx : x = i
  ·subst hx
   rw [List.countP_cons_of_pos hp, List.countP_cons_of_neg (by simp [hq])]; omega
  ·have := countP_lt hp hq h (l := l) ((List.mem_cons.1 hi).resolve_left (fun e => hx e.symm))
   simp only [List.countP_cons]
   cases hqx : q x with
   | true => simp [h x hqx]; exact this
   | false => cases p x <;> simp <;> omega
def rgOK (md : Region.Mode) (l : List Oper) : Bool :=
 Region.noSelect l.toArray && (List.range l.length).all fun i => match l[i]? with
  | none => true
  | some o => (depsOf md o).all (fun j => decide (j < i)) && (List.range l.length).all fun j => i == j || match l[j]? with
   | none => true
   | some p => match p.dst with
    | none => true
    | some d => o.dst != some d && (!(o.looksAt l.toArray).contains d || (depsOf md o).contains j || (depsOf md p).contains i)
theorem rgOK_spec {l : List Oper} (h : rgOK md l = true) : (∀ (i j : Nat) (o p : Oper) (d : Tmp), l[i]? = some o -> l[j]? = some p -> o.dst = some d -> p.dst = some d -> i = j) /\ (∀ (i : Nat) (o : Oper), l[i]? = some o -> ∀ j ∈ depsOf md o, j < i) /\
  (∀ (i j : Nat) (o p : Oper) (d : Tmp), l[i]? = some o -> l[j]? = some p -> p.dst = some d -> d ∈ o.looksAt l.toArray -> i = j ∨ j ∈ depsOf md o ∨ i ∈ depsOf md p) := by
 unfold rgOK at h
 rw [Bool.and_eq_true, List.all_eq_true] at h
 have hh : ∀ (i : Nat) (o : Oper), l[i]? = some o -> (∀ j ∈ depsOf md o, j < i) /\ ∀ (j : Nat) (p : Oper) (d : Tmp), l[j]? = some p -> p.dst = some d -> i = j ∨ (o.dst ≠ some d /\ (d ∉ o.looksAt l.toArray ∨ j ∈ depsOf md o ∨ i ∈ depsOf md p)) := by
  intro i o hi
  have := h.2 i (List.mem_range.2 (List.getElem?_eq_some_iff.1 hi).1)
  rw [hi] at this
  simp only [Bool.and_eq_true, List.all_eq_true, decide_eq_true_eq] at this
  refine ⟨this.1, fun j p d hj hd => ?_⟩
  have h2 := this.2 j (List.mem_range.2 (List.getElem?_eq_some_iff.1 hj).1)
  rw [hj] at h2
  simp only [hd, Bool.or_eq_true, beq_iff_eq, Bool.and_eq_true, bne_iff_ne, Bool.not_eq_true', List.contains_eq_mem, decide_eq_true_eq, decide_eq_false_iff_not] at h2
  rcases h2 with h2 | ⟨h2, h3⟩
  ·exact .inl h2
  ·refine .inr ⟨h2, ?_⟩
   rcases h3 with (h3 | h3) | h3
   ·exact .inl h3
   ·exact .inr (.inl h3)
   ·exact .inr (.inr h3)
 refine ⟨fun i j o p d hi hj ho hp => ?_, fun i o hi => (hh i o hi).1, fun i j o p d hi hj hp hd => ?_⟩
 ·rcases (hh i o hi).2 j p d hj hp with e | ⟨e, _⟩
  ·exact e
  ·exact absurd ho e
 ·rcases (hh i o hi).2 j p d hj hp with e | ⟨_, e | e⟩
  ·exact .inl e
  ·exact absurd hd e
  ·exact .inr e
theorem canon_rep {l : List Oper} {ss : List Yld} (hl : ss.length = l.length) (u : Nat -> Value) (a0 : Act) : ∀ k, k <= l.length ->
  Rep l (fun j => if j < k then (ss[j]?).map (·.at (u j)) else none) a0 (canon u (l.take k) (ss.take k) 0 a0)
 | 0, _ => by
  refine Rep.refl _ _ fun j o _ => ?_
  simp
 | k + 1, hk => by
  have ih := canon_rep hl u a0 k (by omega)
  have e1 : l.take (k + 1) = l.take k ++ [l[k]'(by omega)] := by rw [List.take_add_one, List.getElem?_eq_getElem (by omega)]; rfl
  have e2 : ss.take (k + 1) = ss.take k ++ [ss[k]'(by omega)] := by rw [List.take_add_one, List.getElem?_eq_getElem (by omega)]; rfl
  rw [e1, e2, canon_snoc u _ _ _ _ _ _ (by simp; omega)]
  have e3 : 0 + (l.take k).length = k := by simp; omega
  rw [e3]
  refine ih.put (i := k) (List.getElem?_eq_getElem (by omega)) _ ?_ fun j hj => ?_
  ·rw [if_pos (by omega), List.getElem?_eq_getElem (by omega)]; rfl
  ·by_cases h : j < k
   ·rw [if_pos h, if_pos (by omega)]
   ·rw [if_neg h, if_neg (by omega)]
theorem getD_set {listed : Array Bool} {i j : Nat} (hi : i < listed.size) : (listed.setIfInBounds i true).getD j false = if j = i then true else listed.getD j false := by
 rw [Array.getD_eq_getD_getElem?, Array.getElem?_setIfInBounds, Array.getD_eq_getD_getElem?]
 by_cases h : i = j
 ·subst h; simp [hi]
 ·rw [if_neg h, if_neg (fun e => h e.symm)]
theorem goV_val {o : Oper} {rest : List Oper} {i : Nat} {plan : List Yld} {A : (Nat -> Value) -> Act} (v : Value) (hw : ∀ u, Region.wanted o (yielded ops (A u).tmps) = true)
  (h : ∀ u w, Ext w0 w -> holdsAt plan u w (depsOf md o) -> (execOp (A u).eval o).run P w = .ok (.value v) w) (k : goV P ops Q md w0 rest (i + 1) (plan ++ [.val v]) (fun u => (A u).put o.dst v)) : goV P ops Q md w0 (o :: rest) i plan A :=
 ⟨.val v, Yld.val_ok v, fun u w hx hh => .inl ⟨hw u, by rw [h u w hx hh]; exact ⟨Ext.refl _, rfl⟩⟩, k⟩
theorem goV_skip {o : Oper} {rest : List Oper} {i : Nat} {plan : List Yld} {A : (Nat -> Value) -> Act} (hw : ∀ u, Region.wanted o (yielded ops (A u).tmps) = false)
  (k : goV P ops Q md w0 rest (i + 1) (plan ++ [.val undef]) (fun u => (A u).put o.dst undef)) : goV P ops Q md w0 (o :: rest) i plan A :=
 ⟨.val undef, Yld.val_ok _, fun u w hx hh => .inr ⟨hw u, rfl⟩, k⟩
theorem goV_call {o : Oper} {rest : List Oper} {i : Nat} {plan : List Yld} {A : (Nat -> Value) -> Act} {f : FuncId} {args : Array Value} {v : Value} (hw : ∀ u, Region.wanted o (yielded ops (A u).tmps) = true)
  (hc : ∀ w, Ext w0 w -> Calls P f args w fun e w' => e = .returned v /\ Ext w w')
  (h : ∀ u w, Ext w0 w -> holdsAt plan u w (depsOf md o) -> (execOp (A u).eval o).run P w = .ok (.enter f args) w) (k : goV P ops Q md w0 rest (i + 1) (plan ++ [.val v]) (fun u => (A u).put o.dst v)) : goV P ops Q md w0 (o :: rest) i plan A :=
 ⟨.val v, Yld.val_ok v, fun u w hx hh => .inl ⟨hw u, by rw [h u w hx hh]; exact ⟨Ext.refl _, (hc w hx).mono fun e w' he => ⟨v, he.1, he.2, rfl⟩⟩⟩, k⟩
end
end Go.Proofs.YtmdlgfnibjcgmaaGreatDoor
