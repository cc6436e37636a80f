/-
  Several texts joined: RnC.
-/
import Derived.Test.YtmdlgfnibjcgmaaGreatDoorK40
import Derived.Test.YtmdlgfnibjcgmaaGreatDoorK39
set_option linter.unusedVariables false
set_option linter.unusedSimpArgs false
set_option linter.unusedSectionVars false
namespace Go.Proofs.YtmdlgfnibjcgmaaGreatDoor.Rn
open Go.RowKit
variable {P : Program} {τ : Tau} {A : Nat -> Prop} {B : Nat} {w : World} {s s' : St} {g : Tr Obj}
theorem Rel.sub {h : Tr Obj} (r : Rel P τ A B g w) (k : Sub h g) : Rel P τ A B h w :=
 ⟨fun n o hn => r.dom n o (k n o hn), fun n m o o' hn hm => r.inj n m o o' (k n o hn) (k m o' hm), r.base⟩
structure Inn (P : Program) (τ : Tau) (A : Nat -> Prop) (B : Nat) (s s' : St) (g : Tr Obj) (w : World) : Prop where
 sub : Sub s.h g
 fresh : Fresh g s.nx s'.nx
 rel : Rel P τ A B g w
 new : ∀ n, s.nx <= n -> n < s'.nx -> ¬ A n
structure Out (P : Program) (τ : Tau) (A : Nat -> Prop) (B : Nat) (s s' : St) (g : Tr Obj) (w : World) (τ' : Tau) (g' : Tr Obj) (w' : World) : Prop where
 agr : Agr τ τ' s.nx s'.nx
 grow : Grow s s' g g'
 rel : Rel P τ' (Un A s.nx s'.nx) B g' w'
 below : Below B w w'
theorem Out.refl (i : Inn P τ A B s s g w) : Out P τ A B s s g w τ g w :=
 ⟨Agr.refl _ _ _, Grow.refl rfl rfl i.sub, i.rel.mono fun _ => Un.left, Below.refl _ _⟩
theorem Inn.left {s1 : St} (i : Inn P τ A B s s' g w) (h : s1.nx <= s'.nx) : Inn P τ A B s s1 g w :=
 ⟨i.sub, fun b p q => i.fresh b p (by omega), i.rel, fun n p q => i.new n p (by omega)⟩
theorem Inn.right {s1 : St} {τ1 : Tau} {g1 : Tr Obj} {w1 : World} (i : Inn P τ A B s s' g w) (o : Out P τ A B s s1 g w τ1 g1 w1) (hw : WF s) (hw1 : WF s1) (hd : Dm s s1) (hn : s.nx <= s1.nx) (hn' : s1.nx <= s'.nx) : Inn P τ1 (Un A s.nx s1.nx) B s1 s' g1 w1 :=
 ⟨o.grow.sub hw1 hd, o.grow.fresh hw hn i.fresh, o.rel, fun n p q k => by
  rcases k with k | k
  ·exact i.new n (by omega) q k
  ·omega⟩
theorem Out.trans {s1 : St} {τ1 τ2 : Tau} {g1 g2 : Tr Obj} {w1 w2 : World} (o : Out P τ A B s s1 g w τ1 g1 w1) (o2 : Out P τ1 (Un A s.nx s1.nx) B s1 s' g1 w1 τ2 g2 w2) (hw : WF s) (hw1 : WF s1) (hd : Dm s s1) (hd2 : Dm s1 s') (hn : s.nx <= s1.nx) (hn' : s1.nx <= s'.nx) :
  Out P τ A B s s' g w τ2 g2 w2 :=
 ⟨o.agr.trans o2.agr hn hn', o.grow.trans o2.grow hn hn' hw hw1 hd hd2, o2.rel.mono fun n h => (Un.trans hn hn' n).1 h, o.below.trans o2.below⟩
structure TmAt (n : Nat) (τ : Tau) (A : Nat -> Prop) (a : Act) (t : Nat) (o : Option Value) : Prop where
 is : t < n -> a.tmps[t]? = some (mp τ (o.getD undef))
 no : n <= t -> o = none
 inA : ∀ v, o = some v -> inA A v
structure TmRel (n : Nat) (τ : Tau) (A : Nat -> Prop) (a : Act) (tm : Tr Value) : Prop where
 size : a.tmps.size = n
 defers : a.defers = []
 «at» : ∀ t, TmAt n τ A a t (tm.get t)
theorem Un.agree {τ' : Tau} {lo hi : Nat} (h : Agr τ τ' lo hi) (hn : ∀ n, lo <= n -> n < hi -> ¬ A n) : ∀ n, A n -> τ'.σ n = τ.σ n /\ τ'.x n = τ.x n := fun n hA => h n fun q => hn n q.1 q.2 hA
theorem TmAt.mono {n : Nat} {a : Act} {t : Nat} {o : Option Value} {τ' : Tau} {A' : Nat -> Prop} (k : TmAt n τ A a t o) (h : ∀ n, A n -> τ'.σ n = τ.σ n /\ τ'.x n = τ.x n) (hA : ∀ n, A n -> A' n) : TmAt n τ' A' a t o := by
 refine ⟨fun ht => ?_, k.no, fun v hv => inA_mono hA v (k.inA v hv)⟩
 rw [k.is ht]
 congr 1
 cases o with
 | none => simp only [Option.getD_none, mp_undef]
 | some v => exact (mp_agree h v (k.inA v rfl)).symm
theorem TmRel.mono {n : Nat} {a : Act} {tm : Tr Value} {τ' : Tau} {A' : Nat -> Prop} (k : TmRel n τ A a tm) (h : ∀ n, A n -> τ'.σ n = τ.σ n /\ τ'.x n = τ.x n) (hA : ∀ n, A n -> A' n) : TmRel n τ' A' a tm :=
 ⟨k.size, k.defers, fun t => (k.at t).mono h hA⟩
theorem putA_some {tm tm' : Tr Value} {n : Nat} {d : Option Tmp} {v : Value} (h : putA tm n d v = some tm') : (d = none /\ tm' = tm) ∨ ∃ t, d = some t /\ t < n /\ tm' = tm.set (some v) t := by
 unfold putA at h
 cases d with
 | none => cases h; exact .inl ⟨rfl, rfl⟩
 | some t =>
  simp only [Rn.sel] at h
  cases hb : Nat.blt t n with
  | false => rw [hb] at h; cases h
  | true => rw [hb] at h; cases h; exact .inr ⟨t, rfl, by simpa using hb, rfl⟩
theorem put_at {n : Nat} {a : Act} {d : Option Tmp} {t : Nat} {v : Value} {o : Option Value} (hd : ∀ e, d = some e -> e < n) (hs : a.tmps.size = n) (hv : inA A v) :
  (d = some t -> TmAt n τ A (a.put d (mp τ v)) t (some v)) /\ (d ≠ some t -> TmAt n τ A a t o -> TmAt n τ A (a.put d (mp τ v)) t o) := by
 constructor
 ·intro e
  subst e
  have ht := hd t rfl
  refine ⟨fun _ => ?_, fun k => absurd ht (Nat.not_lt.2 k), fun u hu => by cases hu; exact hv⟩
  simp [Act.put, hs, ht]
 ·intro e k
  refine ⟨fun ht => ?_, k.no, k.inA⟩
  rw [← k.is ht]
  cases d with
  | none => rfl
  | some d =>
   have : d ≠ t := fun q => e (by rw [q])
   simp [Act.put, Array.getElem?_setIfInBounds_ne this]
theorem put_size (a : Act) (d : Option Tmp) (v : Value) : (a.put d v).tmps.size = a.tmps.size /\ (a.put d v).defers = a.defers := by
 cases d <;> simp [Act.put]
theorem TmRel.put {n : Nat} {a : Act} {tm tm' : Tr Value} {d : Option Tmp} {v : Value} (k : TmRel n τ A a tm) (h : putA tm n d v = some tm') (hv : inA A v) : TmRel n τ A (a.put d (mp τ v)) tm' := by
 have hd : ∀ e, d = some e -> e < n := by
  intro e he
  rcases putA_some h with ⟨h1, _⟩ | ⟨t, h1, h2, _⟩
  ·rw [h1] at he; cases he
  ·rw [h1] at he; cases he; exact h2
 refine ⟨by rw [(put_size a d _).1, k.size], by rw [(put_size a d _).2, k.defers], fun t => ?_⟩
 rcases putA_some h with ⟨rfl, rfl⟩ | ⟨e, rfl, h2, rfl⟩
 ·exact (put_at hd k.size hv).2 (by simp) (k.at t)
 ·rw [get_set]
  by_cases q : t = e
  ·subst q; rw [if_pos rfl]; exact (put_at (o := none) hd k.size hv).1 rfl
  ·rw [if_neg q]; exact (put_at hd k.size hv).2 (fun z => q (by cases z; rfl)) (k.at t)
theorem eval_ok {n : Nat} {a : Act} {tm : Tr Value} {x : Operand} (hs : a.tmps.size = n) (ho : okOpd x = true) (ht : ∀ t, x = .tmp t -> TmAt n τ A a t (tm.get t)) : a.eval x = mp τ (evA tm x) /\ inA A (evA tm x) := by
 cases x with
 | tmp t =>
  have k := ht t rfl
  constructor
  ·show a.tmps.getD t undef = mp τ ((tm.get t).getD undef)
   rcases Nat.lt_or_ge t n with h | h
   ·rw [Array.getD_eq_getD_getElem?, k.is h]; rfl
   ·rw [Array.getD_eq_getD_getElem?, Array.getElem?_eq_none (by omega), k.no h]
    simp only [Option.getD_none, mp_undef]
  ·show inA A ((tm.get t).getD undef)
   cases hv : tm.get t with
   | none => exact inA_undef _
   | some v => exact k.inA v hv
 | const v => exact ⟨(mp_closed τ v ho).symm, inA_closed A v ho⟩
 | func f =>
  constructor
  ·show Value.func (.func f) #[] #[] = mp τ (.func (.func f) #[] #[])
   rw [mp_func]; simp
  ·show inA A (.func (.func f) #[] #[])
   rw [inA_func]; simp
 | global g => cases ho
theorem wanted_ok {n : Nat} {a : Act} {tm : Tr Value} {ops : Array Oper} {o : Oper} (hs : a.tmps.size = n) (ht : ∀ j q t, o.guard = some (j, q) -> (ops[j]?).bind (·.dst) = some t -> TmAt n τ A a t (tm.get t)) :
  Region.wanted o (yielded ops a.tmps) = wantedA ops.toList tm o.guard := by
 unfold Region.wanted wantedA
 cases hg : o.guard with
 | none => rfl
 | some p =>
  obtain ⟨j, q⟩ := p
  have key : yielded ops a.tmps j = yld ops.toList tm j := by
   unfold yielded yld
   rw [nth_eq]
   simp only [Array.getElem?_toList]
   cases hd : (ops[j]?).bind (·.dst) with
   | none => rfl
   | some t =>
    have k := ht j q t hg hd
    simp only [Option.bind_some]
    rcases Nat.lt_or_ge t n with h | h
    ·rw [k.is h]
     cases hv : tm.get t with
     | none => simp only [Option.getD_none, mp_undef]; rfl
     | some v =>
      simp only [Option.getD_some]
      match v with
      | .bool _ | .int _ _ | .float _ _ | .complex _ _ _ | .string _ | .nilFunc | .nilIface | .chan _ => simp [mp, yldV]
      | .pointer none | .slice none _ _ | .map none => simp [mp, yldV]
      | .pointer (some _) | .slice (some _) _ _ | .map (some _) => simp [mp, yldV]
      | .func _ ⟨_⟩ ⟨_⟩ => simp [mp, yldV]
      | .agg ⟨_⟩ => simp [mp, yldV]
      | .tuple ⟨_⟩ => simp [mp, yldV]
      | .iface _ _ => simp [mp, yldV]
    ·rw [Array.getElem?_eq_none (by omega), k.no h]; rfl
  simp only [key]
  cases yld ops.toList tm j with
  | none => rfl
  | some b => simp only [Option.some_beq_some]
def Gets (P : Program) (r : Result Next) (R : Value -> World -> Prop) : Prop :=
 (∃ v w', r = .ok (.value v) w' /\ R v w') ∨ (∃ w', r = .ok .skip w' /\ R undef w') ∨ ∃ f as w', r = .ok (.enter f as) w' /\ Calls P f as w' fun e w'' => ∃ v, e = .returned v /\ R v w''
theorem Gets.wp {o : Oper} {a : Act} {R : Value -> World -> Prop} {K : Act -> World -> Prop} {Q : Exit -> Act -> World -> Prop} (h : Gets P ((execOp a.eval o).run P w) R) (hk : ∀ v w', R v w' -> K (a.put o.dst v) w') : o.wp P a w K Q := by
 unfold Oper.wp
 rcases h with ⟨v, w', h1, h2⟩ | ⟨w', h1, h2⟩ | ⟨f, as, w', h1, h2⟩
 ·rw [h1]; exact hk v w' h2
 ·rw [h1]; exact hk undef w' h2
 ·rw [h1]
  refine Calls.mono h2 fun e w'' q => ?_
  obtain ⟨v, rfl, q⟩ := q
  exact hk v w'' q
def CallOk (P : Program) (call : FuncId -> List Value -> M Value) : Prop := ∀ f args s v s', WF s -> call f args s = some (v, s') -> ∀ τ A B g w, Inn P τ A B s s' g w -> (∀ x ∈ args, inA A x) ->
 (callFunc f (args.map (mp τ)).toArray).run P w = .ok (.enter f (args.map (mp τ)).toArray) w /\
 Calls P f (args.map (mp τ)).toArray w fun e w' => ∃ τ' g', e = .returned (mp τ' v) /\ Out P τ A B s s' g w τ' g' w' /\ inA (Un A s.nx s'.nx) v
structure Plugs (P : Program) (ne : FuncId) (plug : FuncId -> List Value -> Option Value) : Prop where
 ne : ∀ v w, (callFunc ne #[v]).run P w = .ok (.value v) w
 plug : ∀ f args v, plug f args = some v -> args.all closed = true /\ closed v = true /\ ∀ w, (callFunc f args.toArray).run P w = .ok (.enter f args.toArray) w /\ Calls P f args.toArray w fun e w' => e = .returned v /\ Below w.heap.size w w'
theorem Rel.below {w' : World} (r : Rel P τ A B g w) (h : Below w.heap.size w w') : Rel P τ A B g w' :=
 ⟨fun n o hn => by
  obtain ⟨k1, k2, k3, o', k4, k5⟩ := r.dom n o hn
  exact ⟨k1, k2, k3, o', by rw [h.block _ (Array.getElem?_eq_some_iff.1 k4).1]; exact k4, k5⟩, r.inj, Nat.le_trans r.base h.size⟩
variable {ne : FuncId} {plug : FuncId -> List Value -> Option Value} {call : FuncId -> List Value -> M Value}
def AnsV (P : Program) (τ : Tau) (A : Nat -> Prop) (B : Nat) (s s' : St) (g : Tr Obj) (w : World) (v : Value) (u : Value) (w' : World) : Prop :=
 ∃ τ' g', u = mp τ' v /\ Out P τ A B s s' g w τ' g' w' /\ inA (Un A s.nx s'.nx) v
theorem doCall_ok (hc : CallOk P call) (hp : Plugs P ne plug) {f : FuncId} {args : List Value} {v : Value} (hw : WF s) (h : doCall ne plug call f args s = some (v, s')) (i : Inn P τ A B s s' g w) (ha : ∀ x ∈ args, inA A x) :
  Gets P ((callFunc f (args.map (mp τ)).toArray).run P w) (AnsV P τ A B s s' g w v) := by
 unfold doCall at h
 cases hb : Nat.beq f ne with
 | true =>
  rw [hb] at h
  obtain rfl := Nat.eq_of_beq_eq_true hb
  match args, h with
  | [u], h =>
   simp only at h
   rw [ret_some] at h
   cases h
   exact .inl ⟨_, w, hp.ne _ w, τ, g, rfl, Out.refl i, inA_mono (fun _ => Un.left) _ (ha v (by simp))⟩
  | [], h => simp only at h; rw [die_some] at h; exact h.elim
  | _ :: _ :: _, h => simp only at h; rw [die_some] at h; exact h.elim
 | false =>
  rw [hb] at h
  simp only at h
  cases hpl : plug f args with
  | some u =>
   rw [hpl] at h
   simp only at h
   rw [ret_some] at h
   cases h
   obtain ⟨p1, p2, p3⟩ := hp.plug f args v hpl
   have e : args.map (mp τ) = args := by
    have : args.map (mp τ) = args.map id := List.map_congr_left fun u hu => mp_closed τ u (List.all_eq_true.1 p1 u hu)
    rw [this, List.map_id]
   rw [e]
   refine .inr (.inr ⟨f, args.toArray, w, (p3 w).1, Calls.mono (p3 w).2 fun e w' q => ?_⟩)
   obtain ⟨rfl, q⟩ := q
   exact ⟨v, rfl, τ, g, (mp_closed τ v p2).symm, ⟨Agr.refl _ _ _, Grow.refl rfl rfl i.sub, (i.rel.below q).mono fun _ => Un.left, q.mono i.rel.base⟩, inA_closed _ v p2⟩
  | none =>
   rw [hpl] at h
   simp only at h
   obtain ⟨k1, k2⟩ := hc f args s v s' hw h τ A B g w i ha
   refine .inr (.inr ⟨f, _, w, k1, Calls.mono k2 fun e w' q => ?_⟩)
   obtain ⟨τ', g', rfl, q⟩ := q
   exact ⟨_, rfl, τ', g', rfl, q⟩
theorem stepA_ok (hl : ∀ f args, Loc (call f args)) (hc : CallOk P call) (hp : Plugs P ne plug) {o : Oper} {tm : Tr Value} {a : Act} {n : Nat} {v : Value} (hw : WF s) (h : stepA P ne plug call o tm s = some (v, s')) (i : Inn P τ A B s s' g w)
  (hs : a.tmps.size = n) (ht : ∀ x ∈ o.op.operands.toList, ∀ t, x = .tmp t -> TmAt n τ A a t (tm.get t)) : Gets P ((execOp a.eval o).run P w) (AnsV P τ A B s s' g w v) := by
 unfold stepA at h
 rw [grd_some] at h
 obtain ⟨hok, h⟩ := h
 rw [bnd_some] at h
 obtain ⟨x, s1, h1, h2⟩ := h
 have hρ : ∀ y ∈ o.op.operands.toList, a.eval y = mp τ (evA tm y) := fun y hy => (eval_ok hs (List.all_eq_true.1 hok y hy) (ht y hy)).1
 have hA : ∀ y ∈ o.op.operands.toList, inA A (evA tm y) := fun y hy => (eval_ok hs (List.all_eq_true.1 hok y hy) (ht y hy)).2
 obtain ⟨⟨m1, m2, m3⟩, m4⟩ := Mon.exA P o (evA tm) s x s1 hw h1
 cases x with
 | val u =>
  have h3 : ret u s1 = some (v, s') := h2
  rw [ret_some] at h3
  cases h3
  obtain ⟨g1, e1, e2, e3⟩ := m4 ⟨g, s.nx, s.lg, s.rd, s.wr⟩ rfl i.sub i.fresh
  have k := exA_ok (τ := τ) (A := A) (B := B) (w := w) hρ hA e1 i.rel (fun q => i.new s.nx (Nat.le_refl _) (by rw [e2] at q; exact q))
  rcases k with ⟨u, k1, k2⟩ | ⟨f, args, k1, _⟩
  ·cases k1
   obtain ⟨τ', w', k3, k4, k5, k6, k7⟩ := k2
   rw [e2] at k4 k5 k6
   have out : Out P τ A B s s' g w τ' g1.h w' := ⟨k4, e3, k5, k7⟩
   rcases k3 with k3 | ⟨k3, k8⟩
   ·exact .inl ⟨_, w', k3, τ', g1.h, rfl, out, k6⟩
   ·subst k8
    exact .inr (.inl ⟨w', k3, τ', g1.h, (mp_undef τ').symm, out, k6⟩)
  ·cases k1
 | call f args =>
  have h3 : doCall ne plug call f args s1 = some (v, s') := h2
  have k := exA_ok (τ := τ) (A := A) (B := B) (w := w) hρ hA h1 (i.rel.sub i.sub) (fun q => by
   exact i.new s.nx (Nat.le_refl _) (Nat.lt_of_lt_of_le q (Loc.contA hl _ s1 v s' m2 h2).1))
  rcases k with ⟨u, k1, _⟩ | ⟨f', args', k1, k2, k3, k4⟩
  ·cases k1
  ·cases k1
   subst k2
   rw [k4]
   exact doCall_ok hc hp hw h3 i k3
theorem mem_looks {ops : Array Oper} {o : Oper} : (∀ x ∈ o.op.operands.toList, ∀ t, x = .tmp t -> t ∈ o.looksAt ops) /\ ∀ j q t, o.guard = some (j, q) -> (ops[j]?).bind (·.dst) = some t -> t ∈ o.looksAt ops := by
 constructor
 ·rintro x hx t rfl
  exact List.mem_append_left _ (List.mem_filterMap.2 ⟨.tmp t, hx, rfl⟩)
 ·intro j q t hg ht
  refine List.mem_append_right _ ?_
  rw [hg]
  simp [ht]
theorem valA_ok (hl : ∀ f args, Loc (call f args)) (hc : CallOk P call) (hp : Plugs P ne plug) {ops : Array Oper} {j : Nat} {o : Oper} {tm : Tr Value} {a : Act} {n : Nat} {v : Value} {K : Act -> World -> Prop} {Q : Exit -> Act -> World -> Prop} (hw : WF s)
  (hj : ops[j]? = some o) (h : valA P ne plug call ops.toList o tm s = some (v, s')) (i : Inn P τ A B s s' g w) (hs : a.tmps.size = n) (ht : ∀ t ∈ o.looksAt ops, TmAt n τ A a t (tm.get t))
  (hK : ∀ u w', AnsV P τ A B s s' g w v u w' -> K (a.put o.dst u) w') : wpOp P ops Q j K a w := by
 unfold wpOp
 rw [hj]
 simp only
 rw [wanted_ok (τ := τ) (A := A) hs (fun j q t hg hd => ht t (mem_looks.2 j q t hg hd))]
 unfold valA at h
 cases hwt : wantedA ops.toList tm o.guard with
 | true =>
  rw [hwt] at h
  rw [if_pos rfl]
  exact .inl ((stepA_ok hl hc hp hw h i hs (fun x hx t hxt => ht t (mem_looks.1 x hx t hxt))).wp hK)
 | false =>
  rw [hwt] at h
  rw [if_neg (by simp)]
  have h' : ret undef s = some (v, s') := h
  rw [ret_some] at h'
  cases h'
  exact hK undef w ⟨τ, g, (mp_undef τ).symm, Out.refl i, inA_undef _⟩
theorem runOps_ok (hl : ∀ f args, Loc (call f args)) (hc : CallOk P call) (hp : Plugs P ne plug) {ops : Array Oper} {n : Nat} {Q : Exit -> Act -> World -> Prop} : ∀ (l : List Oper) (k : Nat) (tm tm' : Tr Value) (a : Act) (s s' : St) (τ : Tau) (A : Nat -> Prop) (g : Tr Obj) (w : World),
  l = ops.toList.drop k -> runOps P ne plug call n ops.toList l tm s = some (tm', s') -> WF s -> Inn P τ A B s s' g w -> TmRel n τ A a tm -> (∀ a' τ' g' w', Out P τ A B s s' g w τ' g' w' -> TmRel n τ' (Un A s.nx s'.nx) a' tm' -> Q .normal a' w') -> wpOps P ops Q (List.range' k l.length) a w
 | [], k, tm, tm', a, s, s', τ, A, g, w, hd, h, hw, i, ht, hQ => by
  rw [runOps_nil (P := P) (ne := ne) (plug := plug) (call := call) hl, ret_some] at h
  cases h
  simp only [List.length_nil, List.range'_zero, wpOps]
  exact hQ a τ g w (Out.refl i) (ht.mono (fun _ _ => ⟨rfl, rfl⟩) fun _ => Un.left)
 | o :: l, k, tm, tm', a, s, s', τ, A, g, w, hd, h, hw, i, ht, hQ => by
  have hj : ops[k]? = some o := by
   have : (ops.toList.drop k)[0]? = some o := by rw [← hd]; rfl
   simpa using this
  have hd' : l = ops.toList.drop (k + 1) := by
   rw [← List.tail_drop, ← hd]; rfl
  rw [runOps_cons hl, bnd_some] at h
  obtain ⟨tm1, s1, h1, h2⟩ := h
  unfold oneA at h1
  rw [bnd_some] at h1
  obtain ⟨v, s0, h1, h3⟩ := h1
  rw [lft_some] at h3
  obtain ⟨tm2, h3, h4⟩ := h3
  cases h4
  obtain ⟨n1, _, ⟨w1, d1⟩, _⟩ := Loc.valA hl (P := P) (ne := ne) (plug := plug) ops.toList o tm s v s1 hw h1
  obtain ⟨n2, _, ⟨w2, d2⟩, _⟩ := Loc.runOps hl (P := P) (ne := ne) (plug := plug) n ops.toList l tm1 s1 tm' s' w1 h2
  rw [List.length_cons, List.range'_succ, wpOps_cons]
  refine valA_ok hl hc hp hw hj h1 (i.left n2) ht.size (fun t _ => ht.at t) fun u w' hu => ?_
  obtain ⟨τ', g', rfl, ho, hv⟩ := hu
  have hag := Un.agree ho.agr fun m p q => i.new m p (by omega)
  refine runOps_ok hl hc hp l (k + 1) tm1 tm' _ s1 s' τ' (Un A s.nx s1.nx) g' w' hd' h2 w1 (i.right ho hw w1 d1 n1 n2) ((ht.mono hag fun _ => Un.left).put h3 hv) fun a' τ2 g2 w2' o2 t2 => ?_
  exact hQ a' τ2 g2 w2' (ho.trans o2 hw w1 d1 d2 n1 n2) (t2.mono (fun _ _ => ⟨rfl, rfl⟩) fun m hm => (Un.trans n1 n2 m).1 hm)
theorem region_ok (hl : ∀ f args, Loc (call f args)) (hc : CallOk P call) (hp : Plugs P ne plug) {id : Nat} {ops : Array Oper} {n : Nat} {Q : Exit -> Act -> World -> Prop} {tm tm' : Tr Value} {a : Act} (hw : WF s)
  (h : runOps P ne plug call n ops.toList ops.toList tm s = some (tm', s')) (i : Inn P τ A B s s' g w) (ht : TmRel n τ A a tm) (hQ : ∀ a' τ' g' w', Out P τ A B s s' g w τ' g' w' -> TmRel n τ' (Un A s.nx s'.nx) a' tm' -> Q .normal a' w') : (Code.region id ops false).wp P Q a w := by
 refine wp_region ?_
 have := runOps_ok (Q := Q) hl hc hp ops.toList 0 tm tm' a s s' τ A g w rfl h hw i ht hQ
 rw [List.range_eq_range']
 simpa using this
end Go.Proofs.YtmdlgfnibjcgmaaGreatDoor.Rn
