/-
  Several texts joined: RnF.
-/
import Derived.LoopN
import Derived.Test.YtmdlgfnibjcgmaaGreatDoorK43
set_option linter.unusedVariables false
set_option linter.unusedSimpArgs false
set_option linter.unusedSectionVars false
namespace Go.Proofs.YtmdlgfnibjcgmaaGreatDoor.Rn
open Go.RowKit
variable {P : Program} {ne : FuncId} {plug : FuncId -> List Value -> Option Value} {call : FuncId -> List Value -> M Value} {τ : Tau} {A : Nat -> Prop} {B : Nat} {w : World} {s s' : St} {g : Tr Obj}
def exitOf : Ex -> Exit
 | .normal => .normal
 | .exit id => .exit id
 | .ret => .ret
def Ends (P : Program) (n : Nat) (τ : Tau) (A : Nat -> Prop) (B : Nat) (s s' : St) (g : Tr Obj) (w : World) (ex : Ex) (tm' : Tr Value) (Q : Exit -> Act -> World -> Prop) : Prop :=
 ∀ a' τ' g' w', Out P τ A B s s' g w τ' g' w' -> TmRel n τ' (Un A s.nx s'.nx) a' tm' -> Q (exitOf ex) a' w'
theorem Ends.next {n : Nat} {s1 : St} {ex : Ex} {tm' : Tr Value} {Q : Exit -> Act -> World -> Prop} {τ1 : Tau} {g1 : Tr Obj} {w1 : World} (h : Ends P n τ A B s s' g w ex tm' Q) (o : Out P τ A B s s1 g w τ1 g1 w1) (hw : WF s) (hw1 : WF s1) (hd : Dm s s1) (hd2 : Dm s1 s') (hn : s.nx <= s1.nx) (hn' : s1.nx <= s'.nx) :
  Ends P n τ1 (Un A s.nx s1.nx) B s1 s' g1 w1 ex tm' Q := fun a' τ' g' w' o2 t2 =>
 h a' τ' g' w' (o.trans o2 hw hw1 hd hd2 hn hn') (t2.mono (fun _ _ => ⟨rfl, rfl⟩) fun m hm => (Un.trans hn hn' m).1 hm)
theorem cond_val {v : Value} {x y : M (Ex × Tr Value)} {p : (Ex × Tr Value) × St} (h : exCond v x y s = some p) : ∃ b, v = .bool b /\ (if b then x else y) s = some p := by
 match v, h with
 | .bool true, h => exact ⟨true, rfl, h⟩
 | .bool false, h => exact ⟨false, rfl, h⟩
 | .slice _ _ _, h | .map _, h | .pointer _, h | .int _ _, h | .float _ _, h | .complex _ _ _, h | .string _, h | .chan _, h | .func _ _ _, h | .nilFunc, h | .iface _ _, h | .nilIface, h | .agg _, h | .tuple _, h =>
  simp only [exCond] at h; rw [die_some] at h; exact h.elim
theorem code_ok (hm : P.follows .mixedOrders = true) (hl : ∀ f args, Loc (call f args)) (hc : CallOk P call) (hp : Plugs P ne plug) {n : Nat} : ∀ (f : Nat),
  (∀ (c : Code) (tm tm' : Tr Value) (ex : Ex) (a : Act) (s s' : St) (τ : Tau) (A : Nat -> Prop) (g : Tr Obj) (w : World) (Q : Exit -> Act -> World -> Prop), runCode P ne plug call n f c tm s = some ((ex, tm'), s') -> WF s -> Inn P τ A B s s' g w -> TmRel n τ A a tm -> Ends P n τ A B s s' g w ex tm' Q -> c.wp P Q a w) /\
  (∀ (c : Code) (tm tm' : Tr Value) (ex : Ex) (a : Act) (s s' : St) (τ : Tau) (A : Nat -> Prop) (g : Tr Obj) (w : World) (Q : Exit -> Act -> World -> Prop), runCode P ne plug call n f (.loop c) tm s = some ((ex, tm'), s') -> WF s -> Inn P τ A B s s' g w -> TmRel n τ A a tm -> Ends P n τ A B s s' g w ex tm' Q -> Code.rounds P c Q f a w)
 | 0 => ⟨fun c tm tm' ex a s s' τ A g w Q h => (by cases h), fun c tm tm' ex a s s' τ A g w Q h => (by cases h)⟩
 | f + 1 => by
  obtain ⟨ih1, ih2⟩ := code_ok hm hl hc hp (n := n) f
  have loc := fun (c : Code) (tm : Tr Value) => Loc.runCode hl (P := P) (ne := ne) (plug := plug) n f c tm
  have loop : ∀ (c : Code) (tm tm' : Tr Value) (ex : Ex) (a : Act) (s s' : St) (τ : Tau) (A : Nat -> Prop) (g : Tr Obj) (w : World) (Q : Exit -> Act -> World -> Prop), runCode P ne plug call n (f + 1) (.loop c) tm s = some ((ex, tm'), s') -> WF s -> Inn P τ A B s s' g w -> TmRel n τ A a tm -> Ends P n τ A B s s' g w ex tm' Q -> Code.rounds P c Q (f + 1) a w := by
   intro c tm tm' ex a s s' τ A g w Q h hw i ht hQ
   have h : bnd (runCode P ne plug call n f c tm) (exSeq (runCode P ne plug call n f (.loop c))) s = some ((ex, tm'), s') := h
   rw [bnd_some] at h
   obtain ⟨⟨e1, tm1⟩, s1, h1, h2⟩ := h
   obtain ⟨n1, _, ⟨w1, d1⟩, _⟩ := loc c tm s _ s1 hw h1
   rw [rounds_succ]
   cases e1 with
   | normal =>
    have h2 : runCode P ne plug call n f (.loop c) tm1 s1 = some ((ex, tm'), s') := h2
    obtain ⟨n2, _, ⟨w2, d2⟩, _⟩ := loc (.loop c) tm1 s1 _ s' w1 h2
    refine ih1 c tm tm1 .normal a s s1 τ A g w _ h1 hw (i.left n2) ht fun a' τ' g' w' o t => ?_
    exact ih2 c tm1 tm' ex a' s1 s' τ' _ g' w' Q h2 w1 (i.right o hw w1 d1 n1 n2) t (hQ.next o hw w1 d1 d2 n1 n2)
   | exit id =>
    have h2 : ret ((Ex.exit id, tm1) : Ex × Tr Value) s1 = some ((ex, tm'), s') := h2
    rw [ret_some] at h2
    cases h2
    exact ih1 c tm _ (.exit id) a s _ τ A g w _ h1 hw i ht hQ
   | ret =>
    have h2 : Go.Proofs.YtmdlgfnibjcgmaaGreatDoor.Rn.ret ((Ex.ret, tm1) : Ex × Tr Value) s1 = some ((ex, tm'), s') := h2
    rw [ret_some] at h2
    cases h2
    exact ih1 c tm _ .ret a s _ τ A g w _ h1 hw i ht hQ
  refine ⟨fun c tm tm' ex a s s' τ A g w Q h hw i ht hQ => ?_, loop⟩
  have done : ∀ e, ret ((e, tm) : Ex × Tr Value) s = some ((ex, tm'), s') -> Q (exitOf e) a w := by
   intro e k
   rw [ret_some] at k
   cases k
   exact hQ a τ g w (Out.refl i) (ht.mono (fun _ _ => ⟨rfl, rfl⟩) fun _ => Un.left)
  match c, h with
  | .skip, h => exact wp_skip (done .normal h)
  | .region id ops false, h =>
   have h : bnd (runOps P ne plug call n ops.toList ops.toList tm) (fun tm => ret (Ex.normal, tm)) s = some ((ex, tm'), s') := h
   rw [bnd_some] at h
   obtain ⟨tm1, s1, h1, h2⟩ := h
   rw [ret_some] at h2
   cases h2
   exact region_ok hl hc hp hw h1 i ht hQ
  | .region id ops true, h =>
   have h : drawA P ne plug call n ops tm s = some ((ex, tm'), s') := h
   have e : ex = .normal := (draw_ok (id := id) (Q := fun _ _ _ => True) hm hl hc hp hw h i ht fun _ _ _ _ _ _ => trivial).1
   subst e
   exact (draw_ok (id := id) hm hl hc hp hw h i ht hQ).2
  | .seq x y, h =>
   have h : bnd (runCode P ne plug call n f x tm) (exSeq (runCode P ne plug call n f y)) s = some ((ex, tm'), s') := h
   rw [bnd_some] at h
   obtain ⟨⟨e1, tm1⟩, s1, h1, h2⟩ := h
   obtain ⟨n1, _, ⟨w1, d1⟩, _⟩ := loc x tm s _ s1 hw h1
   refine wp_seq ?_
   cases e1 with
   | normal =>
    have h2 : runCode P ne plug call n f y tm1 s1 = some ((ex, tm'), s') := h2
    obtain ⟨n2, _, ⟨w2, d2⟩, _⟩ := loc y tm1 s1 _ s' w1 h2
    refine ih1 x tm tm1 .normal a s s1 τ A g w _ h1 hw (i.left n2) ht fun a' τ' g' w' o t => ?_
    exact ih1 y tm1 tm' ex a' s1 s' τ' _ g' w' Q h2 w1 (i.right o hw w1 d1 n1 n2) t (hQ.next o hw w1 d1 d2 n1 n2)
   | exit id =>
    have h2 : ret ((Ex.exit id, tm1) : Ex × Tr Value) s1 = some ((ex, tm'), s') := h2
    rw [ret_some] at h2
    cases h2
    exact ih1 x tm _ (.exit id) a s _ τ A g w _ h1 hw i ht hQ
   | ret =>
    have h2 : Go.Proofs.YtmdlgfnibjcgmaaGreatDoor.Rn.ret ((Ex.ret, tm1) : Ex × Tr Value) s1 = some ((ex, tm'), s') := h2
    rw [ret_some] at h2
    cases h2
    exact ih1 x tm _ .ret a s _ τ A g w _ h1 hw i ht hQ
  | .cond x y z, h =>
   have h : exCond (evA tm x) (runCode P ne plug call n f y tm) (runCode P ne plug call n f z tm) s = some ((ex, tm'), s') := h
   obtain ⟨b, hb, h⟩ := cond_val h
   have hx : a.eval x = .bool b := by
    cases x with
    | tmp t => rw [(eval_ok (x := .tmp t) ht.size rfl fun u _ => ht.at u).1, hb]; simp [mp]
    | const v => exact hb
    | global g => cases hb
    | func f => cases hb
   refine wp_cond hx ?_
   cases b with
   | true => exact ih1 y tm tm' ex a s s' τ A g w Q h hw i ht hQ
   | false => exact ih1 z tm tm' ex a s s' τ A g w Q h hw i ht hQ
  | .block id x, h =>
   have h : bnd (runCode P ne plug call n f x tm) (exBlock id) s = some ((ex, tm'), s') := h
   rw [bnd_some] at h
   obtain ⟨⟨e1, tm1⟩, s1, h1, h2⟩ := h
   refine wp_block ?_
   cases e1 with
   | normal =>
    have h2 : ret ((Ex.normal, tm1) : Ex × Tr Value) s1 = some ((ex, tm'), s') := h2
    rw [ret_some] at h2
    cases h2
    exact ih1 x tm _ .normal a s _ τ A g w _ h1 hw i ht hQ
   | exit j =>
    have h2 : ret ((sel (Nat.beq j id) Ex.normal (.exit j), tm1) : Ex × Tr Value) s1 = some ((ex, tm'), s') := h2
    rw [ret_some] at h2
    cases h2
    refine ih1 x tm _ (.exit j) a s _ τ A g w _ h1 hw i ht fun a' τ' g' w' o t => ?_
    have := hQ a' τ' g' w' o t
    show (if j = id then Q .normal a' w' else Q (.exit j) a' w')
    by_cases e : j = id
    ·subst e
     rw [if_pos rfl]
     rw [show Nat.beq j j = true from Nat.beq_refl j] at this
     exact this
    ·rw [if_neg e]
     rw [show Nat.beq j id = false from by
      cases q : Nat.beq j id with
      | false => rfl
      | true => exact (e (Nat.eq_of_beq_eq_true q)).elim] at this
     exact this
   | ret =>
    have h2 : Go.Proofs.YtmdlgfnibjcgmaaGreatDoor.Rn.ret ((Ex.ret, tm1) : Ex × Tr Value) s1 = some ((ex, tm'), s') := h2
    rw [ret_some] at h2
    cases h2
    exact ih1 x tm _ .ret a s _ τ A g w _ h1 hw i ht hQ
  | .loop x, h => exact wp_loop_rounds (f + 1) (loop x tm tm' ex a s s' τ A g w Q h hw i ht hQ)
  | .exit id, h => exact wp_exit (done (.exit id) h)
  | .ret, h => exact wp_ret (done .ret h)
def resSem (a : Act) : ResultVar -> Sem Value
 | .tmp t => pure (a.tmps.getD t undef)
 | .cell b t => do loadVar t (← asAddr (a.tmps.getD b undef))
theorem res1_ok {n : Nat} {tm : Tr Value} {a : Act} {x : ResultVar} {v : Value} (h : res1 P tm x s = some (v, s')) (r : Rel P τ A B s.h w) (ht : TmRel n τ A a tm) :
  s'.h = s.h /\ s'.nx = s.nx /\ inA A v /\ (resSem a x).run P w = .ok (mp τ v) w := by
 have ev := fun t => eval_ok (τ := τ) (A := A) (x := .tmp t) ht.size rfl fun u _ => ht.at u
 cases x with
 | tmp t =>
  have h : ret ((tm.get t).getD undef) s = some (v, s') := h
  rw [ret_some] at h
  cases h
  exact ⟨rfl, rfl, (ev t).2, by show Result.ok (a.tmps.getD t undef) w = _; rw [show a.tmps.getD t undef = mp τ ((tm.get t).getD undef) from (ev t).1]⟩
 | cell b t =>
  have h : loadA P t ((tm.get b).getD undef) s = some (v, s') := h
  obtain ⟨h1, h2, h3, ad, h4, h5⟩ := loadA_ok h r
  refine ⟨h1, h2, h3, ?_⟩
  show (do loadVar t (← asAddr (a.tmps.getD b undef)) : Sem Value).run P w = _
  rw [show a.tmps.getD b undef = mp τ ((tm.get b).getD undef) from (ev b).1, h4]
  simp only [asAddr, Sem.run_bind, Sem.run_pure, Result.andThen_ok]
  exact h5
theorem resL_ok {n : Nat} {tm : Tr Value} {a : Act} : ∀ (l : List ResultVar) (s s' : St) (vs : List Value), resL P tm l s = some (vs, s') -> Rel P τ A B s.h w -> TmRel n τ A a tm ->
  s'.h = s.h /\ s'.nx = s.nx /\ (∀ v ∈ vs, inA A v) /\ (l.mapM (m := Sem) (resSem a)).run P w = .ok (vs.map (mp τ)) w
 | [], s, s', vs, h, r, ht => by
  have h : ret ([] : List Value) s = some (vs, s') := h
  rw [ret_some] at h
  cases h
  exact ⟨rfl, rfl, (fun v hv => by cases hv), by simp⟩
 | x :: l, s, s', vs, h, r, ht => by
  have h : bnd (res1 P tm x) (fun v => bnd (resL P tm l) fun vs => ret (v :: vs)) s = some (vs, s') := h
  rw [bnd_some] at h
  obtain ⟨v, s1, h1, h⟩ := h
  rw [bnd_some] at h
  obtain ⟨us, s2, h2, h⟩ := h
  rw [ret_some] at h
  cases h
  obtain ⟨e1, e2, e3, e4⟩ := res1_ok h1 r ht
  obtain ⟨f1, f2, f3, f4⟩ := resL_ok l s1 _ us h2 (by rw [e1]; exact r) ht
  refine ⟨f1.trans e1, f2.trans e2, fun u hu => ?_, ?_⟩
  ·rcases List.mem_cons.1 hu with q | q
   ·subst q; exact e3
   ·exact f3 u q
  ·rw [List.mapM_cons, Sem.run_bind, e4, Result.andThen_ok, Sem.run_bind, f4]
   rfl
theorem results_ok {n : Nat} {fn : Func} {tm : Tr Value} {a : Act} {vs : List Value} (h : resL P tm fn.results.toList s = some (vs, s')) (r : Rel P τ A B s.h w) (ht : TmRel n τ A a tm) :
  s'.h = s.h /\ s'.nx = s.nx /\ inA A (tup vs) /\ (results fn a.tmps).run P w = .ok (mp τ (tup vs)) w := by
 obtain ⟨h1, h2, h3, h4⟩ := resL_ok fn.results.toList s s' vs h r ht
 refine ⟨h1, h2, ?_, ?_⟩
 ·match vs, h3 with
  | [], _ => rw [tup, inA_tuple]; simp; intro x h; cases h
  | [v], h3 => exact h3 v (by simp)
  | u :: v :: l, h3 => rw [tup, inA_tuple]; simpa using h3; intro x h; cases h
 ·unfold results
  rw [Array.mapM_eq_mapM_toList, Sem.run_bind, map_eq_pure_bind, Sem.run_bind]
  generalize hX : List.mapM (m := Sem) _ fn.results.toList = X
  have h5 : X.run P w = .ok (vs.map (mp τ)) w := by rw [← hX]; exact h4
  rw [h5]
  simp only [Result.andThen_ok, Sem.run_pure]
  match vs with
  | [] => rfl
  | [v] => rfl
  | u :: v :: l =>
   simp [tup, mp_tuple]
theorem trim_run {α : Type} {x : M α} {a : α} (h : trim x s = some (a, s')) : ∃ s0 s1, s0.h = s.h /\ s0.nx = s.nx /\ x s0 = some (a, s1) /\ s1.h = s'.h /\ s1.nx = s'.nx := by
 obtain ⟨hh, nx, lg, rd, wr⟩ := s
 simp only [Go.Proofs.YtmdlgfnibjcgmaaGreatDoor.Rn.trim, trimS] at h
 cases lg with
 | false => exact ⟨_, _, rfl, rfl, h, rfl, rfl⟩
 | true =>
  simp only at h
  cases h1 : x ⟨hh, nx, true, [], []⟩ with
  | none => rw [h1] at h; cases h
  | some p =>
   obtain ⟨a1, t⟩ := p
   rw [h1] at h
   obtain ⟨h', nx', lg', rd', wr'⟩ := t
   simp only [trimEnd] at h
   cases h
   exact ⟨⟨hh, nx, true, [], []⟩, _, rfl, rfl, h1, rfl, rfl⟩
theorem get_seqTr : ∀ (l : List Value) (i t : Nat) (tr : Tr Value), (seqTr l i tr).get t = if i <= t /\ t < i + l.length then l[t - i]? else tr.get t
 | [], i, t, tr => by
  rw [if_neg (by simp)]; rfl
 | v :: l, i, t, tr => by
  have : seqTr (v :: l) i tr = seqTr l (i + 1) (tr.set (some v) i) := rfl
  rw [this, get_seqTr l (i + 1) t, get_set]
  by_cases h1 : t = i
  ·subst h1
   rw [if_neg (by omega), if_pos rfl, if_pos (by simp)]
   simp
  ·by_cases h2 : i + 1 <= t /\ t < i + 1 + l.length
   ·rw [if_pos h2, if_pos (by simp only [List.length_cons]; omega)]
    rw [show t - i = (t - (i + 1)) + 1 by omega, List.getElem?_cons_succ]
   ·rw [if_neg h2, if_neg h1, if_neg (by simp only [List.length_cons]; omega)]
theorem tmRel_enter {fn : Func} {args : List Value} (ha : ∀ v ∈ args, inA A v) : TmRel (Nat.max fn.ntmps args.length) τ A { tmps := (args.map (mp τ)).toArray ++ Array.replicate (fn.ntmps - (args.map (mp τ)).toArray.size) undef, defers := [] } (seqTr args 0 .leaf) := by
 have hsz : ((args.map (mp τ)).toArray ++ Array.replicate (fn.ntmps - (args.map (mp τ)).toArray.size) undef).size = Nat.max fn.ntmps args.length := by
  simp only [Array.size_append, List.size_toArray, List.length_map, Array.size_replicate]
  show _ = max fn.ntmps args.length
  omega
 refine ⟨hsz, rfl, fun t => ?_⟩
 rw [get_seqTr]
 simp only [Nat.zero_le, true_and, Nat.zero_add, Nat.sub_zero, Tr.get_leaf]
 by_cases h : t < args.length
 ·rw [if_pos h]
  have hx : args[t]? = some args[t] := by simp [h]
  rw [hx]
  refine ⟨fun _ => ?_, fun q => ?_, fun v hv => ?_⟩
  ·simp only
   rw [Array.getElem?_append_left (by simpa using h)]
   simp [h]
  ·have : args.length <= Nat.max fn.ntmps args.length := Nat.le_max_right ..
   omega
  ·cases hv
   exact ha _ (List.getElem_mem h)
 ·rw [if_neg h]
  refine ⟨fun q => ?_, fun _ => rfl, fun v hv => by cases hv⟩
  simp only
  rw [Array.getElem?_append_right (by simp; omega), Array.getElem?_replicate]
  have : t < max fn.ntmps args.length := q
  rw [if_pos (by simp; omega)]
  simp [mp_undef]
theorem Inn.of_eq {s0 s1 : St} (i : Inn P τ A B s s' g w) (e1 : s0.h = s.h) (e2 : s0.nx = s.nx) (e3 : s1.nx = s'.nx) : Inn P τ A B s0 s1 g w :=
 ⟨by rw [e1]; exact i.sub, by rw [e2, e3]; exact i.fresh, i.rel, by rw [e2, e3]; exact i.new⟩
theorem Out.of_eq {s0 s1 : St} {τ' : Tau} {g' : Tr Obj} {w' : World} (o : Out P τ A B s0 s1 g w τ' g' w') (e1 : s0.h = s.h) (e2 : s0.nx = s.nx) (e3 : s1.nx = s'.nx) (e4 : s1.h = s'.h) : Out P τ A B s s' g w τ' g' w' :=
 ⟨by rw [← e2, ← e3]; exact o.agr, fun b => by rw [← e1, ← e2, ← e3, ← e4]; exact o.grow b, by rw [← e2, ← e3]; exact o.rel, o.below⟩
theorem fn_ok (hm : P.follows .mixedOrders = true) (hl : ∀ f args, Loc (call f args)) (hc : CallOk P call) (hp : Plugs P ne plug) {f : FuncId} {fn : Func} (hf : P.funcs[f]? = some fn) {args : List Value} {v : Value} (hw : WF s) (h : fnStep P ne plug call fn args s = some (v, s')) (i : Inn P τ A B s s' g w) (ha : ∀ x ∈ args, inA A x) :
  fn.body.isSome = true /\ Calls P f (args.map (mp τ)).toArray w fun e w' => ∃ τ' g', e = .returned (mp τ' v) /\ Out P τ A B s s' g w τ' g' w' /\ inA (Un A s.nx s'.nx) v := by
 unfold fnStep at h
 cases hb : fn.body with
 | none => rw [hb] at h; simp only at h; rw [die_some] at h; exact h.elim
 | some c =>
  rw [hb] at h
  simp only at h
  refine ⟨rfl, ?_⟩
  obtain ⟨s0, s1, e1, e2, h, e3, e4⟩ := trim_run h
  rw [bnd_some] at h
  obtain ⟨⟨ex, tm⟩, s2, h1, h2⟩ := h
  have hw0 : WF s0 := by
   intro b hb'
   rw [e1]; rw [e2] at hb'
   exact hw b hb'
  obtain ⟨n1, _, ⟨w1, d1⟩, _⟩ := Loc.runCode hl (P := P) (ne := ne) (plug := plug) _ _ c _ s0 _ s2 hw0 h1
  have key : ∀ (ex : Ex), ex ≠ .exit 0 ∨ True -> exRet P fn (ex, tm) s2 = some (v, s1) -> (∀ id, ex ≠ .exit id) /\ ∃ vs, resL P tm fn.results.toList s2 = some (vs, s1) /\ v = tup vs := by
   intro ex _ k
   cases ex with
   | exit id =>
    have k : (die : M Value) s2 = some (v, s1) := k
    rw [die_some] at k; exact k.elim
   | normal =>
    have k : bnd (resL P tm fn.results.toList) (fun l => ret (tup l)) s2 = some (v, s1) := k
    rw [bnd_some] at k
    obtain ⟨vs, s3, k1, k2⟩ := k
    rw [ret_some] at k2
    cases k2
    exact ⟨fun id => (by simp), vs, k1, rfl⟩
   | ret =>
    have k : bnd (resL P tm fn.results.toList) (fun l => Go.Proofs.YtmdlgfnibjcgmaaGreatDoor.Rn.ret (tup l)) s2 = some (v, s1) := k
    rw [bnd_some] at k
    obtain ⟨vs, s3, k1, k2⟩ := k
    rw [ret_some] at k2
    cases k2
    exact ⟨fun id => (by simp), vs, k1, rfl⟩
  obtain ⟨k1, vs, k2, rfl⟩ := key ex (.inr trivial) h2
  obtain ⟨n2, _, ⟨w2, d2⟩, _⟩ := Loc.resL hl tm fn.results.toList s2 vs s1 w1 k2
  have i0 : Inn P τ A B s0 s1 g w := i.of_eq e1 e2 e4
  refine calls_of_wp hf hb ?_
  refine (code_ok hm hl hc hp _).1 c _ tm ex _ s0 s2 τ A g w _ h1 hw0 (i0.left n2) (tmRel_enter ha) fun a' τ' g' w' o t => ?_
  have hsub : Sub s2.h g' := o.grow.sub w1 d1
  obtain ⟨r1, r2, r3, r4⟩ := results_ok (fn := fn) (w := w') k2 (o.rel.sub hsub) t
  have o' : Out P τ A B s s' g w τ' g' w' := by
   refine o.of_eq e1 e2 (by rw [← r2, e4]) (by rw [← r1, e3])
  have fin : a'.defers = [] /\ ∃ v, (results fn a'.tmps).run P w' = .ok v w' /\ ∃ τ'' g'', Ending.returned v = .returned (mp τ'' (tup vs)) /\ Out P τ A B s s' g w τ'' g'' w' /\ inA (Un A s.nx s'.nx) (tup vs) :=
   ⟨t.defers, _, r4, τ', g', rfl, o', by rw [← e2, ← e4, r2]; exact r3⟩
  cases ex with
  | normal => exact fin
  | ret => exact fin
  | exit id => exact (k1 id rfl).elim
theorem callFunc_enter {f : FuncId} {fn : Func} (hf : P.funcs[f]? = some fn) (hb : fn.body.isSome = true) (hn : (fn.name == "runtime.NumGoroutine") = false) (as : Array Value) (w : World) : (callFunc f as).run P w = .ok (.enter f as) w := by
 have hb' : fn.body.isNone = false := by
  cases h : fn.body <;> simp_all
 have hn' : ¬ fn.name = "runtime.NumGoroutine" := by simpa using hn
 have hb2 : ¬ fn.body = none := by intro q; rw [q] at hb; cases hb
 unfold callFunc
 simp [hf, hn', hb2]
theorem runFn_ok (hm : P.follows .mixedOrders = true) (hp : Plugs P ne plug) (hg : ∀ (f : Nat) (fn : Func), P.funcs[f]? = some fn -> fn.body.isSome = true -> (fn.name == "runtime.NumGoroutine") = false) : ∀ d, CallOk P (runFn P ne plug d)
 | 0 => fun f args s v s' _ h => by cases h
 | d + 1 => fun f args s v s' hw h τ A B g w i ha => by
  have h : opt (nth P.funcs.toList f) (fun fn => fnStep P ne plug (runFn P ne plug d) fn args) s = some (v, s') := h
  rw [opt_some] at h
  obtain ⟨fn, h1, h2⟩ := h
  have hf : P.funcs[f]? = some fn := by rw [nth_eq] at h1; simpa using h1
  obtain ⟨k1, k2⟩ := fn_ok hm (Loc.runFn d) (runFn_ok hm hp hg d) hp hf hw h2 i ha
  exact ⟨callFunc_enter hf k1 (hg f fn hf k1) _ w, k2⟩
theorem run0_ok (hm : P.follows .mixedOrders = true) (hp : Plugs P ne plug) (hg : ∀ (f : Nat) (fn : Func), P.funcs[f]? = some fn -> fn.body.isSome = true -> (fn.name == "runtime.NumGoroutine") = false) {f : FuncId} {args : List Value} {v : Value} {s' : St} (h : run0 P ne plug f args = some (v, s')) (hv : closed v = true) (ha : args.all closed = true) (w : World) :
  Calls P f args.toArray w fun e w' => e = .returned v /\ Below w.heap.size w w' := by
 have e : args.map (mp ⟨id, fun _ => 0⟩) = args := by
  have : args.map (mp ⟨id, fun _ => 0⟩) = args.map id := List.map_congr_left fun u hu => mp_closed _ u (List.all_eq_true.1 ha u hu)
  rw [this, List.map_id]
 have k := (runFn_ok hm hp hg 200 f args ⟨.leaf, 0, false, [], []⟩ v s' (fun b _ => rfl) h ⟨id, fun _ => 0⟩ (fun _ => False) w.heap.size .leaf w
  ⟨fun b o q => q, fun _ _ _ => rfl, ⟨fun n o q => (by cases q), fun n m o o' q => (by cases q), Nat.le_refl _⟩, fun _ _ _ q => q⟩ (fun x hx => inA_closed _ x (List.all_eq_true.1 ha x hx))).2
 rw [e] at k
 refine Calls.mono k fun e w' q => ?_
 obtain ⟨τ', g', rfl, o, _⟩ := q
 exact ⟨by rw [mp_closed τ' v hv], o.below⟩
end Go.Proofs.YtmdlgfnibjcgmaaGreatDoor.Rn
