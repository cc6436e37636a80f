/-
  Several texts joined: RnG, RnH.
-/
import Derived.Test.YtmdlgfnibjcgmaaGreatDoorK41
set_option linter.unusedVariables false
set_option linter.unusedSimpArgs false
set_option linter.unusedSectionVars false
namespace Go.Proofs.YtmdlgfnibjcgmaaGreatDoor.Rn
open Go.RowKit
structure Ver (n : Nat) (wr : Nat -> Prop) (S : Nat -> Prop) (m : Nat) : Prop where
 le : m <= n
 done : ∀ k, k < m -> wr k -> S k
 todo : ∀ k, m <= k -> k < n -> wr k -> ¬ S k
theorem const_run {α : Type} {n : Nat} (f : Nat -> α) (wr : Nat -> Prop) (hs : ∀ k, k < n -> ¬ wr k -> f (k + 1) = f k) : ∀ (d m : Nat), m + d <= n -> (∀ k, m <= k -> k < m + d -> ¬ wr k) -> f (m + d) = f m
 | 0, m, _, _ => rfl
 | d + 1, m, h, hn => by
  rw [← Nat.add_assoc, hs (m + d) (by omega) (hn _ (by omega) (by omega))]
  exact const_run f wr hs d m (by omega) fun k h1 h2 => hn k h1 (by omega)
theorem Ver.eq {α : Type} {n : Nat} {f : Nat -> α} {wr S : Nat -> Prop} {m m' : Nat} (hs : ∀ k, k < n -> ¬ wr k -> f (k + 1) = f k) (h : Ver n wr S m) (h' : Ver n wr S m') : f m = f m' := by
 rcases Nat.le_total m m' with q | q
 ·have := const_run f wr hs (m' - m) m (by have := h'.le; omega) fun k h1 h2 h3 => h.todo k h1 (by have := h'.le; omega) h3 (h'.done k (by omega) h3)
  rw [show m + (m' - m) = m' by omega] at this
  exact this.symm
 ·have := const_run f wr hs (m - m') m' (by have := h.le; omega) fun k h1 h2 h3 => h'.todo k h1 (by have := h.le; omega) h3 (h.done k (by omega) h3)
  rw [show m' + (m - m') = m by omega] at this
  exact this
theorem ancs_at : ∀ (l : List Oper) (acc : List (List Nat)) (j : Nat), ∃ X, ancs l acc = acc ++ X /\ X.length = l.length /\ ∀ j o, l[j]? = some o -> X[j]? = some (ancOf (acc ++ X.take j) o)
 | [], acc, _ => ⟨[], by simp [ancs], rfl, fun j o h => by simp at h⟩
 | o :: l, acc, _ => by
  obtain ⟨X, h1, h2, h3⟩ := ancs_at l (acc ++ [ancOf acc o]) 0
  refine ⟨ancOf acc o :: X, by rw [ancs, h1]; simp, by simp [h2], fun j u hj => ?_⟩
  cases j with
  | zero => simp at hj; subst hj; simp
  | succ j =>
   simp only [List.getElem?_cons_succ] at hj ⊢
   rw [h3 j u hj]
   simp
theorem edges_at : ∀ (l : List Oper) (i : Nat), edgesOk l i = true -> ∀ j o, l[j]? = some o -> ∀ e ∈ depsA o, e < i + j
 | [], i, _, j, o, h => by simp at h
 | u :: l, i, h, j, o, hj => by
  unfold edgesOk at h
  rw [Bool.and_eq_true] at h
  cases j with
  | zero =>
   simp at hj; subst hj
   intro e he
   have := List.all_eq_true.1 h.1 e he
   simpa using this
  | succ j =>
   simp only [List.getElem?_cons_succ] at hj
   intro e he
   have := edges_at l (i + 1) h.2 j o hj e he
   omega
theorem stands_done {ops : Array Oper} {S : Nat -> Prop} (he : edgesOk ops.toList 0 = true) (hc : ∀ k o, ops[k]? = some o -> S k -> ∀ e ∈ depsA o, S e) :
  ∀ (m j : Nat), j < m -> ∀ o, ops[j]? = some o -> (∀ e ∈ depsA o, S e) -> ∀ i, stands (ancs ops.toList []) i j = true -> S i := by
 obtain ⟨X, h1, h2, h3⟩ := ancs_at ops.toList [] 0
 rw [List.nil_append] at h1
 rw [h1]
 intro m
 induction m with
 | zero => intro j hj; omega
 | succ m ih =>
  intro j hj o ho hd i hi
  unfold stands at hi
  rw [nth_eq, h3 j o (by simpa using ho)] at hi
  simp only [Option.getD_some, List.nil_append] at hi
  unfold ancOf at hi
  rw [List.contains_iff_mem, List.mem_flatMap] at hi
  obtain ⟨e, e1, e2⟩ := hi
  have hlt : e < j := by simpa using edges_at ops.toList 0 he j o (by simpa using ho) e e1
  rcases List.mem_cons.1 e2 with q | q
  ·subst q; exact hd i e1
  ·rw [nth_eq, List.getElem?_take, if_pos hlt] at q
   have hjs : j < ops.size := (Array.getElem?_eq_some_iff.1 ho).1
   have hes : e < ops.size := by omega
   refine ih e (by omega) ops[e] (by simp [hes]) (fun d hd' => hc e ops[e] (by simp [hes]) (hd e e1) d hd') i ?_
   unfold stands
   rw [nth_eq]
   exact List.contains_iff_mem.2 q
theorem tmps_at {ops : Array Oper} {an : List (List Nat)} : ∀ (l : List Oper) (i : Nat) (ps : List (Nat × Oper)), tmpsOk ops an l i ps = true ->
  (∀ j o, l[j]? = some o -> ∀ p ∈ ps, o.apart ops p.2 = true ∨ stands an p.1 (i + j) = true) /\ ∀ j k o u, k < j -> l[j]? = some o -> l[k]? = some u -> o.apart ops u = true ∨ stands an (i + k) (i + j) = true
 | [], i, ps, _ => ⟨fun j o h => by simp at h, fun j k o u _ h => by simp at h⟩
 | x :: l, i, ps, h => by
  unfold tmpsOk at h
  rw [Bool.and_eq_true] at h
  obtain ⟨h1, h2⟩ := tmps_at l (i + 1) ((i, x) :: ps) h.2
  constructor
  ·intro j o hj p hp
   cases j with
   | zero =>
    simp at hj; subst hj
    have := List.all_eq_true.1 h.1 p hp
    rw [Bool.or_eq_true] at this
    exact this
   | succ j =>
    simp only [List.getElem?_cons_succ] at hj
    have := h1 j o hj p (List.mem_cons_of_mem _ hp)
    rw [show i + 1 + j = i + (j + 1) by omega] at this
    exact this
  ·intro j k o u hk hj hu
   cases j with
   | zero => omega
   | succ j =>
    simp only [List.getElem?_cons_succ] at hj
    cases k with
    | zero =>
     simp at hu; subst hu
     have := h1 j o hj (i, x) (List.mem_cons_self ..)
     rw [show i + 1 + j = i + (j + 1) by omega] at this
     exact this
    | succ k =>
     simp only [List.getElem?_cons_succ] at hu
     have := h2 j k o u (by omega) hj hu
     rw [show i + 1 + j = i + (j + 1) by omega, show i + 1 + k = i + (k + 1) by omega] at this
     exact this
theorem meets_mem {a b : List Nat} {x : Nat} (h1 : x ∈ a) (h2 : x ∈ b) : meets a b = true := by
 unfold meets
 rw [List.any_eq_true]
 exact ⟨x, h1, List.contains_iff_mem.2 h2⟩
theorem pairs_at {an : List (List Nat)} {x : Lg} {l : List Lg} (h : pairsOk an x l = true) {y : Lg} (hy : y ∈ l) {b : Nat} (hb : (b ∈ x.wr /\ (b ∈ y.rd ∨ b ∈ y.wr)) ∨ (b ∈ y.wr /\ b ∈ x.rd)) : stands an y.i x.i = true := by
 have m2 : meet2 x y = true := by
  unfold meet2
  rw [Bool.or_eq_true, Bool.or_eq_true]
  rcases hb with ⟨h1, h2 | h2⟩ | ⟨h1, h2⟩
  ·exact .inr (.inl (meets_mem h1 h2))
  ·exact .inl (meets_mem h1 h2)
  ·exact .inr (.inr (meets_mem h2 h1))
 have fin : pairOk an x y = true -> stands an y.i x.i = true := by
  unfold pairOk
  rw [m2]
  exact id
 unfold pairsOk at h
 split at h
 ·rename_i he
  have k := List.all_eq_true.1 h y hy
  rw [he] at hb
  rcases hb with ⟨h1, _⟩ | ⟨h1, _⟩
  ·cases h1
  ·cases hy' : y.wr with
   | nil => rw [hy'] at h1; cases h1
   | cons c cs =>
    rw [hy'] at k
    exact fin k
 ·exact fin (List.all_eq_true.1 h y hy)
theorem made_at {an : List (List Nat)} {i : Nat} {nw : List Nat} {l : List Lg} (h : madeOk an i nw l = true) {y : Lg} (hy : y ∈ l) {b : Nat} (hb : b ∈ nw) (h1 : y.lo <= b) (h2 : b < y.hi) : stands an y.i i = true := by
 unfold madeOk at h
 split at h
 ·cases hb
 ·have k := List.all_eq_true.1 h y hy
  have : madeBy nw y = true := by
   unfold madeBy
   rw [List.any_eq_true]
   exact ⟨b, hb, by rw [Bool.and_eq_true]; exact ⟨Nat.ble_eq_true_of_le h1, by simpa using h2⟩⟩
  rw [this] at k
  exact k
theorem logs_at {nx : Nat} {an : List (List Nat)} {lg : Nat -> Lg} : ∀ (n : Nat), logsOk nx an ((List.range n).map lg).reverse = true -> ∀ j k, k < j -> j < n ->
  (∀ b, (b ∈ (lg j).wr /\ (b ∈ (lg k).rd ∨ b ∈ (lg k).wr)) ∨ (b ∈ (lg k).wr /\ b ∈ (lg j).rd) -> stands an (lg k).i (lg j).i = true) /\
  ∀ b, nx <= b -> (b ∈ (lg j).rd ∨ b ∈ (lg j).wr) -> (lg k).lo <= b -> b < (lg k).hi -> stands an (lg k).i (lg j).i = true
 | 0, _, j, k, _, h => by omega
 | n + 1, h, j, k, hk, hj => by
  rw [List.range_succ, List.map_append, List.reverse_append] at h
  simp only [List.map_cons, List.map_nil, List.reverse_cons, List.reverse_nil, List.nil_append, List.singleton_append] at h
  unfold logsOk at h
  rw [Bool.and_eq_true, Bool.and_eq_true] at h
  by_cases e : j = n
  ·subst e
   have hy : lg k ∈ ((List.range j).map lg).reverse := by
    rw [List.mem_reverse]
    exact List.mem_map_of_mem (List.mem_range.2 hk)
   refine ⟨fun b hb => pairs_at h.1 hy hb, fun b h1 h2 h3 h4 => made_at h.2.1 hy ?_ h3 h4⟩
   unfold newOf
   rw [List.mem_append]
   rcases h2 with q | q
   ·exact .inl (List.mem_filter.2 ⟨q, Nat.ble_eq_true_of_le h1⟩)
   ·exact .inr (List.mem_filter.2 ⟨q, Nat.ble_eq_true_of_le h1⟩)
  ·exact logs_at n h.2.2 j k hk (by omega)
section
variable {P : Program} {ne : FuncId} {plug : FuncId -> List Value -> Option Value} {call : FuncId -> List Value -> M Value}
structure Seq (P : Program) (ne : FuncId) (plug : FuncId -> List Value -> Option Value) (call : FuncId -> List Value -> M Value) (n : Nat) (ops l : List Oper) (i0 : Nat) (st : Nat -> St) (tv : Nat -> Tr Value) (v : Nat -> Value) (lg : Nat -> Lg) : Prop where
 step : ∀ k o, l[k]? = some o -> logOn (valA P ne plug call ops o (tv k)) (st k) = some ((v k, (lg k).rd, (lg k).wr, (lg k).lo, (lg k).hi), st (k + 1)) /\ putA (tv k) n o.dst (v k) = some (tv (k + 1)) /\ (lg k).i = i0 + k
theorem draw_seq {n : Nat} {ops : List Oper} : ∀ (l : List Oper) (i : Nat) (tm tm' : Tr Value) (ls ls' : List Lg) (s s' : St), runDraw P ne plug call n ops l i tm ls s = some ((tm', ls'), s') ->
  ∃ st tv v lg, Seq P ne plug call n ops l i st tv v lg /\ st 0 = s /\ tv 0 = tm /\ st l.length = s' /\ tv l.length = tm' /\ ls' = ((List.range l.length).map lg).reverse ++ ls
 | [], i, tm, tm', ls, ls', s, s', h => by
  unfold runDraw at h
  rw [ret_some] at h
  cases h
  exact ⟨fun _ => s, fun _ => tm, fun _ => undef, fun _ => ⟨0, [], [], 0, 0⟩, ⟨fun k o h => by simp at h⟩, rfl, rfl, rfl, rfl, by simp⟩
 | o :: l, i, tm, tm', ls, ls', s, s', h => by
  unfold runDraw at h
  rw [bnd_some] at h
  obtain ⟨⟨v0, rd, wr, lo, hi⟩, s1, h1, h⟩ := h
  rw [bnd_some] at h
  obtain ⟨tm1, s2, h2, h⟩ := h
  rw [lft_some] at h2
  obtain ⟨tm2, h2, h3⟩ := h2
  cases h3
  obtain ⟨st, tv, v, lg, k1, k2, k3, k4, k5, k6⟩ := draw_seq l (i + 1) tm1 tm' _ ls' s1 s' h
  refine ⟨fun k => match k with | 0 => s | k + 1 => st k, fun k => match k with | 0 => tm | k + 1 => tv k, fun k => match k with | 0 => v0 | k + 1 => v k, fun k => match k with | 0 => ⟨i, rd, wr, lo, hi⟩ | k + 1 => lg k, ⟨fun k u hu => ?_⟩, rfl, rfl, k4, k5, ?_⟩
  ·cases k with
   | zero =>
    simp at hu; subst hu
    exact ⟨by simp only [k2]; exact h1, by simp only [k3]; exact h2, rfl⟩
   | succ k =>
    simp only [List.getElem?_cons_succ] at hu
    obtain ⟨q1, q2, q3⟩ := k1.step k u hu
    exact ⟨q1, q2, by rw [q3]; omega⟩
  ·rw [k6, List.length_cons, List.range_succ_eq_map]
   simp [List.map_map, Function.comp_def]
end
end Go.Proofs.YtmdlgfnibjcgmaaGreatDoor.Rn
set_option linter.unusedSectionVars false
noncomputable section
namespace Go.Proofs.YtmdlgfnibjcgmaaGreatDoor.Rn
open Go.RowKit
def pick (h : Tr Obj) : List Nat -> Tr Obj
 | [] => .leaf
 | b :: l => (pick h l).set (h.get b) b
theorem get_pick (h : Tr Obj) (b : Nat) : ∀ l : List Nat, (pick h l).get b = if b ∈ l then h.get b else none
 | [] => by simp [pick, Tr.get_leaf]
 | c :: l => by
  rw [pick, get_set, get_pick h b l]
  by_cases e : b = c
  ·subst e; simp
  ·simp [e]
theorem logOn_run {α : Type} {x : M α} {s s' : St} {a : α} {rd wr : List Nat} {lo hi : Nat} (hx : Loc x) (hw : WF s) (h : logOn x s = some ((a, rd, wr, lo, hi), s')) :
  s.nx <= s'.nx /\ WF s' /\ Dm s s' /\ lo = s.nx /\ hi = s'.nx /\ ∃ R W t, x ⟨s.h, s.nx, true, [], []⟩ = some (a, t) /\ t.h = s'.h /\ t.nx = s'.nx /\ rd = under s.nx R /\ wr = under s.nx W /\ Rpl x ⟨s.h, s.nx, true, [], []⟩ a t R W := by
 obtain ⟨hh, nx, lg, rd0, wr0⟩ := s
 simp only [Go.Proofs.YtmdlgfnibjcgmaaGreatDoor.Rn.logOn, logS] at h
 cases h1 : x ⟨hh, nx, true, [], []⟩ with
 | none => rw [h1] at h; cases h
 | some p =>
  obtain ⟨a1, t⟩ := p
  rw [h1] at h
  obtain ⟨n1, l1, ⟨w1, d1⟩, k1⟩ := hx ⟨hh, nx, true, [], []⟩ a1 t hw h1
  obtain ⟨R, W, p⟩ := k1 rfl
  obtain ⟨h', nx', lg', rd', wr'⟩ := t
  simp only [logEnd] at h
  cases h
  have e1 := p.rd
  have e2 := p.wr
  simp only [List.append_nil] at e1 e2
  exact ⟨n1, w1, d1, rfl, rfl, R, W, _, rfl, rfl, rfl, by rw [e1], by rw [e2], p⟩
structure OpK {α : Type} (x : M α) (a : α) (s s' : St) (rd wr : List Nat) (r r' : St) : Prop where
 run : x r = some (a, r')
 rnx : r.nx = s.nx
 rnx' : r'.nx = s'.nx
 wf : WF r
 get : ∀ b, r.h.get b = if b ∈ rd ∨ b ∈ wr then s.h.get b else none
 get' : ∀ b, b ∈ wr ∨ (s.nx <= b /\ b < s'.nx) -> r'.h.get b = s'.h.get b
 keep' : ∀ b, ¬ (b ∈ wr ∨ (s.nx <= b /\ b < s'.nx)) -> r'.h.get b = r.h.get b
 keep : ∀ b, ¬ (b ∈ wr ∨ (s.nx <= b /\ b < s'.nx)) -> s'.h.get b = s.h.get b
 lt : ∀ b, b ∈ rd ∨ b ∈ wr -> b < s.nx
theorem opK_of {α : Type} {x : M α} {s s' : St} {a : α} {rd wr : List Nat} {lo hi : Nat} (hx : Loc x) (hw : WF s) (h : logOn x s = some ((a, rd, wr, lo, hi), s')) : ∃ r r', OpK x a s s' rd wr r r' := by
 obtain ⟨n1, w1, d1, rfl, rfl, R, W, t, h1, h2, h3, h4, h5, p⟩ := logOn_run hx hw h
 have mr : ∀ b, b ∈ rd ↔ b ∈ R /\ b < s.nx := fun b => by rw [h4]; exact mem_under
 have mw : ∀ b, b ∈ wr ↔ b ∈ W /\ b < s.nx := fun b => by rw [h5]; exact mem_under
 have ov : ∀ b, Ov W s.nx t.nx b ↔ (b ∈ wr ∨ (s.nx <= b /\ b < s'.nx)) := by
  intro b
  unfold Ov
  rw [mw, h3]
  constructor
  ·rintro (q | q)
   ·rcases Nat.lt_or_ge b s.nx with z | z
    ·exact .inl ⟨q, z⟩
    ·exact .inr ⟨z, by have := p.lt b q; omega⟩
   ·exact .inr q
  ·rintro (q | q)
   ·exact .inl q.1
   ·exact .inr q
 have gp : ∀ b, (pick s.h (rd ++ wr)).get b = if b ∈ rd ∨ b ∈ wr then s.h.get b else none := fun b => by rw [get_pick]; simp only [List.mem_append]
 have hlt : ∀ b, b ∈ rd ∨ b ∈ wr -> b < s.nx := by
  rintro b (q | q)
  ·exact ((mr b).1 q).2
  ·exact ((mw b).1 q).2
 obtain ⟨r', e1, e2, e3, e4, e5, e6, e7⟩ := p.again ⟨pick s.h (rd ++ wr), s.nx, true, [], []⟩ rfl rfl (fun b hb hlt => by
  have hlt' : b < s.nx := hlt
  show (pick s.h (rd ++ wr)).get b = s.h.get b
  rw [gp, if_pos]
  rcases hb with q | q
  ·exact .inl ((mr b).2 ⟨q, hlt'⟩)
  ·exact .inr ((mw b).2 ⟨q, hlt'⟩)) (fun b hb _ => by
  have hb' : s.nx <= b := hb
  show (pick s.h (rd ++ wr)).get b = none
  rw [gp, if_neg (fun q => by have := hlt b q; omega)])
 refine ⟨⟨pick s.h (rd ++ wr), s.nx, true, [], []⟩, r', e1, rfl, by rw [e2, h3], fun b hb => ?_, gp, fun b hb => ?_, fun b hb => e7 b (fun q => hb ((ov b).1 q)), fun b hb => ?_, hlt⟩
 ·have hb' : s.nx <= b := hb
  show (pick s.h (rd ++ wr)).get b = none
  rw [gp, if_neg (fun q => by have := hlt b q; omega)]
 ·rw [e6 b ((ov b).2 hb), h2]
 ·rw [← h2]
  exact p.frame b (fun q => hb ((ov b).1 q))
section
variable {P : Program} {ne : FuncId} {plug : FuncId -> List Value -> Option Value} {call : FuncId -> List Value -> M Value}
structure Txt (P : Program) (ne : FuncId) (plug : FuncId -> List Value -> Option Value) (call : FuncId -> List Value -> M Value) (n : Nat) (ops : Array Oper) (st : Nat -> St) (tv : Nat -> Tr Value) (v : Nat -> Value) (lg : Nat -> Lg) (r r' : Nat -> St) : Prop where
 op : ∀ k o, ops[k]? = some o -> OpK (valA P ne plug call ops.toList o (tv k)) (v k) (st k) (st (k + 1)) (lg k).rd (lg k).wr (r k) (r' k)
 put : ∀ k o, ops[k]? = some o -> putA (tv k) n o.dst (v k) = some (tv (k + 1))
 wf : ∀ k, k <= ops.size -> WF (st k)
 nx : ∀ k, k < ops.size -> (st k).nx <= (st (k + 1)).nx
 dm : ∀ k, k < ops.size -> Dm (st k) (st (k + 1))
 i : ∀ k, k < ops.size -> (lg k).i = k /\ (lg k).lo = (st k).nx /\ (lg k).hi = (st (k + 1)).nx
theorem txt_of (hl : ∀ f args, Loc (call f args)) {n : Nat} {ops : Array Oper} {st : Nat -> St} {tv : Nat -> Tr Value} {v : Nat -> Value} {lg : Nat -> Lg} (h : Seq P ne plug call n ops.toList ops.toList 0 st tv v lg) (hw : WF (st 0)) : ∃ r r', Txt P ne plug call n ops st tv v lg r r' := by
 have ho : ∀ k, k < ops.size -> ops.toList[k]? = some ops[k]! := fun k hk => by simp [hk]
 have hw' : ∀ k, k <= ops.size -> WF (st k) := by
  intro k
  induction k with
  | zero => intro _; exact hw
  | succ k ih =>
   intro hk
   exact (logOn_run (Loc.valA hl _ _ _) (ih (by omega)) (h.step k _ (ho k (by omega))).1).2.1
 have hx : ∀ k, ∃ r r', ∀ o, ops[k]? = some o -> OpK (valA P ne plug call ops.toList o (tv k)) (v k) (st k) (st (k + 1)) (lg k).rd (lg k).wr r r' := by
  intro k
  cases hk : ops[k]? with
  | none => exact ⟨st 0, st 0, fun o q => by cases q⟩
  | some o =>
   have hlt : k < ops.size := (Array.getElem?_eq_some_iff.1 hk).1
   obtain ⟨r, r', q⟩ := opK_of (Loc.valA hl _ _ _) (hw' k (by omega)) (h.step k o (by simpa using hk)).1
   exact ⟨r, r', fun o' e => by cases e; exact q⟩
 refine ⟨fun k => (hx k).choose, fun k => (hx k).choose_spec.choose, fun k o hk => (hx k).choose_spec.choose_spec o hk, fun k o hk => (h.step k o (by simpa using hk)).2.1, hw', fun k hk => ?_, fun k hk => ?_, fun k hk => ?_⟩
 ·exact (logOn_run (Loc.valA hl _ _ _) (hw' k (by omega)) (h.step k _ (ho k hk)).1).1
 ·exact (logOn_run (Loc.valA hl _ _ _) (hw' k (by omega)) (h.step k _ (ho k hk)).1).2.2.1
 ·have q := logOn_run (Loc.valA hl _ _ _) (hw' k (by omega)) (h.step k _ (ho k hk)).1
  exact ⟨by rw [(h.step k _ (ho k hk)).2.2]; omega, q.2.2.2.1, q.2.2.2.2.1⟩
end
end Go.Proofs.YtmdlgfnibjcgmaaGreatDoor.Rn
