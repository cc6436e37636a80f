/-
  Several texts joined: RnL.
-/
import Derived.Test.YtmdlgfnibjcgmaaGreatDoorK30
set_option linter.unusedVariables false
set_option linter.unusedSimpArgs false
set_option linter.unusedSectionVars false
namespace Go.Proofs.YtmdlgfnibjcgmaaGreatDoor.Rn
theorem bnd_some {α β : Type} {x : M α} {f : α -> M β} {s : St} {r : β × St} : bnd x f s = some r ↔ ∃ a s1, x s = some (a, s1) /\ f a s1 = some r := by
 unfold bnd
 cases h : x s with
 | none => simp
 | some p =>
  obtain ⟨a, s1⟩ := p
  simp only [Option.some.injEq, Prod.mk.injEq]
  constructor
  ·intro h; exact ⟨a, s1, ⟨rfl, rfl⟩, h⟩
  ·rintro ⟨a', s', ⟨rfl, rfl⟩, h⟩; exact h
theorem ret_some {α : Type} {a : α} {s : St} {r : α × St} : ret a s = some r ↔ r = (a, s) := by
 unfold ret; constructor
 ·intro h; cases h; rfl
 ·rintro rfl; rfl
theorem die_some {α : Type} {s : St} {r : α × St} : (die : M α) s = some r ↔ False := by unfold die; simp
theorem lft_some {α : Type} {o : Option α} {s : St} {r : α × St} : lft o s = some r ↔ ∃ a, o = some a /\ r = (a, s) := by
 unfold lft
 cases o with
 | none => simp
 | some a => simp; constructor <;> (intro h; cases h; rfl)
theorem grd_some {α : Type} {b : Bool} {x : M α} {s : St} {r : α × St} : grd b x s = some r ↔ b = true /\ x s = some r := by
 unfold grd; cases b <;> simp
theorem opt_some {α β : Type} {o : Option α} {f : α -> M β} {s : St} {r : β × St} : opt o f s = some r ↔ ∃ a, o = some a /\ f a s = some r := by
 unfold opt; cases o <;> simp
theorem sel_some {α : Type} {b : Bool} {x y : M α} {s : St} {r : α × St} : sel b x y s = some r ↔ (b = true /\ x s = some r) ∨ (b = false /\ y s = some r) := by
 unfold sel; cases b <;> simp
theorem par {α : Type} (x y : α) (m : Nat) : @Bool.rec (fun _ => α) x y (Nat.beq (Nat.mod m 2) 0) = if m % 2 = 0 then y else x := by
 by_cases h : m % 2 = 0
 ·have : Nat.beq (Nat.mod m 2) 0 = true := by rw [Nat.beq_eq]; exact h
  rw [this, if_pos h]
 ·have : Nat.beq (Nat.mod m 2) 0 = false := by
   rw [Bool.eq_false_iff]; intro k; rw [Nat.beq_eq] at k; exact h k
  rw [this, if_neg h]
theorem Tr.get_leaf {α : Type} (n : Nat) : (Tr.leaf : Tr α).get n = none := rfl
theorem Tr.get_node {α : Type} (l r : Tr α) (o : Option α) (n : Nat) : (Tr.node l o r).get n = match n with
 | 0 => o
 | m + 1 => if m % 2 = 0 then l.get (m / 2) else r.get (m / 2) := by
 cases n with
 | zero => rfl
 | succ m =>
  exact par _ _ m
theorem sett_leaf {α : Type} (v : Option α) (f n : Nat) : Tr.sett v (f + 1) .leaf n = match n with
 | 0 => .node .leaf v .leaf
 | m + 1 => if m % 2 = 0 then .node (Tr.sett v f .leaf (m / 2)) none .leaf else .node .leaf none (Tr.sett v f .leaf (m / 2)) := by
 cases n with
 | zero => rfl
 | succ m =>
  exact par _ _ m
theorem sett_node {α : Type} (v : Option α) (f n : Nat) (l r : Tr α) (o : Option α) : Tr.sett v (f + 1) (.node l o r) n = match n with
 | 0 => .node l v r
 | m + 1 => if m % 2 = 0 then .node (Tr.sett v f l (m / 2)) o r else .node l o (Tr.sett v f r (m / 2)) := by
 cases n with
 | zero => rfl
 | succ m =>
  exact par _ _ m
theorem get_sett {α : Type} (v : Option α) : ∀ (f : Nat) (t : Tr α) (n m : Nat), n + 1 < 2 ^ f -> (Tr.sett v f t n).get m = if m = n then v else t.get m
 | 0, t, n, m, h => by simp at h
 | f + 1, .leaf, n, m, h => by
  rw [sett_leaf]
  cases n with
  | zero =>
   simp only [Tr.get_node, Tr.get_leaf]
   cases m with
   | zero => simp
   | succ m => simp
  | succ n =>
   have hn : n / 2 + 1 < 2 ^ f := by rw [Nat.pow_succ] at h; omega
   simp only
   by_cases hp : n % 2 = 0
   ·rw [if_pos hp, Tr.get_node]
    cases m with
    | zero => simp [Tr.get_leaf]
    | succ m =>
     simp only [get_sett v f _ _ _ hn, Tr.get_leaf]
     by_cases hq : m % 2 = 0
     ·rw [if_pos hq]
      by_cases e : m = n
      ·subst e; simp
      ·rw [if_neg (by omega), if_neg (by omega)]
     ·rw [if_neg hq, if_neg (by omega)]
   ·rw [if_neg hp, Tr.get_node]
    cases m with
    | zero => simp [Tr.get_leaf]
    | succ m =>
     simp only [get_sett v f _ _ _ hn, Tr.get_leaf]
     by_cases hq : m % 2 = 0
     ·rw [if_pos hq, if_neg (by omega)]
     ·rw [if_neg hq]
      by_cases e : m = n
      ·subst e; simp
      ·rw [if_neg (by omega), if_neg (by omega)]
 | f + 1, .node l o r, n, m, h => by
  rw [sett_node]
  cases n with
  | zero =>
   simp only [Tr.get_node]
   cases m with
   | zero => simp
   | succ m => simp
  | succ n =>
   have hn : n / 2 + 1 < 2 ^ f := by rw [Nat.pow_succ] at h; omega
   simp only
   by_cases hp : n % 2 = 0
   ·rw [if_pos hp]
    cases m with
    | zero => simp [Tr.get_node]
    | succ m =>
     simp only [Tr.get_node, get_sett v f _ _ _ hn]
     by_cases hq : m % 2 = 0
     ·rw [if_pos hq, if_pos hq]
      by_cases e : m = n
      ·subst e; simp
      ·rw [if_neg (by omega), if_neg (by omega)]
     ·rw [if_neg hq, if_neg hq, if_neg (by omega)]
   ·rw [if_neg hp]
    cases m with
    | zero => simp [Tr.get_node]
    | succ m =>
     simp only [Tr.get_node, get_sett v f _ _ _ hn]
     by_cases hq : m % 2 = 0
     ·rw [if_pos hq, if_pos hq, if_neg (by omega)]
     ·rw [if_neg hq, if_neg hq]
      by_cases e : m = n
      ·subst e; simp
      ·rw [if_neg (by omega), if_neg (by omega)]
theorem get_set {α : Type} (t : Tr α) (v : Option α) (n m : Nat) : (t.set v n).get m = if m = n then v else t.get m :=
 get_sett v (n + 1) t n m Nat.lt_two_pow_self
theorem nth_eq {α : Type} : ∀ (l : List α) (n : Nat), nth l n = l[n]?
 | [], _ => rfl
 | a :: l, 0 => rfl
 | a :: l, n + 1 => by rw [List.getElem?_cons_succ, ← nth_eq l n]; rfl
def WF (s : St) : Prop := ∀ b, s.nx <= b -> s.h.get b = none
def Dm (s s' : St) : Prop := ∀ b, b < s.nx -> s.h.get b = none -> s'.h.get b = none
theorem Dm.refl (s : St) : Dm s s := fun _ _ h => h
def Ov (W : List Nat) (lo hi b : Nat) : Prop := b ∈ W ∨ (lo <= b /\ b < hi)
structure Rpl {α : Type} (x : M α) (s : St) (a : α) (s' : St) (R W : List Nat) : Prop where
 rd : s'.rd = R ++ s.rd
 wr : s'.wr = W ++ s.wr
 lt : ∀ b ∈ W, b < s'.nx
 frame : ∀ b, ¬ Ov W s.nx s'.nx b -> s'.h.get b = s.h.get b
 again : ∀ g : St, g.nx = s.nx -> g.lg = true -> (∀ b, (b ∈ R ∨ b ∈ W) -> b < s.nx -> g.h.get b = s.h.get b) -> (∀ b, s.nx <= b -> b < s'.nx -> g.h.get b = none) ->
  ∃ g', x g = some (a, g') /\ g'.nx = s'.nx /\ g'.lg = true /\ g'.rd = R ++ g.rd /\ g'.wr = W ++ g.wr /\ (∀ b, Ov W s.nx s'.nx b -> g'.h.get b = s'.h.get b) /\ ∀ b, ¬ Ov W s.nx s'.nx b -> g'.h.get b = g.h.get b
def Loc {α : Type} (x : M α) : Prop := ∀ s a s', WF s -> x s = some (a, s') -> s.nx <= s'.nx /\ s'.lg = s.lg /\ (WF s' /\ Dm s s') /\ (s.lg = true -> ∃ R W, Rpl x s a s' R W)
theorem Rpl.idle {α : Type} {x : M α} {a : α} {s : St} (h : ∀ g : St, x g = some (a, g)) : Rpl x s a s [] [] :=
 ⟨rfl, rfl, (fun b hb => by cases hb), fun b _ => rfl, fun g h1 h2 _ _ => ⟨g, h g, h1, h2, rfl, rfl, (fun b hb => by
  rcases hb with hb | hb
  ·cases hb
  ·omega), fun b _ => rfl⟩⟩
theorem Loc.ret {α : Type} (a : α) : Loc (ret a) := by
 intro s b s' hw h
 rw [ret_some] at h
 cases h
 exact ⟨Nat.le_refl _, rfl, ⟨hw, Dm.refl _⟩, fun _ => ⟨[], [], Rpl.idle fun g => rfl⟩⟩
theorem Loc.die {α : Type} : Loc (die : M α) := by
 intro s b s' hw h
 rw [die_some] at h; exact h.elim
theorem Loc.lft {α : Type} (o : Option α) : Loc (lft o) := by
 cases o with
 | none => intro s b s' hw h; rw [lft_some] at h; obtain ⟨_, h, _⟩ := h; cases h
 | some a => exact Loc.ret a
theorem Loc.grd {α : Type} {b : Bool} {x : M α} (h : b = true -> Loc x) : Loc (grd b x) := by
 cases b with
 | false => exact Loc.die
 | true => exact h rfl
theorem Loc.opt {α β : Type} {o : Option α} {f : α -> M β} (h : ∀ a, o = some a -> Loc (f a)) : Loc (opt o f) := by
 cases o with
 | none => exact Loc.die
 | some a => exact h a rfl
theorem Loc.bnd {α β : Type} {x : M α} {f : α -> M β} (hx : Loc x) (hf : ∀ a, Loc (f a)) : Loc (bnd x f) := by
 intro s c s' hw h
 rw [bnd_some] at h
 obtain ⟨a, s1, h1, h2⟩ := h
 obtain ⟨n1, l1, ⟨w1, m1⟩, k1⟩ := hx s a s1 hw h1
 obtain ⟨n2, l2, ⟨w2, m2⟩, k2⟩ := hf a s1 c s' w1 h2
 refine ⟨Nat.le_trans n1 n2, l2.trans l1, ⟨w2, fun b hb k => m2 b (by omega) (m1 b hb k)⟩, fun hl => ?_⟩
 obtain ⟨R1, W1, p1⟩ := k1 hl
 obtain ⟨R2, W2, p2⟩ := k2 (l1.trans hl)
 have ov : ∀ b, Ov (W2 ++ W1) s.nx s'.nx b ↔ Ov W2 s1.nx s'.nx b ∨ Ov W1 s.nx s1.nx b := by
  intro b
  unfold Ov
  rw [List.mem_append]
  constructor
  ·rintro ((h | h) | h)
   ·exact .inl (.inl h)
   ·exact .inr (.inl h)
   ·by_cases q : b < s1.nx
    ·exact .inr (.inr ⟨h.1, q⟩)
    ·exact .inl (.inr ⟨by omega, h.2⟩)
  ·rintro ((h | h) | (h | h))
   ·exact .inl (.inl h)
   ·exact .inr ⟨by omega, h.2⟩
   ·exact .inl (.inr h)
   ·exact .inr ⟨h.1, by omega⟩
 refine ⟨R2 ++ R1, W2 ++ W1, ⟨by rw [p2.rd, p1.rd, List.append_assoc], by rw [p2.wr, p1.wr, List.append_assoc], fun b hb => ?_, fun b hb => ?_, fun g g1 g2 g3 g4 => ?_⟩⟩
 ·rcases List.mem_append.1 hb with h | h
  ·exact p2.lt b h
  ·exact Nat.lt_of_lt_of_le (p1.lt b h) n2
 ·rw [ov] at hb
  rw [p2.frame b (fun h => hb (.inl h)), p1.frame b (fun h => hb (.inr h))]
 ·obtain ⟨u, e1, e2, e3, e4, e5, e6, e7⟩ := p1.again g g1 g2 (fun b hb hlt => g3 b (by rcases hb with h | h; exact .inl (List.mem_append.2 (.inr h)); exact .inr (List.mem_append.2 (.inr h))) hlt) (fun b hb hlt => g4 b hb (by omega))
  have q1 : ∀ b, (b ∈ R2 ∨ b ∈ W2) -> b < s1.nx -> u.h.get b = s1.h.get b := by
   intro b hb hlt
   by_cases q : Ov W1 s.nx s1.nx b
   ·exact e6 b q
   ·rw [e7 b q, p1.frame b q]
    have hb' : b < s.nx := by
     rcases Nat.lt_or_ge b s.nx with h | h
     ·exact h
     ·exact (q (.inr ⟨h, hlt⟩)).elim
    exact g3 b (by rcases hb with h | h; exact .inl (List.mem_append.2 (.inl h)); exact .inr (List.mem_append.2 (.inl h))) hb'
  have q2 : ∀ b, s1.nx <= b -> b < s'.nx -> u.h.get b = none := by
   intro b hb hlt
   rw [e7 b (fun h => by
    rcases h with h | h
    ·have := p1.lt b h; omega
    ·omega)]
   exact g4 b (by omega) hlt
  obtain ⟨v, f1, f2, f3, f4, f5, f6, f7⟩ := p2.again u e2 e3 q1 q2
  refine ⟨v, ?_, f2, f3, by rw [f4, e4, List.append_assoc], by rw [f5, e5, List.append_assoc], fun b hb => ?_, fun b hb => ?_⟩
  ·rw [bnd_some]; exact ⟨a, u, e1, f1⟩
  ·by_cases q : Ov W2 s1.nx s'.nx b
   ·exact f6 b q
   ·rw [f7 b q, p2.frame b q]
    rcases (ov b).1 hb with h | h
    ·exact (q h).elim
    ·exact e6 b h
  ·rw [ov] at hb
   rw [f7 b (fun h => hb (.inl h)), e7 b (fun h => hb (.inr h))]
theorem Loc.geto (b : Nat) : Loc (geto b) := by
 intro s o s' hw h
 unfold Go.Proofs.YtmdlgfnibjcgmaaGreatDoor.Rn.geto at h
 cases hb : s.h.get b with
 | none => rw [hb] at h; cases h
 | some o1 =>
  rw [hb] at h
  obtain ⟨hh, nx, lg, rd, wr⟩ := s
  simp only at hb
  cases h
  cases lg with
  | false => exact ⟨Nat.le_refl _, rfl, ⟨hw, Dm.refl _⟩, fun h => by cases h⟩
  | true =>
   refine ⟨Nat.le_refl _, rfl, ⟨hw, fun _ _ h => h⟩, fun _ => ⟨[b], [], ⟨rfl, rfl, (fun b hb => by cases hb), fun b _ => rfl, fun g h1 h2 h3 _ => ?_⟩⟩⟩
   have hlt : b < nx := by
    rcases Nat.lt_or_ge b nx with q | q
    ·exact q
    ·have := hw b q; simp only at this; rw [hb] at this; cases this
   have e := h3 b (.inl (List.mem_cons_self ..)) hlt
   simp only [hb] at e
   obtain ⟨gh, gnx, glg, grd, gwr⟩ := g
   simp only at h1 h2 e
   subst h1 h2
   refine ⟨⟨gh, gnx, true, b :: grd, gwr⟩, ?_, rfl, rfl, rfl, rfl, fun c hc => ?_, fun c _ => rfl⟩
   ·unfold Go.Proofs.YtmdlgfnibjcgmaaGreatDoor.Rn.geto
    simp only [e]; rfl
   ·rcases hc with hc | hc
    ·cases hc
    ·simp only [readS] at hc; omega
theorem Loc.seto (b : Nat) (o : Option Obj) : Loc (seto b o) := by
 intro s u s' hw h
 unfold Go.Proofs.YtmdlgfnibjcgmaaGreatDoor.Rn.seto at h
 cases hb : s.h.get b with
 | none => rw [hb] at h; cases h
 | some o1 =>
  rw [hb] at h
  obtain ⟨hh, nx, lg, rd, wr⟩ := s
  simp only at hb
  cases h
  have hlt : b < nx := by
   rcases Nat.lt_or_ge b nx with q | q
   ·exact q
   ·have := hw b q; simp only at this; rw [hb] at this; cases this
  have hw' : WF (putS b o ⟨hh, nx, lg, rd, wr⟩) := by
   intro c hc
   simp only [putS] at hc ⊢
   rw [get_set, if_neg (by omega)]
   exact hw c hc
  have hd' : Dm ⟨hh, nx, lg, rd, wr⟩ (putS b o ⟨hh, nx, lg, rd, wr⟩) := by
   intro c hc k
   simp only [putS] at k ⊢
   rw [get_set, if_neg (fun e => by rw [e, hb] at k; cases k)]
   exact k
  refine ⟨Nat.le_refl _, rfl, ⟨hw', hd'⟩, fun hl => ?_⟩
  simp only at hl
  subst hl
  refine ⟨[], [b], ⟨rfl, rfl, fun c hc => ?_, fun c hc => ?_, fun g h1 h2 h3 _ => ?_⟩⟩
  ·rw [List.mem_singleton] at hc; subst hc; exact hlt
  ·simp only [putS]
   rw [get_set, if_neg]
   intro e; subst e; exact hc (.inl (List.mem_cons_self ..))
  ·have e := h3 b (.inr (List.mem_cons_self ..)) hlt
   simp only [hb] at e
   obtain ⟨gh, gnx, glg, grd, gwr⟩ := g
   simp only at h1 h2 e
   subst h1 h2
   refine ⟨⟨gh.set o b, gnx, true, grd, b :: gwr⟩, ?_, rfl, rfl, rfl, rfl, fun c hc => ?_, fun c hc => ?_⟩
   ·unfold Go.Proofs.YtmdlgfnibjcgmaaGreatDoor.Rn.seto
    simp only [e]; rfl
   ·simp only [putS]
    rcases hc with hc | hc
    ·rw [List.mem_singleton] at hc; subst hc; rw [get_set, get_set, if_pos rfl, if_pos rfl]
    ·simp only [putS] at hc; omega
   ·simp only
    rw [get_set, if_neg]
    intro e; subst e; exact hc (.inl (List.mem_cons_self ..))
theorem Loc.newo (o : Obj) : Loc (newo o) := by
 intro s u s' hw h
 obtain ⟨hh, nx, lg, rd, wr⟩ := s
 have hn : hh.get nx = none := hw nx (Nat.le_refl _)
 simp only [Go.Proofs.YtmdlgfnibjcgmaaGreatDoor.Rn.newo, newS, hn] at h
 cases h
 have hw' : WF ⟨hh.set (some o) u, Nat.succ u, lg, rd, wr⟩ := by
  intro c hc
  simp only at hc ⊢
  rw [get_set, if_neg (by omega)]
  exact hw c (by simp only; omega)
 have hd' : Dm ⟨hh, u, lg, rd, wr⟩ ⟨hh.set (some o) u, Nat.succ u, lg, rd, wr⟩ := by
  intro c hc k
  simp only at hc k ⊢
  rw [get_set, if_neg (by omega)]
  exact k
 refine ⟨Nat.le_succ _, rfl, ⟨hw', hd'⟩, fun hl => ?_⟩
 simp only at hl
 subst hl
 refine ⟨[], [], ⟨rfl, rfl, (fun b hb => by cases hb), fun c hc => ?_, fun g h1 h2 _ h4 => ?_⟩⟩
 ·simp only
  rw [get_set, if_neg]
  intro e; exact hc (.inr ⟨Nat.le_of_eq e.symm, by simp only; omega⟩)
 ·obtain ⟨gh, gnx, glg, grd, gwr⟩ := g
  simp only at h1 h2 h4
  subst h1 h2
  have e := h4 gnx (Nat.le_refl _) (Nat.lt_succ_self _)
  refine ⟨⟨gh.set (some o) gnx, Nat.succ gnx, true, grd, gwr⟩, by simp only [Go.Proofs.YtmdlgfnibjcgmaaGreatDoor.Rn.newo, newS, e], rfl, rfl, rfl, rfl, fun c hc => ?_, fun c hc => ?_⟩
  ·simp only
   rcases hc with hc | hc
   ·cases hc
   ·simp only at hc
    have : c = gnx := by omega
    subst this
    rw [get_set, get_set, if_pos rfl, if_pos rfl]
  ·simp only
   rw [get_set, if_neg]
   intro e; exact hc (.inr ⟨Nat.le_of_eq e.symm, by simp only; omega⟩)
theorem mem_under {nx b : Nat} {l : List Nat} : b ∈ under nx l ↔ b ∈ l /\ b < nx := by
 unfold under
 rw [List.mem_filter]
 simp only [Nat.blt_eq]
theorem ov_under {W : List Nat} {lo hi : Nat} (h : ∀ b ∈ W, b < hi) (b : Nat) : Ov (under lo W) lo hi b ↔ Ov W lo hi b := by
 unfold Ov
 rw [mem_under]
 constructor
 ·rintro (h1 | h1)
  ·exact .inl h1.1
  ·exact .inr h1
 ·rintro (h1 | h1)
  ·rcases Nat.lt_or_ge b lo with q | q
   ·exact .inl ⟨h1, q⟩
   ·exact .inr ⟨q, h b h1⟩
  ·exact .inr h1
theorem Loc.logOn {α : Type} {x : M α} (hx : Loc x) : Loc (logOn x) := by
 intro s c s' hw h
 obtain ⟨hh, nx, lg, rd, wr⟩ := s
 simp only [Go.Proofs.YtmdlgfnibjcgmaaGreatDoor.Rn.logOn, logS] at h
 cases h1 : x ⟨hh, nx, true, [], []⟩ with
 | none => rw [h1] at h; cases h
 | some p =>
  obtain ⟨a, s1⟩ := p
  rw [h1] at h
  obtain ⟨n1, l1, w1, k1⟩ := hx ⟨hh, nx, true, [], []⟩ a s1 hw h1
  obtain ⟨R, W, p⟩ := k1 rfl
  obtain ⟨h', nx', lg', rd', wr'⟩ := s1
  simp only [logEnd] at h
  cases h
  refine ⟨n1, rfl, w1, fun hl => ?_⟩
  simp only at hl
  subst hl
  have e1 := p.rd
  have e2 := p.wr
  simp only [List.append_nil] at e1 e2
  subst e1 e2
  refine ⟨under nx rd', under nx wr', ⟨rfl, rfl, fun b hb => p.lt b (mem_under.1 hb).1, fun b hb => p.frame b (fun k => hb ((ov_under p.lt b).2 k)), fun g g1 g2 g3 g4 => ?_⟩⟩
  obtain ⟨gh, gnx, glg, grd, gwr⟩ := g
  simp only at g1 g2 g3 g4
  subst g1 g2
  obtain ⟨u, f1, f2, f3, f4, f5, f6, f7⟩ := p.again ⟨gh, gnx, true, [], []⟩ rfl rfl (fun b hb hlt => g3 b (by rcases hb with h | h; exact .inl (mem_under.2 ⟨h, hlt⟩); exact .inr (mem_under.2 ⟨h, hlt⟩)) hlt) g4
  obtain ⟨uh, unx, ulg, urd, uwr⟩ := u
  simp only [List.append_nil] at f2 f3 f4 f5
  subst f2 f3 f4 f5
  refine ⟨⟨uh, unx, true, under gnx urd ++ grd, under gnx uwr ++ gwr⟩, ?_, rfl, rfl, rfl, rfl, fun b hb => f6 b ((ov_under p.lt b).1 hb), fun b hb => f7 b (fun k => hb ((ov_under p.lt b).2 k))⟩
  simp only [Go.Proofs.YtmdlgfnibjcgmaaGreatDoor.Rn.logOn, logS, f1, logEnd]
theorem Loc.trim {α : Type} {x : M α} (hx : Loc x) : Loc (trim x) := by
 intro s c s' hw h
 obtain ⟨hh, nx, lg, rd, wr⟩ := s
 simp only [Go.Proofs.YtmdlgfnibjcgmaaGreatDoor.Rn.trim, trimS] at h
 cases lg with
 | false =>
  obtain ⟨q1, q2, q3, _⟩ := hx ⟨hh, nx, false, rd, wr⟩ c s' hw h
  exact ⟨q1, q2, q3, fun h => by cases h⟩
 | true =>
  simp only at h
  cases h1 : x ⟨hh, nx, true, [], []⟩ with
  | none => rw [h1] at h; cases h
  | some p =>
   obtain ⟨a, s1⟩ := p
   rw [h1] at h
   obtain ⟨n1, l1, w1, k1⟩ := hx ⟨hh, nx, true, [], []⟩ a s1 hw h1
   obtain ⟨R, W, p⟩ := k1 rfl
   obtain ⟨h', nx', lg', rd', wr'⟩ := s1
   simp only [trimEnd] at h
   cases h
   refine ⟨n1, l1, w1, fun hl => ?_⟩
   have e1 := p.rd
   have e2 := p.wr
   simp only [List.append_nil] at e1 e2
   subst e1 e2
   refine ⟨under nx rd', under nx wr', ⟨rfl, rfl, fun b hb => p.lt b (mem_under.1 hb).1, fun b hb => p.frame b (fun k => hb ((ov_under p.lt b).2 k)), fun g g1 g2 g3 g4 => ?_⟩⟩
   obtain ⟨gh, gnx, glg, grd, gwr⟩ := g
   simp only at g1 g2 g3 g4
   subst g1 g2
   obtain ⟨u, f1, f2, f3, f4, f5, f6, f7⟩ := p.again ⟨gh, gnx, true, [], []⟩ rfl rfl (fun b hb hlt => g3 b (by rcases hb with h | h; exact .inl (mem_under.2 ⟨h, hlt⟩); exact .inr (mem_under.2 ⟨h, hlt⟩)) hlt) g4
   obtain ⟨uh, unx, ulg, urd, uwr⟩ := u
   simp only [List.append_nil] at f2 f3 f4 f5
   subst f2 f3 f4 f5
   refine ⟨⟨uh, unx, true, under gnx urd ++ grd, under gnx uwr ++ gwr⟩, ?_, rfl, rfl, rfl, rfl, fun b hb => f6 b ((ov_under p.lt b).1 hb), fun b hb => f7 b (fun k => hb ((ov_under p.lt b).2 k))⟩
   simp only [Go.Proofs.YtmdlgfnibjcgmaaGreatDoor.Rn.trim, trimS, f1, trimEnd]
theorem Loc.sel {α : Type} {b : Bool} {x y : M α} (hx : Loc x) (hy : Loc y) : Loc (sel b x y) := by
 cases b with
 | false => exact hy
 | true => exact hx
theorem Loc.loadN (a : Addr) (n : Nat) : Loc (loadN a n) := by
 unfold Go.Proofs.YtmdlgfnibjcgmaaGreatDoor.Rn.loadN
 repeat' (first | exact Loc.ret _ | exact Loc.die | exact Loc.lft _ | exact Loc.geto _ | exact Loc.seto _ _ | exact Loc.newo _ | assumption | refine Loc.bnd ?_ (fun _ => ?_) | refine Loc.grd (fun _ => ?_) | refine Loc.opt (fun _ _ => ?_) | apply Loc.sel | fail | split)
theorem Loc.storeN (a : Addr) (vs : List Value) : Loc (storeN a vs) := by
 unfold Go.Proofs.YtmdlgfnibjcgmaaGreatDoor.Rn.storeN
 repeat' (first | exact Loc.ret _ | exact Loc.die | exact Loc.lft _ | exact Loc.geto _ | exact Loc.seto _ _ | exact Loc.newo _ | assumption | refine Loc.bnd ?_ (fun _ => ?_) | refine Loc.grd (fun _ => ?_) | refine Loc.opt (fun _ _ => ?_) | apply Loc.sel | exact Loc.loadN _ _ | split)
theorem Loc.val (v : Value) : Loc (val v) := by
 unfold Go.Proofs.YtmdlgfnibjcgmaaGreatDoor.Rn.val
 repeat' (first | exact Loc.ret _ | exact Loc.die | exact Loc.lft _ | exact Loc.geto _ | exact Loc.seto _ _ | exact Loc.newo _ | assumption | refine Loc.bnd ?_ (fun _ => ?_) | refine Loc.grd (fun _ => ?_) | refine Loc.opt (fun _ _ => ?_) | apply Loc.sel | exact Loc.loadN _ _ | exact Loc.storeN _ _ | split)
theorem Loc.newv (o : Obj) : Loc (newv o) := by
 unfold Go.Proofs.YtmdlgfnibjcgmaaGreatDoor.Rn.newv
 repeat' (first | exact Loc.ret _ | exact Loc.die | exact Loc.lft _ | exact Loc.geto _ | exact Loc.seto _ _ | exact Loc.newo _ | assumption | refine Loc.bnd ?_ (fun _ => ?_) | refine Loc.grd (fun _ => ?_) | refine Loc.opt (fun _ _ => ?_) | apply Loc.sel | exact Loc.loadN _ _ | exact Loc.storeN _ _ | exact Loc.val _ | split)
theorem Loc.srcOf (k : Nat) (v : Value) : Loc (srcOf k v) := by
 unfold Go.Proofs.YtmdlgfnibjcgmaaGreatDoor.Rn.srcOf
 repeat' (first | exact Loc.ret _ | exact Loc.die | exact Loc.lft _ | exact Loc.geto _ | exact Loc.seto _ _ | exact Loc.newo _ | assumption | refine Loc.bnd ?_ (fun _ => ?_) | refine Loc.grd (fun _ => ?_) | refine Loc.opt (fun _ _ => ?_) | apply Loc.sel | exact Loc.loadN _ _ | exact Loc.storeN _ _ | exact Loc.val _ | exact Loc.newv _ | split)
theorem Loc.appIn (base : Option Addr) (len k n cap : Nat) (new : List Value) : Loc (appIn base len k n cap new) := by
 unfold Go.Proofs.YtmdlgfnibjcgmaaGreatDoor.Rn.appIn
 repeat' (first | exact Loc.ret _ | exact Loc.die | exact Loc.lft _ | exact Loc.geto _ | exact Loc.seto _ _ | exact Loc.newo _ | assumption | refine Loc.bnd ?_ (fun _ => ?_) | refine Loc.grd (fun _ => ?_) | refine Loc.opt (fun _ _ => ?_) | apply Loc.sel | exact Loc.loadN _ _ | exact Loc.storeN _ _ | exact Loc.val _ | exact Loc.newv _ | exact Loc.srcOf _ _ | split)
theorem Loc.appNew (e : TypeId) (cells : List Value) (need : Nat) : Loc (appNew e cells need) := by
 unfold Go.Proofs.YtmdlgfnibjcgmaaGreatDoor.Rn.appNew
 repeat' (first | exact Loc.ret _ | exact Loc.die | exact Loc.lft _ | exact Loc.geto _ | exact Loc.seto _ _ | exact Loc.newo _ | assumption | refine Loc.bnd ?_ (fun _ => ?_) | refine Loc.grd (fun _ => ?_) | refine Loc.opt (fun _ _ => ?_) | apply Loc.sel | exact Loc.loadN _ _ | exact Loc.storeN _ _ | exact Loc.val _ | exact Loc.newv _ | exact Loc.srcOf _ _ | exact Loc.appIn _ _ _ _ _ _ | split)
theorem Loc.appOut (base : Option Addr) (e : TypeId) (len k n cap : Nat) (new : List Value) : Loc (appOut base e len k n cap new) := by
 unfold Go.Proofs.YtmdlgfnibjcgmaaGreatDoor.Rn.appOut
 repeat' (first | exact Loc.ret _ | exact Loc.die | exact Loc.lft _ | exact Loc.geto _ | exact Loc.seto _ _ | exact Loc.newo _ | assumption | refine Loc.bnd ?_ (fun _ => ?_) | refine Loc.grd (fun _ => ?_) | refine Loc.opt (fun _ _ => ?_) | apply Loc.sel | exact Loc.loadN _ _ | exact Loc.storeN _ _ | exact Loc.val _ | exact Loc.newv _ | exact Loc.srcOf _ _ | exact Loc.appIn _ _ _ _ _ _ | exact Loc.appNew _ _ _ | split)
theorem Loc.appendB (e : TypeId) (k by_ : Nat) (s : Value) (p : Nat × List Value) : Loc (appendB e k by_ s p) := by
 unfold Go.Proofs.YtmdlgfnibjcgmaaGreatDoor.Rn.appendB
 repeat' (first | exact Loc.ret _ | exact Loc.die | exact Loc.lft _ | exact Loc.geto _ | exact Loc.seto _ _ | exact Loc.newo _ | assumption | refine Loc.bnd ?_ (fun _ => ?_) | refine Loc.grd (fun _ => ?_) | refine Loc.opt (fun _ _ => ?_) | apply Loc.sel | exact Loc.loadN _ _ | exact Loc.storeN _ _ | exact Loc.val _ | exact Loc.newv _ | exact Loc.srcOf _ _ | exact Loc.appIn _ _ _ _ _ _ | exact Loc.appNew _ _ _ | exact Loc.appOut _ _ _ _ _ _ _ | split)
theorem Loc.appendA (P : Program) (t u : TypeId) (s x : Value) : Loc (appendA P t u s x) := by
 unfold Go.Proofs.YtmdlgfnibjcgmaaGreatDoor.Rn.appendA
 repeat' (first | exact Loc.ret _ | exact Loc.die | exact Loc.lft _ | exact Loc.geto _ | exact Loc.seto _ _ | exact Loc.newo _ | assumption | refine Loc.bnd ?_ (fun _ => ?_) | refine Loc.grd (fun _ => ?_) | refine Loc.opt (fun _ _ => ?_) | apply Loc.sel | exact Loc.loadN _ _ | exact Loc.storeN _ _ | exact Loc.val _ | exact Loc.newv _ | exact Loc.srcOf _ _ | exact Loc.appIn _ _ _ _ _ _ | exact Loc.appNew _ _ _ | exact Loc.appOut _ _ _ _ _ _ _ | exact Loc.appendB _ _ _ _ _ | split)
theorem Loc.lookB (P : Program) (ty : TypeId × TypeId) (es : List MapEntry) (k : Value) (ok : Bool) : Loc (lookB P ty es k ok) := by
 unfold Go.Proofs.YtmdlgfnibjcgmaaGreatDoor.Rn.lookB
 repeat' (first | exact Loc.ret _ | exact Loc.die | exact Loc.lft _ | exact Loc.geto _ | exact Loc.seto _ _ | exact Loc.newo _ | assumption | refine Loc.bnd ?_ (fun _ => ?_) | refine Loc.grd (fun _ => ?_) | refine Loc.opt (fun _ _ => ?_) | apply Loc.sel | exact Loc.loadN _ _ | exact Loc.storeN _ _ | exact Loc.val _ | exact Loc.newv _ | exact Loc.srcOf _ _ | exact Loc.appIn _ _ _ _ _ _ | exact Loc.appNew _ _ _ | exact Loc.appOut _ _ _ _ _ _ _ | exact Loc.appendB _ _ _ _ _ | exact Loc.appendA _ _ _ _ _ | split)
theorem Loc.lookA (P : Program) (t : TypeId) (m k : Value) (ok : Bool) : Loc (lookA P t m k ok) := by
 unfold Go.Proofs.YtmdlgfnibjcgmaaGreatDoor.Rn.lookA
 repeat' (first | exact Loc.ret _ | exact Loc.die | exact Loc.lft _ | exact Loc.geto _ | exact Loc.seto _ _ | exact Loc.newo _ | assumption | refine Loc.bnd ?_ (fun _ => ?_) | refine Loc.grd (fun _ => ?_) | refine Loc.opt (fun _ _ => ?_) | apply Loc.sel | exact Loc.loadN _ _ | exact Loc.storeN _ _ | exact Loc.val _ | exact Loc.newv _ | exact Loc.srcOf _ _ | exact Loc.appIn _ _ _ _ _ _ | exact Loc.appNew _ _ _ | exact Loc.appOut _ _ _ _ _ _ _ | exact Loc.appendB _ _ _ _ _ | exact Loc.appendA _ _ _ _ _ | exact Loc.lookB _ _ _ _ _ | split)
theorem Loc.updA (P : Program) (t : TypeId) (m k v : Value) : Loc (updA P t m k v) := by
 unfold Go.Proofs.YtmdlgfnibjcgmaaGreatDoor.Rn.updA
 repeat' (first | exact Loc.ret _ | exact Loc.die | exact Loc.lft _ | exact Loc.geto _ | exact Loc.seto _ _ | exact Loc.newo _ | assumption | refine Loc.bnd ?_ (fun _ => ?_) | refine Loc.grd (fun _ => ?_) | refine Loc.opt (fun _ _ => ?_) | apply Loc.sel | exact Loc.loadN _ _ | exact Loc.storeN _ _ | exact Loc.val _ | exact Loc.newv _ | exact Loc.srcOf _ _ | exact Loc.appIn _ _ _ _ _ _ | exact Loc.appNew _ _ _ | exact Loc.appOut _ _ _ _ _ _ _ | exact Loc.appendB _ _ _ _ _ | exact Loc.appendA _ _ _ _ _ | exact Loc.lookB _ _ _ _ _ | exact Loc.lookA _ _ _ _ _ | split)
theorem Loc.delA (P : Program) (t : TypeId) (m k : Value) : Loc (delA P t m k) := by
 unfold Go.Proofs.YtmdlgfnibjcgmaaGreatDoor.Rn.delA
 repeat' (first | exact Loc.ret _ | exact Loc.die | exact Loc.lft _ | exact Loc.geto _ | exact Loc.seto _ _ | exact Loc.newo _ | assumption | refine Loc.bnd ?_ (fun _ => ?_) | refine Loc.grd (fun _ => ?_) | refine Loc.opt (fun _ _ => ?_) | apply Loc.sel | exact Loc.loadN _ _ | exact Loc.storeN _ _ | exact Loc.val _ | exact Loc.newv _ | exact Loc.srcOf _ _ | exact Loc.appIn _ _ _ _ _ _ | exact Loc.appNew _ _ _ | exact Loc.appOut _ _ _ _ _ _ _ | exact Loc.appendB _ _ _ _ _ | exact Loc.appendA _ _ _ _ _ | exact Loc.lookB _ _ _ _ _ | exact Loc.lookA _ _ _ _ _ | exact Loc.updA _ _ _ _ _ | split)
theorem Loc.rangeA (P : Program) (t : TypeId) (m : Value) : Loc (rangeA P t m) := by
 unfold Go.Proofs.YtmdlgfnibjcgmaaGreatDoor.Rn.rangeA
 repeat' (first | exact Loc.ret _ | exact Loc.die | exact Loc.lft _ | exact Loc.geto _ | exact Loc.seto _ _ | exact Loc.newo _ | assumption | refine Loc.bnd ?_ (fun _ => ?_) | refine Loc.grd (fun _ => ?_) | refine Loc.opt (fun _ _ => ?_) | apply Loc.sel | exact Loc.loadN _ _ | exact Loc.storeN _ _ | exact Loc.val _ | exact Loc.newv _ | exact Loc.srcOf _ _ | exact Loc.appIn _ _ _ _ _ _ | exact Loc.appNew _ _ _ | exact Loc.appOut _ _ _ _ _ _ _ | exact Loc.appendB _ _ _ _ _ | exact Loc.appendA _ _ _ _ _ | exact Loc.lookB _ _ _ _ _ | exact Loc.lookA _ _ _ _ _ | exact Loc.updA _ _ _ _ _ | exact Loc.delA _ _ _ _ | split)
theorem Loc.nextB (r m since last : Nat) (seen : List Nat) (es : List MapEntry) (clock : Nat) : Loc (nextB r m since last seen es clock) := by
 unfold Go.Proofs.YtmdlgfnibjcgmaaGreatDoor.Rn.nextB
 repeat' (first | exact Loc.ret _ | exact Loc.die | exact Loc.lft _ | exact Loc.geto _ | exact Loc.seto _ _ | exact Loc.newo _ | assumption | refine Loc.bnd ?_ (fun _ => ?_) | refine Loc.grd (fun _ => ?_) | refine Loc.opt (fun _ _ => ?_) | apply Loc.sel | exact Loc.loadN _ _ | exact Loc.storeN _ _ | exact Loc.val _ | exact Loc.newv _ | exact Loc.srcOf _ _ | exact Loc.appIn _ _ _ _ _ _ | exact Loc.appNew _ _ _ | exact Loc.appOut _ _ _ _ _ _ _ | exact Loc.appendB _ _ _ _ _ | exact Loc.appendA _ _ _ _ _ | exact Loc.lookB _ _ _ _ _ | exact Loc.lookA _ _ _ _ _ | exact Loc.updA _ _ _ _ _ | exact Loc.delA _ _ _ _ | exact Loc.rangeA _ _ _ | split)
theorem Loc.nextA (x : Value) : Loc (nextA x) := by
 unfold Go.Proofs.YtmdlgfnibjcgmaaGreatDoor.Rn.nextA
 repeat' (first | exact Loc.ret _ | exact Loc.die | exact Loc.lft _ | exact Loc.geto _ | exact Loc.seto _ _ | exact Loc.newo _ | assumption | refine Loc.bnd ?_ (fun _ => ?_) | refine Loc.grd (fun _ => ?_) | refine Loc.opt (fun _ _ => ?_) | apply Loc.sel | exact Loc.loadN _ _ | exact Loc.storeN _ _ | exact Loc.val _ | exact Loc.newv _ | exact Loc.srcOf _ _ | exact Loc.appIn _ _ _ _ _ _ | exact Loc.appNew _ _ _ | exact Loc.appOut _ _ _ _ _ _ _ | exact Loc.appendB _ _ _ _ _ | exact Loc.appendA _ _ _ _ _ | exact Loc.lookB _ _ _ _ _ | exact Loc.lookA _ _ _ _ _ | exact Loc.updA _ _ _ _ _ | exact Loc.delA _ _ _ _ | exact Loc.rangeA _ _ _ | exact Loc.nextB _ _ _ _ _ _ _ | split)
theorem Loc.sliceS (s : ByteArray) (h l : Nat) : Loc (sliceS s h l) := by
 unfold Go.Proofs.YtmdlgfnibjcgmaaGreatDoor.Rn.sliceS
 repeat' (first | exact Loc.ret _ | exact Loc.die | exact Loc.lft _ | exact Loc.geto _ | exact Loc.seto _ _ | exact Loc.newo _ | assumption | refine Loc.bnd ?_ (fun _ => ?_) | refine Loc.grd (fun _ => ?_) | refine Loc.opt (fun _ _ => ?_) | apply Loc.sel | exact Loc.loadN _ _ | exact Loc.storeN _ _ | exact Loc.val _ | exact Loc.newv _ | exact Loc.srcOf _ _ | exact Loc.appIn _ _ _ _ _ _ | exact Loc.appNew _ _ _ | exact Loc.appOut _ _ _ _ _ _ _ | exact Loc.appendB _ _ _ _ _ | exact Loc.appendA _ _ _ _ _ | exact Loc.lookB _ _ _ _ _ | exact Loc.lookA _ _ _ _ _ | exact Loc.updA _ _ _ _ _ | exact Loc.delA _ _ _ _ | exact Loc.rangeA _ _ _ | exact Loc.nextB _ _ _ _ _ _ _ | exact Loc.nextA _ | split)
theorem Loc.sliceL (P : Program) (e : TypeId) (a : Option Addr) (cap h l : Nat) : Loc (sliceL P e a cap h l) := by
 unfold Go.Proofs.YtmdlgfnibjcgmaaGreatDoor.Rn.sliceL
 repeat' (first | exact Loc.ret _ | exact Loc.die | exact Loc.lft _ | exact Loc.geto _ | exact Loc.seto _ _ | exact Loc.newo _ | assumption | refine Loc.bnd ?_ (fun _ => ?_) | refine Loc.grd (fun _ => ?_) | refine Loc.opt (fun _ _ => ?_) | apply Loc.sel | exact Loc.loadN _ _ | exact Loc.storeN _ _ | exact Loc.val _ | exact Loc.newv _ | exact Loc.srcOf _ _ | exact Loc.appIn _ _ _ _ _ _ | exact Loc.appNew _ _ _ | exact Loc.appOut _ _ _ _ _ _ _ | exact Loc.appendB _ _ _ _ _ | exact Loc.appendA _ _ _ _ _ | exact Loc.lookB _ _ _ _ _ | exact Loc.lookA _ _ _ _ _ | exact Loc.updA _ _ _ _ _ | exact Loc.delA _ _ _ _ | exact Loc.rangeA _ _ _ | exact Loc.nextB _ _ _ _ _ _ _ | exact Loc.nextA _ | exact Loc.sliceS _ _ _ | split)
theorem Loc.sliceY (P : Program) (e : TypeId) (a : Addr) (n h l : Nat) : Loc (sliceY P e a n h l) := by
 unfold Go.Proofs.YtmdlgfnibjcgmaaGreatDoor.Rn.sliceY
 repeat' (first | exact Loc.ret _ | exact Loc.die | exact Loc.lft _ | exact Loc.geto _ | exact Loc.seto _ _ | exact Loc.newo _ | assumption | refine Loc.bnd ?_ (fun _ => ?_) | refine Loc.grd (fun _ => ?_) | refine Loc.opt (fun _ _ => ?_) | apply Loc.sel | exact Loc.loadN _ _ | exact Loc.storeN _ _ | exact Loc.val _ | exact Loc.newv _ | exact Loc.srcOf _ _ | exact Loc.appIn _ _ _ _ _ _ | exact Loc.appNew _ _ _ | exact Loc.appOut _ _ _ _ _ _ _ | exact Loc.appendB _ _ _ _ _ | exact Loc.appendA _ _ _ _ _ | exact Loc.lookB _ _ _ _ _ | exact Loc.lookA _ _ _ _ _ | exact Loc.updA _ _ _ _ _ | exact Loc.delA _ _ _ _ | exact Loc.rangeA _ _ _ | exact Loc.nextB _ _ _ _ _ _ _ | exact Loc.nextA _ | exact Loc.sliceS _ _ _ | exact Loc.sliceL _ _ _ _ _ _ | split)
theorem Loc.sliceV (P : Program) (t : TypeId) (x : Value) (lo hi : Option Value) : Loc (sliceV P t x lo hi) := by
 unfold Go.Proofs.YtmdlgfnibjcgmaaGreatDoor.Rn.sliceV
 repeat' (first | exact Loc.ret _ | exact Loc.die | exact Loc.lft _ | exact Loc.geto _ | exact Loc.seto _ _ | exact Loc.newo _ | assumption | refine Loc.bnd ?_ (fun _ => ?_) | refine Loc.grd (fun _ => ?_) | refine Loc.opt (fun _ _ => ?_) | apply Loc.sel | exact Loc.loadN _ _ | exact Loc.storeN _ _ | exact Loc.val _ | exact Loc.newv _ | exact Loc.srcOf _ _ | exact Loc.appIn _ _ _ _ _ _ | exact Loc.appNew _ _ _ | exact Loc.appOut _ _ _ _ _ _ _ | exact Loc.appendB _ _ _ _ _ | exact Loc.appendA _ _ _ _ _ | exact Loc.lookB _ _ _ _ _ | exact Loc.lookA _ _ _ _ _ | exact Loc.updA _ _ _ _ _ | exact Loc.delA _ _ _ _ | exact Loc.rangeA _ _ _ | exact Loc.nextB _ _ _ _ _ _ _ | exact Loc.nextA _ | exact Loc.sliceS _ _ _ | exact Loc.sliceL _ _ _ _ _ _ | exact Loc.sliceY _ _ _ _ _ _ | split)
theorem Loc.loadA (P : Program) (t : TypeId) (v : Value) : Loc (loadA P t v) := by
 unfold Go.Proofs.YtmdlgfnibjcgmaaGreatDoor.Rn.loadA
 repeat' (first | exact Loc.ret _ | exact Loc.die | exact Loc.lft _ | exact Loc.geto _ | exact Loc.seto _ _ | exact Loc.newo _ | assumption | refine Loc.bnd ?_ (fun _ => ?_) | refine Loc.grd (fun _ => ?_) | refine Loc.opt (fun _ _ => ?_) | apply Loc.sel | exact Loc.loadN _ _ | exact Loc.storeN _ _ | exact Loc.val _ | exact Loc.newv _ | exact Loc.srcOf _ _ | exact Loc.appIn _ _ _ _ _ _ | exact Loc.appNew _ _ _ | exact Loc.appOut _ _ _ _ _ _ _ | exact Loc.appendB _ _ _ _ _ | exact Loc.appendA _ _ _ _ _ | exact Loc.lookB _ _ _ _ _ | exact Loc.lookA _ _ _ _ _ | exact Loc.updA _ _ _ _ _ | exact Loc.delA _ _ _ _ | exact Loc.rangeA _ _ _ | exact Loc.nextB _ _ _ _ _ _ _ | exact Loc.nextA _ | exact Loc.sliceS _ _ _ | exact Loc.sliceL _ _ _ _ _ _ | exact Loc.sliceY _ _ _ _ _ _ | exact Loc.sliceV _ _ _ _ _ | split)
theorem Loc.storeA (P : Program) (t : TypeId) (x v : Value) : Loc (storeA P t x v) := by
 unfold Go.Proofs.YtmdlgfnibjcgmaaGreatDoor.Rn.storeA
 repeat' (first | exact Loc.ret _ | exact Loc.die | exact Loc.lft _ | exact Loc.geto _ | exact Loc.seto _ _ | exact Loc.newo _ | assumption | refine Loc.bnd ?_ (fun _ => ?_) | refine Loc.grd (fun _ => ?_) | refine Loc.opt (fun _ _ => ?_) | apply Loc.sel | exact Loc.loadN _ _ | exact Loc.storeN _ _ | exact Loc.val _ | exact Loc.newv _ | exact Loc.srcOf _ _ | exact Loc.appIn _ _ _ _ _ _ | exact Loc.appNew _ _ _ | exact Loc.appOut _ _ _ _ _ _ _ | exact Loc.appendB _ _ _ _ _ | exact Loc.appendA _ _ _ _ _ | exact Loc.lookB _ _ _ _ _ | exact Loc.lookA _ _ _ _ _ | exact Loc.updA _ _ _ _ _ | exact Loc.delA _ _ _ _ | exact Loc.rangeA _ _ _ | exact Loc.nextB _ _ _ _ _ _ _ | exact Loc.nextA _ | exact Loc.sliceS _ _ _ | exact Loc.sliceL _ _ _ _ _ _ | exact Loc.sliceY _ _ _ _ _ _ | exact Loc.sliceV _ _ _ _ _ | exact Loc.loadA _ _ _ | split)
theorem Loc.clo (P : Program) (sem : Sem Value) : Loc (clo P sem) := by
 unfold Go.Proofs.YtmdlgfnibjcgmaaGreatDoor.Rn.clo
 exact Loc.opt fun _ _ => Loc.grd fun _ => Loc.val _
theorem Loc.binC (P : Program) (op : BinOp) (t : TypeId) (a b : Value) : Loc (binC P op t a b) := Loc.grd fun _ => Loc.clo _ _
theorem Loc.convF (P : Program) (a : Addr) (t : TypeId) : Loc (convF P a t) := Loc.opt fun _ _ => Loc.grd fun _ => Loc.val _
theorem Loc.convT (P : Program) (a : Addr) (e n : Nat) (t : TypeId) : Loc (convT P a e n t) := Loc.opt fun _ _ => Loc.grd fun _ => Loc.val _
theorem Loc.convD (P : Program) (a : Addr) (e n : Nat) (d f : TypeDesc) : Loc (convD P a e n d f) := by
 unfold Go.Proofs.YtmdlgfnibjcgmaaGreatDoor.Rn.convD
 split
 ·exact Loc.grd fun _ => Loc.convF _ _ _
 ·split
  ·exact Loc.grd fun _ => Loc.convT _ _ _ _ _
  ·exact Loc.die
theorem Loc.convP (P : Program) (src dst : TypeId) (a : Addr) : Loc (convP P src dst a) := by
 unfold Go.Proofs.YtmdlgfnibjcgmaaGreatDoor.Rn.convP
 repeat' (first | exact Loc.ret _ | exact Loc.die | exact Loc.val _ | exact Loc.convD _ _ _ _ _ _ | exact Loc.geto _ | refine Loc.bnd ?_ (fun _ => ?_) | refine Loc.grd (fun _ => ?_) | refine Loc.opt (fun _ _ => ?_) | split)
theorem Loc.intOp (P : Program) (op : BinOp) (t : TypeId) (k : IntKind) (a b : Int) : Loc (intOp P op t k a b) := by
 unfold Go.Proofs.YtmdlgfnibjcgmaaGreatDoor.Rn.intOp
 repeat' (first | exact Loc.ret _ | exact Loc.die | exact Loc.lft _ | exact Loc.geto _ | exact Loc.seto _ _ | exact Loc.newo _ | exact Loc.clo _ _ | exact Loc.binC _ _ _ _ _ | exact Loc.convP _ _ _ _ | assumption | refine Loc.bnd ?_ (fun _ => ?_) | refine Loc.grd (fun _ => ?_) | refine Loc.opt (fun _ _ => ?_) | apply Loc.sel | exact Loc.loadN _ _ | exact Loc.storeN _ _ | exact Loc.val _ | exact Loc.newv _ | exact Loc.srcOf _ _ | exact Loc.appIn _ _ _ _ _ _ | exact Loc.appNew _ _ _ | exact Loc.appOut _ _ _ _ _ _ _ | exact Loc.appendB _ _ _ _ _ | exact Loc.appendA _ _ _ _ _ | exact Loc.lookB _ _ _ _ _ | exact Loc.lookA _ _ _ _ _ | exact Loc.updA _ _ _ _ _ | exact Loc.delA _ _ _ _ | exact Loc.rangeA _ _ _ | exact Loc.nextB _ _ _ _ _ _ _ | exact Loc.nextA _ | exact Loc.sliceS _ _ _ | exact Loc.sliceL _ _ _ _ _ _ | exact Loc.sliceY _ _ _ _ _ _ | exact Loc.sliceV _ _ _ _ _ | exact Loc.loadA _ _ _ | exact Loc.storeA _ _ _ _ | split)
theorem Loc.binB (P : Program) (op : BinOp) (t : TypeId) (a b : Value) : Loc (binB P op t a b) := by
 unfold Go.Proofs.YtmdlgfnibjcgmaaGreatDoor.Rn.binB
 repeat' (first | exact Loc.ret _ | exact Loc.die | exact Loc.lft _ | exact Loc.geto _ | exact Loc.seto _ _ | exact Loc.newo _ | exact Loc.clo _ _ | exact Loc.binC _ _ _ _ _ | exact Loc.convP _ _ _ _ | assumption | refine Loc.bnd ?_ (fun _ => ?_) | refine Loc.grd (fun _ => ?_) | refine Loc.opt (fun _ _ => ?_) | apply Loc.sel | exact Loc.loadN _ _ | exact Loc.storeN _ _ | exact Loc.val _ | exact Loc.newv _ | exact Loc.srcOf _ _ | exact Loc.appIn _ _ _ _ _ _ | exact Loc.appNew _ _ _ | exact Loc.appOut _ _ _ _ _ _ _ | exact Loc.appendB _ _ _ _ _ | exact Loc.appendA _ _ _ _ _ | exact Loc.lookB _ _ _ _ _ | exact Loc.lookA _ _ _ _ _ | exact Loc.updA _ _ _ _ _ | exact Loc.delA _ _ _ _ | exact Loc.rangeA _ _ _ | exact Loc.nextB _ _ _ _ _ _ _ | exact Loc.nextA _ | exact Loc.sliceS _ _ _ | exact Loc.sliceL _ _ _ _ _ _ | exact Loc.sliceY _ _ _ _ _ _ | exact Loc.sliceV _ _ _ _ _ | exact Loc.loadA _ _ _ | exact Loc.storeA _ _ _ _ | exact Loc.intOp _ _ _ _ _ _ | split)
theorem Loc.binA (P : Program) (op : BinOp) (t : TypeId) (a b : Value) : Loc (binA P op t a b) := by
 unfold Go.Proofs.YtmdlgfnibjcgmaaGreatDoor.Rn.binA
 repeat' (first | exact Loc.ret _ | exact Loc.die | exact Loc.lft _ | exact Loc.geto _ | exact Loc.seto _ _ | exact Loc.newo _ | exact Loc.clo _ _ | exact Loc.binC _ _ _ _ _ | exact Loc.convP _ _ _ _ | assumption | refine Loc.bnd ?_ (fun _ => ?_) | refine Loc.grd (fun _ => ?_) | refine Loc.opt (fun _ _ => ?_) | apply Loc.sel | exact Loc.loadN _ _ | exact Loc.storeN _ _ | exact Loc.val _ | exact Loc.newv _ | exact Loc.srcOf _ _ | exact Loc.appIn _ _ _ _ _ _ | exact Loc.appNew _ _ _ | exact Loc.appOut _ _ _ _ _ _ _ | exact Loc.appendB _ _ _ _ _ | exact Loc.appendA _ _ _ _ _ | exact Loc.lookB _ _ _ _ _ | exact Loc.lookA _ _ _ _ _ | exact Loc.updA _ _ _ _ _ | exact Loc.delA _ _ _ _ | exact Loc.rangeA _ _ _ | exact Loc.nextB _ _ _ _ _ _ _ | exact Loc.nextA _ | exact Loc.sliceS _ _ _ | exact Loc.sliceL _ _ _ _ _ _ | exact Loc.sliceY _ _ _ _ _ _ | exact Loc.sliceV _ _ _ _ _ | exact Loc.loadA _ _ _ | exact Loc.storeA _ _ _ _ | exact Loc.intOp _ _ _ _ _ _ | exact Loc.binB _ _ _ _ _ | split)
theorem Loc.convA (P : Program) (src dst : TypeId) (v : Value) : Loc (convA P src dst v) := by
 unfold Go.Proofs.YtmdlgfnibjcgmaaGreatDoor.Rn.convA
 repeat' (first | exact Loc.ret _ | exact Loc.die | exact Loc.lft _ | exact Loc.geto _ | exact Loc.seto _ _ | exact Loc.newo _ | exact Loc.clo _ _ | exact Loc.binC _ _ _ _ _ | exact Loc.convP _ _ _ _ | assumption | refine Loc.bnd ?_ (fun _ => ?_) | refine Loc.grd (fun _ => ?_) | refine Loc.opt (fun _ _ => ?_) | apply Loc.sel | exact Loc.loadN _ _ | exact Loc.storeN _ _ | exact Loc.val _ | exact Loc.newv _ | exact Loc.srcOf _ _ | exact Loc.appIn _ _ _ _ _ _ | exact Loc.appNew _ _ _ | exact Loc.appOut _ _ _ _ _ _ _ | exact Loc.appendB _ _ _ _ _ | exact Loc.appendA _ _ _ _ _ | exact Loc.lookB _ _ _ _ _ | exact Loc.lookA _ _ _ _ _ | exact Loc.updA _ _ _ _ _ | exact Loc.delA _ _ _ _ | exact Loc.rangeA _ _ _ | exact Loc.nextB _ _ _ _ _ _ _ | exact Loc.nextA _ | exact Loc.sliceS _ _ _ | exact Loc.sliceL _ _ _ _ _ _ | exact Loc.sliceY _ _ _ _ _ _ | exact Loc.sliceV _ _ _ _ _ | exact Loc.loadA _ _ _ | exact Loc.storeA _ _ _ _ | exact Loc.intOp _ _ _ _ _ _ | exact Loc.binB _ _ _ _ _ | exact Loc.binA _ _ _ _ _ | split)
theorem Loc.makeSl (P : Program) (t : TypeId) (l c : Value) : Loc (makeSl P t l c) := by
 unfold Go.Proofs.YtmdlgfnibjcgmaaGreatDoor.Rn.makeSl
 repeat' (first | exact Loc.ret _ | exact Loc.die | exact Loc.lft _ | exact Loc.geto _ | exact Loc.seto _ _ | exact Loc.newo _ | exact Loc.clo _ _ | exact Loc.binC _ _ _ _ _ | exact Loc.convP _ _ _ _ | assumption | refine Loc.bnd ?_ (fun _ => ?_) | refine Loc.grd (fun _ => ?_) | refine Loc.opt (fun _ _ => ?_) | apply Loc.sel | exact Loc.loadN _ _ | exact Loc.storeN _ _ | exact Loc.val _ | exact Loc.newv _ | exact Loc.srcOf _ _ | exact Loc.appIn _ _ _ _ _ _ | exact Loc.appNew _ _ _ | exact Loc.appOut _ _ _ _ _ _ _ | exact Loc.appendB _ _ _ _ _ | exact Loc.appendA _ _ _ _ _ | exact Loc.lookB _ _ _ _ _ | exact Loc.lookA _ _ _ _ _ | exact Loc.updA _ _ _ _ _ | exact Loc.delA _ _ _ _ | exact Loc.rangeA _ _ _ | exact Loc.nextB _ _ _ _ _ _ _ | exact Loc.nextA _ | exact Loc.sliceS _ _ _ | exact Loc.sliceL _ _ _ _ _ _ | exact Loc.sliceY _ _ _ _ _ _ | exact Loc.sliceV _ _ _ _ _ | exact Loc.loadA _ _ _ | exact Loc.storeA _ _ _ _ | exact Loc.intOp _ _ _ _ _ _ | exact Loc.binB _ _ _ _ _ | exact Loc.binA _ _ _ _ _ | exact Loc.convA _ _ _ _ | split)
theorem Loc.fieldA (P : Program) (t : TypeId) (x : Value) (i : Nat) : Loc (fieldA P t x i) := by
 unfold Go.Proofs.YtmdlgfnibjcgmaaGreatDoor.Rn.fieldA
 repeat' (first | exact Loc.ret _ | exact Loc.die | exact Loc.lft _ | exact Loc.geto _ | exact Loc.seto _ _ | exact Loc.newo _ | exact Loc.clo _ _ | exact Loc.binC _ _ _ _ _ | exact Loc.convP _ _ _ _ | assumption | refine Loc.bnd ?_ (fun _ => ?_) | refine Loc.grd (fun _ => ?_) | refine Loc.opt (fun _ _ => ?_) | apply Loc.sel | exact Loc.loadN _ _ | exact Loc.storeN _ _ | exact Loc.val _ | exact Loc.newv _ | exact Loc.srcOf _ _ | exact Loc.appIn _ _ _ _ _ _ | exact Loc.appNew _ _ _ | exact Loc.appOut _ _ _ _ _ _ _ | exact Loc.appendB _ _ _ _ _ | exact Loc.appendA _ _ _ _ _ | exact Loc.lookB _ _ _ _ _ | exact Loc.lookA _ _ _ _ _ | exact Loc.updA _ _ _ _ _ | exact Loc.delA _ _ _ _ | exact Loc.rangeA _ _ _ | exact Loc.nextB _ _ _ _ _ _ _ | exact Loc.nextA _ | exact Loc.sliceS _ _ _ | exact Loc.sliceL _ _ _ _ _ _ | exact Loc.sliceY _ _ _ _ _ _ | exact Loc.sliceV _ _ _ _ _ | exact Loc.loadA _ _ _ | exact Loc.storeA _ _ _ _ | exact Loc.intOp _ _ _ _ _ _ | exact Loc.binB _ _ _ _ _ | exact Loc.binA _ _ _ _ _ | exact Loc.convA _ _ _ _ | exact Loc.makeSl _ _ _ _ | split)
theorem Loc.indexP (P : Program) (e : TypeId) (a : Addr) (len j : Nat) : Loc (indexP P e a len j) := by
 unfold Go.Proofs.YtmdlgfnibjcgmaaGreatDoor.Rn.indexP
 repeat' (first | exact Loc.ret _ | exact Loc.die | exact Loc.lft _ | exact Loc.geto _ | exact Loc.seto _ _ | exact Loc.newo _ | exact Loc.clo _ _ | exact Loc.binC _ _ _ _ _ | exact Loc.convP _ _ _ _ | assumption | refine Loc.bnd ?_ (fun _ => ?_) | refine Loc.grd (fun _ => ?_) | refine Loc.opt (fun _ _ => ?_) | apply Loc.sel | exact Loc.loadN _ _ | exact Loc.storeN _ _ | exact Loc.val _ | exact Loc.newv _ | exact Loc.srcOf _ _ | exact Loc.appIn _ _ _ _ _ _ | exact Loc.appNew _ _ _ | exact Loc.appOut _ _ _ _ _ _ _ | exact Loc.appendB _ _ _ _ _ | exact Loc.appendA _ _ _ _ _ | exact Loc.lookB _ _ _ _ _ | exact Loc.lookA _ _ _ _ _ | exact Loc.updA _ _ _ _ _ | exact Loc.delA _ _ _ _ | exact Loc.rangeA _ _ _ | exact Loc.nextB _ _ _ _ _ _ _ | exact Loc.nextA _ | exact Loc.sliceS _ _ _ | exact Loc.sliceL _ _ _ _ _ _ | exact Loc.sliceY _ _ _ _ _ _ | exact Loc.sliceV _ _ _ _ _ | exact Loc.loadA _ _ _ | exact Loc.storeA _ _ _ _ | exact Loc.intOp _ _ _ _ _ _ | exact Loc.binB _ _ _ _ _ | exact Loc.binA _ _ _ _ _ | exact Loc.convA _ _ _ _ | exact Loc.makeSl _ _ _ _ | exact Loc.fieldA _ _ _ _ | split)
theorem Loc.indexA (P : Program) (t : TypeId) (x i : Value) : Loc (indexA P t x i) := by
 unfold Go.Proofs.YtmdlgfnibjcgmaaGreatDoor.Rn.indexA
 repeat' (first | exact Loc.ret _ | exact Loc.die | exact Loc.lft _ | exact Loc.geto _ | exact Loc.seto _ _ | exact Loc.newo _ | exact Loc.clo _ _ | exact Loc.binC _ _ _ _ _ | exact Loc.convP _ _ _ _ | assumption | refine Loc.bnd ?_ (fun _ => ?_) | refine Loc.grd (fun _ => ?_) | refine Loc.opt (fun _ _ => ?_) | apply Loc.sel | exact Loc.loadN _ _ | exact Loc.storeN _ _ | exact Loc.val _ | exact Loc.newv _ | exact Loc.srcOf _ _ | exact Loc.appIn _ _ _ _ _ _ | exact Loc.appNew _ _ _ | exact Loc.appOut _ _ _ _ _ _ _ | exact Loc.appendB _ _ _ _ _ | exact Loc.appendA _ _ _ _ _ | exact Loc.lookB _ _ _ _ _ | exact Loc.lookA _ _ _ _ _ | exact Loc.updA _ _ _ _ _ | exact Loc.delA _ _ _ _ | exact Loc.rangeA _ _ _ | exact Loc.nextB _ _ _ _ _ _ _ | exact Loc.nextA _ | exact Loc.sliceS _ _ _ | exact Loc.sliceL _ _ _ _ _ _ | exact Loc.sliceY _ _ _ _ _ _ | exact Loc.sliceV _ _ _ _ _ | exact Loc.loadA _ _ _ | exact Loc.storeA _ _ _ _ | exact Loc.intOp _ _ _ _ _ _ | exact Loc.binB _ _ _ _ _ | exact Loc.binA _ _ _ _ _ | exact Loc.convA _ _ _ _ | exact Loc.makeSl _ _ _ _ | exact Loc.fieldA _ _ _ _ | exact Loc.indexP _ _ _ _ _ | split)
theorem Loc.extrA (v : Value) (i : Nat) : Loc (extrA v i) := by
 unfold Go.Proofs.YtmdlgfnibjcgmaaGreatDoor.Rn.extrA
 repeat' (first | exact Loc.ret _ | exact Loc.die | exact Loc.lft _ | exact Loc.geto _ | exact Loc.seto _ _ | exact Loc.newo _ | exact Loc.clo _ _ | exact Loc.binC _ _ _ _ _ | exact Loc.convP _ _ _ _ | assumption | refine Loc.bnd ?_ (fun _ => ?_) | refine Loc.grd (fun _ => ?_) | refine Loc.opt (fun _ _ => ?_) | apply Loc.sel | exact Loc.loadN _ _ | exact Loc.storeN _ _ | exact Loc.val _ | exact Loc.newv _ | exact Loc.srcOf _ _ | exact Loc.appIn _ _ _ _ _ _ | exact Loc.appNew _ _ _ | exact Loc.appOut _ _ _ _ _ _ _ | exact Loc.appendB _ _ _ _ _ | exact Loc.appendA _ _ _ _ _ | exact Loc.lookB _ _ _ _ _ | exact Loc.lookA _ _ _ _ _ | exact Loc.updA _ _ _ _ _ | exact Loc.delA _ _ _ _ | exact Loc.rangeA _ _ _ | exact Loc.nextB _ _ _ _ _ _ _ | exact Loc.nextA _ | exact Loc.sliceS _ _ _ | exact Loc.sliceL _ _ _ _ _ _ | exact Loc.sliceY _ _ _ _ _ _ | exact Loc.sliceV _ _ _ _ _ | exact Loc.loadA _ _ _ | exact Loc.storeA _ _ _ _ | exact Loc.intOp _ _ _ _ _ _ | exact Loc.binB _ _ _ _ _ | exact Loc.binA _ _ _ _ _ | exact Loc.convA _ _ _ _ | exact Loc.makeSl _ _ _ _ | exact Loc.fieldA _ _ _ _ | exact Loc.indexP _ _ _ _ _ | exact Loc.indexA _ _ _ _ | split)
theorem Loc.buildSl (P : Program) (t : TypeId) (len : Nat) (parts : List (Nat × Value)) : Loc (buildSl P t len parts) := by
 unfold Go.Proofs.YtmdlgfnibjcgmaaGreatDoor.Rn.buildSl
 repeat' (first | exact Loc.ret _ | exact Loc.die | exact Loc.lft _ | exact Loc.geto _ | exact Loc.seto _ _ | exact Loc.newo _ | exact Loc.clo _ _ | exact Loc.binC _ _ _ _ _ | exact Loc.convP _ _ _ _ | assumption | refine Loc.bnd ?_ (fun _ => ?_) | refine Loc.grd (fun _ => ?_) | refine Loc.opt (fun _ _ => ?_) | apply Loc.sel | exact Loc.loadN _ _ | exact Loc.storeN _ _ | exact Loc.val _ | exact Loc.newv _ | exact Loc.srcOf _ _ | exact Loc.appIn _ _ _ _ _ _ | exact Loc.appNew _ _ _ | exact Loc.appOut _ _ _ _ _ _ _ | exact Loc.appendB _ _ _ _ _ | exact Loc.appendA _ _ _ _ _ | exact Loc.lookB _ _ _ _ _ | exact Loc.lookA _ _ _ _ _ | exact Loc.updA _ _ _ _ _ | exact Loc.delA _ _ _ _ | exact Loc.rangeA _ _ _ | exact Loc.nextB _ _ _ _ _ _ _ | exact Loc.nextA _ | exact Loc.sliceS _ _ _ | exact Loc.sliceL _ _ _ _ _ _ | exact Loc.sliceY _ _ _ _ _ _ | exact Loc.sliceV _ _ _ _ _ | exact Loc.loadA _ _ _ | exact Loc.storeA _ _ _ _ | exact Loc.intOp _ _ _ _ _ _ | exact Loc.binB _ _ _ _ _ | exact Loc.binA _ _ _ _ _ | exact Loc.convA _ _ _ _ | exact Loc.makeSl _ _ _ _ | exact Loc.fieldA _ _ _ _ | exact Loc.indexP _ _ _ _ _ | exact Loc.indexA _ _ _ _ | exact Loc.extrA _ _ | split)
theorem Loc.copyTo (base : Option Addr) (m : Nat) (cells : List Value) : Loc (copyTo base m cells) := by
 unfold Go.Proofs.YtmdlgfnibjcgmaaGreatDoor.Rn.copyTo
 repeat' (first | exact Loc.ret _ | exact Loc.die | exact Loc.lft _ | exact Loc.geto _ | exact Loc.seto _ _ | exact Loc.newo _ | exact Loc.clo _ _ | exact Loc.binC _ _ _ _ _ | exact Loc.convP _ _ _ _ | assumption | refine Loc.bnd ?_ (fun _ => ?_) | refine Loc.grd (fun _ => ?_) | refine Loc.opt (fun _ _ => ?_) | apply Loc.sel | exact Loc.loadN _ _ | exact Loc.storeN _ _ | exact Loc.val _ | exact Loc.newv _ | exact Loc.srcOf _ _ | exact Loc.appIn _ _ _ _ _ _ | exact Loc.appNew _ _ _ | exact Loc.appOut _ _ _ _ _ _ _ | exact Loc.appendB _ _ _ _ _ | exact Loc.appendA _ _ _ _ _ | exact Loc.lookB _ _ _ _ _ | exact Loc.lookA _ _ _ _ _ | exact Loc.updA _ _ _ _ _ | exact Loc.delA _ _ _ _ | exact Loc.rangeA _ _ _ | exact Loc.nextB _ _ _ _ _ _ _ | exact Loc.nextA _ | exact Loc.sliceS _ _ _ | exact Loc.sliceL _ _ _ _ _ _ | exact Loc.sliceY _ _ _ _ _ _ | exact Loc.sliceV _ _ _ _ _ | exact Loc.loadA _ _ _ | exact Loc.storeA _ _ _ _ | exact Loc.intOp _ _ _ _ _ _ | exact Loc.binB _ _ _ _ _ | exact Loc.binA _ _ _ _ _ | exact Loc.convA _ _ _ _ | exact Loc.makeSl _ _ _ _ | exact Loc.fieldA _ _ _ _ | exact Loc.indexP _ _ _ _ _ | exact Loc.indexA _ _ _ _ | exact Loc.extrA _ _ | exact Loc.buildSl _ _ _ _ | split)
theorem Loc.copyA (P : Program) (t : TypeId) (d x : Value) : Loc (copyA P t d x) := by
 unfold Go.Proofs.YtmdlgfnibjcgmaaGreatDoor.Rn.copyA
 repeat' (first | exact Loc.ret _ | exact Loc.die | exact Loc.lft _ | exact Loc.geto _ | exact Loc.seto _ _ | exact Loc.newo _ | exact Loc.clo _ _ | exact Loc.binC _ _ _ _ _ | exact Loc.convP _ _ _ _ | assumption | refine Loc.bnd ?_ (fun _ => ?_) | refine Loc.grd (fun _ => ?_) | refine Loc.opt (fun _ _ => ?_) | apply Loc.sel | exact Loc.loadN _ _ | exact Loc.storeN _ _ | exact Loc.val _ | exact Loc.newv _ | exact Loc.srcOf _ _ | exact Loc.appIn _ _ _ _ _ _ | exact Loc.appNew _ _ _ | exact Loc.appOut _ _ _ _ _ _ _ | exact Loc.appendB _ _ _ _ _ | exact Loc.appendA _ _ _ _ _ | exact Loc.lookB _ _ _ _ _ | exact Loc.lookA _ _ _ _ _ | exact Loc.updA _ _ _ _ _ | exact Loc.delA _ _ _ _ | exact Loc.rangeA _ _ _ | exact Loc.nextB _ _ _ _ _ _ _ | exact Loc.nextA _ | exact Loc.sliceS _ _ _ | exact Loc.sliceL _ _ _ _ _ _ | exact Loc.sliceY _ _ _ _ _ _ | exact Loc.sliceV _ _ _ _ _ | exact Loc.loadA _ _ _ | exact Loc.storeA _ _ _ _ | exact Loc.intOp _ _ _ _ _ _ | exact Loc.binB _ _ _ _ _ | exact Loc.binA _ _ _ _ _ | exact Loc.convA _ _ _ _ | exact Loc.makeSl _ _ _ _ | exact Loc.fieldA _ _ _ _ | exact Loc.indexP _ _ _ _ _ | exact Loc.indexA _ _ _ _ | exact Loc.extrA _ _ | exact Loc.buildSl _ _ _ _ | exact Loc.copyTo _ _ _ | split)
theorem Loc.strOf (P : Program) (u : TypeId) (a : Addr) (n : Nat) : Loc (strOf P u a n) := by
 unfold Go.Proofs.YtmdlgfnibjcgmaaGreatDoor.Rn.strOf
 repeat' (first | exact Loc.ret _ | exact Loc.die | exact Loc.lft _ | exact Loc.geto _ | exact Loc.seto _ _ | exact Loc.newo _ | exact Loc.clo _ _ | exact Loc.binC _ _ _ _ _ | exact Loc.convP _ _ _ _ | assumption | refine Loc.bnd ?_ (fun _ => ?_) | refine Loc.grd (fun _ => ?_) | refine Loc.opt (fun _ _ => ?_) | apply Loc.sel | exact Loc.loadN _ _ | exact Loc.storeN _ _ | exact Loc.val _ | exact Loc.newv _ | exact Loc.srcOf _ _ | exact Loc.appIn _ _ _ _ _ _ | exact Loc.appNew _ _ _ | exact Loc.appOut _ _ _ _ _ _ _ | exact Loc.appendB _ _ _ _ _ | exact Loc.appendA _ _ _ _ _ | exact Loc.lookB _ _ _ _ _ | exact Loc.lookA _ _ _ _ _ | exact Loc.updA _ _ _ _ _ | exact Loc.delA _ _ _ _ | exact Loc.rangeA _ _ _ | exact Loc.nextB _ _ _ _ _ _ _ | exact Loc.nextA _ | exact Loc.sliceS _ _ _ | exact Loc.sliceL _ _ _ _ _ _ | exact Loc.sliceY _ _ _ _ _ _ | exact Loc.sliceV _ _ _ _ _ | exact Loc.loadA _ _ _ | exact Loc.storeA _ _ _ _ | exact Loc.intOp _ _ _ _ _ _ | exact Loc.binB _ _ _ _ _ | exact Loc.binA _ _ _ _ _ | exact Loc.convA _ _ _ _ | exact Loc.makeSl _ _ _ _ | exact Loc.fieldA _ _ _ _ | exact Loc.indexP _ _ _ _ _ | exact Loc.indexA _ _ _ _ | exact Loc.extrA _ _ | exact Loc.buildSl _ _ _ _ | exact Loc.copyTo _ _ _ | exact Loc.copyA _ _ _ _ | split)
theorem Loc.plainB (P : Program) (b : Builtin) (ts : Array TypeId) (t : TypeId) (cs : Array Bool) (args : List Value) : Loc (plainB P b ts t cs args) := by
 unfold Go.Proofs.YtmdlgfnibjcgmaaGreatDoor.Rn.plainB
 repeat' (first | exact Loc.ret _ | exact Loc.die | exact Loc.lft _ | exact Loc.geto _ | exact Loc.seto _ _ | exact Loc.newo _ | exact Loc.clo _ _ | exact Loc.binC _ _ _ _ _ | exact Loc.convP _ _ _ _ | assumption | refine Loc.bnd ?_ (fun _ => ?_) | refine Loc.grd (fun _ => ?_) | refine Loc.opt (fun _ _ => ?_) | apply Loc.sel | exact Loc.loadN _ _ | exact Loc.storeN _ _ | exact Loc.val _ | exact Loc.newv _ | exact Loc.srcOf _ _ | exact Loc.appIn _ _ _ _ _ _ | exact Loc.appNew _ _ _ | exact Loc.appOut _ _ _ _ _ _ _ | exact Loc.appendB _ _ _ _ _ | exact Loc.appendA _ _ _ _ _ | exact Loc.lookB _ _ _ _ _ | exact Loc.lookA _ _ _ _ _ | exact Loc.updA _ _ _ _ _ | exact Loc.delA _ _ _ _ | exact Loc.rangeA _ _ _ | exact Loc.nextB _ _ _ _ _ _ _ | exact Loc.nextA _ | exact Loc.sliceS _ _ _ | exact Loc.sliceL _ _ _ _ _ _ | exact Loc.sliceY _ _ _ _ _ _ | exact Loc.sliceV _ _ _ _ _ | exact Loc.loadA _ _ _ | exact Loc.storeA _ _ _ _ | exact Loc.intOp _ _ _ _ _ _ | exact Loc.binB _ _ _ _ _ | exact Loc.binA _ _ _ _ _ | exact Loc.convA _ _ _ _ | exact Loc.makeSl _ _ _ _ | exact Loc.fieldA _ _ _ _ | exact Loc.indexP _ _ _ _ _ | exact Loc.indexA _ _ _ _ | exact Loc.extrA _ _ | exact Loc.buildSl _ _ _ _ | exact Loc.copyTo _ _ _ | exact Loc.copyA _ _ _ _ | exact Loc.strOf _ _ _ _ | split)
theorem Loc.lenA (P : Program) (t : TypeId) (v : Value) (k : M Nx) (hk : Loc k) : Loc (lenA P t v k) := by
 unfold Go.Proofs.YtmdlgfnibjcgmaaGreatDoor.Rn.lenA
 repeat' (first | exact Loc.ret _ | exact Loc.die | exact Loc.lft _ | exact Loc.geto _ | exact Loc.seto _ _ | exact Loc.newo _ | exact Loc.clo _ _ | exact Loc.binC _ _ _ _ _ | exact Loc.convP _ _ _ _ | assumption | refine Loc.bnd ?_ (fun _ => ?_) | refine Loc.grd (fun _ => ?_) | refine Loc.opt (fun _ _ => ?_) | apply Loc.sel | exact Loc.loadN _ _ | exact Loc.storeN _ _ | exact Loc.val _ | exact Loc.newv _ | exact Loc.srcOf _ _ | exact Loc.appIn _ _ _ _ _ _ | exact Loc.appNew _ _ _ | exact Loc.appOut _ _ _ _ _ _ _ | exact Loc.appendB _ _ _ _ _ | exact Loc.appendA _ _ _ _ _ | exact Loc.lookB _ _ _ _ _ | exact Loc.lookA _ _ _ _ _ | exact Loc.updA _ _ _ _ _ | exact Loc.delA _ _ _ _ | exact Loc.rangeA _ _ _ | exact Loc.nextB _ _ _ _ _ _ _ | exact Loc.nextA _ | exact Loc.sliceS _ _ _ | exact Loc.sliceL _ _ _ _ _ _ | exact Loc.sliceY _ _ _ _ _ _ | exact Loc.sliceV _ _ _ _ _ | exact Loc.loadA _ _ _ | exact Loc.storeA _ _ _ _ | exact Loc.intOp _ _ _ _ _ _ | exact Loc.binB _ _ _ _ _ | exact Loc.binA _ _ _ _ _ | exact Loc.convA _ _ _ _ | exact Loc.makeSl _ _ _ _ | exact Loc.fieldA _ _ _ _ | exact Loc.indexP _ _ _ _ _ | exact Loc.indexA _ _ _ _ | exact Loc.extrA _ _ | exact Loc.buildSl _ _ _ _ | exact Loc.copyTo _ _ _ | exact Loc.copyA _ _ _ _ | exact Loc.strOf _ _ _ _ | exact Loc.plainB _ _ _ _ _ _ | split)
theorem Loc.strP (P : Program) (l : List TypeId) (a : Addr) (y : Value) : Loc (strP P l a y) := by
 unfold Go.Proofs.YtmdlgfnibjcgmaaGreatDoor.Rn.strP
 split
 ·exact Loc.opt fun _ _ => Loc.opt fun _ _ => Loc.strOf _ _ _ _
 ·exact Loc.die
theorem Loc.rowA (x : Value) : Loc (rowA x) := by
 unfold Go.Proofs.YtmdlgfnibjcgmaaGreatDoor.Rn.rowA
 split
 ·exact Loc.grd fun _ => Loc.val _
 ·exact Loc.die
theorem Loc.textA (P : Program) (ts : Array TypeId) (x y : Value) : Loc (textA P ts x y) := by
 unfold Go.Proofs.YtmdlgfnibjcgmaaGreatDoor.Rn.textA
 split
 ·exact Loc.strP _ _ _ _
 ·exact Loc.die
theorem Loc.builtA (P : Program) (b : Builtin) (ts : Array TypeId) (t : TypeId) (cs : Array Bool) (args : List Value) : Loc (builtA P b ts t cs args) := by
 unfold Go.Proofs.YtmdlgfnibjcgmaaGreatDoor.Rn.builtA
 repeat' (first | exact Loc.ret _ | exact Loc.rowA _ | exact Loc.textA _ _ _ _ | exact Loc.strP _ _ _ _ | exact Loc.die | exact Loc.lft _ | exact Loc.geto _ | exact Loc.seto _ _ | exact Loc.newo _ | exact Loc.clo _ _ | exact Loc.binC _ _ _ _ _ | exact Loc.convP _ _ _ _ | assumption | refine Loc.bnd ?_ (fun _ => ?_) | refine Loc.grd (fun _ => ?_) | refine Loc.opt (fun _ _ => ?_) | apply Loc.sel | exact Loc.loadN _ _ | exact Loc.storeN _ _ | exact Loc.val _ | exact Loc.newv _ | exact Loc.srcOf _ _ | exact Loc.appIn _ _ _ _ _ _ | exact Loc.appNew _ _ _ | exact Loc.appOut _ _ _ _ _ _ _ | exact Loc.appendB _ _ _ _ _ | exact Loc.appendA _ _ _ _ _ | exact Loc.lookB _ _ _ _ _ | exact Loc.lookA _ _ _ _ _ | exact Loc.updA _ _ _ _ _ | exact Loc.delA _ _ _ _ | exact Loc.rangeA _ _ _ | exact Loc.nextB _ _ _ _ _ _ _ | exact Loc.nextA _ | exact Loc.sliceS _ _ _ | exact Loc.sliceL _ _ _ _ _ _ | exact Loc.sliceY _ _ _ _ _ _ | exact Loc.sliceV _ _ _ _ _ | exact Loc.loadA _ _ _ | exact Loc.storeA _ _ _ _ | exact Loc.intOp _ _ _ _ _ _ | exact Loc.binB _ _ _ _ _ | exact Loc.binA _ _ _ _ _ | exact Loc.convA _ _ _ _ | exact Loc.makeSl _ _ _ _ | exact Loc.fieldA _ _ _ _ | exact Loc.indexP _ _ _ _ _ | exact Loc.indexA _ _ _ _ | exact Loc.extrA _ _ | exact Loc.buildSl _ _ _ _ | exact Loc.copyTo _ _ _ | exact Loc.copyA _ _ _ _ | exact Loc.strOf _ _ _ _ | exact Loc.plainB _ _ _ _ _ _ | apply Loc.lenA | split)
theorem Loc.callV (v : Value) (args : List Value) : Loc (callV v args) := by
 unfold Go.Proofs.YtmdlgfnibjcgmaaGreatDoor.Rn.callV
 repeat' (first | exact Loc.ret _ | exact Loc.die | exact Loc.lft _ | exact Loc.geto _ | exact Loc.seto _ _ | exact Loc.newo _ | exact Loc.clo _ _ | exact Loc.binC _ _ _ _ _ | exact Loc.convP _ _ _ _ | assumption | refine Loc.bnd ?_ (fun _ => ?_) | refine Loc.grd (fun _ => ?_) | refine Loc.opt (fun _ _ => ?_) | apply Loc.sel | exact Loc.loadN _ _ | exact Loc.storeN _ _ | exact Loc.val _ | exact Loc.newv _ | exact Loc.srcOf _ _ | exact Loc.appIn _ _ _ _ _ _ | exact Loc.appNew _ _ _ | exact Loc.appOut _ _ _ _ _ _ _ | exact Loc.appendB _ _ _ _ _ | exact Loc.appendA _ _ _ _ _ | exact Loc.lookB _ _ _ _ _ | exact Loc.lookA _ _ _ _ _ | exact Loc.updA _ _ _ _ _ | exact Loc.delA _ _ _ _ | exact Loc.rangeA _ _ _ | exact Loc.nextB _ _ _ _ _ _ _ | exact Loc.nextA _ | exact Loc.sliceS _ _ _ | exact Loc.sliceL _ _ _ _ _ _ | exact Loc.sliceY _ _ _ _ _ _ | exact Loc.sliceV _ _ _ _ _ | exact Loc.loadA _ _ _ | exact Loc.storeA _ _ _ _ | exact Loc.intOp _ _ _ _ _ _ | exact Loc.binB _ _ _ _ _ | exact Loc.binA _ _ _ _ _ | exact Loc.convA _ _ _ _ | exact Loc.makeSl _ _ _ _ | exact Loc.fieldA _ _ _ _ | exact Loc.indexP _ _ _ _ _ | exact Loc.indexA _ _ _ _ | exact Loc.extrA _ _ | exact Loc.buildSl _ _ _ _ | exact Loc.copyTo _ _ _ | exact Loc.copyA _ _ _ _ | exact Loc.strOf _ _ _ _ | exact Loc.plainB _ _ _ _ _ _ | apply Loc.lenA | exact Loc.builtA _ _ _ _ _ _ | split)
theorem Loc.callA (P : Program) (c : Call) (t : TypeId) (ρ : Operand -> Value) : Loc (callA P c t ρ) := by
 unfold Go.Proofs.YtmdlgfnibjcgmaaGreatDoor.Rn.callA
 repeat' (first | exact Loc.ret _ | exact Loc.die | exact Loc.lft _ | exact Loc.geto _ | exact Loc.seto _ _ | exact Loc.newo _ | exact Loc.clo _ _ | exact Loc.binC _ _ _ _ _ | exact Loc.convP _ _ _ _ | assumption | refine Loc.bnd ?_ (fun _ => ?_) | refine Loc.grd (fun _ => ?_) | refine Loc.opt (fun _ _ => ?_) | apply Loc.sel | exact Loc.loadN _ _ | exact Loc.storeN _ _ | exact Loc.val _ | exact Loc.newv _ | exact Loc.srcOf _ _ | exact Loc.appIn _ _ _ _ _ _ | exact Loc.appNew _ _ _ | exact Loc.appOut _ _ _ _ _ _ _ | exact Loc.appendB _ _ _ _ _ | exact Loc.appendA _ _ _ _ _ | exact Loc.lookB _ _ _ _ _ | exact Loc.lookA _ _ _ _ _ | exact Loc.updA _ _ _ _ _ | exact Loc.delA _ _ _ _ | exact Loc.rangeA _ _ _ | exact Loc.nextB _ _ _ _ _ _ _ | exact Loc.nextA _ | exact Loc.sliceS _ _ _ | exact Loc.sliceL _ _ _ _ _ _ | exact Loc.sliceY _ _ _ _ _ _ | exact Loc.sliceV _ _ _ _ _ | exact Loc.loadA _ _ _ | exact Loc.storeA _ _ _ _ | exact Loc.intOp _ _ _ _ _ _ | exact Loc.binB _ _ _ _ _ | exact Loc.binA _ _ _ _ _ | exact Loc.convA _ _ _ _ | exact Loc.makeSl _ _ _ _ | exact Loc.fieldA _ _ _ _ | exact Loc.indexP _ _ _ _ _ | exact Loc.indexA _ _ _ _ | exact Loc.extrA _ _ | exact Loc.buildSl _ _ _ _ | exact Loc.copyTo _ _ _ | exact Loc.copyA _ _ _ _ | exact Loc.strOf _ _ _ _ | exact Loc.plainB _ _ _ _ _ _ | apply Loc.lenA | exact Loc.builtA _ _ _ _ _ _ | exact Loc.callV _ _ | split)
theorem Loc.pickA (c a b : Value) : Loc (pickA c a b) := by
 unfold Go.Proofs.YtmdlgfnibjcgmaaGreatDoor.Rn.pickA
 repeat' (first | exact Loc.ret _ | exact Loc.die | exact Loc.lft _ | exact Loc.geto _ | exact Loc.seto _ _ | exact Loc.newo _ | exact Loc.clo _ _ | exact Loc.binC _ _ _ _ _ | exact Loc.convP _ _ _ _ | assumption | refine Loc.bnd ?_ (fun _ => ?_) | refine Loc.grd (fun _ => ?_) | refine Loc.opt (fun _ _ => ?_) | apply Loc.sel | exact Loc.loadN _ _ | exact Loc.storeN _ _ | exact Loc.val _ | exact Loc.newv _ | exact Loc.srcOf _ _ | exact Loc.appIn _ _ _ _ _ _ | exact Loc.appNew _ _ _ | exact Loc.appOut _ _ _ _ _ _ _ | exact Loc.appendB _ _ _ _ _ | exact Loc.appendA _ _ _ _ _ | exact Loc.lookB _ _ _ _ _ | exact Loc.lookA _ _ _ _ _ | exact Loc.updA _ _ _ _ _ | exact Loc.delA _ _ _ _ | exact Loc.rangeA _ _ _ | exact Loc.nextB _ _ _ _ _ _ _ | exact Loc.nextA _ | exact Loc.sliceS _ _ _ | exact Loc.sliceL _ _ _ _ _ _ | exact Loc.sliceY _ _ _ _ _ _ | exact Loc.sliceV _ _ _ _ _ | exact Loc.loadA _ _ _ | exact Loc.storeA _ _ _ _ | exact Loc.intOp _ _ _ _ _ _ | exact Loc.binB _ _ _ _ _ | exact Loc.binA _ _ _ _ _ | exact Loc.convA _ _ _ _ | exact Loc.makeSl _ _ _ _ | exact Loc.fieldA _ _ _ _ | exact Loc.indexP _ _ _ _ _ | exact Loc.indexA _ _ _ _ | exact Loc.extrA _ _ | exact Loc.buildSl _ _ _ _ | exact Loc.copyTo _ _ _ | exact Loc.copyA _ _ _ _ | exact Loc.strOf _ _ _ _ | exact Loc.plainB _ _ _ _ _ _ | apply Loc.lenA | exact Loc.builtA _ _ _ _ _ _ | exact Loc.callV _ _ | exact Loc.callA _ _ _ _ | split)
theorem Loc.nilA (v : Value) : Loc (nilA v) := by
 unfold Go.Proofs.YtmdlgfnibjcgmaaGreatDoor.Rn.nilA
 repeat' (first | exact Loc.ret _ | exact Loc.die | exact Loc.lft _ | exact Loc.geto _ | exact Loc.seto _ _ | exact Loc.newo _ | exact Loc.clo _ _ | exact Loc.binC _ _ _ _ _ | exact Loc.convP _ _ _ _ | assumption | refine Loc.bnd ?_ (fun _ => ?_) | refine Loc.grd (fun _ => ?_) | refine Loc.opt (fun _ _ => ?_) | apply Loc.sel | exact Loc.loadN _ _ | exact Loc.storeN _ _ | exact Loc.val _ | exact Loc.newv _ | exact Loc.srcOf _ _ | exact Loc.appIn _ _ _ _ _ _ | exact Loc.appNew _ _ _ | exact Loc.appOut _ _ _ _ _ _ _ | exact Loc.appendB _ _ _ _ _ | exact Loc.appendA _ _ _ _ _ | exact Loc.lookB _ _ _ _ _ | exact Loc.lookA _ _ _ _ _ | exact Loc.updA _ _ _ _ _ | exact Loc.delA _ _ _ _ | exact Loc.rangeA _ _ _ | exact Loc.nextB _ _ _ _ _ _ _ | exact Loc.nextA _ | exact Loc.sliceS _ _ _ | exact Loc.sliceL _ _ _ _ _ _ | exact Loc.sliceY _ _ _ _ _ _ | exact Loc.sliceV _ _ _ _ _ | exact Loc.loadA _ _ _ | exact Loc.storeA _ _ _ _ | exact Loc.intOp _ _ _ _ _ _ | exact Loc.binB _ _ _ _ _ | exact Loc.binA _ _ _ _ _ | exact Loc.convA _ _ _ _ | exact Loc.makeSl _ _ _ _ | exact Loc.fieldA _ _ _ _ | exact Loc.indexP _ _ _ _ _ | exact Loc.indexA _ _ _ _ | exact Loc.extrA _ _ | exact Loc.buildSl _ _ _ _ | exact Loc.copyTo _ _ _ | exact Loc.copyA _ _ _ _ | exact Loc.strOf _ _ _ _ | exact Loc.plainB _ _ _ _ _ _ | apply Loc.lenA | exact Loc.builtA _ _ _ _ _ _ | exact Loc.callV _ _ | exact Loc.callA _ _ _ _ | exact Loc.pickA _ _ _ | split)
theorem Loc.unB (P : Program) (op : UnOp) (v : Value) : Loc (unB P op v) := Loc.grd fun _ => Loc.clo _ _
theorem Loc.unA (P : Program) (op : UnOp) (v : Value) : Loc (unA P op v) := by
 unfold Go.Proofs.YtmdlgfnibjcgmaaGreatDoor.Rn.unA
 repeat' (first | exact Loc.ret _ | exact Loc.die | exact Loc.lft _ | exact Loc.geto _ | exact Loc.seto _ _ | exact Loc.newo _ | exact Loc.clo _ _ | exact Loc.unB _ _ _ | exact Loc.binC _ _ _ _ _ | exact Loc.convP _ _ _ _ | assumption | refine Loc.bnd ?_ (fun _ => ?_) | refine Loc.grd (fun _ => ?_) | refine Loc.opt (fun _ _ => ?_) | apply Loc.sel | exact Loc.loadN _ _ | exact Loc.storeN _ _ | exact Loc.val _ | exact Loc.newv _ | exact Loc.srcOf _ _ | exact Loc.appIn _ _ _ _ _ _ | exact Loc.appNew _ _ _ | exact Loc.appOut _ _ _ _ _ _ _ | exact Loc.appendB _ _ _ _ _ | exact Loc.appendA _ _ _ _ _ | exact Loc.lookB _ _ _ _ _ | exact Loc.lookA _ _ _ _ _ | exact Loc.updA _ _ _ _ _ | exact Loc.delA _ _ _ _ | exact Loc.rangeA _ _ _ | exact Loc.nextB _ _ _ _ _ _ _ | exact Loc.nextA _ | exact Loc.sliceS _ _ _ | exact Loc.sliceL _ _ _ _ _ _ | exact Loc.sliceY _ _ _ _ _ _ | exact Loc.sliceV _ _ _ _ _ | exact Loc.loadA _ _ _ | exact Loc.storeA _ _ _ _ | exact Loc.intOp _ _ _ _ _ _ | exact Loc.binB _ _ _ _ _ | exact Loc.binA _ _ _ _ _ | exact Loc.convA _ _ _ _ | exact Loc.makeSl _ _ _ _ | exact Loc.fieldA _ _ _ _ | exact Loc.indexP _ _ _ _ _ | exact Loc.indexA _ _ _ _ | exact Loc.extrA _ _ | exact Loc.buildSl _ _ _ _ | exact Loc.copyTo _ _ _ | exact Loc.copyA _ _ _ _ | exact Loc.strOf _ _ _ _ | exact Loc.plainB _ _ _ _ _ _ | apply Loc.lenA | exact Loc.builtA _ _ _ _ _ _ | exact Loc.callV _ _ | exact Loc.callA _ _ _ _ | exact Loc.pickA _ _ _ | exact Loc.nilA _ | split)
theorem Loc.pureA (P : Program) (s : Sem Value) : Loc (pureA P s) := by
 unfold Go.Proofs.YtmdlgfnibjcgmaaGreatDoor.Rn.pureA
 repeat' (first | exact Loc.ret _ | exact Loc.die | exact Loc.lft _ | exact Loc.geto _ | exact Loc.seto _ _ | exact Loc.newo _ | exact Loc.clo _ _ | exact Loc.unB _ _ _ | exact Loc.binC _ _ _ _ _ | exact Loc.convP _ _ _ _ | assumption | refine Loc.bnd ?_ (fun _ => ?_) | refine Loc.grd (fun _ => ?_) | refine Loc.opt (fun _ _ => ?_) | apply Loc.sel | exact Loc.loadN _ _ | exact Loc.storeN _ _ | exact Loc.val _ | exact Loc.newv _ | exact Loc.srcOf _ _ | exact Loc.appIn _ _ _ _ _ _ | exact Loc.appNew _ _ _ | exact Loc.appOut _ _ _ _ _ _ _ | exact Loc.appendB _ _ _ _ _ | exact Loc.appendA _ _ _ _ _ | exact Loc.lookB _ _ _ _ _ | exact Loc.lookA _ _ _ _ _ | exact Loc.updA _ _ _ _ _ | exact Loc.delA _ _ _ _ | exact Loc.rangeA _ _ _ | exact Loc.nextB _ _ _ _ _ _ _ | exact Loc.nextA _ | exact Loc.sliceS _ _ _ | exact Loc.sliceL _ _ _ _ _ _ | exact Loc.sliceY _ _ _ _ _ _ | exact Loc.sliceV _ _ _ _ _ | exact Loc.loadA _ _ _ | exact Loc.storeA _ _ _ _ | exact Loc.intOp _ _ _ _ _ _ | exact Loc.binB _ _ _ _ _ | exact Loc.binA _ _ _ _ _ | exact Loc.convA _ _ _ _ | exact Loc.makeSl _ _ _ _ | exact Loc.fieldA _ _ _ _ | exact Loc.indexP _ _ _ _ _ | exact Loc.indexA _ _ _ _ | exact Loc.extrA _ _ | exact Loc.buildSl _ _ _ _ | exact Loc.copyTo _ _ _ | exact Loc.copyA _ _ _ _ | exact Loc.strOf _ _ _ _ | exact Loc.plainB _ _ _ _ _ _ | apply Loc.lenA | exact Loc.builtA _ _ _ _ _ _ | exact Loc.callV _ _ | exact Loc.callA _ _ _ _ | exact Loc.pickA _ _ _ | exact Loc.nilA _ | exact Loc.unA _ _ _ | split)
theorem Loc.idxD (P : Program) (j : Nat) (d : TypeDesc) (v : Value) : Loc (idxD P j d v) := by
 unfold Go.Proofs.YtmdlgfnibjcgmaaGreatDoor.Rn.idxD
 repeat' (first | exact Loc.die | exact Loc.val _ | exact Loc.pureA _ _ | refine Loc.grd (fun _ => ?_) | refine Loc.opt (fun _ _ => ?_) | split)
theorem Loc.idxA (P : Program) (t : TypeId) (v i : Value) : Loc (idxA P t v i) := Loc.opt fun _ _ => Loc.opt fun _ _ => Loc.idxD _ _ _ _
theorem Loc.exA (P : Program) (o : Oper) (ρ : Operand -> Value) : Loc (exA P o ρ) := by
 unfold Go.Proofs.YtmdlgfnibjcgmaaGreatDoor.Rn.exA
 repeat' (first | exact Loc.ret _ | exact Loc.idxA _ _ _ _ | exact Loc.die | exact Loc.lft _ | exact Loc.geto _ | exact Loc.seto _ _ | exact Loc.newo _ | exact Loc.clo _ _ | exact Loc.unB _ _ _ | exact Loc.binC _ _ _ _ _ | exact Loc.convP _ _ _ _ | assumption | refine Loc.bnd ?_ (fun _ => ?_) | refine Loc.grd (fun _ => ?_) | refine Loc.opt (fun _ _ => ?_) | apply Loc.sel | exact Loc.loadN _ _ | exact Loc.storeN _ _ | exact Loc.val _ | exact Loc.newv _ | exact Loc.srcOf _ _ | exact Loc.appIn _ _ _ _ _ _ | exact Loc.appNew _ _ _ | exact Loc.appOut _ _ _ _ _ _ _ | exact Loc.appendB _ _ _ _ _ | exact Loc.appendA _ _ _ _ _ | exact Loc.lookB _ _ _ _ _ | exact Loc.lookA _ _ _ _ _ | exact Loc.updA _ _ _ _ _ | exact Loc.delA _ _ _ _ | exact Loc.rangeA _ _ _ | exact Loc.nextB _ _ _ _ _ _ _ | exact Loc.nextA _ | exact Loc.sliceS _ _ _ | exact Loc.sliceL _ _ _ _ _ _ | exact Loc.sliceY _ _ _ _ _ _ | exact Loc.sliceV _ _ _ _ _ | exact Loc.loadA _ _ _ | exact Loc.storeA _ _ _ _ | exact Loc.intOp _ _ _ _ _ _ | exact Loc.binB _ _ _ _ _ | exact Loc.binA _ _ _ _ _ | exact Loc.convA _ _ _ _ | exact Loc.makeSl _ _ _ _ | exact Loc.fieldA _ _ _ _ | exact Loc.indexP _ _ _ _ _ | exact Loc.indexA _ _ _ _ | exact Loc.extrA _ _ | exact Loc.buildSl _ _ _ _ | exact Loc.copyTo _ _ _ | exact Loc.copyA _ _ _ _ | exact Loc.strOf _ _ _ _ | exact Loc.plainB _ _ _ _ _ _ | apply Loc.lenA | exact Loc.builtA _ _ _ _ _ _ | exact Loc.callV _ _ | exact Loc.callA _ _ _ _ | exact Loc.pickA _ _ _ | exact Loc.nilA _ | exact Loc.unA _ _ _ | exact Loc.pureA _ _ | split)
section
variable {P : Program} {ne : FuncId} {plug : FuncId -> List Value -> Option Value} {call : FuncId -> List Value -> M Value} (hc : ∀ f args, Loc (call f args))
include hc
theorem Loc.doCall (f : FuncId) (args : List Value) : Loc (doCall ne plug call f args) := by
 unfold Go.Proofs.YtmdlgfnibjcgmaaGreatDoor.Rn.doCall
 repeat' (first | exact Loc.ret _ | exact Loc.die | exact hc _ _ | split)
theorem Loc.contA (x : Nx) : Loc (contA ne plug call x) := by
 unfold Go.Proofs.YtmdlgfnibjcgmaaGreatDoor.Rn.contA
 split
 ·exact Loc.ret _
 ·exact Loc.doCall hc _ _
theorem Loc.stepA (o : Oper) (tm : Tr Value) : Loc (stepA P ne plug call o tm) := by
 unfold Go.Proofs.YtmdlgfnibjcgmaaGreatDoor.Rn.stepA
 exact Loc.grd fun _ => Loc.bnd (Loc.exA _ _ _) (Loc.contA hc)
theorem Loc.valA (ops : List Oper) (o : Oper) (tm : Tr Value) : Loc (valA P ne plug call ops o tm) := by
 unfold Go.Proofs.YtmdlgfnibjcgmaaGreatDoor.Rn.valA
 cases wantedA ops tm o.guard with
 | false => exact Loc.ret _
 | true => exact Loc.stepA hc _ _
theorem Loc.oneA (n : Nat) (ops : List Oper) (o : Oper) (tm : Tr Value) : Loc (oneA P ne plug call n ops o tm) := by
 unfold Go.Proofs.YtmdlgfnibjcgmaaGreatDoor.Rn.oneA
 exact Loc.bnd (Loc.valA hc _ _ _) fun _ => Loc.lft _
theorem runOps_nil (n : Nat) (ops : List Oper) (tm : Tr Value) : runOps P ne plug call n ops [] tm = ret tm := rfl
theorem runOps_cons (n : Nat) (ops l : List Oper) (o : Oper) (tm : Tr Value) : runOps P ne plug call n ops (o :: l) tm = bnd (Go.Proofs.YtmdlgfnibjcgmaaGreatDoor.Rn.oneA P ne plug call n ops o tm) (runOps P ne plug call n ops l) := rfl
theorem Loc.runOps (n : Nat) (ops : List Oper) : ∀ (l : List Oper) (tm : Tr Value), Loc (runOps P ne plug call n ops l tm)
 | [], tm => Loc.ret tm
 | o :: l, tm => by
  rw [runOps_cons hc]
  exact Loc.bnd (Loc.oneA hc _ _ _ _) (Loc.runOps n ops l)
theorem Loc.runDraw (n : Nat) (ops : List Oper) : ∀ (l : List Oper) (i : Nat) (tm : Tr Value) (ls : List Lg), Loc (runDraw P ne plug call n ops l i tm ls)
 | [], i, tm, ls => Loc.ret _
 | o :: l, i, tm, ls => by
  unfold Go.Proofs.YtmdlgfnibjcgmaaGreatDoor.Rn.runDraw
  exact Loc.bnd (Loc.logOn (Loc.valA hc _ _ _)) fun p => Loc.bnd (Loc.lft _) fun tm' => Loc.runDraw n ops l _ _ _
omit hc in
theorem Loc.nxOf : Loc nxOf := by
 intro s b s' hw h
 obtain ⟨hh, nx, lg, rd, wr⟩ := s
 cases h
 refine ⟨Nat.le_refl _, rfl, ⟨hw, Dm.refl _⟩, fun _ => ⟨[], [], rfl, rfl, (fun b hb => by cases hb), fun b _ => rfl, fun g h1 h2 _ _ => ⟨g, ?_, h1, h2, rfl, rfl, (fun b hb => ?_), fun b _ => rfl⟩⟩⟩
 ·obtain ⟨gh, gnx, glg, grd, gwr⟩ := g
  simp only at h1
  subst h1
  rfl
 ·rcases hb with hb | hb
  ·cases hb
  ·simp only at hb; omega
theorem Loc.drawA (n : Nat) (ops : Array Oper) (tm : Tr Value) : Loc (drawA P ne plug call n ops tm) := by
 unfold Go.Proofs.YtmdlgfnibjcgmaaGreatDoor.Rn.drawA
 exact Loc.grd fun _ => Loc.bnd Loc.nxOf fun _ => Loc.bnd (Loc.runDraw hc _ _ _ _ _ _) fun p => Loc.grd fun _ => Loc.ret _
theorem Loc.exSeq {k : Tr Value -> M (Ex × Tr Value)} (hk : ∀ t, Loc (k t)) (p : Ex × Tr Value) : Loc (exSeq k p) := by
 unfold Go.Proofs.YtmdlgfnibjcgmaaGreatDoor.Rn.exSeq
 split
 ·exact hk _
 ·exact Loc.ret _
theorem Loc.exBlock (id : Nat) (p : Ex × Tr Value) : Loc (exBlock id p) := by
 unfold Go.Proofs.YtmdlgfnibjcgmaaGreatDoor.Rn.exBlock
 split <;> exact Loc.ret _
theorem Loc.exCond (v : Value) {a b : M (Ex × Tr Value)} (ha : Loc a) (hb : Loc b) : Loc (exCond v a b) := by
 unfold Go.Proofs.YtmdlgfnibjcgmaaGreatDoor.Rn.exCond
 split
 ·exact ha
 ·exact hb
 ·exact Loc.die
theorem Loc.codeStep (n : Nat) {self : Code -> Tr Value -> M (Ex × Tr Value)} (hs : ∀ c t, Loc (self c t)) (c : Code) (tm : Tr Value) : Loc (codeStep P ne plug call n self c tm) := by
 unfold Go.Proofs.YtmdlgfnibjcgmaaGreatDoor.Rn.codeStep
 split
 ·exact Loc.ret _
 ·split
  ·exact Loc.bnd (Loc.runOps hc _ _ _ _) fun _ => Loc.ret _
  ·exact Loc.drawA hc _ _ _
 ·exact Loc.bnd (hs _ _) (Loc.exSeq hc (hs _))
 ·exact Loc.exCond hc _ (hs _ _) (hs _ _)
 ·exact Loc.bnd (hs _ _) (Loc.exBlock hc _)
 ·exact Loc.bnd (hs _ _) (Loc.exSeq hc (hs _))
 ·exact Loc.ret _
 ·exact Loc.ret _
 ·exact Loc.die
theorem Loc.runCode (n : Nat) : ∀ (f : Nat) (c : Code) (tm : Tr Value), Loc (runCode P ne plug call n f c tm)
 | 0, c, tm => Loc.die
 | f + 1, c, tm => Loc.codeStep hc n (Loc.runCode n f) c tm
theorem Loc.res1 (tm : Tr Value) (r : ResultVar) : Loc (res1 P tm r) := by
 unfold Go.Proofs.YtmdlgfnibjcgmaaGreatDoor.Rn.res1
 split
 ·exact Loc.ret _
 ·exact Loc.loadA _ _ _
theorem Loc.resL (tm : Tr Value) : ∀ l : List ResultVar, Loc (resL P tm l)
 | [] => Loc.ret _
 | r :: l => Loc.bnd (Loc.res1 hc tm r) fun v => Loc.bnd (Loc.resL tm l) fun vs => Loc.ret _
theorem Loc.fnStep (fn : Func) (args : List Value) : Loc (fnStep P ne plug call fn args) := by
 unfold Go.Proofs.YtmdlgfnibjcgmaaGreatDoor.Rn.fnStep
 split
 ·exact Loc.die
 ·refine Loc.trim (Loc.bnd (Loc.runCode hc _ _ _ _) fun p => ?_)
  unfold Go.Proofs.YtmdlgfnibjcgmaaGreatDoor.Rn.exRet
  split
  ·exact Loc.die
  ·exact Loc.bnd (Loc.resL hc _ _) fun _ => Loc.ret _
end
theorem Loc.runFn {P : Program} {ne : FuncId} {plug : FuncId -> List Value -> Option Value} : ∀ (f : Nat) (g : FuncId) (args : List Value), Loc (runFn P ne plug f g args)
 | 0, g, args => Loc.die
 | f + 1, g, args => Loc.opt fun fn _ => Loc.fnStep (Loc.runFn f) fn args
end Go.Proofs.YtmdlgfnibjcgmaaGreatDoor.Rn
