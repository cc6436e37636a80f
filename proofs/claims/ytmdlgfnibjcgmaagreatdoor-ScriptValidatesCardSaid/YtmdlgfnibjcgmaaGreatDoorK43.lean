/-
  Several texts joined: RnI, RnJ.
-/
import Derived.Test.YtmdlgfnibjcgmaaGreatDoorK42
set_option linter.unusedVariables false
set_option linter.unusedSimpArgs false
set_option linter.unusedSectionVars false
namespace Go.Proofs.YtmdlgfnibjcgmaaGreatDoor.Rn
open Go.RowKit
section
variable {P : Program} {ne : FuncId} {plug : FuncId -> List Value -> Option Value} {call : FuncId -> List Value -> M Value}
variable {n : Nat} {ops : Array Oper} {st : Nat -> St} {tv : Nat -> Tr Value} {v : Nat -> Value} {lg : Nat -> Lg} {r r' : Nat -> St}
def Wr (st : Nat -> St) (lg : Nat -> Lg) (k b : Nat) : Prop := b ∈ (lg k).wr ∨ ((st k).nx <= b /\ b < (st (k + 1)).nx)
def Tc (lg : Nat -> Lg) (k b : Nat) : Prop := b ∈ (lg k).rd ∨ b ∈ (lg k).wr
def Wt (ops : Array Oper) (k t : Nat) : Prop := ∃ o, ops[k]? = some o /\ o.dst = some t
theorem Txt.opAt (T : Txt P ne plug call n ops st tv v lg r r') {k : Nat} (h : k < ops.size) : OpK (valA P ne plug call ops.toList ops[k] (tv k)) (v k) (st k) (st (k + 1)) (lg k).rd (lg k).wr (r k) (r' k) := T.op k _ (by simp [h])
theorem Txt.nxm (T : Txt P ne plug call n ops st tv v lg r r') {j : Nat} : ∀ d, j + d <= ops.size -> (st j).nx <= (st (j + d)).nx
 | 0, _ => Nat.le_refl _
 | d + 1, h => Nat.le_trans (T.nxm d (by omega)) (T.nx (j + d) (by omega))
theorem Txt.nxle (T : Txt P ne plug call n ops st tv v lg r r') {j k : Nat} (h : j <= k) (hk : k <= ops.size) : (st j).nx <= (st k).nx := by
 have := T.nxm (j := j) (k - j) (by omega)
 rwa [show j + (k - j) = k by omega] at this
theorem Txt.none (T : Txt P ne plug call n ops st tv v lg r r') {j b : Nat} (hb : b < (st j).nx) (hn : (st j).h.get b = none) : ∀ d, j + d <= ops.size -> (st (j + d)).h.get b = none
 | 0, _ => hn
 | d + 1, h => T.dm (j + d) (by omega) b (Nat.lt_of_lt_of_le hb (T.nxm d (by omega))) (T.none hb hn d (by omega))
theorem Txt.step (T : Txt P ne plug call n ops st tv v lg r r') (b : Nat) : ∀ k, k < ops.size -> ¬ Wr st lg k b -> (st (k + 1)).h.get b = (st k).h.get b := fun k hk h => (T.opAt hk).keep b h
theorem Txt.stepT (T : Txt P ne plug call n ops st tv v lg r r') (t : Nat) : ∀ k, k < ops.size -> ¬ Wt ops k t -> (tv (k + 1)).get t = (tv k).get t := fun k hk h => by
 rcases putA_some (T.put k ops[k] (by simp [hk])) with ⟨_, h2⟩ | ⟨e, h1, _, h2⟩
 ·rw [h2]
 ·rw [h2, get_set, if_neg]
  intro q
  subst q
  exact h ⟨ops[k], by simp [hk], h1⟩
structure Cf (ops : Array Oper) (st : Nat -> St) (lg : Nat -> Lg) : Prop where
 edges : edgesOk ops.toList 0 = true
 c1 : ∀ j i b, j < i -> i < ops.size -> Wr st lg j b -> Tc lg i b -> stands (ancs ops.toList []) j i = true
 c2 : ∀ j i b, j < i -> i < ops.size -> Tc lg j b -> Wr st lg i b -> stands (ancs ops.toList []) j i = true
 tm : ∀ j i x y, j < i -> ops[i]? = some x -> ops[j]? = some y -> x.apart ops y = true ∨ stands (ancs ops.toList []) j i = true
theorem cf_of (T : Txt P ne plug call n ops st tv v lg r r') (h1 : regOk ops = true) (h2 : logsOk (st 0).nx (ancs ops.toList []) ((List.range ops.size).map lg).reverse = true) : Cf ops st lg := by
 unfold regOk at h1
 rw [Bool.and_eq_true, Bool.and_eq_true] at h1
 have lt : ∀ k, k < ops.size -> ∀ b, Tc lg k b -> b < (st k).nx := fun k hk b q => (T.opAt hk).lt b q
 have base : ∀ j i b, j < i -> i < ops.size -> (b ∈ (lg i).wr /\ (b ∈ (lg j).rd ∨ b ∈ (lg j).wr)) ∨ (b ∈ (lg j).wr /\ b ∈ (lg i).rd) -> stands (ancs ops.toList []) j i = true := by
  intro j i b hj hi hb
  have := (logs_at ops.size h2 i j hj hi).1 b hb
  rwa [(T.i j (by omega)).1, (T.i i hi).1] at this
 refine ⟨h1.1.2, fun j i b hj hi hw ht => ?_, fun j i b hj hi ht hw => ?_, fun j i x y hj hx hy => ?_⟩
 ·rcases hw with q | q
  ·rcases ht with z | z
   ·exact base j i b hj hi (.inr ⟨q, z⟩)
   ·exact base j i b hj hi (.inl ⟨z, .inr q⟩)
  ·have := (logs_at ops.size h2 i j hj hi).2 b (by have := T.nxle (Nat.zero_le j) (by omega); omega) ht (by rw [(T.i j (by omega)).2.1]; exact q.1) (by rw [(T.i j (by omega)).2.2]; exact q.2)
   rwa [(T.i j (by omega)).1, (T.i i hi).1] at this
 ·rcases hw with q | q
  ·exact base j i b hj hi (.inl ⟨q, ht⟩)
  ·have k1 := lt j (by omega) b ht
   have k2 := T.nxle (j := j) (k := i) (by omega) (by omega)
   omega
 ·have := (tmps_at ops.toList 0 [] h1.2).2 i j x y hj (by simpa using hx) (by simpa using hy)
  simpa using this
def AS (A : Nat -> Prop) (N : Nat) (st : Nat -> St) (S : Nat -> Prop) (b : Nat) : Prop := A b ∨ ∃ k, k < N /\ S k /\ (st k).nx <= b /\ b < (st (k + 1)).nx
def NF (s s' : St) (b : Nat) : Prop := (∃ o, s.h.get b = some o) ∨ (s.nx <= b /\ b < s'.nx)
structure Inv (P : Program) (n : Nat) (ops : Array Oper) (st : Nat -> St) (tv : Nat -> Tr Value) (lg : Nat -> Lg) (τ0 : Tau) (A : Nat -> Prop) (B : Nat) (g0 : Tr Obj) (w0 : World) (S : Nat -> Prop) (a : Act) (τ : Tau) (G : Tr Obj) (w : World) : Prop where
 closed : ∀ k o, ops[k]? = some o -> S k -> ∀ e ∈ depsA o, S e
 agr : Agr τ0 τ (st 0).nx (st ops.size).nx
 rel : Rel P τ (AS A ops.size st S) B G w
 below : Below B w0 w
 frame : ∀ b, ¬ NF (st 0) (st ops.size) b -> G.get b = g0.get b
 heap : ∀ b, NF (st 0) (st ops.size) b -> ∃ m, Ver ops.size (fun k => Wr st lg k b) S m /\ G.get b = (st m).h.get b
 size : a.tmps.size = n
 defers : a.defers = []
 tmp : ∀ t, ∃ m, Ver ops.size (fun k => Wt ops k t) S m /\ TmAt n τ (AS A ops.size st S) a t ((tv m).get t)
variable {τ0 : Tau} {A : Nat -> Prop} {B : Nat} {g0 : Tr Obj} {w0 : World} {S : Nat -> Prop} {a : Act} {τ : Tau} {G : Tr Obj} {w : World}
theorem ver_heap (T : Txt P ne plug call n ops st tv v lg r r') (C : Cf ops st lg) (hc : ∀ k o, ops[k]? = some o -> S k -> ∀ e ∈ depsA o, S e) {i : Nat} {o : Oper} (ho : ops[i]? = some o) (hd : ∀ e ∈ depsA o, S e) (hi : ¬ S i) {b : Nat} (hb : Tc lg i b ∨ Wr st lg i b) : Ver ops.size (fun k => Wr st lg k b) S i := by
 have hlt : i < ops.size := (Array.getElem?_eq_some_iff.1 ho).1
 have lt : ∀ k, k < ops.size -> ∀ b, Tc lg k b -> b < (st k).nx := fun k hk b q => (T.opAt hk).lt b q
 have ahead : ∀ j, stands (ancs ops.toList []) j i = true -> S j := fun j q => stands_done C.edges hc (i + 1) i (by omega) o ho hd j q
 have back : ∀ k, k < ops.size -> S k -> ∀ j, stands (ancs ops.toList []) j k = true -> S j := fun k hk hs j q =>
  stands_done C.edges hc (k + 1) k (by omega) ops[k] (by simp [hk]) (hc k ops[k] (by simp [hk]) hs) j q
 refine ⟨Nat.le_of_lt hlt, fun k hk hw => ?_, fun k h1 h2 hw hs => ?_⟩
 ·by_cases ht : Tc lg i b
  ·exact ahead k (C.c1 k i b hk hlt hw ht)
  ·rcases hb with hb | hb
   ·exact (ht hb).elim
   ·rcases hb with hb | hb
    ·exact (ht (.inr hb)).elim
    ·have e1 := T.nxle (j := k + 1) (k := i) (by omega) (by omega)
     rcases hw with q | q
     ·have e2 := lt k (by omega) b (.inr q)
      have e3 := T.nx k (by omega)
      omega
     ·omega
 ·rcases Nat.lt_or_ge i k with q | q
  ·by_cases ht : Tc lg i b
   ·exact hi (back k h2 hs i (C.c2 i k b q h2 ht hw))
   ·rcases hb with hb | hb
    ·exact (ht hb).elim
    ·have hw' : Wr st lg i b := hb
     rcases hb with hb | hb
     ·exact (ht (.inr hb)).elim
     ·have e1 := T.nxle (j := i + 1) (k := k) (by omega) (by omega)
      rcases hw with z | z
      ·exact hi (back k h2 hs i (C.c1 i k b q h2 hw' (.inr z)))
      ·omega
  ·have : k = i := by omega
   subst this
   exact hi hs
theorem ver_tmp (C : Cf ops st lg) (hc : ∀ k o, ops[k]? = some o -> S k -> ∀ e ∈ depsA o, S e) {i : Nat} {o : Oper} (ho : ops[i]? = some o) (hd : ∀ e ∈ depsA o, S e) (hi : ¬ S i) {t : Nat} (hb : t ∈ o.looksAt ops ∨ o.dst = some t) : Ver ops.size (fun k => Wt ops k t) S i := by
 have hlt : i < ops.size := (Array.getElem?_eq_some_iff.1 ho).1
 have ahead : ∀ j, stands (ancs ops.toList []) j i = true -> S j := fun j q => stands_done C.edges hc (i + 1) i (by omega) o ho hd j q
 have back : ∀ k, k < ops.size -> S k -> ∀ j, stands (ancs ops.toList []) j k = true -> S j := fun k hk hs j q =>
  stands_done C.edges hc (k + 1) k (by omega) ops[k] (by simp [hk]) (hc k ops[k] (by simp [hk]) hs) j q
 refine ⟨Nat.le_of_lt hlt, fun k hk hw => ?_, fun k h1 h2 hw hs => ?_⟩
 ·obtain ⟨y, hy, hyd⟩ := hw
  rcases C.tm k i o y hk ho hy with q | q
  ·obtain ⟨a1, a2, a3⟩ := Oper.apart_spec q
   rcases hb with hb | hb
   ·exact (a3 t hyd hb).elim
   ·exact (a2 t hb hyd).elim
  ·exact ahead k q
 ·rcases Nat.lt_or_ge i k with q | q
  ·obtain ⟨y, hy, hyd⟩ := hw
   rcases C.tm i k y o q hy ho with z | z
   ·obtain ⟨a1, a2, a3⟩ := Oper.apart_spec z
    rcases hb with hb | hb
    ·exact (a1 t hyd hb).elim
    ·exact (a2 t hyd hb).elim
   ·exact hi (back k h2 hs i z)
  ·have : k = i := by omega
   subst this
   exact hi hs
theorem Ver.add {N : Nat} {wr : Nat -> Prop} {m i : Nat} (h : Ver N wr S m) (hi : ¬ wr i) : Ver N wr (fun k => S k ∨ k = i) m :=
 ⟨h.le, fun k h1 h2 => .inl (h.done k h1 h2), fun k h1 h2 h3 h4 => by
  rcases h4 with q | q
  ·exact h.todo k h1 h2 h3 q
  ·subst q; exact hi h3⟩
theorem Ver.next {N : Nat} {wr : Nat -> Prop} {i : Nat} (h : Ver N wr S i) (hi : i < N) : Ver N wr (fun k => S k ∨ k = i) (i + 1) :=
 ⟨hi, fun k h1 h2 => by
  by_cases e : k = i
  ·exact .inr e
  ·exact .inl (h.done k (by omega) h2), fun k h1 h2 h3 h4 => by
  rcases h4 with q | q
  ·exact h.todo k (by omega) h2 h3 q
  ·omega⟩
theorem AS.add (T : Txt P ne plug call n ops st tv v lg r r') {i : Nat} (hi : i < ops.size) (b : Nat) : AS A ops.size st (fun k => S k ∨ k = i) b ↔ Un (AS A ops.size st S) (st i).nx (st (i + 1)).nx b := by
 unfold AS Un
 constructor
 ·rintro (q | ⟨k, k1, k2 | k2, k3⟩)
  ·exact .inl (.inl q)
  ·exact .inl (.inr ⟨k, k1, k2, k3⟩)
  ·subst k2; exact .inr k3
 ·rintro ((q | ⟨k, k1, k2, k3⟩) | q)
  ·exact .inl q
  ·exact .inr ⟨k, k1, .inl k2, k3⟩
  ·exact .inr ⟨i, hi, .inr rfl, q⟩
theorem step_any (hl : ∀ f args, Loc (call f args)) (hcall : CallOk P call) (hp : Plugs P ne plug) (T : Txt P ne plug call n ops st tv v lg r r') (C : Cf ops st lg) {Q : Exit -> Act -> World -> Prop} {K : Act -> World -> Prop}
  (fg : Fresh g0 (st 0).nx (st ops.size).nx) (hnew : ∀ b, (st 0).nx <= b -> b < (st ops.size).nx -> ¬ A b) (I : Inv P n ops st tv lg τ0 A B g0 w0 S a τ G w) {i : Nat} {o : Oper} (ho : ops[i]? = some o) (hd : ∀ e ∈ depsA o, S e) (hi : ¬ S i)
  (hK : ∀ a' τ' G' w', Inv P n ops st tv lg τ0 A B g0 w0 (fun k => S k ∨ k = i) a' τ' G' w' -> K a' w') : wpOp P ops Q i K a w := by
 have hlt : i < ops.size := (Array.getElem?_eq_some_iff.1 ho).1
 have k := T.op i o ho
 have vh := fun {b : Nat} (hb : Tc lg i b ∨ Wr st lg i b) => ver_heap T C I.closed ho hd hi hb
 have n0 := T.nxle (Nat.zero_le i) (by omega)
 have n1 := T.nxle (j := i + 1) (k := ops.size) (by omega) (Nat.le_refl _)
 have ni := T.nx i hlt
 -- a name that the operation touches and that stands is of the run
 have nf : ∀ b, b < (st i).nx -> (∃ u, (st i).h.get b = some u) -> NF (st 0) (st ops.size) b := by
  intro b hb ⟨u, hu⟩
  rcases Nat.lt_or_ge b (st 0).nx with q | q
  ·refine .inl ?_
   cases h0 : (st 0).h.get b with
   | some x => exact ⟨x, rfl⟩
   | none =>
    have := T.none q h0 i (by omega)
    rw [Nat.zero_add] at this
    rw [this] at hu; cases hu
  ·exact .inr ⟨q, by omega⟩
 have now : ∀ b, NF (st 0) (st ops.size) b -> (Tc lg i b ∨ Wr st lg i b) -> G.get b = (st i).h.get b := by
  intro b hb ht
  obtain ⟨m, h1, h2⟩ := I.heap b hb
  rw [h2]
  exact h1.eq (f := fun m => (st m).h.get b) (T.step b) (vh ht)
 have rsome : ∀ b u, (r i).h.get b = some u -> Tc lg i b /\ (st i).h.get b = some u := by
  intro b u hu
  rw [k.get] at hu
  by_cases q : b ∈ (lg i).rd ∨ b ∈ (lg i).wr
  ·rw [if_pos q] at hu; exact ⟨q, hu⟩
  ·rw [if_neg q] at hu; cases hu
 have inn : Inn P τ (AS A ops.size st S) B (r i) (r' i) G w := by
  refine ⟨fun b u hu => ?_, fun b h1 h2 => ?_, I.rel, fun b h1 h2 hA => ?_⟩
  ·obtain ⟨q1, q2⟩ := rsome b u hu
   rw [now b (nf b (k.lt b q1) ⟨u, q2⟩) (.inl q1), q2]
  ·rw [k.rnx] at h1
   rw [k.rnx'] at h2
   rw [now b (.inr ⟨by omega, by omega⟩) (.inr (.inr ⟨h1, h2⟩))]
   exact T.wf i (by omega) b h1
  ·rw [k.rnx] at h1
   rw [k.rnx'] at h2
   rcases hA with q | ⟨j, j1, j2, j3⟩
   ·exact hnew b (by omega) (by omega) q
   ·have hne : j ≠ i := fun e => hi (e ▸ j2)
    rcases Nat.lt_or_ge j i with z | z
    ·have := T.nxle (j := j + 1) (k := i) (by omega) (by omega)
     omega
    ·have := T.nxle (j := i + 1) (k := j) (by omega) (by omega)
     omega
 have vt := fun {t : Nat} (hb : t ∈ o.looksAt ops ∨ o.dst = some t) => ver_tmp C I.closed ho hd hi hb
 refine valA_ok hl hcall hp k.wf ho k.run inn I.size (fun t ht => ?_) fun u w' hu => ?_
 ·obtain ⟨m, h1, h2⟩ := I.tmp t
  rw [show (tv i).get t = (tv m).get t from (h1.eq (f := fun m => (tv m).get t) (T.stepT t) (vt (.inl ht))).symm]
  exact h2
 ·obtain ⟨τ', G', rfl, out, hv⟩ := hu
  have oagr := out.agr
  have ogrow := out.grow
  have orel := out.rel
  rw [k.rnx, k.rnx'] at oagr orel hv
  have hsame := Un.agree (A := AS A ops.size st S) oagr (fun b p q => inn.new b (by rw [k.rnx]; exact p) (by rw [k.rnx']; exact q))
  have hAS : ∀ b, Un (AS A ops.size st S) (st i).nx (st (i + 1)).nx b -> AS A ops.size st (fun k => S k ∨ k = i) b := fun b q => (AS.add T hlt b).2 q
  have hput := T.put i o ho
  have hdst : ∀ e, o.dst = some e -> e < n := by
   intro e he
   rcases putA_some hput with ⟨h1, _⟩ | ⟨t, h1, h2, _⟩
   ·rw [h1] at he; cases he
   ·rw [h1] at he; cases he; exact h2
  refine hK _ τ' G' w' ⟨fun j x hj hs e he => ?_, fun b hb => ?_, orel.mono hAS, I.below.trans out.below, fun b hb => ?_, fun b hb => ?_, by rw [(put_size a _ _).1, I.size], by rw [(put_size a _ _).2, I.defers], fun t => ?_⟩
  ·rcases hs with q | q
   ·exact .inl (I.closed j x hj q e he)
   ·subst q
    rw [ho] at hj; cases hj
    exact .inl (hd e he)
  ·have q := oagr b (fun z => hb ⟨by omega, by omega⟩)
   have q2 := I.agr b hb
   exact ⟨q.1.trans q2.1, q.2.trans q2.2⟩
  ·rw [(ogrow b).2 ?_ ?_]
   ·exact I.frame b hb
   ·cases hr : (r i).h.get b with
    | none => rfl
    | some u => exact (hb (nf b (k.lt b (rsome b u hr).1) ⟨u, (rsome b u hr).2⟩)).elim
   ·rw [k.rnx, k.rnx']
    intro z
    exact hb (.inr ⟨by omega, by omega⟩)
  ·by_cases hw : Wr st lg i b
   ·refine ⟨i + 1, (vh (.inr hw)).next hlt, ?_⟩
    by_cases hz : (∃ u, (r i).h.get b = some u) ∨ ((r i).nx <= b /\ b < (r' i).nx)
    ·rw [(ogrow b).1 hz]
     exact k.get' b hw
    ·have hz1 : (r i).h.get b = none := by
      cases hr : (r i).h.get b with
      | none => rfl
      | some u => exact (hz (.inl ⟨u, hr⟩)).elim
     have hz2 : ¬ ((r i).nx <= b /\ b < (r' i).nx) := fun q => hz (.inr q)
     rw [(ogrow b).2 hz1 hz2, now b hb (.inr hw)]
     have hwr : b ∈ (lg i).wr := by
      rcases hw with q | q
      ·exact q
      ·rw [k.rnx, k.rnx'] at hz2; exact (hz2 q).elim
     have hn : (st i).h.get b = none := by
      rw [← hz1, k.get, if_pos (.inr hwr)]
     rw [hn]
     exact (T.dm i hlt b (k.lt b (.inr hwr)) hn).symm
   ·obtain ⟨m, h1, h2⟩ := I.heap b hb
    refine ⟨m, h1.add hw, ?_⟩
    cases hr : (r i).h.get b with
    | some u =>
     obtain ⟨q1, q2⟩ := rsome b u hr
     rw [(ogrow b).1 (.inl ⟨u, hr⟩), k.keep' b hw, hr, ← q2, ← now b hb (.inl q1), h2]
    | none =>
     rw [(ogrow b).2 hr (by rw [k.rnx, k.rnx']; exact fun q => hw (.inr q)), h2]
  ·by_cases ht : o.dst = some t
   ·refine ⟨i + 1, (vt (.inr ht)).next hlt, ?_⟩
    have e : (tv (i + 1)).get t = some (v i) := by
     rcases putA_some hput with ⟨h1, _⟩ | ⟨e, h1, _, h2⟩
     ·rw [h1] at ht; cases ht
     ·rw [h1] at ht; cases ht
      rw [h2, get_set, if_pos rfl]
    rw [e]
    exact ((put_at (τ := τ') (o := none) hdst I.size hv).1 ht).mono (fun _ _ => ⟨rfl, rfl⟩) hAS
   ·obtain ⟨m, h1, h2⟩ := I.tmp t
    refine ⟨m, h1.add (fun q => ?_), ?_⟩
    ·obtain ⟨x, x1, x2⟩ := q
     rw [ho] at x1; cases x1
     exact ht x2
    ·exact ((put_at hdst I.size hv).2 ht (h2.mono hsame fun _ => Un.left)).mono (fun _ _ => ⟨rfl, rfl⟩) hAS
end
end Go.Proofs.YtmdlgfnibjcgmaaGreatDoor.Rn
set_option linter.unusedSectionVars false
namespace Go.Proofs.YtmdlgfnibjcgmaaGreatDoor.Rn
open Go.RowKit
section
variable {P : Program} {ne : FuncId} {plug : FuncId -> List Value -> Option Value} {call : FuncId -> List Value -> M Value}
variable {n : Nat} {ops : Array Oper} {st : Nat -> St} {tv : Nat -> Tr Value} {v : Nat -> Value} {lg : Nat -> Lg} {r r' : Nat -> St}
variable {τ0 : Tau} {A : Nat -> Prop} {B : Nat} {g0 : Tr Obj} {w0 : World} {S : Nat -> Prop} {a : Act} {τ : Tau} {G : Tr Obj} {w : World}
theorem Inv.start (T : Txt P ne plug call n ops st tv v lg r r') (hS : ∀ k, ¬ S k) (i : Inn P τ A B (st 0) (st ops.size) G w) (ht : TmRel n τ A a (tv 0)) : Inv P n ops st tv lg τ A B G w S a τ G w.drew := by
 refine ⟨fun k o _ h => (hS k h).elim, Agr.refl _ _ _, (i.rel.mono fun _ => .inl).drew, (Below.refl _ _).drew, fun _ _ => rfl, fun b hb => ⟨0, ⟨Nat.zero_le _, fun k h => by omega, fun k _ _ _ => hS k⟩, ?_⟩, ht.size, ht.defers, fun t => ⟨0, ⟨Nat.zero_le _, fun k h => by omega, fun k _ _ _ => hS k⟩, (ht.at t).mono (fun _ _ => ⟨rfl, rfl⟩) fun _ => .inl⟩⟩
 rcases hb with ⟨o, h⟩ | h
 ·rw [h, i.sub b o h]
 ·rw [i.fresh b h.1 h.2, T.wf 0 (Nat.zero_le _) b h.1]
theorem Inv.end (T : Txt P ne plug call n ops st tv v lg r r') (hS : ∀ k, k < ops.size -> S k) (I : Inv P n ops st tv lg τ0 A B g0 w0 S a τ G w) : Out P τ0 A B (st 0) (st ops.size) g0 w0 τ G w /\ TmRel n τ (Un A (st 0).nx (st ops.size).nx) a (tv ops.size) := by
 have hA : ∀ b, AS A ops.size st S b -> Un A (st 0).nx (st ops.size).nx b := by
  rintro b (q | ⟨k, k1, k2, k3⟩)
  ·exact .inl q
  ·have e1 := T.nxle (Nat.zero_le k) (by omega)
   have e2 := T.nxle (j := k + 1) (k := ops.size) (by omega) (Nat.le_refl _)
   exact .inr ⟨by omega, by omega⟩
 have hv : ∀ wr : Nat -> Prop, Ver ops.size wr S ops.size := fun wr => ⟨Nat.le_refl _, fun k h _ => hS k h, fun k h1 h2 => by omega⟩
 refine ⟨⟨I.agr, fun b => ⟨fun h => ?_, fun h1 h2 => I.frame b fun q => ?_⟩, I.rel.mono hA, I.below⟩, I.size, I.defers, fun t => ?_⟩
 ·obtain ⟨m, h1, h2⟩ := I.heap b h
  rw [h2]
  exact h1.eq (f := fun m => (st m).h.get b) (T.step b) (hv _)
 ·rcases q with ⟨o, q⟩ | q
  ·rw [h1] at q; cases q
  ·exact h2 q
 ·obtain ⟨m, h1, h2⟩ := I.tmp t
  rw [show (tv ops.size).get t = (tv m).get t from (h1.eq (f := fun m => (tv m).get t) (T.stepT t) (hv _)).symm]
  exact h2.mono (fun _ _ => ⟨rfl, rfl⟩) hA
def left (l : Array Bool) : Nat := l.toList.count false
theorem left_set {l : Array Bool} {i : Nat} (h : l[i]? = some false) : left (l.setIfInBounds i true) + 1 = left l := by
 obtain ⟨l⟩ := l
 unfold left
 simp only [List.setIfInBounds_toArray, List.getElem?_toArray] at h ⊢
 induction l generalizing i with
 | nil => simp at h
 | cons b l ih =>
  cases i with
  | zero => simp at h; subst h; simp
  | succ i =>
   simp only [List.getElem?_cons_succ] at h
   have := ih h
   simp only [List.set_cons_succ, List.count_cons]
   omega
theorem left_zero {l : Array Bool} (h : left l = 0) {k : Nat} (hk : k < l.size) : l.getD k false = true := by
 have : false ∉ l.toList := List.count_eq_zero.1 h
 have hm : l[k] ∈ l.toList := by simp
 cases hb : l[k] with
 | false => rw [hb] at hm; exact (this hm).elim
 | true => simp [Array.getD, hk, hb]
theorem all_listed (C : Cf ops st lg) {listed : Array Bool} (hs : listed.size = ops.size) (hr : Region.ready .any ops listed = []) : ∀ k, k < ops.size -> listed.getD k false = true := by
 have key : ∀ m k, k < m -> k < ops.size -> listed.getD k false = true := by
  intro m
  induction m with
  | zero => intro k h; omega
  | succ m ih =>
   intro k hk hlt
   cases hb : listed.getD k false with
   | true => rfl
   | false =>
    have hmem : k ∈ Region.ready .any ops listed := by
     rw [mem_ready]
     refine ⟨?_, ops[k], by simp [hlt], fun e he hbind => ?_⟩
     ·have : k < listed.size := by omega
      simp [Array.getD, this] at hb ⊢
      exact hb
     ·have hd : e.on ∈ depsA ops[k] := by
       unfold depsA
       exact List.mem_map.2 ⟨e, List.mem_filter.2 ⟨by simpa using he, hbind⟩, rfl⟩
      have hl : e.on < 0 + k := edges_at ops.toList 0 C.edges k ops[k] (by simp [hlt]) e.on hd
      exact ih e.on (by omega) (by omega)
    rw [hr] at hmem
    cases hmem
 exact fun k hk => key (k + 1) k (by omega) hk
theorem draw_any (hl : ∀ f args, Loc (call f args)) (hcall : CallOk P call) (hp : Plugs P ne plug) (T : Txt P ne plug call n ops st tv v lg r r') (C : Cf ops st lg) {Q : Exit -> Act -> World -> Prop}
  (fg : Fresh g0 (st 0).nx (st ops.size).nx) (hnew : ∀ b, (st 0).nx <= b -> b < (st ops.size).nx -> ¬ A b)
  (hQ : ∀ a τ G w, Out P τ0 A B (st 0) (st ops.size) g0 w0 τ G w -> TmRel n τ (Un A (st 0).nx (st ops.size).nx) a (tv ops.size) -> Q .normal a w) :
  ∀ (fuel : Nat) (listed : Array Bool) (a : Act) (τ : Tau) (G : Tr Obj) (w : World), listed.size = ops.size -> left listed <= fuel -> Inv P n ops st tv lg τ0 A B g0 w0 (fun k => listed.getD k false = true) a τ G w -> wpAny P .any ops Q fuel listed a w := by
 intro fuel
 induction fuel with
 | zero =>
  intro listed a τ G w hs hc I
  have hall : ∀ k, k < ops.size -> listed.getD k false = true := fun k hk => left_zero (by omega) (by omega)
  obtain ⟨h1, h2⟩ := I.end T hall
  refine ⟨?_, hQ a τ G w h1 h2⟩
  rw [List.eq_nil_iff_forall_not_mem]
  intro j hj
  rw [mem_ready] at hj
  obtain ⟨h0, o, ho, _⟩ := hj
  have hlt := (Array.getElem?_eq_some_iff.1 ho).1
  have := hall j hlt
  have hlt' : j < listed.size := by omega
  simp [Array.getD, hlt'] at h0 this
  rw [this] at h0; cases h0
 | succ fuel ih =>
  intro listed a τ G w hs hc I
  refine ⟨fun hr => ?_, fun i hi => ?_⟩
  ·obtain ⟨h1, h2⟩ := I.end T (all_listed C hs hr)
   exact hQ a τ G w h1 h2
  ·rw [mem_ready] at hi
   obtain ⟨h0, o, ho, hd⟩ := hi
   have hlt := (Array.getElem?_eq_some_iff.1 ho).1
   have hlt' : i < listed.size := by omega
   have hb : listed[i]? = some false := by
    simp [Array.getD, hlt'] at h0 ⊢
    exact h0
   have hnot : ¬ (listed.getD i false = true) := by
    rw [Array.getD_eq_getD_getElem?, hb]; simp
   refine step_any hl hcall hp T C fg hnew I ho (fun e he => ?_) hnot fun a' τ' G' w' I' => ?_
   ·unfold depsA at he
    obtain ⟨d, d1, d2⟩ := List.mem_map.1 he
    rw [List.mem_filter] at d1
    subst d2
    exact hd d (by simpa using d1.1) d1.2
   ·have hset : (fun k => listed.getD k false = true ∨ k = i) = fun k => (listed.setIfInBounds i true).getD k false = true := by
     funext k
     apply propext
     constructor
     ·rintro (q | q)
      ·exact getD_set_true q
      ·subst q
       rw [Array.getD_eq_getD_getElem?, Array.getElem?_setIfInBounds, if_pos rfl, if_pos hlt']; rfl
     ·intro q
      by_cases e : k = i
      ·exact .inr e
      ·left
       rwa [getD_set_ne false (fun z => e z.symm)] at q
    rw [hset] at I'
    refine ih _ a' τ' G' w' (by simp [hs]) ?_ I'
    have := left_set hb
    omega
end
section
variable {P : Program} {ne : FuncId} {plug : FuncId -> List Value -> Option Value} {call : FuncId -> List Value -> M Value} {τ : Tau} {A : Nat -> Prop} {B : Nat} {w : World} {s s' : St} {g : Tr Obj}
theorem draw_ok (hm : P.follows .mixedOrders = true) (hl : ∀ f args, Loc (call f args)) (hc : CallOk P call) (hp : Plugs P ne plug) {id : Nat} {ops : Array Oper} {n : Nat} {Q : Exit -> Act -> World -> Prop} {tm tm' : Tr Value} {ex : Ex} {a : Act} (hw : WF s)
  (h : drawA P ne plug call n ops tm s = some ((ex, tm'), s')) (i : Inn P τ A B s s' g w) (ht : TmRel n τ A a tm) (hQ : ∀ a' τ' g' w', Out P τ A B s s' g w τ' g' w' -> TmRel n τ' (Un A s.nx s'.nx) a' tm' -> Q .normal a' w') : ex = .normal /\ (Code.region id ops true).wp P Q a w := by
 unfold drawA at h
 rw [grd_some] at h
 obtain ⟨h1, h⟩ := h
 rw [bnd_some] at h
 obtain ⟨nx, s0, h2, h⟩ := h
 have e0 : nx = s.nx /\ s0 = s := by
  obtain ⟨a1, a2, a3, a4, a5⟩ := s
  cases h2
  exact ⟨rfl, rfl⟩
 obtain ⟨rfl, rfl⟩ := e0
 rw [bnd_some] at h
 obtain ⟨⟨tm1, ls⟩, s1, h3, h⟩ := h
 rw [grd_some] at h
 obtain ⟨h4, h⟩ := h
 rw [ret_some] at h
 cases h
 refine ⟨rfl, ?_⟩
 obtain ⟨st, tv, v, lg, q1, q2, q3, q4, q5, q6⟩ := draw_seq ops.toList 0 _ _ [] _ _ _ h3
 subst q2 q3
 rw [Array.length_toList] at q4 q5 q6
 subst q4 q5
 obtain ⟨r, r', T⟩ := txt_of hl q1 hw
 rw [List.append_nil] at q6
 subst q6
 have C := cf_of T h1 h4
 refine wp_region_any hm ?_
 refine draw_any hl hc hp T C i.fresh i.new hQ ops.size _ a τ g _ (by simp) ?_ (Inv.start T (fun k => ?_) i ht)
 ·unfold left
  simp
 ·rw [Array.getD_eq_getD_getElem?]
  rw [Array.getElem?_replicate]
  split <;> simp
end
end Go.Proofs.YtmdlgfnibjcgmaaGreatDoor.Rn
