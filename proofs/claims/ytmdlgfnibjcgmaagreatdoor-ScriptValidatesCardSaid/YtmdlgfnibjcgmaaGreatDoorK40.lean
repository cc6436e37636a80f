/-
  Several texts joined: RnM.
-/
import Derived.Test.YtmdlgfnibjcgmaaGreatDoorK31
set_option linter.unusedVariables false
set_option linter.unusedSectionVars false
namespace Go.Proofs.YtmdlgfnibjcgmaaGreatDoor.Rn
def Sub (h g : Tr Obj) : Prop := ∀ b o, h.get b = some o -> g.get b = some o
def Fresh (g : Tr Obj) (lo hi : Nat) : Prop := ∀ b, lo <= b -> b < hi -> g.get b = none
def Grow (s s' : St) (g g' : Tr Obj) : Prop := ∀ b, ((∃ o, s.h.get b = some o) ∨ (s.nx <= b /\ b < s'.nx) -> g'.get b = s'.h.get b) /\ (s.h.get b = none -> ¬ (s.nx <= b /\ b < s'.nx) -> g'.get b = g.get b)
theorem Grow.refl {s s' : St} {g : Tr Obj} (h : s'.h = s.h) (hn : s'.nx = s.nx) (hs : Sub s.h g) : Grow s s' g g := fun b => by
 refine ⟨fun k => ?_, fun _ _ => rfl⟩
 rcases k with ⟨o, k⟩ | k
 ·rw [h, k, hs b o k]
 ·omega
theorem Grow.sub {s s' : St} {g g' : Tr Obj} (k : Grow s s' g g') (hw : WF s') (hd : Dm s s') : Sub s'.h g' := fun b o hb => by
 have hlt : b < s'.nx := by
  rcases Nat.lt_or_ge b s'.nx with h | h
  ·exact h
  ·rw [hw b h] at hb; cases hb
 rw [(k b).1, hb]
 rcases Nat.lt_or_ge b s.nx with h | h
 ·refine .inl ?_
  cases hs : s.h.get b with
  | some u => exact ⟨u, rfl⟩
  | none => rw [hd b h hs] at hb; cases hb
 ·exact .inr ⟨h, hlt⟩
theorem Grow.fresh {s s' : St} {g g' : Tr Obj} {hi : Nat} (k : Grow s s' g g') (hw : WF s) (hn : s.nx <= s'.nx) (hf : Fresh g s.nx hi) : Fresh g' s'.nx hi := fun b h1 h2 => by
 rw [(k b).2 (hw b (by omega)) (by omega)]
 exact hf b (by omega) h2
theorem Grow.trans {s s1 s' : St} {g g1 g' : Tr Obj} (k1 : Grow s s1 g g1) (k2 : Grow s1 s' g1 g') (n1 : s.nx <= s1.nx) (n2 : s1.nx <= s'.nx) (w0 : WF s) (w : WF s1) (d : Dm s s1) (d2 : Dm s1 s') : Grow s s' g g' := fun b => by
 constructor
 ·intro h
  cases hs : s1.h.get b with
  | some u => exact (k2 b).1 (.inl ⟨u, hs⟩)
  | none =>
   by_cases q : s1.nx <= b /\ b < s'.nx
   ·exact (k2 b).1 (.inr q)
   ·rw [(k2 b).2 hs q]
    have hlt : b < s1.nx := by
     rcases h with ⟨o, h⟩ | h
     ·rcases Nat.lt_or_ge b s1.nx with p | p
      ·exact p
      ·rw [w0 b (by omega)] at h; cases h
     ·omega
    rw [(k1 b).1 (by
     rcases h with h | h
     ·exact .inl h
     ·exact .inr ⟨h.1, hlt⟩), hs]
    exact (d2 b hlt hs).symm
 ·intro h q
  have h1 : s1.h.get b = none := by
   rcases Nat.lt_or_ge b s.nx with p | p
   ·exact d b p h
   ·exact w b (by omega)
  rw [(k2 b).2 h1 (by omega), (k1 b).2 h (by omega)]
def Mon {α : Type} (x : M α) : Prop := ∀ s a s', WF s -> x s = some (a, s') -> (s.nx <= s'.nx /\ WF s' /\ Dm s s') /\ ∀ g : St, g.nx = s.nx -> Sub s.h g.h -> Fresh g.h s.nx s'.nx -> ∃ g', x g = some (a, g') /\ g'.nx = s'.nx /\ Grow s s' g.h g'.h
theorem Mon.ret {α : Type} (a : α) : Mon (ret a) := by
 intro s b s' hw h
 rw [ret_some] at h
 cases h
 exact ⟨⟨Nat.le_refl _, hw, Dm.refl _⟩, fun g hn hs hf => ⟨g, rfl, hn, Grow.refl rfl rfl hs⟩⟩
theorem Mon.die {α : Type} : Mon (die : M α) := by
 intro s b s' hw h
 rw [die_some] at h; exact h.elim
theorem Mon.lft {α : Type} (o : Option α) : Mon (lft o) := by
 cases o with
 | none => intro s b s' hw h; rw [lft_some] at h; obtain ⟨_, h, _⟩ := h; cases h
 | some a => exact Mon.ret a
theorem Mon.grd {α : Type} {b : Bool} {x : M α} (h : b = true -> Mon x) : Mon (grd b x) := by
 cases b with
 | false => exact Mon.die
 | true => exact h rfl
theorem Mon.opt {α β : Type} {o : Option α} {f : α -> M β} (h : ∀ a, o = some a -> Mon (f a)) : Mon (opt o f) := by
 cases o with
 | none => exact Mon.die
 | some a => exact h a rfl
theorem Mon.bnd {α β : Type} {x : M α} {f : α -> M β} (hx : Mon x) (hf : ∀ a, Mon (f a)) : Mon (bnd x f) := by
 intro s c s' hw h
 rw [bnd_some] at h
 obtain ⟨a, s1, h1, h2⟩ := h
 obtain ⟨⟨n1, w1, d1⟩, k1⟩ := hx s a s1 hw h1
 obtain ⟨⟨n2, w2, d2⟩, k2⟩ := hf a s1 c s' w1 h2
 refine ⟨⟨Nat.le_trans n1 n2, w2, fun b hb k => d2 b (by omega) (d1 b hb k)⟩, fun g hn hs hf => ?_⟩
 obtain ⟨g1, e1, e2, e3⟩ := k1 g hn hs (fun b p q => hf b p (by omega))
 obtain ⟨g2, e4, e5, e6⟩ := k2 g1 e2 (e3.sub w1 d1) (e3.fresh hw n1 hf)
 exact ⟨g2, by rw [bnd_some]; exact ⟨a, g1, e1, e4⟩, e5, e3.trans e6 n1 n2 hw w1 d1 d2⟩
theorem Mon.geto (b : Nat) : Mon (geto b) := by
 intro s o s' hw h
 unfold Go.Proofs.YtmdlgfnibjcgmaaGreatDoor.Rn.geto at h
 cases hb : s.h.get b with
 | none => rw [hb] at h; cases h
 | some o1 =>
  rw [hb] at h
  cases h
  refine ⟨⟨Nat.le_refl _, hw, fun _ _ k => k⟩, fun g hn hs hf => ?_⟩
  refine ⟨readS b g, ?_, hn, Grow.refl rfl rfl hs⟩
  unfold Go.Proofs.YtmdlgfnibjcgmaaGreatDoor.Rn.geto
  rw [hs b o hb]
theorem Mon.seto (b : Nat) (o : Option Obj) : Mon (seto b o) := by
 intro s u s' hw h
 unfold Go.Proofs.YtmdlgfnibjcgmaaGreatDoor.Rn.seto at h
 cases hb : s.h.get b with
 | none => rw [hb] at h; cases h
 | some o1 =>
  rw [hb] at h
  cases h
  have hlt : b < s.nx := by
   rcases Nat.lt_or_ge b s.nx with q | q
   ·exact q
   ·have := hw b q; rw [hb] at this; cases this
  refine ⟨⟨Nat.le_refl _, fun c hc => ?_, fun c hc k => ?_⟩, fun g hn hs hf => ⟨putS b o g, ?_, hn, fun c => ⟨fun k => ?_, fun k _ => ?_⟩⟩⟩
  ·show (s.h.set o b).get c = none
   have hc' : s.nx <= c := hc
   rw [get_set, if_neg (by omega)]
   exact hw c hc'
  ·show (s.h.set o b).get c = none
   rw [get_set, if_neg (fun e => by rw [e, hb] at k; cases k)]
   exact k
  ·unfold Go.Proofs.YtmdlgfnibjcgmaaGreatDoor.Rn.seto
   rw [hs b o1 hb]
  ·show (g.h.set o b).get c = (s.h.set o b).get c
   rw [get_set, get_set]
   by_cases e : c = b
   ·rw [if_pos e, if_pos e]
   ·rw [if_neg e, if_neg e]
    rcases k with ⟨v, k⟩ | k
    ·rw [k, hs c v k]
    ·have k2 : c < s.nx := k.2
     omega
  ·show (g.h.set o b).get c = g.h.get c
   rw [get_set, if_neg (fun e => by rw [e, hb] at k; cases k)]
theorem Mon.newo (o : Obj) : Mon (newo o) := by
 intro s u s' hw h
 obtain ⟨hh, nx, lg, rd, wr⟩ := s
 have hn : hh.get nx = none := hw nx (Nat.le_refl _)
 simp only [Go.Proofs.YtmdlgfnibjcgmaaGreatDoor.Rn.newo, newS, hn] at h
 cases h
 refine ⟨⟨Nat.le_succ _, fun c hc => ?_, fun c hc k => ?_⟩, fun g g1 g2 g3 => ?_⟩
 ·simp only at hc ⊢
  rw [get_set, if_neg (by omega)]
  exact hw c (by simp only; omega)
 ·simp only at hc k ⊢
  rw [get_set, if_neg (by omega)]
  exact k
 ·obtain ⟨gh, gnx, glg, grd, gwr⟩ := g
  simp only at g1 g2 g3
  subst g1
  have e := g3 gnx (Nat.le_refl _) (Nat.lt_succ_self _)
  refine ⟨⟨gh.set (some o) gnx, Nat.succ gnx, glg, grd, gwr⟩, by simp only [Go.Proofs.YtmdlgfnibjcgmaaGreatDoor.Rn.newo, newS, e], rfl, fun c => ⟨fun k => ?_, fun k q => ?_⟩⟩
  ·simp only
   rw [get_set, get_set]
   by_cases e : c = gnx
   ·rw [if_pos e, if_pos e]
   ·rw [if_neg e, if_neg e]
    rcases k with ⟨v, k⟩ | k
    ·rw [k, g2 c v k]
    ·simp only at k; omega
  ·simp only at q ⊢
   rw [get_set, if_neg (by omega)]
theorem Mon.sel {α : Type} {b : Bool} {x y : M α} (hx : Mon x) (hy : Mon y) : Mon (sel b x y) := by
 cases b with
 | false => exact hy
 | true => exact hx
theorem Mon.loadN (a : Addr) (n : Nat) : Mon (loadN a n) := by
 unfold Go.Proofs.YtmdlgfnibjcgmaaGreatDoor.Rn.loadN
 repeat' (first | exact Mon.ret _ | exact Mon.die | exact Mon.lft _ | exact Mon.geto _ | exact Mon.seto _ _ | exact Mon.newo _ | assumption | refine Mon.bnd ?_ (fun _ => ?_) | refine Mon.grd (fun _ => ?_) | refine Mon.opt (fun _ _ => ?_) | apply Mon.sel | fail | split)
theorem Mon.storeN (a : Addr) (vs : List Value) : Mon (storeN a vs) := by
 unfold Go.Proofs.YtmdlgfnibjcgmaaGreatDoor.Rn.storeN
 repeat' (first | exact Mon.ret _ | exact Mon.die | exact Mon.lft _ | exact Mon.geto _ | exact Mon.seto _ _ | exact Mon.newo _ | assumption | refine Mon.bnd ?_ (fun _ => ?_) | refine Mon.grd (fun _ => ?_) | refine Mon.opt (fun _ _ => ?_) | apply Mon.sel | exact Mon.loadN _ _ | split)
theorem Mon.val (v : Value) : Mon (val v) := by
 unfold Go.Proofs.YtmdlgfnibjcgmaaGreatDoor.Rn.val
 repeat' (first | exact Mon.ret _ | exact Mon.die | exact Mon.lft _ | exact Mon.geto _ | exact Mon.seto _ _ | exact Mon.newo _ | assumption | refine Mon.bnd ?_ (fun _ => ?_) | refine Mon.grd (fun _ => ?_) | refine Mon.opt (fun _ _ => ?_) | apply Mon.sel | exact Mon.loadN _ _ | exact Mon.storeN _ _ | split)
theorem Mon.newv (o : Obj) : Mon (newv o) := by
 unfold Go.Proofs.YtmdlgfnibjcgmaaGreatDoor.Rn.newv
 repeat' (first | exact Mon.ret _ | exact Mon.die | exact Mon.lft _ | exact Mon.geto _ | exact Mon.seto _ _ | exact Mon.newo _ | assumption | refine Mon.bnd ?_ (fun _ => ?_) | refine Mon.grd (fun _ => ?_) | refine Mon.opt (fun _ _ => ?_) | apply Mon.sel | exact Mon.loadN _ _ | exact Mon.storeN _ _ | exact Mon.val _ | split)
theorem Mon.srcOf (k : Nat) (v : Value) : Mon (srcOf k v) := by
 unfold Go.Proofs.YtmdlgfnibjcgmaaGreatDoor.Rn.srcOf
 repeat' (first | exact Mon.ret _ | exact Mon.die | exact Mon.lft _ | exact Mon.geto _ | exact Mon.seto _ _ | exact Mon.newo _ | assumption | refine Mon.bnd ?_ (fun _ => ?_) | refine Mon.grd (fun _ => ?_) | refine Mon.opt (fun _ _ => ?_) | apply Mon.sel | exact Mon.loadN _ _ | exact Mon.storeN _ _ | exact Mon.val _ | exact Mon.newv _ | split)
theorem Mon.appIn (base : Option Addr) (len k n cap : Nat) (new : List Value) : Mon (appIn base len k n cap new) := by
 unfold Go.Proofs.YtmdlgfnibjcgmaaGreatDoor.Rn.appIn
 repeat' (first | exact Mon.ret _ | exact Mon.die | exact Mon.lft _ | exact Mon.geto _ | exact Mon.seto _ _ | exact Mon.newo _ | assumption | refine Mon.bnd ?_ (fun _ => ?_) | refine Mon.grd (fun _ => ?_) | refine Mon.opt (fun _ _ => ?_) | apply Mon.sel | exact Mon.loadN _ _ | exact Mon.storeN _ _ | exact Mon.val _ | exact Mon.newv _ | exact Mon.srcOf _ _ | split)
theorem Mon.appNew (e : TypeId) (cells : List Value) (need : Nat) : Mon (appNew e cells need) := by
 unfold Go.Proofs.YtmdlgfnibjcgmaaGreatDoor.Rn.appNew
 repeat' (first | exact Mon.ret _ | exact Mon.die | exact Mon.lft _ | exact Mon.geto _ | exact Mon.seto _ _ | exact Mon.newo _ | assumption | refine Mon.bnd ?_ (fun _ => ?_) | refine Mon.grd (fun _ => ?_) | refine Mon.opt (fun _ _ => ?_) | apply Mon.sel | exact Mon.loadN _ _ | exact Mon.storeN _ _ | exact Mon.val _ | exact Mon.newv _ | exact Mon.srcOf _ _ | exact Mon.appIn _ _ _ _ _ _ | split)
theorem Mon.appOut (base : Option Addr) (e : TypeId) (len k n cap : Nat) (new : List Value) : Mon (appOut base e len k n cap new) := by
 unfold Go.Proofs.YtmdlgfnibjcgmaaGreatDoor.Rn.appOut
 repeat' (first | exact Mon.ret _ | exact Mon.die | exact Mon.lft _ | exact Mon.geto _ | exact Mon.seto _ _ | exact Mon.newo _ | assumption | refine Mon.bnd ?_ (fun _ => ?_) | refine Mon.grd (fun _ => ?_) | refine Mon.opt (fun _ _ => ?_) | apply Mon.sel | exact Mon.loadN _ _ | exact Mon.storeN _ _ | exact Mon.val _ | exact Mon.newv _ | exact Mon.srcOf _ _ | exact Mon.appIn _ _ _ _ _ _ | exact Mon.appNew _ _ _ | split)
theorem Mon.appendB (e : TypeId) (k by_ : Nat) (s : Value) (p : Nat × List Value) : Mon (appendB e k by_ s p) := by
 unfold Go.Proofs.YtmdlgfnibjcgmaaGreatDoor.Rn.appendB
 repeat' (first | exact Mon.ret _ | exact Mon.die | exact Mon.lft _ | exact Mon.geto _ | exact Mon.seto _ _ | exact Mon.newo _ | assumption | refine Mon.bnd ?_ (fun _ => ?_) | refine Mon.grd (fun _ => ?_) | refine Mon.opt (fun _ _ => ?_) | apply Mon.sel | exact Mon.loadN _ _ | exact Mon.storeN _ _ | exact Mon.val _ | exact Mon.newv _ | exact Mon.srcOf _ _ | exact Mon.appIn _ _ _ _ _ _ | exact Mon.appNew _ _ _ | exact Mon.appOut _ _ _ _ _ _ _ | split)
theorem Mon.appendA (P : Program) (t u : TypeId) (s x : Value) : Mon (appendA P t u s x) := by
 unfold Go.Proofs.YtmdlgfnibjcgmaaGreatDoor.Rn.appendA
 repeat' (first | exact Mon.ret _ | exact Mon.die | exact Mon.lft _ | exact Mon.geto _ | exact Mon.seto _ _ | exact Mon.newo _ | assumption | refine Mon.bnd ?_ (fun _ => ?_) | refine Mon.grd (fun _ => ?_) | refine Mon.opt (fun _ _ => ?_) | apply Mon.sel | exact Mon.loadN _ _ | exact Mon.storeN _ _ | exact Mon.val _ | exact Mon.newv _ | exact Mon.srcOf _ _ | exact Mon.appIn _ _ _ _ _ _ | exact Mon.appNew _ _ _ | exact Mon.appOut _ _ _ _ _ _ _ | exact Mon.appendB _ _ _ _ _ | split)
theorem Mon.lookB (P : Program) (ty : TypeId × TypeId) (es : List MapEntry) (k : Value) (ok : Bool) : Mon (lookB P ty es k ok) := by
 unfold Go.Proofs.YtmdlgfnibjcgmaaGreatDoor.Rn.lookB
 repeat' (first | exact Mon.ret _ | exact Mon.die | exact Mon.lft _ | exact Mon.geto _ | exact Mon.seto _ _ | exact Mon.newo _ | assumption | refine Mon.bnd ?_ (fun _ => ?_) | refine Mon.grd (fun _ => ?_) | refine Mon.opt (fun _ _ => ?_) | apply Mon.sel | exact Mon.loadN _ _ | exact Mon.storeN _ _ | exact Mon.val _ | exact Mon.newv _ | exact Mon.srcOf _ _ | exact Mon.appIn _ _ _ _ _ _ | exact Mon.appNew _ _ _ | exact Mon.appOut _ _ _ _ _ _ _ | exact Mon.appendB _ _ _ _ _ | exact Mon.appendA _ _ _ _ _ | split)
theorem Mon.lookA (P : Program) (t : TypeId) (m k : Value) (ok : Bool) : Mon (lookA P t m k ok) := by
 unfold Go.Proofs.YtmdlgfnibjcgmaaGreatDoor.Rn.lookA
 repeat' (first | exact Mon.ret _ | exact Mon.die | exact Mon.lft _ | exact Mon.geto _ | exact Mon.seto _ _ | exact Mon.newo _ | assumption | refine Mon.bnd ?_ (fun _ => ?_) | refine Mon.grd (fun _ => ?_) | refine Mon.opt (fun _ _ => ?_) | apply Mon.sel | exact Mon.loadN _ _ | exact Mon.storeN _ _ | exact Mon.val _ | exact Mon.newv _ | exact Mon.srcOf _ _ | exact Mon.appIn _ _ _ _ _ _ | exact Mon.appNew _ _ _ | exact Mon.appOut _ _ _ _ _ _ _ | exact Mon.appendB _ _ _ _ _ | exact Mon.appendA _ _ _ _ _ | exact Mon.lookB _ _ _ _ _ | split)
theorem Mon.updA (P : Program) (t : TypeId) (m k v : Value) : Mon (updA P t m k v) := by
 unfold Go.Proofs.YtmdlgfnibjcgmaaGreatDoor.Rn.updA
 repeat' (first | exact Mon.ret _ | exact Mon.die | exact Mon.lft _ | exact Mon.geto _ | exact Mon.seto _ _ | exact Mon.newo _ | assumption | refine Mon.bnd ?_ (fun _ => ?_) | refine Mon.grd (fun _ => ?_) | refine Mon.opt (fun _ _ => ?_) | apply Mon.sel | exact Mon.loadN _ _ | exact Mon.storeN _ _ | exact Mon.val _ | exact Mon.newv _ | exact Mon.srcOf _ _ | exact Mon.appIn _ _ _ _ _ _ | exact Mon.appNew _ _ _ | exact Mon.appOut _ _ _ _ _ _ _ | exact Mon.appendB _ _ _ _ _ | exact Mon.appendA _ _ _ _ _ | exact Mon.lookB _ _ _ _ _ | exact Mon.lookA _ _ _ _ _ | split)
theorem Mon.delA (P : Program) (t : TypeId) (m k : Value) : Mon (delA P t m k) := by
 unfold Go.Proofs.YtmdlgfnibjcgmaaGreatDoor.Rn.delA
 repeat' (first | exact Mon.ret _ | exact Mon.die | exact Mon.lft _ | exact Mon.geto _ | exact Mon.seto _ _ | exact Mon.newo _ | assumption | refine Mon.bnd ?_ (fun _ => ?_) | refine Mon.grd (fun _ => ?_) | refine Mon.opt (fun _ _ => ?_) | apply Mon.sel | exact Mon.loadN _ _ | exact Mon.storeN _ _ | exact Mon.val _ | exact Mon.newv _ | exact Mon.srcOf _ _ | exact Mon.appIn _ _ _ _ _ _ | exact Mon.appNew _ _ _ | exact Mon.appOut _ _ _ _ _ _ _ | exact Mon.appendB _ _ _ _ _ | exact Mon.appendA _ _ _ _ _ | exact Mon.lookB _ _ _ _ _ | exact Mon.lookA _ _ _ _ _ | exact Mon.updA _ _ _ _ _ | split)
theorem Mon.rangeA (P : Program) (t : TypeId) (m : Value) : Mon (rangeA P t m) := by
 unfold Go.Proofs.YtmdlgfnibjcgmaaGreatDoor.Rn.rangeA
 repeat' (first | exact Mon.ret _ | exact Mon.die | exact Mon.lft _ | exact Mon.geto _ | exact Mon.seto _ _ | exact Mon.newo _ | assumption | refine Mon.bnd ?_ (fun _ => ?_) | refine Mon.grd (fun _ => ?_) | refine Mon.opt (fun _ _ => ?_) | apply Mon.sel | exact Mon.loadN _ _ | exact Mon.storeN _ _ | exact Mon.val _ | exact Mon.newv _ | exact Mon.srcOf _ _ | exact Mon.appIn _ _ _ _ _ _ | exact Mon.appNew _ _ _ | exact Mon.appOut _ _ _ _ _ _ _ | exact Mon.appendB _ _ _ _ _ | exact Mon.appendA _ _ _ _ _ | exact Mon.lookB _ _ _ _ _ | exact Mon.lookA _ _ _ _ _ | exact Mon.updA _ _ _ _ _ | exact Mon.delA _ _ _ _ | split)
theorem Mon.nextB (r m since last : Nat) (seen : List Nat) (es : List MapEntry) (clock : Nat) : Mon (nextB r m since last seen es clock) := by
 unfold Go.Proofs.YtmdlgfnibjcgmaaGreatDoor.Rn.nextB
 repeat' (first | exact Mon.ret _ | exact Mon.die | exact Mon.lft _ | exact Mon.geto _ | exact Mon.seto _ _ | exact Mon.newo _ | assumption | refine Mon.bnd ?_ (fun _ => ?_) | refine Mon.grd (fun _ => ?_) | refine Mon.opt (fun _ _ => ?_) | apply Mon.sel | exact Mon.loadN _ _ | exact Mon.storeN _ _ | exact Mon.val _ | exact Mon.newv _ | exact Mon.srcOf _ _ | exact Mon.appIn _ _ _ _ _ _ | exact Mon.appNew _ _ _ | exact Mon.appOut _ _ _ _ _ _ _ | exact Mon.appendB _ _ _ _ _ | exact Mon.appendA _ _ _ _ _ | exact Mon.lookB _ _ _ _ _ | exact Mon.lookA _ _ _ _ _ | exact Mon.updA _ _ _ _ _ | exact Mon.delA _ _ _ _ | exact Mon.rangeA _ _ _ | split)
theorem Mon.nextA (x : Value) : Mon (nextA x) := by
 unfold Go.Proofs.YtmdlgfnibjcgmaaGreatDoor.Rn.nextA
 repeat' (first | exact Mon.ret _ | exact Mon.die | exact Mon.lft _ | exact Mon.geto _ | exact Mon.seto _ _ | exact Mon.newo _ | assumption | refine Mon.bnd ?_ (fun _ => ?_) | refine Mon.grd (fun _ => ?_) | refine Mon.opt (fun _ _ => ?_) | apply Mon.sel | exact Mon.loadN _ _ | exact Mon.storeN _ _ | exact Mon.val _ | exact Mon.newv _ | exact Mon.srcOf _ _ | exact Mon.appIn _ _ _ _ _ _ | exact Mon.appNew _ _ _ | exact Mon.appOut _ _ _ _ _ _ _ | exact Mon.appendB _ _ _ _ _ | exact Mon.appendA _ _ _ _ _ | exact Mon.lookB _ _ _ _ _ | exact Mon.lookA _ _ _ _ _ | exact Mon.updA _ _ _ _ _ | exact Mon.delA _ _ _ _ | exact Mon.rangeA _ _ _ | exact Mon.nextB _ _ _ _ _ _ _ | split)
theorem Mon.sliceS (s : ByteArray) (h l : Nat) : Mon (sliceS s h l) := by
 unfold Go.Proofs.YtmdlgfnibjcgmaaGreatDoor.Rn.sliceS
 repeat' (first | exact Mon.ret _ | exact Mon.die | exact Mon.lft _ | exact Mon.geto _ | exact Mon.seto _ _ | exact Mon.newo _ | assumption | refine Mon.bnd ?_ (fun _ => ?_) | refine Mon.grd (fun _ => ?_) | refine Mon.opt (fun _ _ => ?_) | apply Mon.sel | exact Mon.loadN _ _ | exact Mon.storeN _ _ | exact Mon.val _ | exact Mon.newv _ | exact Mon.srcOf _ _ | exact Mon.appIn _ _ _ _ _ _ | exact Mon.appNew _ _ _ | exact Mon.appOut _ _ _ _ _ _ _ | exact Mon.appendB _ _ _ _ _ | exact Mon.appendA _ _ _ _ _ | exact Mon.lookB _ _ _ _ _ | exact Mon.lookA _ _ _ _ _ | exact Mon.updA _ _ _ _ _ | exact Mon.delA _ _ _ _ | exact Mon.rangeA _ _ _ | exact Mon.nextB _ _ _ _ _ _ _ | exact Mon.nextA _ | split)
theorem Mon.sliceL (P : Program) (e : TypeId) (a : Option Addr) (cap h l : Nat) : Mon (sliceL P e a cap h l) := by
 unfold Go.Proofs.YtmdlgfnibjcgmaaGreatDoor.Rn.sliceL
 repeat' (first | exact Mon.ret _ | exact Mon.die | exact Mon.lft _ | exact Mon.geto _ | exact Mon.seto _ _ | exact Mon.newo _ | assumption | refine Mon.bnd ?_ (fun _ => ?_) | refine Mon.grd (fun _ => ?_) | refine Mon.opt (fun _ _ => ?_) | apply Mon.sel | exact Mon.loadN _ _ | exact Mon.storeN _ _ | exact Mon.val _ | exact Mon.newv _ | exact Mon.srcOf _ _ | exact Mon.appIn _ _ _ _ _ _ | exact Mon.appNew _ _ _ | exact Mon.appOut _ _ _ _ _ _ _ | exact Mon.appendB _ _ _ _ _ | exact Mon.appendA _ _ _ _ _ | exact Mon.lookB _ _ _ _ _ | exact Mon.lookA _ _ _ _ _ | exact Mon.updA _ _ _ _ _ | exact Mon.delA _ _ _ _ | exact Mon.rangeA _ _ _ | exact Mon.nextB _ _ _ _ _ _ _ | exact Mon.nextA _ | exact Mon.sliceS _ _ _ | split)
theorem Mon.sliceY (P : Program) (e : TypeId) (a : Addr) (n h l : Nat) : Mon (sliceY P e a n h l) := by
 unfold Go.Proofs.YtmdlgfnibjcgmaaGreatDoor.Rn.sliceY
 repeat' (first | exact Mon.ret _ | exact Mon.die | exact Mon.lft _ | exact Mon.geto _ | exact Mon.seto _ _ | exact Mon.newo _ | assumption | refine Mon.bnd ?_ (fun _ => ?_) | refine Mon.grd (fun _ => ?_) | refine Mon.opt (fun _ _ => ?_) | apply Mon.sel | exact Mon.loadN _ _ | exact Mon.storeN _ _ | exact Mon.val _ | exact Mon.newv _ | exact Mon.srcOf _ _ | exact Mon.appIn _ _ _ _ _ _ | exact Mon.appNew _ _ _ | exact Mon.appOut _ _ _ _ _ _ _ | exact Mon.appendB _ _ _ _ _ | exact Mon.appendA _ _ _ _ _ | exact Mon.lookB _ _ _ _ _ | exact Mon.lookA _ _ _ _ _ | exact Mon.updA _ _ _ _ _ | exact Mon.delA _ _ _ _ | exact Mon.rangeA _ _ _ | exact Mon.nextB _ _ _ _ _ _ _ | exact Mon.nextA _ | exact Mon.sliceS _ _ _ | exact Mon.sliceL _ _ _ _ _ _ | split)
theorem Mon.sliceV (P : Program) (t : TypeId) (x : Value) (lo hi : Option Value) : Mon (sliceV P t x lo hi) := by
 unfold Go.Proofs.YtmdlgfnibjcgmaaGreatDoor.Rn.sliceV
 repeat' (first | exact Mon.ret _ | exact Mon.die | exact Mon.lft _ | exact Mon.geto _ | exact Mon.seto _ _ | exact Mon.newo _ | assumption | refine Mon.bnd ?_ (fun _ => ?_) | refine Mon.grd (fun _ => ?_) | refine Mon.opt (fun _ _ => ?_) | apply Mon.sel | exact Mon.loadN _ _ | exact Mon.storeN _ _ | exact Mon.val _ | exact Mon.newv _ | exact Mon.srcOf _ _ | exact Mon.appIn _ _ _ _ _ _ | exact Mon.appNew _ _ _ | exact Mon.appOut _ _ _ _ _ _ _ | exact Mon.appendB _ _ _ _ _ | exact Mon.appendA _ _ _ _ _ | exact Mon.lookB _ _ _ _ _ | exact Mon.lookA _ _ _ _ _ | exact Mon.updA _ _ _ _ _ | exact Mon.delA _ _ _ _ | exact Mon.rangeA _ _ _ | exact Mon.nextB _ _ _ _ _ _ _ | exact Mon.nextA _ | exact Mon.sliceS _ _ _ | exact Mon.sliceL _ _ _ _ _ _ | exact Mon.sliceY _ _ _ _ _ _ | split)
theorem Mon.loadA (P : Program) (t : TypeId) (v : Value) : Mon (loadA P t v) := by
 unfold Go.Proofs.YtmdlgfnibjcgmaaGreatDoor.Rn.loadA
 repeat' (first | exact Mon.ret _ | exact Mon.die | exact Mon.lft _ | exact Mon.geto _ | exact Mon.seto _ _ | exact Mon.newo _ | assumption | refine Mon.bnd ?_ (fun _ => ?_) | refine Mon.grd (fun _ => ?_) | refine Mon.opt (fun _ _ => ?_) | apply Mon.sel | exact Mon.loadN _ _ | exact Mon.storeN _ _ | exact Mon.val _ | exact Mon.newv _ | exact Mon.srcOf _ _ | exact Mon.appIn _ _ _ _ _ _ | exact Mon.appNew _ _ _ | exact Mon.appOut _ _ _ _ _ _ _ | exact Mon.appendB _ _ _ _ _ | exact Mon.appendA _ _ _ _ _ | exact Mon.lookB _ _ _ _ _ | exact Mon.lookA _ _ _ _ _ | exact Mon.updA _ _ _ _ _ | exact Mon.delA _ _ _ _ | exact Mon.rangeA _ _ _ | exact Mon.nextB _ _ _ _ _ _ _ | exact Mon.nextA _ | exact Mon.sliceS _ _ _ | exact Mon.sliceL _ _ _ _ _ _ | exact Mon.sliceY _ _ _ _ _ _ | exact Mon.sliceV _ _ _ _ _ | split)
theorem Mon.storeA (P : Program) (t : TypeId) (x v : Value) : Mon (storeA P t x v) := by
 unfold Go.Proofs.YtmdlgfnibjcgmaaGreatDoor.Rn.storeA
 repeat' (first | exact Mon.ret _ | exact Mon.die | exact Mon.lft _ | exact Mon.geto _ | exact Mon.seto _ _ | exact Mon.newo _ | assumption | refine Mon.bnd ?_ (fun _ => ?_) | refine Mon.grd (fun _ => ?_) | refine Mon.opt (fun _ _ => ?_) | apply Mon.sel | exact Mon.loadN _ _ | exact Mon.storeN _ _ | exact Mon.val _ | exact Mon.newv _ | exact Mon.srcOf _ _ | exact Mon.appIn _ _ _ _ _ _ | exact Mon.appNew _ _ _ | exact Mon.appOut _ _ _ _ _ _ _ | exact Mon.appendB _ _ _ _ _ | exact Mon.appendA _ _ _ _ _ | exact Mon.lookB _ _ _ _ _ | exact Mon.lookA _ _ _ _ _ | exact Mon.updA _ _ _ _ _ | exact Mon.delA _ _ _ _ | exact Mon.rangeA _ _ _ | exact Mon.nextB _ _ _ _ _ _ _ | exact Mon.nextA _ | exact Mon.sliceS _ _ _ | exact Mon.sliceL _ _ _ _ _ _ | exact Mon.sliceY _ _ _ _ _ _ | exact Mon.sliceV _ _ _ _ _ | exact Mon.loadA _ _ _ | split)
theorem Mon.clo (P : Program) (sem : Sem Value) : Mon (clo P sem) := by
 unfold Go.Proofs.YtmdlgfnibjcgmaaGreatDoor.Rn.clo
 exact Mon.opt fun _ _ => Mon.grd fun _ => Mon.val _
theorem Mon.binC (P : Program) (op : BinOp) (t : TypeId) (a b : Value) : Mon (binC P op t a b) := Mon.grd fun _ => Mon.clo _ _
theorem Mon.convF (P : Program) (a : Addr) (t : TypeId) : Mon (convF P a t) := Mon.opt fun _ _ => Mon.grd fun _ => Mon.val _
theorem Mon.convT (P : Program) (a : Addr) (e n : Nat) (t : TypeId) : Mon (convT P a e n t) := Mon.opt fun _ _ => Mon.grd fun _ => Mon.val _
theorem Mon.convD (P : Program) (a : Addr) (e n : Nat) (d f : TypeDesc) : Mon (convD P a e n d f) := by
 unfold Go.Proofs.YtmdlgfnibjcgmaaGreatDoor.Rn.convD
 split
 ·exact Mon.grd fun _ => Mon.convF _ _ _
 ·split
  ·exact Mon.grd fun _ => Mon.convT _ _ _ _ _
  ·exact Mon.die
theorem Mon.convP (P : Program) (src dst : TypeId) (a : Addr) : Mon (convP P src dst a) := by
 unfold Go.Proofs.YtmdlgfnibjcgmaaGreatDoor.Rn.convP
 repeat' (first | exact Mon.ret _ | exact Mon.die | exact Mon.val _ | exact Mon.convD _ _ _ _ _ _ | exact Mon.geto _ | refine Mon.bnd ?_ (fun _ => ?_) | refine Mon.grd (fun _ => ?_) | refine Mon.opt (fun _ _ => ?_) | split)
theorem Mon.intOp (P : Program) (op : BinOp) (t : TypeId) (k : IntKind) (a b : Int) : Mon (intOp P op t k a b) := by
 unfold Go.Proofs.YtmdlgfnibjcgmaaGreatDoor.Rn.intOp
 repeat' (first | exact Mon.ret _ | exact Mon.die | exact Mon.lft _ | exact Mon.geto _ | exact Mon.seto _ _ | exact Mon.newo _ | exact Mon.clo _ _ | exact Mon.binC _ _ _ _ _ | exact Mon.convP _ _ _ _ | assumption | refine Mon.bnd ?_ (fun _ => ?_) | refine Mon.grd (fun _ => ?_) | refine Mon.opt (fun _ _ => ?_) | apply Mon.sel | exact Mon.loadN _ _ | exact Mon.storeN _ _ | exact Mon.val _ | exact Mon.newv _ | exact Mon.srcOf _ _ | exact Mon.appIn _ _ _ _ _ _ | exact Mon.appNew _ _ _ | exact Mon.appOut _ _ _ _ _ _ _ | exact Mon.appendB _ _ _ _ _ | exact Mon.appendA _ _ _ _ _ | exact Mon.lookB _ _ _ _ _ | exact Mon.lookA _ _ _ _ _ | exact Mon.updA _ _ _ _ _ | exact Mon.delA _ _ _ _ | exact Mon.rangeA _ _ _ | exact Mon.nextB _ _ _ _ _ _ _ | exact Mon.nextA _ | exact Mon.sliceS _ _ _ | exact Mon.sliceL _ _ _ _ _ _ | exact Mon.sliceY _ _ _ _ _ _ | exact Mon.sliceV _ _ _ _ _ | exact Mon.loadA _ _ _ | exact Mon.storeA _ _ _ _ | split)
theorem Mon.binB (P : Program) (op : BinOp) (t : TypeId) (a b : Value) : Mon (binB P op t a b) := by
 unfold Go.Proofs.YtmdlgfnibjcgmaaGreatDoor.Rn.binB
 repeat' (first | exact Mon.ret _ | exact Mon.die | exact Mon.lft _ | exact Mon.geto _ | exact Mon.seto _ _ | exact Mon.newo _ | exact Mon.clo _ _ | exact Mon.binC _ _ _ _ _ | exact Mon.convP _ _ _ _ | assumption | refine Mon.bnd ?_ (fun _ => ?_) | refine Mon.grd (fun _ => ?_) | refine Mon.opt (fun _ _ => ?_) | apply Mon.sel | exact Mon.loadN _ _ | exact Mon.storeN _ _ | exact Mon.val _ | exact Mon.newv _ | exact Mon.srcOf _ _ | exact Mon.appIn _ _ _ _ _ _ | exact Mon.appNew _ _ _ | exact Mon.appOut _ _ _ _ _ _ _ | exact Mon.appendB _ _ _ _ _ | exact Mon.appendA _ _ _ _ _ | exact Mon.lookB _ _ _ _ _ | exact Mon.lookA _ _ _ _ _ | exact Mon.updA _ _ _ _ _ | exact Mon.delA _ _ _ _ | exact Mon.rangeA _ _ _ | exact Mon.nextB _ _ _ _ _ _ _ | exact Mon.nextA _ | exact Mon.sliceS _ _ _ | exact Mon.sliceL _ _ _ _ _ _ | exact Mon.sliceY _ _ _ _ _ _ | exact Mon.sliceV _ _ _ _ _ | exact Mon.loadA _ _ _ | exact Mon.storeA _ _ _ _ | exact Mon.intOp _ _ _ _ _ _ | split)
theorem Mon.binA (P : Program) (op : BinOp) (t : TypeId) (a b : Value) : Mon (binA P op t a b) := by
 unfold Go.Proofs.YtmdlgfnibjcgmaaGreatDoor.Rn.binA
 repeat' (first | exact Mon.ret _ | exact Mon.die | exact Mon.lft _ | exact Mon.geto _ | exact Mon.seto _ _ | exact Mon.newo _ | exact Mon.clo _ _ | exact Mon.binC _ _ _ _ _ | exact Mon.convP _ _ _ _ | assumption | refine Mon.bnd ?_ (fun _ => ?_) | refine Mon.grd (fun _ => ?_) | refine Mon.opt (fun _ _ => ?_) | apply Mon.sel | exact Mon.loadN _ _ | exact Mon.storeN _ _ | exact Mon.val _ | exact Mon.newv _ | exact Mon.srcOf _ _ | exact Mon.appIn _ _ _ _ _ _ | exact Mon.appNew _ _ _ | exact Mon.appOut _ _ _ _ _ _ _ | exact Mon.appendB _ _ _ _ _ | exact Mon.appendA _ _ _ _ _ | exact Mon.lookB _ _ _ _ _ | exact Mon.lookA _ _ _ _ _ | exact Mon.updA _ _ _ _ _ | exact Mon.delA _ _ _ _ | exact Mon.rangeA _ _ _ | exact Mon.nextB _ _ _ _ _ _ _ | exact Mon.nextA _ | exact Mon.sliceS _ _ _ | exact Mon.sliceL _ _ _ _ _ _ | exact Mon.sliceY _ _ _ _ _ _ | exact Mon.sliceV _ _ _ _ _ | exact Mon.loadA _ _ _ | exact Mon.storeA _ _ _ _ | exact Mon.intOp _ _ _ _ _ _ | exact Mon.binB _ _ _ _ _ | split)
theorem Mon.convA (P : Program) (src dst : TypeId) (v : Value) : Mon (convA P src dst v) := by
 unfold Go.Proofs.YtmdlgfnibjcgmaaGreatDoor.Rn.convA
 repeat' (first | exact Mon.ret _ | exact Mon.die | exact Mon.lft _ | exact Mon.geto _ | exact Mon.seto _ _ | exact Mon.newo _ | exact Mon.clo _ _ | exact Mon.binC _ _ _ _ _ | exact Mon.convP _ _ _ _ | assumption | refine Mon.bnd ?_ (fun _ => ?_) | refine Mon.grd (fun _ => ?_) | refine Mon.opt (fun _ _ => ?_) | apply Mon.sel | exact Mon.loadN _ _ | exact Mon.storeN _ _ | exact Mon.val _ | exact Mon.newv _ | exact Mon.srcOf _ _ | exact Mon.appIn _ _ _ _ _ _ | exact Mon.appNew _ _ _ | exact Mon.appOut _ _ _ _ _ _ _ | exact Mon.appendB _ _ _ _ _ | exact Mon.appendA _ _ _ _ _ | exact Mon.lookB _ _ _ _ _ | exact Mon.lookA _ _ _ _ _ | exact Mon.updA _ _ _ _ _ | exact Mon.delA _ _ _ _ | exact Mon.rangeA _ _ _ | exact Mon.nextB _ _ _ _ _ _ _ | exact Mon.nextA _ | exact Mon.sliceS _ _ _ | exact Mon.sliceL _ _ _ _ _ _ | exact Mon.sliceY _ _ _ _ _ _ | exact Mon.sliceV _ _ _ _ _ | exact Mon.loadA _ _ _ | exact Mon.storeA _ _ _ _ | exact Mon.intOp _ _ _ _ _ _ | exact Mon.binB _ _ _ _ _ | exact Mon.binA _ _ _ _ _ | split)
theorem Mon.makeSl (P : Program) (t : TypeId) (l c : Value) : Mon (makeSl P t l c) := by
 unfold Go.Proofs.YtmdlgfnibjcgmaaGreatDoor.Rn.makeSl
 repeat' (first | exact Mon.ret _ | exact Mon.die | exact Mon.lft _ | exact Mon.geto _ | exact Mon.seto _ _ | exact Mon.newo _ | exact Mon.clo _ _ | exact Mon.binC _ _ _ _ _ | exact Mon.convP _ _ _ _ | assumption | refine Mon.bnd ?_ (fun _ => ?_) | refine Mon.grd (fun _ => ?_) | refine Mon.opt (fun _ _ => ?_) | apply Mon.sel | exact Mon.loadN _ _ | exact Mon.storeN _ _ | exact Mon.val _ | exact Mon.newv _ | exact Mon.srcOf _ _ | exact Mon.appIn _ _ _ _ _ _ | exact Mon.appNew _ _ _ | exact Mon.appOut _ _ _ _ _ _ _ | exact Mon.appendB _ _ _ _ _ | exact Mon.appendA _ _ _ _ _ | exact Mon.lookB _ _ _ _ _ | exact Mon.lookA _ _ _ _ _ | exact Mon.updA _ _ _ _ _ | exact Mon.delA _ _ _ _ | exact Mon.rangeA _ _ _ | exact Mon.nextB _ _ _ _ _ _ _ | exact Mon.nextA _ | exact Mon.sliceS _ _ _ | exact Mon.sliceL _ _ _ _ _ _ | exact Mon.sliceY _ _ _ _ _ _ | exact Mon.sliceV _ _ _ _ _ | exact Mon.loadA _ _ _ | exact Mon.storeA _ _ _ _ | exact Mon.intOp _ _ _ _ _ _ | exact Mon.binB _ _ _ _ _ | exact Mon.binA _ _ _ _ _ | exact Mon.convA _ _ _ _ | split)
theorem Mon.fieldA (P : Program) (t : TypeId) (x : Value) (i : Nat) : Mon (fieldA P t x i) := by
 unfold Go.Proofs.YtmdlgfnibjcgmaaGreatDoor.Rn.fieldA
 repeat' (first | exact Mon.ret _ | exact Mon.die | exact Mon.lft _ | exact Mon.geto _ | exact Mon.seto _ _ | exact Mon.newo _ | exact Mon.clo _ _ | exact Mon.binC _ _ _ _ _ | exact Mon.convP _ _ _ _ | assumption | refine Mon.bnd ?_ (fun _ => ?_) | refine Mon.grd (fun _ => ?_) | refine Mon.opt (fun _ _ => ?_) | apply Mon.sel | exact Mon.loadN _ _ | exact Mon.storeN _ _ | exact Mon.val _ | exact Mon.newv _ | exact Mon.srcOf _ _ | exact Mon.appIn _ _ _ _ _ _ | exact Mon.appNew _ _ _ | exact Mon.appOut _ _ _ _ _ _ _ | exact Mon.appendB _ _ _ _ _ | exact Mon.appendA _ _ _ _ _ | exact Mon.lookB _ _ _ _ _ | exact Mon.lookA _ _ _ _ _ | exact Mon.updA _ _ _ _ _ | exact Mon.delA _ _ _ _ | exact Mon.rangeA _ _ _ | exact Mon.nextB _ _ _ _ _ _ _ | exact Mon.nextA _ | exact Mon.sliceS _ _ _ | exact Mon.sliceL _ _ _ _ _ _ | exact Mon.sliceY _ _ _ _ _ _ | exact Mon.sliceV _ _ _ _ _ | exact Mon.loadA _ _ _ | exact Mon.storeA _ _ _ _ | exact Mon.intOp _ _ _ _ _ _ | exact Mon.binB _ _ _ _ _ | exact Mon.binA _ _ _ _ _ | exact Mon.convA _ _ _ _ | exact Mon.makeSl _ _ _ _ | split)
theorem Mon.indexP (P : Program) (e : TypeId) (a : Addr) (len j : Nat) : Mon (indexP P e a len j) := by
 unfold Go.Proofs.YtmdlgfnibjcgmaaGreatDoor.Rn.indexP
 repeat' (first | exact Mon.ret _ | exact Mon.die | exact Mon.lft _ | exact Mon.geto _ | exact Mon.seto _ _ | exact Mon.newo _ | exact Mon.clo _ _ | exact Mon.binC _ _ _ _ _ | exact Mon.convP _ _ _ _ | assumption | refine Mon.bnd ?_ (fun _ => ?_) | refine Mon.grd (fun _ => ?_) | refine Mon.opt (fun _ _ => ?_) | apply Mon.sel | exact Mon.loadN _ _ | exact Mon.storeN _ _ | exact Mon.val _ | exact Mon.newv _ | exact Mon.srcOf _ _ | exact Mon.appIn _ _ _ _ _ _ | exact Mon.appNew _ _ _ | exact Mon.appOut _ _ _ _ _ _ _ | exact Mon.appendB _ _ _ _ _ | exact Mon.appendA _ _ _ _ _ | exact Mon.lookB _ _ _ _ _ | exact Mon.lookA _ _ _ _ _ | exact Mon.updA _ _ _ _ _ | exact Mon.delA _ _ _ _ | exact Mon.rangeA _ _ _ | exact Mon.nextB _ _ _ _ _ _ _ | exact Mon.nextA _ | exact Mon.sliceS _ _ _ | exact Mon.sliceL _ _ _ _ _ _ | exact Mon.sliceY _ _ _ _ _ _ | exact Mon.sliceV _ _ _ _ _ | exact Mon.loadA _ _ _ | exact Mon.storeA _ _ _ _ | exact Mon.intOp _ _ _ _ _ _ | exact Mon.binB _ _ _ _ _ | exact Mon.binA _ _ _ _ _ | exact Mon.convA _ _ _ _ | exact Mon.makeSl _ _ _ _ | exact Mon.fieldA _ _ _ _ | split)
theorem Mon.indexA (P : Program) (t : TypeId) (x i : Value) : Mon (indexA P t x i) := by
 unfold Go.Proofs.YtmdlgfnibjcgmaaGreatDoor.Rn.indexA
 repeat' (first | exact Mon.ret _ | exact Mon.die | exact Mon.lft _ | exact Mon.geto _ | exact Mon.seto _ _ | exact Mon.newo _ | exact Mon.clo _ _ | exact Mon.binC _ _ _ _ _ | exact Mon.convP _ _ _ _ | assumption | refine Mon.bnd ?_ (fun _ => ?_) | refine Mon.grd (fun _ => ?_) | refine Mon.opt (fun _ _ => ?_) | apply Mon.sel | exact Mon.loadN _ _ | exact Mon.storeN _ _ | exact Mon.val _ | exact Mon.newv _ | exact Mon.srcOf _ _ | exact Mon.appIn _ _ _ _ _ _ | exact Mon.appNew _ _ _ | exact Mon.appOut _ _ _ _ _ _ _ | exact Mon.appendB _ _ _ _ _ | exact Mon.appendA _ _ _ _ _ | exact Mon.lookB _ _ _ _ _ | exact Mon.lookA _ _ _ _ _ | exact Mon.updA _ _ _ _ _ | exact Mon.delA _ _ _ _ | exact Mon.rangeA _ _ _ | exact Mon.nextB _ _ _ _ _ _ _ | exact Mon.nextA _ | exact Mon.sliceS _ _ _ | exact Mon.sliceL _ _ _ _ _ _ | exact Mon.sliceY _ _ _ _ _ _ | exact Mon.sliceV _ _ _ _ _ | exact Mon.loadA _ _ _ | exact Mon.storeA _ _ _ _ | exact Mon.intOp _ _ _ _ _ _ | exact Mon.binB _ _ _ _ _ | exact Mon.binA _ _ _ _ _ | exact Mon.convA _ _ _ _ | exact Mon.makeSl _ _ _ _ | exact Mon.fieldA _ _ _ _ | exact Mon.indexP _ _ _ _ _ | split)
theorem Mon.extrA (v : Value) (i : Nat) : Mon (extrA v i) := by
 unfold Go.Proofs.YtmdlgfnibjcgmaaGreatDoor.Rn.extrA
 repeat' (first | exact Mon.ret _ | exact Mon.die | exact Mon.lft _ | exact Mon.geto _ | exact Mon.seto _ _ | exact Mon.newo _ | exact Mon.clo _ _ | exact Mon.binC _ _ _ _ _ | exact Mon.convP _ _ _ _ | assumption | refine Mon.bnd ?_ (fun _ => ?_) | refine Mon.grd (fun _ => ?_) | refine Mon.opt (fun _ _ => ?_) | apply Mon.sel | exact Mon.loadN _ _ | exact Mon.storeN _ _ | exact Mon.val _ | exact Mon.newv _ | exact Mon.srcOf _ _ | exact Mon.appIn _ _ _ _ _ _ | exact Mon.appNew _ _ _ | exact Mon.appOut _ _ _ _ _ _ _ | exact Mon.appendB _ _ _ _ _ | exact Mon.appendA _ _ _ _ _ | exact Mon.lookB _ _ _ _ _ | exact Mon.lookA _ _ _ _ _ | exact Mon.updA _ _ _ _ _ | exact Mon.delA _ _ _ _ | exact Mon.rangeA _ _ _ | exact Mon.nextB _ _ _ _ _ _ _ | exact Mon.nextA _ | exact Mon.sliceS _ _ _ | exact Mon.sliceL _ _ _ _ _ _ | exact Mon.sliceY _ _ _ _ _ _ | exact Mon.sliceV _ _ _ _ _ | exact Mon.loadA _ _ _ | exact Mon.storeA _ _ _ _ | exact Mon.intOp _ _ _ _ _ _ | exact Mon.binB _ _ _ _ _ | exact Mon.binA _ _ _ _ _ | exact Mon.convA _ _ _ _ | exact Mon.makeSl _ _ _ _ | exact Mon.fieldA _ _ _ _ | exact Mon.indexP _ _ _ _ _ | exact Mon.indexA _ _ _ _ | split)
theorem Mon.buildSl (P : Program) (t : TypeId) (len : Nat) (parts : List (Nat × Value)) : Mon (buildSl P t len parts) := by
 unfold Go.Proofs.YtmdlgfnibjcgmaaGreatDoor.Rn.buildSl
 repeat' (first | exact Mon.ret _ | exact Mon.die | exact Mon.lft _ | exact Mon.geto _ | exact Mon.seto _ _ | exact Mon.newo _ | exact Mon.clo _ _ | exact Mon.binC _ _ _ _ _ | exact Mon.convP _ _ _ _ | assumption | refine Mon.bnd ?_ (fun _ => ?_) | refine Mon.grd (fun _ => ?_) | refine Mon.opt (fun _ _ => ?_) | apply Mon.sel | exact Mon.loadN _ _ | exact Mon.storeN _ _ | exact Mon.val _ | exact Mon.newv _ | exact Mon.srcOf _ _ | exact Mon.appIn _ _ _ _ _ _ | exact Mon.appNew _ _ _ | exact Mon.appOut _ _ _ _ _ _ _ | exact Mon.appendB _ _ _ _ _ | exact Mon.appendA _ _ _ _ _ | exact Mon.lookB _ _ _ _ _ | exact Mon.lookA _ _ _ _ _ | exact Mon.updA _ _ _ _ _ | exact Mon.delA _ _ _ _ | exact Mon.rangeA _ _ _ | exact Mon.nextB _ _ _ _ _ _ _ | exact Mon.nextA _ | exact Mon.sliceS _ _ _ | exact Mon.sliceL _ _ _ _ _ _ | exact Mon.sliceY _ _ _ _ _ _ | exact Mon.sliceV _ _ _ _ _ | exact Mon.loadA _ _ _ | exact Mon.storeA _ _ _ _ | exact Mon.intOp _ _ _ _ _ _ | exact Mon.binB _ _ _ _ _ | exact Mon.binA _ _ _ _ _ | exact Mon.convA _ _ _ _ | exact Mon.makeSl _ _ _ _ | exact Mon.fieldA _ _ _ _ | exact Mon.indexP _ _ _ _ _ | exact Mon.indexA _ _ _ _ | exact Mon.extrA _ _ | split)
theorem Mon.copyTo (base : Option Addr) (m : Nat) (cells : List Value) : Mon (copyTo base m cells) := by
 unfold Go.Proofs.YtmdlgfnibjcgmaaGreatDoor.Rn.copyTo
 repeat' (first | exact Mon.ret _ | exact Mon.die | exact Mon.lft _ | exact Mon.geto _ | exact Mon.seto _ _ | exact Mon.newo _ | exact Mon.clo _ _ | exact Mon.binC _ _ _ _ _ | exact Mon.convP _ _ _ _ | assumption | refine Mon.bnd ?_ (fun _ => ?_) | refine Mon.grd (fun _ => ?_) | refine Mon.opt (fun _ _ => ?_) | apply Mon.sel | exact Mon.loadN _ _ | exact Mon.storeN _ _ | exact Mon.val _ | exact Mon.newv _ | exact Mon.srcOf _ _ | exact Mon.appIn _ _ _ _ _ _ | exact Mon.appNew _ _ _ | exact Mon.appOut _ _ _ _ _ _ _ | exact Mon.appendB _ _ _ _ _ | exact Mon.appendA _ _ _ _ _ | exact Mon.lookB _ _ _ _ _ | exact Mon.lookA _ _ _ _ _ | exact Mon.updA _ _ _ _ _ | exact Mon.delA _ _ _ _ | exact Mon.rangeA _ _ _ | exact Mon.nextB _ _ _ _ _ _ _ | exact Mon.nextA _ | exact Mon.sliceS _ _ _ | exact Mon.sliceL _ _ _ _ _ _ | exact Mon.sliceY _ _ _ _ _ _ | exact Mon.sliceV _ _ _ _ _ | exact Mon.loadA _ _ _ | exact Mon.storeA _ _ _ _ | exact Mon.intOp _ _ _ _ _ _ | exact Mon.binB _ _ _ _ _ | exact Mon.binA _ _ _ _ _ | exact Mon.convA _ _ _ _ | exact Mon.makeSl _ _ _ _ | exact Mon.fieldA _ _ _ _ | exact Mon.indexP _ _ _ _ _ | exact Mon.indexA _ _ _ _ | exact Mon.extrA _ _ | exact Mon.buildSl _ _ _ _ | split)
theorem Mon.copyA (P : Program) (t : TypeId) (d x : Value) : Mon (copyA P t d x) := by
 unfold Go.Proofs.YtmdlgfnibjcgmaaGreatDoor.Rn.copyA
 repeat' (first | exact Mon.ret _ | exact Mon.die | exact Mon.lft _ | exact Mon.geto _ | exact Mon.seto _ _ | exact Mon.newo _ | exact Mon.clo _ _ | exact Mon.binC _ _ _ _ _ | exact Mon.convP _ _ _ _ | assumption | refine Mon.bnd ?_ (fun _ => ?_) | refine Mon.grd (fun _ => ?_) | refine Mon.opt (fun _ _ => ?_) | apply Mon.sel | exact Mon.loadN _ _ | exact Mon.storeN _ _ | exact Mon.val _ | exact Mon.newv _ | exact Mon.srcOf _ _ | exact Mon.appIn _ _ _ _ _ _ | exact Mon.appNew _ _ _ | exact Mon.appOut _ _ _ _ _ _ _ | exact Mon.appendB _ _ _ _ _ | exact Mon.appendA _ _ _ _ _ | exact Mon.lookB _ _ _ _ _ | exact Mon.lookA _ _ _ _ _ | exact Mon.updA _ _ _ _ _ | exact Mon.delA _ _ _ _ | exact Mon.rangeA _ _ _ | exact Mon.nextB _ _ _ _ _ _ _ | exact Mon.nextA _ | exact Mon.sliceS _ _ _ | exact Mon.sliceL _ _ _ _ _ _ | exact Mon.sliceY _ _ _ _ _ _ | exact Mon.sliceV _ _ _ _ _ | exact Mon.loadA _ _ _ | exact Mon.storeA _ _ _ _ | exact Mon.intOp _ _ _ _ _ _ | exact Mon.binB _ _ _ _ _ | exact Mon.binA _ _ _ _ _ | exact Mon.convA _ _ _ _ | exact Mon.makeSl _ _ _ _ | exact Mon.fieldA _ _ _ _ | exact Mon.indexP _ _ _ _ _ | exact Mon.indexA _ _ _ _ | exact Mon.extrA _ _ | exact Mon.buildSl _ _ _ _ | exact Mon.copyTo _ _ _ | split)
theorem Mon.strOf (P : Program) (u : TypeId) (a : Addr) (n : Nat) : Mon (strOf P u a n) := by
 unfold Go.Proofs.YtmdlgfnibjcgmaaGreatDoor.Rn.strOf
 repeat' (first | exact Mon.ret _ | exact Mon.die | exact Mon.lft _ | exact Mon.geto _ | exact Mon.seto _ _ | exact Mon.newo _ | exact Mon.clo _ _ | exact Mon.binC _ _ _ _ _ | exact Mon.convP _ _ _ _ | assumption | refine Mon.bnd ?_ (fun _ => ?_) | refine Mon.grd (fun _ => ?_) | refine Mon.opt (fun _ _ => ?_) | apply Mon.sel | exact Mon.loadN _ _ | exact Mon.storeN _ _ | exact Mon.val _ | exact Mon.newv _ | exact Mon.srcOf _ _ | exact Mon.appIn _ _ _ _ _ _ | exact Mon.appNew _ _ _ | exact Mon.appOut _ _ _ _ _ _ _ | exact Mon.appendB _ _ _ _ _ | exact Mon.appendA _ _ _ _ _ | exact Mon.lookB _ _ _ _ _ | exact Mon.lookA _ _ _ _ _ | exact Mon.updA _ _ _ _ _ | exact Mon.delA _ _ _ _ | exact Mon.rangeA _ _ _ | exact Mon.nextB _ _ _ _ _ _ _ | exact Mon.nextA _ | exact Mon.sliceS _ _ _ | exact Mon.sliceL _ _ _ _ _ _ | exact Mon.sliceY _ _ _ _ _ _ | exact Mon.sliceV _ _ _ _ _ | exact Mon.loadA _ _ _ | exact Mon.storeA _ _ _ _ | exact Mon.intOp _ _ _ _ _ _ | exact Mon.binB _ _ _ _ _ | exact Mon.binA _ _ _ _ _ | exact Mon.convA _ _ _ _ | exact Mon.makeSl _ _ _ _ | exact Mon.fieldA _ _ _ _ | exact Mon.indexP _ _ _ _ _ | exact Mon.indexA _ _ _ _ | exact Mon.extrA _ _ | exact Mon.buildSl _ _ _ _ | exact Mon.copyTo _ _ _ | exact Mon.copyA _ _ _ _ | split)
theorem Mon.plainB (P : Program) (b : Builtin) (ts : Array TypeId) (t : TypeId) (cs : Array Bool) (args : List Value) : Mon (plainB P b ts t cs args) := by
 unfold Go.Proofs.YtmdlgfnibjcgmaaGreatDoor.Rn.plainB
 repeat' (first | exact Mon.ret _ | exact Mon.die | exact Mon.lft _ | exact Mon.geto _ | exact Mon.seto _ _ | exact Mon.newo _ | exact Mon.clo _ _ | exact Mon.binC _ _ _ _ _ | exact Mon.convP _ _ _ _ | assumption | refine Mon.bnd ?_ (fun _ => ?_) | refine Mon.grd (fun _ => ?_) | refine Mon.opt (fun _ _ => ?_) | apply Mon.sel | exact Mon.loadN _ _ | exact Mon.storeN _ _ | exact Mon.val _ | exact Mon.newv _ | exact Mon.srcOf _ _ | exact Mon.appIn _ _ _ _ _ _ | exact Mon.appNew _ _ _ | exact Mon.appOut _ _ _ _ _ _ _ | exact Mon.appendB _ _ _ _ _ | exact Mon.appendA _ _ _ _ _ | exact Mon.lookB _ _ _ _ _ | exact Mon.lookA _ _ _ _ _ | exact Mon.updA _ _ _ _ _ | exact Mon.delA _ _ _ _ | exact Mon.rangeA _ _ _ | exact Mon.nextB _ _ _ _ _ _ _ | exact Mon.nextA _ | exact Mon.sliceS _ _ _ | exact Mon.sliceL _ _ _ _ _ _ | exact Mon.sliceY _ _ _ _ _ _ | exact Mon.sliceV _ _ _ _ _ | exact Mon.loadA _ _ _ | exact Mon.storeA _ _ _ _ | exact Mon.intOp _ _ _ _ _ _ | exact Mon.binB _ _ _ _ _ | exact Mon.binA _ _ _ _ _ | exact Mon.convA _ _ _ _ | exact Mon.makeSl _ _ _ _ | exact Mon.fieldA _ _ _ _ | exact Mon.indexP _ _ _ _ _ | exact Mon.indexA _ _ _ _ | exact Mon.extrA _ _ | exact Mon.buildSl _ _ _ _ | exact Mon.copyTo _ _ _ | exact Mon.copyA _ _ _ _ | exact Mon.strOf _ _ _ _ | split)
theorem Mon.lenA (P : Program) (t : TypeId) (v : Value) (k : M Nx) (hk : Mon k) : Mon (lenA P t v k) := by
 unfold Go.Proofs.YtmdlgfnibjcgmaaGreatDoor.Rn.lenA
 repeat' (first | exact Mon.ret _ | exact Mon.die | exact Mon.lft _ | exact Mon.geto _ | exact Mon.seto _ _ | exact Mon.newo _ | exact Mon.clo _ _ | exact Mon.binC _ _ _ _ _ | exact Mon.convP _ _ _ _ | assumption | refine Mon.bnd ?_ (fun _ => ?_) | refine Mon.grd (fun _ => ?_) | refine Mon.opt (fun _ _ => ?_) | apply Mon.sel | exact Mon.loadN _ _ | exact Mon.storeN _ _ | exact Mon.val _ | exact Mon.newv _ | exact Mon.srcOf _ _ | exact Mon.appIn _ _ _ _ _ _ | exact Mon.appNew _ _ _ | exact Mon.appOut _ _ _ _ _ _ _ | exact Mon.appendB _ _ _ _ _ | exact Mon.appendA _ _ _ _ _ | exact Mon.lookB _ _ _ _ _ | exact Mon.lookA _ _ _ _ _ | exact Mon.updA _ _ _ _ _ | exact Mon.delA _ _ _ _ | exact Mon.rangeA _ _ _ | exact Mon.nextB _ _ _ _ _ _ _ | exact Mon.nextA _ | exact Mon.sliceS _ _ _ | exact Mon.sliceL _ _ _ _ _ _ | exact Mon.sliceY _ _ _ _ _ _ | exact Mon.sliceV _ _ _ _ _ | exact Mon.loadA _ _ _ | exact Mon.storeA _ _ _ _ | exact Mon.intOp _ _ _ _ _ _ | exact Mon.binB _ _ _ _ _ | exact Mon.binA _ _ _ _ _ | exact Mon.convA _ _ _ _ | exact Mon.makeSl _ _ _ _ | exact Mon.fieldA _ _ _ _ | exact Mon.indexP _ _ _ _ _ | exact Mon.indexA _ _ _ _ | exact Mon.extrA _ _ | exact Mon.buildSl _ _ _ _ | exact Mon.copyTo _ _ _ | exact Mon.copyA _ _ _ _ | exact Mon.strOf _ _ _ _ | exact Mon.plainB _ _ _ _ _ _ | split)
theorem Mon.strP (P : Program) (l : List TypeId) (a : Addr) (y : Value) : Mon (strP P l a y) := by
 unfold Go.Proofs.YtmdlgfnibjcgmaaGreatDoor.Rn.strP
 split
 ·exact Mon.opt fun _ _ => Mon.opt fun _ _ => Mon.strOf _ _ _ _
 ·exact Mon.die
theorem Mon.rowA (x : Value) : Mon (rowA x) := by
 unfold Go.Proofs.YtmdlgfnibjcgmaaGreatDoor.Rn.rowA
 split
 ·exact Mon.grd fun _ => Mon.val _
 ·exact Mon.die
theorem Mon.textA (P : Program) (ts : Array TypeId) (x y : Value) : Mon (textA P ts x y) := by
 unfold Go.Proofs.YtmdlgfnibjcgmaaGreatDoor.Rn.textA
 split
 ·exact Mon.strP _ _ _ _
 ·exact Mon.die
theorem Mon.builtA (P : Program) (b : Builtin) (ts : Array TypeId) (t : TypeId) (cs : Array Bool) (args : List Value) : Mon (builtA P b ts t cs args) := by
 unfold Go.Proofs.YtmdlgfnibjcgmaaGreatDoor.Rn.builtA
 repeat' (first | exact Mon.ret _ | exact Mon.rowA _ | exact Mon.textA _ _ _ _ | exact Mon.strP _ _ _ _ | exact Mon.die | exact Mon.lft _ | exact Mon.geto _ | exact Mon.seto _ _ | exact Mon.newo _ | exact Mon.clo _ _ | exact Mon.binC _ _ _ _ _ | exact Mon.convP _ _ _ _ | assumption | refine Mon.bnd ?_ (fun _ => ?_) | refine Mon.grd (fun _ => ?_) | refine Mon.opt (fun _ _ => ?_) | apply Mon.sel | exact Mon.loadN _ _ | exact Mon.storeN _ _ | exact Mon.val _ | exact Mon.newv _ | exact Mon.srcOf _ _ | exact Mon.appIn _ _ _ _ _ _ | exact Mon.appNew _ _ _ | exact Mon.appOut _ _ _ _ _ _ _ | exact Mon.appendB _ _ _ _ _ | exact Mon.appendA _ _ _ _ _ | exact Mon.lookB _ _ _ _ _ | exact Mon.lookA _ _ _ _ _ | exact Mon.updA _ _ _ _ _ | exact Mon.delA _ _ _ _ | exact Mon.rangeA _ _ _ | exact Mon.nextB _ _ _ _ _ _ _ | exact Mon.nextA _ | exact Mon.sliceS _ _ _ | exact Mon.sliceL _ _ _ _ _ _ | exact Mon.sliceY _ _ _ _ _ _ | exact Mon.sliceV _ _ _ _ _ | exact Mon.loadA _ _ _ | exact Mon.storeA _ _ _ _ | exact Mon.intOp _ _ _ _ _ _ | exact Mon.binB _ _ _ _ _ | exact Mon.binA _ _ _ _ _ | exact Mon.convA _ _ _ _ | exact Mon.makeSl _ _ _ _ | exact Mon.fieldA _ _ _ _ | exact Mon.indexP _ _ _ _ _ | exact Mon.indexA _ _ _ _ | exact Mon.extrA _ _ | exact Mon.buildSl _ _ _ _ | exact Mon.copyTo _ _ _ | exact Mon.copyA _ _ _ _ | exact Mon.strOf _ _ _ _ | exact Mon.plainB _ _ _ _ _ _ | apply Mon.lenA | split)
theorem Mon.callV (v : Value) (args : List Value) : Mon (callV v args) := by
 unfold Go.Proofs.YtmdlgfnibjcgmaaGreatDoor.Rn.callV
 repeat' (first | exact Mon.ret _ | exact Mon.die | exact Mon.lft _ | exact Mon.geto _ | exact Mon.seto _ _ | exact Mon.newo _ | exact Mon.clo _ _ | exact Mon.binC _ _ _ _ _ | exact Mon.convP _ _ _ _ | assumption | refine Mon.bnd ?_ (fun _ => ?_) | refine Mon.grd (fun _ => ?_) | refine Mon.opt (fun _ _ => ?_) | apply Mon.sel | exact Mon.loadN _ _ | exact Mon.storeN _ _ | exact Mon.val _ | exact Mon.newv _ | exact Mon.srcOf _ _ | exact Mon.appIn _ _ _ _ _ _ | exact Mon.appNew _ _ _ | exact Mon.appOut _ _ _ _ _ _ _ | exact Mon.appendB _ _ _ _ _ | exact Mon.appendA _ _ _ _ _ | exact Mon.lookB _ _ _ _ _ | exact Mon.lookA _ _ _ _ _ | exact Mon.updA _ _ _ _ _ | exact Mon.delA _ _ _ _ | exact Mon.rangeA _ _ _ | exact Mon.nextB _ _ _ _ _ _ _ | exact Mon.nextA _ | exact Mon.sliceS _ _ _ | exact Mon.sliceL _ _ _ _ _ _ | exact Mon.sliceY _ _ _ _ _ _ | exact Mon.sliceV _ _ _ _ _ | exact Mon.loadA _ _ _ | exact Mon.storeA _ _ _ _ | exact Mon.intOp _ _ _ _ _ _ | exact Mon.binB _ _ _ _ _ | exact Mon.binA _ _ _ _ _ | exact Mon.convA _ _ _ _ | exact Mon.makeSl _ _ _ _ | exact Mon.fieldA _ _ _ _ | exact Mon.indexP _ _ _ _ _ | exact Mon.indexA _ _ _ _ | exact Mon.extrA _ _ | exact Mon.buildSl _ _ _ _ | exact Mon.copyTo _ _ _ | exact Mon.copyA _ _ _ _ | exact Mon.strOf _ _ _ _ | exact Mon.plainB _ _ _ _ _ _ | apply Mon.lenA | exact Mon.builtA _ _ _ _ _ _ | split)
theorem Mon.callA (P : Program) (c : Call) (t : TypeId) (ρ : Operand -> Value) : Mon (callA P c t ρ) := by
 unfold Go.Proofs.YtmdlgfnibjcgmaaGreatDoor.Rn.callA
 repeat' (first | exact Mon.ret _ | exact Mon.die | exact Mon.lft _ | exact Mon.geto _ | exact Mon.seto _ _ | exact Mon.newo _ | exact Mon.clo _ _ | exact Mon.binC _ _ _ _ _ | exact Mon.convP _ _ _ _ | assumption | refine Mon.bnd ?_ (fun _ => ?_) | refine Mon.grd (fun _ => ?_) | refine Mon.opt (fun _ _ => ?_) | apply Mon.sel | exact Mon.loadN _ _ | exact Mon.storeN _ _ | exact Mon.val _ | exact Mon.newv _ | exact Mon.srcOf _ _ | exact Mon.appIn _ _ _ _ _ _ | exact Mon.appNew _ _ _ | exact Mon.appOut _ _ _ _ _ _ _ | exact Mon.appendB _ _ _ _ _ | exact Mon.appendA _ _ _ _ _ | exact Mon.lookB _ _ _ _ _ | exact Mon.lookA _ _ _ _ _ | exact Mon.updA _ _ _ _ _ | exact Mon.delA _ _ _ _ | exact Mon.rangeA _ _ _ | exact Mon.nextB _ _ _ _ _ _ _ | exact Mon.nextA _ | exact Mon.sliceS _ _ _ | exact Mon.sliceL _ _ _ _ _ _ | exact Mon.sliceY _ _ _ _ _ _ | exact Mon.sliceV _ _ _ _ _ | exact Mon.loadA _ _ _ | exact Mon.storeA _ _ _ _ | exact Mon.intOp _ _ _ _ _ _ | exact Mon.binB _ _ _ _ _ | exact Mon.binA _ _ _ _ _ | exact Mon.convA _ _ _ _ | exact Mon.makeSl _ _ _ _ | exact Mon.fieldA _ _ _ _ | exact Mon.indexP _ _ _ _ _ | exact Mon.indexA _ _ _ _ | exact Mon.extrA _ _ | exact Mon.buildSl _ _ _ _ | exact Mon.copyTo _ _ _ | exact Mon.copyA _ _ _ _ | exact Mon.strOf _ _ _ _ | exact Mon.plainB _ _ _ _ _ _ | apply Mon.lenA | exact Mon.builtA _ _ _ _ _ _ | exact Mon.callV _ _ | split)
theorem Mon.pickA (c a b : Value) : Mon (pickA c a b) := by
 unfold Go.Proofs.YtmdlgfnibjcgmaaGreatDoor.Rn.pickA
 repeat' (first | exact Mon.ret _ | exact Mon.die | exact Mon.lft _ | exact Mon.geto _ | exact Mon.seto _ _ | exact Mon.newo _ | exact Mon.clo _ _ | exact Mon.binC _ _ _ _ _ | exact Mon.convP _ _ _ _ | assumption | refine Mon.bnd ?_ (fun _ => ?_) | refine Mon.grd (fun _ => ?_) | refine Mon.opt (fun _ _ => ?_) | apply Mon.sel | exact Mon.loadN _ _ | exact Mon.storeN _ _ | exact Mon.val _ | exact Mon.newv _ | exact Mon.srcOf _ _ | exact Mon.appIn _ _ _ _ _ _ | exact Mon.appNew _ _ _ | exact Mon.appOut _ _ _ _ _ _ _ | exact Mon.appendB _ _ _ _ _ | exact Mon.appendA _ _ _ _ _ | exact Mon.lookB _ _ _ _ _ | exact Mon.lookA _ _ _ _ _ | exact Mon.updA _ _ _ _ _ | exact Mon.delA _ _ _ _ | exact Mon.rangeA _ _ _ | exact Mon.nextB _ _ _ _ _ _ _ | exact Mon.nextA _ | exact Mon.sliceS _ _ _ | exact Mon.sliceL _ _ _ _ _ _ | exact Mon.sliceY _ _ _ _ _ _ | exact Mon.sliceV _ _ _ _ _ | exact Mon.loadA _ _ _ | exact Mon.storeA _ _ _ _ | exact Mon.intOp _ _ _ _ _ _ | exact Mon.binB _ _ _ _ _ | exact Mon.binA _ _ _ _ _ | exact Mon.convA _ _ _ _ | exact Mon.makeSl _ _ _ _ | exact Mon.fieldA _ _ _ _ | exact Mon.indexP _ _ _ _ _ | exact Mon.indexA _ _ _ _ | exact Mon.extrA _ _ | exact Mon.buildSl _ _ _ _ | exact Mon.copyTo _ _ _ | exact Mon.copyA _ _ _ _ | exact Mon.strOf _ _ _ _ | exact Mon.plainB _ _ _ _ _ _ | apply Mon.lenA | exact Mon.builtA _ _ _ _ _ _ | exact Mon.callV _ _ | exact Mon.callA _ _ _ _ | split)
theorem Mon.nilA (v : Value) : Mon (nilA v) := by
 unfold Go.Proofs.YtmdlgfnibjcgmaaGreatDoor.Rn.nilA
 repeat' (first | exact Mon.ret _ | exact Mon.die | exact Mon.lft _ | exact Mon.geto _ | exact Mon.seto _ _ | exact Mon.newo _ | exact Mon.clo _ _ | exact Mon.binC _ _ _ _ _ | exact Mon.convP _ _ _ _ | assumption | refine Mon.bnd ?_ (fun _ => ?_) | refine Mon.grd (fun _ => ?_) | refine Mon.opt (fun _ _ => ?_) | apply Mon.sel | exact Mon.loadN _ _ | exact Mon.storeN _ _ | exact Mon.val _ | exact Mon.newv _ | exact Mon.srcOf _ _ | exact Mon.appIn _ _ _ _ _ _ | exact Mon.appNew _ _ _ | exact Mon.appOut _ _ _ _ _ _ _ | exact Mon.appendB _ _ _ _ _ | exact Mon.appendA _ _ _ _ _ | exact Mon.lookB _ _ _ _ _ | exact Mon.lookA _ _ _ _ _ | exact Mon.updA _ _ _ _ _ | exact Mon.delA _ _ _ _ | exact Mon.rangeA _ _ _ | exact Mon.nextB _ _ _ _ _ _ _ | exact Mon.nextA _ | exact Mon.sliceS _ _ _ | exact Mon.sliceL _ _ _ _ _ _ | exact Mon.sliceY _ _ _ _ _ _ | exact Mon.sliceV _ _ _ _ _ | exact Mon.loadA _ _ _ | exact Mon.storeA _ _ _ _ | exact Mon.intOp _ _ _ _ _ _ | exact Mon.binB _ _ _ _ _ | exact Mon.binA _ _ _ _ _ | exact Mon.convA _ _ _ _ | exact Mon.makeSl _ _ _ _ | exact Mon.fieldA _ _ _ _ | exact Mon.indexP _ _ _ _ _ | exact Mon.indexA _ _ _ _ | exact Mon.extrA _ _ | exact Mon.buildSl _ _ _ _ | exact Mon.copyTo _ _ _ | exact Mon.copyA _ _ _ _ | exact Mon.strOf _ _ _ _ | exact Mon.plainB _ _ _ _ _ _ | apply Mon.lenA | exact Mon.builtA _ _ _ _ _ _ | exact Mon.callV _ _ | exact Mon.callA _ _ _ _ | exact Mon.pickA _ _ _ | split)
theorem Mon.unB (P : Program) (op : UnOp) (v : Value) : Mon (unB P op v) := Mon.grd fun _ => Mon.clo _ _
theorem Mon.unA (P : Program) (op : UnOp) (v : Value) : Mon (unA P op v) := by
 unfold Go.Proofs.YtmdlgfnibjcgmaaGreatDoor.Rn.unA
 repeat' (first | exact Mon.ret _ | exact Mon.die | exact Mon.lft _ | exact Mon.geto _ | exact Mon.seto _ _ | exact Mon.newo _ | exact Mon.clo _ _ | exact Mon.unB _ _ _ | exact Mon.binC _ _ _ _ _ | exact Mon.convP _ _ _ _ | assumption | refine Mon.bnd ?_ (fun _ => ?_) | refine Mon.grd (fun _ => ?_) | refine Mon.opt (fun _ _ => ?_) | apply Mon.sel | exact Mon.loadN _ _ | exact Mon.storeN _ _ | exact Mon.val _ | exact Mon.newv _ | exact Mon.srcOf _ _ | exact Mon.appIn _ _ _ _ _ _ | exact Mon.appNew _ _ _ | exact Mon.appOut _ _ _ _ _ _ _ | exact Mon.appendB _ _ _ _ _ | exact Mon.appendA _ _ _ _ _ | exact Mon.lookB _ _ _ _ _ | exact Mon.lookA _ _ _ _ _ | exact Mon.updA _ _ _ _ _ | exact Mon.delA _ _ _ _ | exact Mon.rangeA _ _ _ | exact Mon.nextB _ _ _ _ _ _ _ | exact Mon.nextA _ | exact Mon.sliceS _ _ _ | exact Mon.sliceL _ _ _ _ _ _ | exact Mon.sliceY _ _ _ _ _ _ | exact Mon.sliceV _ _ _ _ _ | exact Mon.loadA _ _ _ | exact Mon.storeA _ _ _ _ | exact Mon.intOp _ _ _ _ _ _ | exact Mon.binB _ _ _ _ _ | exact Mon.binA _ _ _ _ _ | exact Mon.convA _ _ _ _ | exact Mon.makeSl _ _ _ _ | exact Mon.fieldA _ _ _ _ | exact Mon.indexP _ _ _ _ _ | exact Mon.indexA _ _ _ _ | exact Mon.extrA _ _ | exact Mon.buildSl _ _ _ _ | exact Mon.copyTo _ _ _ | exact Mon.copyA _ _ _ _ | exact Mon.strOf _ _ _ _ | exact Mon.plainB _ _ _ _ _ _ | apply Mon.lenA | exact Mon.builtA _ _ _ _ _ _ | exact Mon.callV _ _ | exact Mon.callA _ _ _ _ | exact Mon.pickA _ _ _ | exact Mon.nilA _ | split)
theorem Mon.pureA (P : Program) (s : Sem Value) : Mon (pureA P s) := by
 unfold Go.Proofs.YtmdlgfnibjcgmaaGreatDoor.Rn.pureA
 repeat' (first | exact Mon.ret _ | exact Mon.die | exact Mon.lft _ | exact Mon.geto _ | exact Mon.seto _ _ | exact Mon.newo _ | exact Mon.clo _ _ | exact Mon.unB _ _ _ | exact Mon.binC _ _ _ _ _ | exact Mon.convP _ _ _ _ | assumption | refine Mon.bnd ?_ (fun _ => ?_) | refine Mon.grd (fun _ => ?_) | refine Mon.opt (fun _ _ => ?_) | apply Mon.sel | exact Mon.loadN _ _ | exact Mon.storeN _ _ | exact Mon.val _ | exact Mon.newv _ | exact Mon.srcOf _ _ | exact Mon.appIn _ _ _ _ _ _ | exact Mon.appNew _ _ _ | exact Mon.appOut _ _ _ _ _ _ _ | exact Mon.appendB _ _ _ _ _ | exact Mon.appendA _ _ _ _ _ | exact Mon.lookB _ _ _ _ _ | exact Mon.lookA _ _ _ _ _ | exact Mon.updA _ _ _ _ _ | exact Mon.delA _ _ _ _ | exact Mon.rangeA _ _ _ | exact Mon.nextB _ _ _ _ _ _ _ | exact Mon.nextA _ | exact Mon.sliceS _ _ _ | exact Mon.sliceL _ _ _ _ _ _ | exact Mon.sliceY _ _ _ _ _ _ | exact Mon.sliceV _ _ _ _ _ | exact Mon.loadA _ _ _ | exact Mon.storeA _ _ _ _ | exact Mon.intOp _ _ _ _ _ _ | exact Mon.binB _ _ _ _ _ | exact Mon.binA _ _ _ _ _ | exact Mon.convA _ _ _ _ | exact Mon.makeSl _ _ _ _ | exact Mon.fieldA _ _ _ _ | exact Mon.indexP _ _ _ _ _ | exact Mon.indexA _ _ _ _ | exact Mon.extrA _ _ | exact Mon.buildSl _ _ _ _ | exact Mon.copyTo _ _ _ | exact Mon.copyA _ _ _ _ | exact Mon.strOf _ _ _ _ | exact Mon.plainB _ _ _ _ _ _ | apply Mon.lenA | exact Mon.builtA _ _ _ _ _ _ | exact Mon.callV _ _ | exact Mon.callA _ _ _ _ | exact Mon.pickA _ _ _ | exact Mon.nilA _ | exact Mon.unA _ _ _ | split)
theorem Mon.idxD (P : Program) (j : Nat) (d : TypeDesc) (v : Value) : Mon (idxD P j d v) := by
 unfold Go.Proofs.YtmdlgfnibjcgmaaGreatDoor.Rn.idxD
 repeat' (first | exact Mon.die | exact Mon.val _ | exact Mon.pureA _ _ | refine Mon.grd (fun _ => ?_) | refine Mon.opt (fun _ _ => ?_) | split)
theorem Mon.idxA (P : Program) (t : TypeId) (v i : Value) : Mon (idxA P t v i) := Mon.opt fun _ _ => Mon.opt fun _ _ => Mon.idxD _ _ _ _
theorem Mon.exA (P : Program) (o : Oper) (ρ : Operand -> Value) : Mon (exA P o ρ) := by
 unfold Go.Proofs.YtmdlgfnibjcgmaaGreatDoor.Rn.exA
 repeat' (first | exact Mon.ret _ | exact Mon.idxA _ _ _ _ | exact Mon.die | exact Mon.lft _ | exact Mon.geto _ | exact Mon.seto _ _ | exact Mon.newo _ | exact Mon.clo _ _ | exact Mon.unB _ _ _ | exact Mon.binC _ _ _ _ _ | exact Mon.convP _ _ _ _ | assumption | refine Mon.bnd ?_ (fun _ => ?_) | refine Mon.grd (fun _ => ?_) | refine Mon.opt (fun _ _ => ?_) | apply Mon.sel | exact Mon.loadN _ _ | exact Mon.storeN _ _ | exact Mon.val _ | exact Mon.newv _ | exact Mon.srcOf _ _ | exact Mon.appIn _ _ _ _ _ _ | exact Mon.appNew _ _ _ | exact Mon.appOut _ _ _ _ _ _ _ | exact Mon.appendB _ _ _ _ _ | exact Mon.appendA _ _ _ _ _ | exact Mon.lookB _ _ _ _ _ | exact Mon.lookA _ _ _ _ _ | exact Mon.updA _ _ _ _ _ | exact Mon.delA _ _ _ _ | exact Mon.rangeA _ _ _ | exact Mon.nextB _ _ _ _ _ _ _ | exact Mon.nextA _ | exact Mon.sliceS _ _ _ | exact Mon.sliceL _ _ _ _ _ _ | exact Mon.sliceY _ _ _ _ _ _ | exact Mon.sliceV _ _ _ _ _ | exact Mon.loadA _ _ _ | exact Mon.storeA _ _ _ _ | exact Mon.intOp _ _ _ _ _ _ | exact Mon.binB _ _ _ _ _ | exact Mon.binA _ _ _ _ _ | exact Mon.convA _ _ _ _ | exact Mon.makeSl _ _ _ _ | exact Mon.fieldA _ _ _ _ | exact Mon.indexP _ _ _ _ _ | exact Mon.indexA _ _ _ _ | exact Mon.extrA _ _ | exact Mon.buildSl _ _ _ _ | exact Mon.copyTo _ _ _ | exact Mon.copyA _ _ _ _ | exact Mon.strOf _ _ _ _ | exact Mon.plainB _ _ _ _ _ _ | apply Mon.lenA | exact Mon.builtA _ _ _ _ _ _ | exact Mon.callV _ _ | exact Mon.callA _ _ _ _ | exact Mon.pickA _ _ _ | exact Mon.nilA _ | exact Mon.unA _ _ _ | exact Mon.pureA _ _ | split)
end Go.Proofs.YtmdlgfnibjcgmaaGreatDoor.Rn
