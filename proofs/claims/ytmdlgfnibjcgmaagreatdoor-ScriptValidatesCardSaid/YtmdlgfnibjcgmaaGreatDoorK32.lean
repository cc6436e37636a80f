/-
  Several texts joined: RnS.
-/
import Derived.WalkKit
import Derived.Laws.BytesArg
import Derived.Below
import Derived.Laws.Rows
import Derived.Test.YtmdlgfnibjcgmaaGreatDoorK31
set_option linter.unusedVariables false
set_option linter.unusedSimpArgs false
set_option linter.unusedSectionVars false
namespace Go.Proofs.YtmdlgfnibjcgmaaGreatDoor.Rn
open Go.RowKit
structure Tau where
 σ : Nat -> Nat
 x : Nat -> Nat
mutual
def mp (τ : Tau) : Value -> Value
 | .pointer (some a) => .pointer (some ⟨τ.σ a.block, a.off, a.spot⟩)
 | .slice (some a) n c => .slice (some ⟨τ.σ a.block, a.off, a.spot⟩) n (c + τ.x a.block)
 | .map (some r) => .map (some (τ.σ r))
 | .func fn ⟨a⟩ ⟨b⟩ => .func fn ⟨mpL τ a⟩ ⟨mpL τ b⟩
 | .iface t v => .iface t (mp τ v)
 | .agg ⟨l⟩ => .agg ⟨mpL τ l⟩
 | .tuple ⟨l⟩ => .tuple ⟨mpL τ l⟩
 | v => v
def mpL (τ : Tau) : List Value -> List Value
 | [] => []
 | v :: l => mp τ v :: mpL τ l
end
mutual
def inA (A : Nat -> Prop) : Value -> Prop
 | .pointer (some a) => A a.block
 | .slice (some a) _ _ => A a.block
 | .map (some r) => A r
 | .func _ ⟨a⟩ ⟨b⟩ => inAL A a /\ inAL A b
 | .iface _ v => inA A v
 | .agg ⟨l⟩ => inAL A l
 | .tuple ⟨l⟩ => inAL A l
 | _ => True
def inAL (A : Nat -> Prop) : List Value -> Prop
 | [] => True
 | v :: l => inA A v /\ inAL A l
end
theorem mpL_eq (τ : Tau) : ∀ l, mpL τ l = l.map (mp τ)
 | [] => by rw [mpL]; rfl
 | v :: l => by rw [mpL, mpL_eq τ l]; rfl
theorem inAL_eq (A : Nat -> Prop) : ∀ l, inAL A l ↔ ∀ v ∈ l, inA A v
 | [] => by rw [inAL]; simp
 | v :: l => by rw [inAL, inAL_eq A l]; simp
theorem mp_agg (τ : Tau) (c : Array Value) : mp τ (.agg c) = .agg (c.map (mp τ)) := by
 obtain ⟨l⟩ := c
 rw [mp, mpL_eq]; simp
theorem mp_tuple (τ : Tau) (c : Array Value) : mp τ (.tuple c) = .tuple (c.map (mp τ)) := by
 obtain ⟨l⟩ := c
 rw [mp, mpL_eq]; simp
theorem mp_func (τ : Tau) (fn : Fn) (a b : Array Value) : mp τ (.func fn a b) = .func fn (a.map (mp τ)) (b.map (mp τ)) := by
 obtain ⟨a⟩ := a
 obtain ⟨b⟩ := b
 rw [mp, mpL_eq, mpL_eq]; simp
theorem inA_agg {A : Nat -> Prop} {c : Array Value} : inA A (.agg c) ↔ ∀ v ∈ c.toList, inA A v := by
 obtain ⟨l⟩ := c
 rw [inA, inAL_eq]
theorem inA_tuple {A : Nat -> Prop} {c : Array Value} : inA A (.tuple c) ↔ ∀ v ∈ c.toList, inA A v := by
 obtain ⟨l⟩ := c
 rw [inA, inAL_eq]
theorem inA_func {A : Nat -> Prop} {fn : Fn} {a b : Array Value} : inA A (.func fn a b) ↔ (∀ v ∈ a.toList, inA A v) /\ ∀ v ∈ b.toList, inA A v := by
 obtain ⟨a⟩ := a
 obtain ⟨b⟩ := b
 rw [inA, inAL_eq, inAL_eq]
theorem mp_undef (τ : Tau) : mp τ undef = undef := by unfold undef; rw [mp_tuple]; simp
theorem inA_undef (A : Nat -> Prop) : inA A undef := by unfold undef; rw [inA_tuple]; simp
theorem mp_cells (τ : Tau) (v : Value) : (mp τ v).cells = v.cells.map (mp τ) := by
 match v with
 | .agg c => rw [mp_agg]; rfl
 | .bool _ | .int _ _ | .float _ _ | .complex _ _ _ | .string _ | .nilFunc | .nilIface | .chan _ => simp [mp, Value.cells]
 | .pointer none | .slice none _ _ | .map none => simp [mp, Value.cells]
 | .pointer (some _) | .slice (some _) _ _ | .map (some _) => simp [mp, Value.cells]
 | .func _ ⟨_⟩ ⟨_⟩ => simp [mp, Value.cells]
 | .tuple ⟨_⟩ => simp [mp, Value.cells]
 | .iface _ _ => simp [mp, Value.cells]
theorem mp_atom (τ : Tau) {v : Value} (h : atomB v = true) : (mp τ v).oneCell' = true := by
 match v with
 | .agg c => simp [atomB] at h
 | .tuple c => simp [atomB] at h
 | .bool _ | .int _ _ | .float _ _ | .complex _ _ _ | .string _ | .nilFunc | .nilIface | .chan _ => simp [mp, Value.oneCell']
 | .pointer none | .slice none _ _ | .map none => simp [mp, Value.oneCell']
 | .pointer (some _) | .slice (some _) _ _ | .map (some _) => simp [mp, Value.oneCell']
 | .func _ ⟨_⟩ ⟨_⟩ => simp [mp, Value.oneCell']
 | .iface _ _ => simp [mp, Value.oneCell']
mutual
theorem mp_closed (τ : Tau) : ∀ v, closed v = true -> mp τ v = v
 | .bool _, _ | .int _ _, _ | .float _ _, _ | .complex _ _ _, _ | .string _, _ | .nilFunc, _ | .nilIface, _ => by simp [mp]
 | .pointer none, _ | .slice none _ _, _ | .map none, _ | .chan none, _ => by simp [mp]
 | .agg ⟨l⟩, h => by rw [closed] at h; rw [mp, mpL_closed τ l h]
 | .tuple ⟨l⟩, h => by rw [closed] at h; rw [mp, mpL_closed τ l h]
 | .pointer (some _), h | .slice (some _) _ _, h | .map (some _), h | .chan (some _), h | .func _ _ _, h | .iface _ _, h => by simp [closed] at h
theorem mpL_closed (τ : Tau) : ∀ l, closedL l = true -> mpL τ l = l
 | [], _ => by rw [mpL]
 | v :: l, h => by
  rw [closedL, Bool.and_eq_true] at h
  rw [mpL, mp_closed τ v h.1, mpL_closed τ l h.2]
end
mutual
theorem inA_closed (A : Nat -> Prop) : ∀ v, closed v = true -> inA A v
 | .bool _, _ | .int _ _, _ | .float _ _, _ | .complex _ _ _, _ | .string _, _ | .nilFunc, _ | .nilIface, _ => by simp [inA]
 | .pointer none, _ | .slice none _ _, _ | .map none, _ | .chan none, _ => by simp [inA]
 | .agg ⟨l⟩, h => by rw [closed] at h; rw [inA]; exact inAL_closed A l h
 | .tuple ⟨l⟩, h => by rw [closed] at h; rw [inA]; exact inAL_closed A l h
 | .pointer (some _), h | .slice (some _) _ _, h | .map (some _), h | .chan (some _), h | .func _ _ _, h | .iface _ _, h => by simp [closed] at h
theorem inAL_closed (A : Nat -> Prop) : ∀ l, closedL l = true -> inAL A l
 | [], _ => by rw [inAL]; trivial
 | v :: l, h => by
  rw [closedL, Bool.and_eq_true] at h
  rw [inAL]
  exact ⟨inA_closed A v h.1, inAL_closed A l h.2⟩
end
mutual
theorem mp_agree {A : Nat -> Prop} {τ τ' : Tau} (h : ∀ n, A n -> τ'.σ n = τ.σ n /\ τ'.x n = τ.x n) : ∀ v, inA A v -> mp τ' v = mp τ v
 | .bool _, _ | .int _ _, _ | .float _ _, _ | .complex _ _ _, _ | .string _, _ | .nilFunc, _ | .nilIface, _ | .chan _, _ => by simp [mp]
 | .pointer none, _ | .slice none _ _, _ | .map none, _ => by simp [mp]
 | .pointer (some a), k => by rw [inA] at k; rw [mp, mp, (h _ k).1]
 | .slice (some a) _ _, k => by rw [inA] at k; rw [mp, mp, (h _ k).1, (h _ k).2]
 | .map (some r), k => by rw [inA] at k; rw [mp, mp, (h _ k).1]
 | .func _ ⟨a⟩ ⟨b⟩, k => by rw [inA] at k; rw [mp, mp, mpL_agree h a k.1, mpL_agree h b k.2]
 | .iface _ v, k => by rw [inA] at k; rw [mp, mp, mp_agree h v k]
 | .agg ⟨l⟩, k => by rw [inA] at k; rw [mp, mp, mpL_agree h l k]
 | .tuple ⟨l⟩, k => by rw [inA] at k; rw [mp, mp, mpL_agree h l k]
theorem mpL_agree {A : Nat -> Prop} {τ τ' : Tau} (h : ∀ n, A n -> τ'.σ n = τ.σ n /\ τ'.x n = τ.x n) : ∀ l, inAL A l -> mpL τ' l = mpL τ l
 | [], _ => by rw [mpL, mpL]
 | v :: l, k => by rw [inAL] at k; rw [mpL, mpL, mp_agree h v k.1, mpL_agree h l k.2]
end
mutual
theorem inA_mono {A B : Nat -> Prop} (h : ∀ n, A n -> B n) : ∀ v, inA A v -> inA B v
 | .bool _, _ | .int _ _, _ | .float _ _, _ | .complex _ _ _, _ | .string _, _ | .nilFunc, _ | .nilIface, _ | .chan _, _ => by simp [inA]
 | .pointer none, _ | .slice none _ _, _ | .map none, _ => by simp [inA]
 | .pointer (some a), k => by rw [inA] at *; exact h _ k
 | .slice (some a) _ _, k => by rw [inA] at *; exact h _ k
 | .map (some r), k => by rw [inA] at *; exact h _ k
 | .func _ ⟨a⟩ ⟨b⟩, k => by rw [inA] at *; exact ⟨inAL_mono h a k.1, inAL_mono h b k.2⟩
 | .iface _ v, k => by rw [inA] at *; exact inA_mono h v k
 | .agg ⟨l⟩, k => by rw [inA] at *; exact inAL_mono h l k
 | .tuple ⟨l⟩, k => by rw [inA] at *; exact inAL_mono h l k
theorem inAL_mono {A B : Nat -> Prop} (h : ∀ n, A n -> B n) : ∀ l, inAL A l -> inAL B l
 | [], _ => by rw [inAL]; trivial
 | v :: l, k => by rw [inAL] at *; exact ⟨inA_mono h v k.1, inAL_mono h l k.2⟩
end
theorem closedO_some {n : Nat} {v z : Value} (h : closedO n v = some z) : z = v /\ closed v = true /\ v.cells.size = n := by
 unfold closedO sel at h
 cases hc : closed v && Nat.beq v.cells.size n with
 | false => rw [hc] at h; cases h
 | true =>
  rw [hc] at h; cases h
  rw [Bool.and_eq_true] at hc
  exact ⟨rfl, hc.1, Nat.eq_of_beq_eq_true hc.2⟩
theorem infoA_some {P : Program} {t : TypeId} {i : TypeInfo} (h : infoA P t = some i) : P.info? t = some i := by
 unfold infoA at h
 rw [nth_eq] at h
 have ht : t < P.types.size := by
  have := (List.getElem?_eq_some_iff.1 h).1
  simpa using this
 unfold Tables.info?
 rw [if_pos ht]
 simpa using h
theorem zeroOf_some {P : Program} {t : TypeId} {z : Value} (h : zeroOf P t = some z) : ∃ i, P.info? t = some i /\ i.zero = some z /\ closed z = true /\ z.cells.size = i.size := by
 unfold zeroOf at h
 obtain ⟨i, h1, h2⟩ := Option.bind_eq_some_iff.1 h
 obtain ⟨v, h3, h4⟩ := Option.bind_eq_some_iff.1 h2
 obtain ⟨rfl, h5, h6⟩ := closedO_some h4
 exact ⟨i, infoA_some h1, h3, h5, h6⟩
theorem sizeOf_some {P : Program} {t : TypeId} {k : Nat} (h : sizeOf? P t = some k) : ∃ i, P.info? t = some i /\ i.size = k := by
 unfold sizeOf? at h
 obtain ⟨i, h1, h2⟩ := Option.map_eq_some_iff.1 h
 exact ⟨i, infoA_some h1, h2⟩
theorem bytesOf_some {P : Program} {t : TypeId} {k : Nat} (h : bytesOf P t = some k) : ∃ i, P.info? t = some i /\ i.bytes = k := by
 unfold bytesOf at h
 obtain ⟨i, h1, h2⟩ := Option.map_eq_some_iff.1 h
 exact ⟨i, infoA_some h1, h2⟩
def cells1 (P : Program) (t : TypeId) : Nat := ((P.info? t).map (·.size)).getD 0
def mpE (τ : Tau) (e : MapEntry) : MapEntry := ⟨e.key, mp τ e.val, e.born⟩
def OR (P : Program) (τ : Tau) (b : Nat) : Obj -> Obj -> Prop
 | .cells c t fr, .cells c' t' fr' => t' = t /\ (∃ sp : List Value, c'.toList = c.toList.map (mp τ) ++ sp /\ sp.length = τ.x b * cells1 P t) /\ (fr.1 = 0 -> τ.x b = 0) /\ (fr.1 ≠ 2 -> fr' = (0, 0))
 | .map es clock, .map es' clock' => es'.toList = es.toList.map (mpE τ) /\ clock' = clock /\ ∀ e ∈ es.toList, closed e.key = true
 | .mapIter m since seen st, .mapIter m' since' seen' st' => m' = m.map τ.σ /\ since' = since /\ seen' = seen /\ st' = st
 | _, _ => False
def inO (A : Nat -> Prop) : Obj -> Prop
 | .cells c _ _ => ∀ v ∈ c.toList, inA A v
 | .map es _ => ∀ e ∈ es.toList, inA A e.val
 | .mapIter m _ _ _ => ∀ r, m = some r -> A r
 | _ => False
structure Rel (P : Program) (τ : Tau) (A : Nat -> Prop) (B : Nat) (h : Tr Obj) (w : World) : Prop where
 dom : ∀ n o, h.get n = some o -> A n /\ inO A o /\ B <= τ.σ n /\ ∃ o', w.heap[τ.σ n]? = some o' /\ OR P τ n o o'
 inj : ∀ n m o o', h.get n = some o -> h.get m = some o' -> τ.σ n = τ.σ m -> n = m
 base : B <= w.heap.size
def Agr (τ τ' : Tau) (lo hi : Nat) : Prop := ∀ n, ¬ (lo <= n /\ n < hi) -> τ'.σ n = τ.σ n /\ τ'.x n = τ.x n
def Un (A : Nat -> Prop) (lo hi : Nat) (n : Nat) : Prop := A n ∨ (lo <= n /\ n < hi)
theorem Agr.refl (τ : Tau) (lo hi : Nat) : Agr τ τ lo hi := fun n _ => ⟨rfl, rfl⟩
theorem Agr.trans {a b c : Tau} {l m h : Nat} (h1 : Agr a b l m) (h2 : Agr b c m h) (hl : l <= m) (hm : m <= h) : Agr a c l h := fun n hn => by
 have k1 := h1 n (by omega)
 have k2 := h2 n (by omega)
 exact ⟨k2.1.trans k1.1, k2.2.trans k1.2⟩
theorem Un.left {A : Nat -> Prop} {l h n : Nat} (k : A n) : Un A l h n := .inl k
theorem Un.trans {A : Nat -> Prop} {l m h : Nat} (hl : l <= m) (hm : m <= h) (n : Nat) : Un (Un A l m) m h n ↔ Un A l h n := by
 unfold Un
 constructor
 ·rintro ((q | q) | q)
  ·exact .inl q
  ·exact .inr ⟨q.1, by omega⟩
  ·exact .inr ⟨by omega, q.2⟩
 ·rintro (q | q)
  ·exact .inl (.inl q)
  ·by_cases k : n < m
   ·exact .inl (.inr ⟨q.1, k⟩)
   ·exact .inr ⟨by omega, q.2⟩
theorem Un.nil {A : Nat -> Prop} {l n : Nat} : Un A l l n ↔ A n := by unfold Un; constructor; (rintro (q | q); exact q; omega); exact .inl
theorem mpE_agree {A : Nat -> Prop} {τ τ' : Tau} (h : ∀ n, A n -> τ'.σ n = τ.σ n /\ τ'.x n = τ.x n) {e : MapEntry} (k : inA A e.val) : mpE τ' e = mpE τ e := by
 unfold mpE; rw [mp_agree h _ k]
theorem OR.agree {P : Program} {A : Nat -> Prop} {τ τ' : Tau} (h : ∀ n, A n -> τ'.σ n = τ.σ n /\ τ'.x n = τ.x n) {b : Nat} {o o' : Obj} (hb : A b) (hi : inO A o) (k : OR P τ b o o') : OR P τ' b o o' := by
 cases o <;> cases o' <;> try exact k.elim
 ·obtain ⟨k1, ⟨sp, k2, k3⟩, k4, k5⟩ := k
  refine ⟨k1, ⟨sp, ?_, by rw [(h b hb).2]; exact k3⟩, by rw [(h b hb).2]; exact k4, k5⟩
  rw [k2]
  congr 1
  exact (List.map_congr_left fun v hv => mp_agree h v (hi v hv)).symm
 ·obtain ⟨k1, k2, k3⟩ := k
  refine ⟨?_, k2, k3⟩
  rw [k1]
  exact (List.map_congr_left fun e he => mpE_agree h (hi e he)).symm
 ·obtain ⟨k1, k2, k3, k4⟩ := k
  refine ⟨?_, k2, k3, k4⟩
  rw [k1]
  rename_i m _ _ _ _ _ _ _
  cases m with
  | none => rfl
  | some r => simp [(h r (hi r rfl)).1]
theorem inO_mono {A C : Nat -> Prop} (h : ∀ n, A n -> C n) {o : Obj} (k : inO A o) : inO C o := by
 cases o <;> try exact k.elim
 ·exact fun v hv => inA_mono h v (k v hv)
 ·exact fun e he => inA_mono h _ (k e he)
 ·exact fun r hr => h _ (k r hr)
variable {P : Program} {τ : Tau} {A : Nat -> Prop} {B : Nat} {h : Tr Obj} {w : World}
theorem Rel.mono {C : Nat -> Prop} (r : Rel P τ A B h w) (hc : ∀ n, A n -> C n) : Rel P τ C B h w :=
 ⟨fun n o k => by obtain ⟨k1, k2, k3⟩ := r.dom n o k; exact ⟨hc _ k1, inO_mono hc k2, k3⟩, r.inj, r.base⟩
theorem Rel.drew (r : Rel P τ A B h w) : Rel P τ A B h w.drew := ⟨r.dom, r.inj, r.base⟩
theorem Rel.drewN (r : Rel P τ A B h w) (n : Nat) : Rel P τ A B h { w with drawn := n } := ⟨r.dom, r.inj, r.base⟩
theorem Rel.agree {τ' : Tau} (r : Rel P τ A B h w) (k : ∀ n, A n -> τ'.σ n = τ.σ n /\ τ'.x n = τ.x n) : Rel P τ' A B h w :=
 ⟨fun n o hn => by
  obtain ⟨k1, k2, k3, o', k4, k5⟩ := r.dom n o hn
  rw [(k n k1).1]
  exact ⟨k1, k2, k3, o', k4, k5.agree k k1 k2⟩, fun n m o o' hn hm e => by
  rw [(k n (r.dom n o hn).1).1, (k m (r.dom m o' hm).1).1] at e
  exact r.inj n m o o' hn hm e, r.base⟩
theorem Rel.none {b : Nat} (r : Rel P τ A B h w) : Rel P τ A B (h.set none b) w :=
 ⟨fun n o hn => by
  rw [get_set] at hn
  by_cases e : n = b
  ·rw [if_pos e] at hn; cases hn
  ·rw [if_neg e] at hn; exact r.dom n o hn, fun n m o o' hn hm e => by
  rw [get_set] at hn hm
  by_cases e1 : n = b
  ·rw [if_pos e1] at hn; cases hn
  ·by_cases e2 : m = b
   ·rw [if_pos e2] at hm; cases hm
   ·rw [if_neg e1] at hn; rw [if_neg e2] at hm; exact r.inj n m o o' hn hm e, r.base⟩
def putW (w : World) (b : Nat) (o : Obj) : World := { w with heap := w.heap.setIfInBounds b o }
theorem Below.putW {B : Nat} {w : World} {b : Nat} (o : Obj) (hb : B <= b) : Below B w (putW w b o) :=
 ⟨rfl, rfl, rfl, by simp [Rn.putW], fun k hk => by simp only [Rn.putW]; rw [Array.getElem?_setIfInBounds_ne (by omega)]⟩
theorem Rel.put {b : Nat} {o0 o o' : Obj} (r : Rel P τ A B h w) (hb : h.get b = some o0) (hi : inO A o) (ho : OR P τ b o o') : Rel P τ A B (h.set (some o) b) (putW w (τ.σ b) o') := by
 obtain ⟨b1, b2, b3, b4, b5, _⟩ := r.dom b o0 hb
 have hlt : τ.σ b < w.heap.size := (Array.getElem?_eq_some_iff.1 b5).1
 refine ⟨fun n x hn => ?_, fun n m x y hn hm e => ?_, by simp [putW]; exact r.base⟩
 ·rw [get_set] at hn
  by_cases e : n = b
  ·subst e
   rw [if_pos rfl] at hn
   cases hn
   exact ⟨b1, hi, b3, o', by simp only [putW]; rw [Array.getElem?_setIfInBounds_self_of_lt hlt], ho⟩
  ·rw [if_neg e] at hn
   obtain ⟨k1, k2, k3, x', k4, k5⟩ := r.dom n x hn
   refine ⟨k1, k2, k3, x', ?_, k5⟩
   simp only [putW]
   rw [Array.getElem?_setIfInBounds_ne (fun q => e (r.inj n b x o0 hn hb q.symm))]
   exact k4
 ·have gen : ∀ n x, (h.set (some o) b).get n = some x -> ∃ x', h.get n = some x' := by
   intro n x hn
   rw [get_set] at hn
   by_cases e : n = b
   ·subst e; exact ⟨_, hb⟩
   ·rw [if_neg e] at hn; exact ⟨_, hn⟩
  obtain ⟨x', hx⟩ := gen n x hn
  obtain ⟨y', hy⟩ := gen m y hm
  exact r.inj n m x' y' hx hy e
def Tau.new (τ : Tau) (n b x : Nat) : Tau := ⟨fun m => if m = n then b else τ.σ m, fun m => if m = n then x else τ.x m⟩
theorem Tau.new_agr (τ : Tau) (n b x : Nat) : Agr τ (τ.new n b x) n (n + 1) := fun m hm => by
 unfold Tau.new
 have : m ≠ n := by omega
 simp [this]
theorem Tau.new_at (τ : Tau) (n b x : Nat) : (τ.new n b x).σ n = b /\ (τ.new n b x).x n = x := by simp [Tau.new]
theorem Rel.new {nx b x : Nat} {o o' : Obj} {w' : World} (r : Rel P τ A B h w) (hA : ¬ A nx) (hi : inO (Un A nx (nx + 1)) o) (ho : OR P (τ.new nx b x) nx o o') (hb : w'.heap[b]? = some o') (hB : B <= b)
  (hold : ∀ n u, h.get n = some u -> τ.σ n ≠ b /\ w'.heap[τ.σ n]? = w.heap[τ.σ n]?) (hbase : B <= w'.heap.size) : Rel P (τ.new nx b x) (Un A nx (nx + 1)) B (h.set (some o) nx) w' := by
 have ag : ∀ n, A n -> (τ.new nx b x).σ n = τ.σ n /\ (τ.new nx b x).x n = τ.x n := by
  intro n hn
  refine τ.new_agr nx b x n (fun q => ?_)
  have e : n = nx := by omega
  subst e
  exact hA hn
 refine ⟨fun n u hn => ?_, fun n m u v hn hm e => ?_, hbase⟩
 ·rw [get_set] at hn
  by_cases e : n = nx
  ·subst e
   rw [if_pos rfl] at hn
   cases hn
   rw [(τ.new_at n b x).1]
   exact ⟨.inr ⟨Nat.le_refl _, Nat.lt_succ_self _⟩, hi, hB, o', hb, ho⟩
  ·rw [if_neg e] at hn
   obtain ⟨k1, k2, k3, u', k4, k5⟩ := r.dom n u hn
   rw [(ag n k1).1]
   exact ⟨.inl k1, inO_mono (fun _ => Un.left) k2, k3, u', by rw [(hold n u hn).2]; exact k4, k5.agree ag k1 k2⟩
 ·rw [get_set] at hn hm
  by_cases e1 : n = nx
  ·by_cases e2 : m = nx
   ·rw [e1, e2]
   ·rw [if_neg e2] at hm
    rw [e1, (τ.new_at nx b x).1, (ag m (r.dom m v hm).1).1] at e
    exact ((hold m v hm).1 e.symm).elim
  ·rw [if_neg e1] at hn
   by_cases e2 : m = nx
   ·rw [e2, (τ.new_at nx b x).1, (ag n (r.dom n u hn).1).1] at e
    exact ((hold n u hn).1 e).elim
   ·rw [if_neg e2] at hm
    rw [(ag n (r.dom n u hn).1).1, (ag m (r.dom m v hm).1).1] at e
    exact r.inj n m u v hn hm e
theorem Rel.alloc {nx x : Nat} {o o' : Obj} (r : Rel P τ A B h w) (hA : ¬ A nx) (hi : inO (Un A nx (nx + 1)) o) (ho : OR P (τ.new nx w.heap.size x) nx o o') : Rel P (τ.new nx w.heap.size x) (Un A nx (nx + 1)) B (h.set (some o) nx) (w.alloc o') :=
 Rel.new r hA hi ho (heap_alloc_new w o') r.base (fun n u hn => by
  obtain ⟨_, _, _, u', k4, _⟩ := r.dom n u hn
  have hlt := (Array.getElem?_eq_some_iff.1 k4).1
  exact ⟨Nat.ne_of_lt hlt, Below.heap_alloc w o' _ hlt⟩) (by simp; have := r.base; omega)
end Go.Proofs.YtmdlgfnibjcgmaaGreatDoor.Rn
