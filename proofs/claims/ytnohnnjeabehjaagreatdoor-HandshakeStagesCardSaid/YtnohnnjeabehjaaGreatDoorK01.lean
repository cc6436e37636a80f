/-
  Several texts joined: Base, Rg, Heap.
-/
import Derived.WalkKit
import Derived.WalkSpells
import Derived.WalkLawsBesides
import Derived.Lib.Hide
import Derived.Deep.Light
import Derived.Deep.QuietTactic
import Derived.BigQuiet
import Derived.Laws.BytesArg
import Derived.Laws.IdiomStrings
import Derived.OrdersHeld
import Derived.Tactics
import Derived.KernelRfl
import Derived.ProofKit
set_option linter.unusedVariables false
set_option linter.unusedSimpArgs false
namespace Go.Proofs.YtnohnnjeabehjaaGreatDoor
open Go.RowKit
def B (s : ByteArray) (k : Nat) : Int := ((s.data.toList.getD k 0).toNat : Int)
theorem B_bd (s : ByteArray) (k : Nat) : 0 <= B s k /\ B s k < 256 := by
 have := UInt8.toNat_lt (s.data.toList.getD k 0); unfold B; omega
theorem B_eq (s : ByteArray) (k : Nat) (h : k < s.size) : (s[k].toNat : Int) = B s k := by
 have h' : k < s.data.toList.length := by cases s; exact h
 unfold B
 rw [List.getD_eq_getElem?_getD, List.getElem?_eq_getElem h', Option.getD_some]; rfl
section
variable {P : Program} (w : World)
@[go_sem high] theorem run_index_B (t : TypeId) (s : ByteArray) (k : IntKind) (i : Int) (h : P.underlying t = some .string) :
  (Instr.index t (.string s) (.int k i)).run P w =
   if 0 <= i /\ i < s.size then .ok (.int .u8 (B s i.toNat)) w
   else (boundsPanic k i s.size .index).run P w := by
 rw [run_index_string w t s k i h]
 split
 ·rename_i hi; rw [B_eq s i.toNat (by omega)]
 ·rfl
@[go_sem high] theorem empty_size (s : ByteArray) : s.toList.isEmpty = decide ((s.size : Int) < 1) := by
 rw [ByteArray.toList_eq]
 have : s.size = s.data.toList.length := by cases s; rfl
 rw [this]
 generalize s.data.toList = l
 cases l with
 | nil => rfl
 | cons x xs =>
  have : ¬ (((x :: xs : List UInt8).length : Int) < 1) := by rw [List.length_cons]; omega
  rw [decide_eq_false this]; rfl
@[go_sem] theorem wrap64_B (s : ByteArray) (k : Nat) : wrap64 (B s k) = B s k := IntWalk.wrap64_in _ (by have := B_bd s k; omega)
end
def Dr (w w' : World) : Prop := ∃ n, w' = w.drewN n
theorem Dr.refl (w : World) : Dr w w := ⟨0, rfl⟩
theorem Dr.mk (w : World) (n : Nat) : Dr w (w.drewN n) := ⟨n, rfl⟩
theorem Dr.trans {a b c : World} (h : Dr a b) (h' : Dr b c) : Dr a c := by
 obtain ⟨n, rfl⟩ := h; obtain ⟨m, rfl⟩ := h'; exact ⟨n + m, by simp [World.drewN, Nat.add_assoc]⟩
def str1 (a : Int) : ByteArray := ⟨#[UInt8.ofNat a.toNat]⟩
def str2 (a b : Int) : ByteArray := ⟨#[UInt8.ofNat a.toNat, UInt8.ofNat b.toNat]⟩
def str3 (a b c : Int) : ByteArray := ⟨#[UInt8.ofNat a.toNat, UInt8.ofNat b.toNat, UInt8.ofNat c.toNat]⟩
section
variable {P : Program} (w : World) (src dst e : TypeId) (hs : P.underlying src = some (.slice e)) (he : P.underlying e = some (.int .u8)) (hd : P.underlying dst = some .string) (n : Nat) (fr : Nat × Nat)
theorem run_strs (C : List Int) (b : Nat) (w' : World) (hs : P.underlying src = some (.slice e)) (he : P.underlying e = some (.int .u8)) (hd : P.underlying dst = some .string)
  (hb : w'.heap[b]? = some (.cells (C.map (Value.int .u8)).toArray e fr)) :
  (convert src dst (.slice (some ⟨b, 0, none⟩) C.length n)).run P w' = .ok (.string (strOfNums C)) w' := by
 refine run_convert_bytes_arg w' src e hs he b 0 C.length n C rfl (fun i hi => ?_) dst hd
 unfold World.cell?
 rw [hb]
 simp only [Nat.zero_add, List.getElem?_toArray, List.getElem?_map, List.getElem?_eq_getElem hi, List.getD_eq_getElem?_getD, Option.getD_some]
 rfl
include hs he hd
@[go_sem high] theorem run_str1 (a : Int) (b : Nat) (hb : w.heap.size = b) :
  (convert src dst (.slice (some ⟨b, 0, none⟩) 1 n)).run P (w.alloc (.cells #[.int .u8 a] e fr)) = .ok (.string (str1 a)) (w.alloc (.cells #[.int .u8 a] e fr)) :=
 run_strs src dst e n fr [a] b _ hs he hd (by rw [← hb]; exact (MapKept.heap_alloc w _).1)
@[go_sem high] theorem run_str2 (a c : Int) (b : Nat) (hb : w.heap.size = b) :
  (convert src dst (.slice (some ⟨b, 0, none⟩) 2 n)).run P (w.alloc (.cells #[.int .u8 a, .int .u8 c] e fr)) = .ok (.string (str2 a c)) (w.alloc (.cells #[.int .u8 a, .int .u8 c] e fr)) :=
 run_strs src dst e n fr [a, c] b _ hs he hd (by rw [← hb]; exact (MapKept.heap_alloc w _).1)
@[go_sem high] theorem run_str3 (a c d : Int) (b : Nat) (hb : w.heap.size = b) :
  (convert src dst (.slice (some ⟨b, 0, none⟩) 3 n)).run P (w.alloc (.cells #[.int .u8 a, .int .u8 c, .int .u8 d] e fr)) = .ok (.string (str3 a c d)) (w.alloc (.cells #[.int .u8 a, .int .u8 c, .int .u8 d] e fr)) :=
 run_strs src dst e n fr [a, c, d] b _ hs he hd (by rw [← hb]; exact (MapKept.heap_alloc w _).1)
@[go_sem high] theorem run_str1d (a : Int) (b : Nat) (hb : w.heap.size = b) :
  (convert src dst (.slice (some ⟨b, 0, none⟩) 1 n)).run P (w.alloc (.cells #[.int .u8 a] e fr)).drew = .ok (.string (str1 a)) (w.alloc (.cells #[.int .u8 a] e fr)).drew :=
 run_strs src dst e n fr [a] b _ hs he hd (by rw [← hb]; exact (MapKept.heap_alloc w _).1)
@[go_sem high] theorem run_str1n (a : Int) (b m : Nat) (hb : w.heap.size = b) :
  (convert src dst (.slice (some ⟨b, 0, none⟩) 1 n)).run P ((w.alloc (.cells #[.int .u8 a] e fr)).drewN m) = .ok (.string (str1 a)) ((w.alloc (.cells #[.int .u8 a] e fr)).drewN m) :=
 run_strs src dst e n fr [a] b _ hs he hd (by rw [← hb]; exact (MapKept.heap_alloc w _).1)
end
def Ext (w w' : World) : Prop := Below w.heap.size w w'
theorem Ext.refl (w : World) : Ext w w := Below.refl _ _
theorem Ext.size {a b : World} (h : Ext a b) : a.heap.size <= b.heap.size := Below.size h
theorem Ext.trans {a b c : World} (h : Ext a b) (k : Ext b c) : Ext a c := Below.trans h (Below.mono k h.size)
theorem Ext.alloc {a w : World} (h : Ext a w) (o : Obj) : Ext a (w.alloc o) := Below.alloc h h.size o
theorem Ext.drew {a w : World} (h : Ext a w) : Ext a w.drew := Below.drew h
theorem Ext.drewN {a w : World} (h : Ext a w) (n : Nat) : Ext a (w.drewN n) := below_drewN h n
theorem Ext.dr {a w w' : World} (h : Ext a w) (k : Dr w w') : Ext a w' := by obtain ⟨n, rfl⟩ := k; exact h.drewN n
theorem Ext.setCell {a w : World} (h : Ext a w) {p : Addr} (hp : a.heap.size <= p.block) (u : Value) : Ext a (w.setCell p u) := Below.setCell h hp u
theorem Ext.cell {w w' : World} (h : Ext w w') {p : Addr} (hp : p.block < w.heap.size) : w'.cell? p = w.cell? p := Below.cell h hp
theorem Dr.ext {w w' : World} (h : Dr w w') : Ext w w' := (Ext.refl w).dr h
@[go_sem] theorem size_str1 (a : Int) : (str1 a).size = 1 := rfl
@[go_sem] theorem size_str2 (a b : Int) : (str2 a b).size = 2 := rfl
@[go_sem] theorem size_str3 (a b c : Int) : (str3 a b c).size = 3 := rfl
theorem cut_bd (c m : Int) (h1 : 0 < m) (h2 : m <= 9223372036854775807) : 0 <= wrap64 ((IntKind.u64.wrap c).tmod m) /\ wrap64 ((IntKind.u64.wrap c).tmod m) < m := by
 have hu : IntKind.u64.wrap c = c % 18446744073709551616 := by rw [IntKind.wrap_u64]
 have h0 : 0 <= IntKind.u64.wrap c := by rw [hu]; omega
 rw [Int.tmod_eq_emod_of_nonneg h0]
 have a := Int.emod_nonneg (IntKind.u64.wrap c) (show m ≠ 0 by omega)
 have b := Int.emod_lt_of_pos (IntKind.u64.wrap c) h1
 rw [IntWalk.wrap64_in _ (by omega)]
 exact ⟨a, b⟩
theorem extract_le (s : ByteArray) (a b : Nat) : (s.extract a b).size <= s.size := by
 rw [ByteArray.size_extract]; omega
theorem vint {k : IntKind} {a b : Int} (h : a = b) : Value.int k a = Value.int k b := by rw [h]
theorem BA_ext {a b : ByteArray} (h : a.data.toList = b.data.toList) : a = b := by
 cases a with
 | mk x => cases b with
  | mk y => simp at h; rw [h]
theorem size_list (s : ByteArray) : s.size = s.data.toList.length := by cases s; rfl
theorem data_append (a b : ByteArray) : (a ++ b).data.toList = a.data.toList ++ b.data.toList := by simp
theorem data_extract (s : ByteArray) (a b : Nat) : (s.extract a b).data.toList = (s.data.toList.take b).drop a := by
 rw [ByteArray.data_extract]; simp [List.drop_take]
theorem B_append_left (a b : ByteArray) (i : Nat) (h : i < a.size) : B (a ++ b) i = B a i := by
 rw [size_list] at h
 unfold B; rw [data_append, List.getD_eq_getElem?_getD, List.getElem?_append_left h, ← List.getD_eq_getElem?_getD]
theorem B_append_right (a b : ByteArray) (i : Nat) (h : a.size <= i) : B (a ++ b) i = B b (i - a.size) := by
 rw [size_list] at *
 unfold B; rw [data_append, List.getD_eq_getElem?_getD, List.getElem?_append_right h, ← List.getD_eq_getElem?_getD]
theorem B_extract (s : ByteArray) (a b i : Nat) (h : a + i < b) : B (s.extract a b) i = B s (a + i) := by
 unfold B; rw [data_extract, List.getD_eq_getElem?_getD, List.getElem?_drop, List.getElem?_take, if_pos h, ← List.getD_eq_getElem?_getD]
theorem u8_back {a : Int} (h0 : 0 <= a) (h1 : a < 256) : ((UInt8.ofNat a.toNat).toNat : Int) = a := by
 rw [UInt8.toNat_ofNat_of_lt' (by show _ < 256; omega)]; omega
theorem B_str2_0 {a : Int} (b : Int) (h0 : 0 <= a) (h1 : a < 256) : B (str2 a b) 0 = a := u8_back h0 h1
theorem B_str2_1 (a : Int) {b : Int} (h0 : 0 <= b) (h1 : b < 256) : B (str2 a b) 1 = b := u8_back h0 h1
theorem size_app (a b : ByteArray) : (a ++ b).size = a.size + b.size := ByteArray.size_append'  a b
theorem size_max {s : ByteArray} (h : s.size <= maxLen) : s.size <= 9223372036854775807 := h
theorem aput (l : List Value) (d : List Deferred) (i : Nat) (v : Value) : Act.put ⟨l.toArray, d⟩ (some i) v = ⟨(l.set i v).toArray, d⟩ := by simp [Act.put]
structure Yld where
 pv : Option Value
 V : Value -> World -> Prop
def Yld.val (v : Value) : Yld := ⟨some v, fun u _ => u = v⟩
def Yld.rel (V : Value -> World -> Prop) : Yld := ⟨none, V⟩
structure Yld.ok (s : Yld) : Prop where
 stay : ∀ u w w', s.V u w -> Ext w w' -> s.V u w'
 pure : ∀ v u w, s.pv = some v -> s.V u w -> u = v
theorem Yld.val_ok (v : Value) : (Yld.val v).ok := ⟨fun u w w' h _ => h, fun x u w h k => by cases h; exact k⟩
theorem Yld.rel_ok {V : Value -> World -> Prop} (h : ∀ u w w', V u w -> Ext w w' -> V u w') : (Yld.rel V).ok := ⟨h, fun x u w h _ => by cases h⟩
def Yld.at (s : Yld) (x : Value) : Value := s.pv.getD x
theorem Yld.at_eq {s : Yld} (h : s.ok) {x : Value} {w : World} (hx : s.V x w) : s.at x = x := by
 unfold Yld.at
 cases hp : s.pv with
 | none => rfl
 | some v => exact (h.pure v x w hp hx).symm
def holdsAt (plan : List Yld) (u : Nat -> Value) (w : World) : List Nat -> Prop
 | [] => True
 | j :: js => (match plan[j]? with
  | some ⟨none, V⟩ => V (u j) w
  | _ => True) /\ holdsAt plan u w js
theorem holdsAt_weak {p q : List Yld} {u : Nat -> Value} {w : World} : ∀ {js : List Nat}, holdsAt (p ++ q) u w js -> holdsAt p u w js
 | [], _ => trivial
 | j :: js, h => by
  refine ⟨?_, holdsAt_weak h.2⟩
  have h1 := h.1
  rcases Nat.lt_or_ge j p.length with hj | hj
  ·rw [List.getElem?_append_left hj] at h1; exact h1
  ·rw [List.getElem?_eq_none hj]; trivial
theorem holdsAt_all {p : List Yld} {u : Nat -> Value} {w : World} : ∀ {js : List Nat}, (∀ j ∈ js, ∀ s, p[j]? = some s -> s.V (u j) w) -> holdsAt p u w js
 | [], _ => trivial
 | j :: js, h => by
  refine ⟨?_, holdsAt_all fun i hi => h i (by simp [hi])⟩
  have := h j (by simp)
  split
  ·rename_i V e; exact this _ e
  ·trivial
def depsOf (md : Region.Mode) (o : Oper) : List Nat := (o.after.toList.filter (Region.binds md)).map (·.on)
theorem mem_deps {md : Region.Mode} {o : Oper} {j : Nat} : j ∈ depsOf md o ↔ ∃ e ∈ o.after, Region.binds md e = true /\ e.on = j := by
 unfold depsOf
 simp only [List.mem_map, List.mem_filter, Array.mem_toList_iff]
 exact ⟨fun ⟨e, ⟨h1, h2⟩, h3⟩ => ⟨e, h1, h2, h3⟩, fun ⟨e, h1, h2, h3⟩ => ⟨e, ⟨h1, h2⟩, h3⟩⟩
def OutV (P : Program) (w : World) (V : Value -> World -> Prop) : Result Next -> Prop
 | .ok (.value u) w' => Ext w w' /\ V u w'
 | .ok (.enter f args) w' => Ext w w' /\ Calls P f args w' fun e w'' => ∃ u, e = .returned u /\ Ext w' w'' /\ V u w''
 | .ok (.row row args) w' => Ext w w' /\ Rows P row args w' fun u w'' => Ext w' w'' /\ V u w''
 | _ => False
def OutOp (P : Program) (ops : Array Oper) (V : Value -> World -> Prop) (o : Oper) (a : Act) (w : World) : Prop :=
 (Region.wanted o (yielded ops a.tmps) = true /\ OutV P w V ((execOp a.eval o).run P w)) ∨ (Region.wanted o (yielded ops a.tmps) = false /\ V undef w)
def goV (P : Program) (ops : Array Oper) (Q : Exit -> Act -> World -> Prop) (md : Region.Mode) (w0 : World) : List Oper -> Nat -> List Yld -> ((Nat -> Value) -> Act) -> Prop
 | [], i, plan, A => ∀ u w, Ext w0 w -> holdsAt plan u w (List.range i) -> Q .normal (A u) w
 | o :: rest, i, plan, A => ∃ s : Yld, s.ok /\ (∀ u w, Ext w0 w -> holdsAt plan u w (depsOf md o) -> OutOp P ops s.V o (A u) w) /\
   goV P ops Q md w0 rest (i + 1) (plan ++ [s]) (fun u => (A u).put o.dst (s.at (u i)))
def canon (u : Nat -> Value) : List Oper -> List Yld -> Nat -> Act -> Act
 | o :: l, s :: ss, i, a => canon u l ss (i + 1) (a.put o.dst (s.at (u i)))
 | _, _, _, a => a
theorem canon_snoc (u : Nat -> Value) (o : Oper) (s : Yld) : ∀ (l : List Oper) (ss : List Yld) (i : Nat) (a : Act), l.length = ss.length -> canon u (l ++ [o]) (ss ++ [s]) i a = (canon u l ss i a).put o.dst (s.at (u (i + l.length)))
 | [], [], i, a, _ => rfl
 | [], _ :: _, _, _, h => by simp at h
 | _ :: _, [], _, _, h => by simp at h
 | x :: l, y :: ss, i, a, h => by
  rw [List.cons_append, List.cons_append, canon, canon, canon_snoc u o s l ss (i + 1) _ (by simpa using h), List.length_cons, show i + 1 + l.length = i + (l.length + 1) by omega]
section
variable {P : Program} {ops : Array Oper} {Q : Exit -> Act -> World -> Prop} {md : Region.Mode} {w0 : World}
theorem goV_spec : ∀ (l : List Oper) (i : Nat) (plan : List Yld) (A : (Nat -> Value) -> Act), goV P ops Q md w0 l i plan A -> ∃ ss : List Yld, ss.length = l.length /\ (∀ s ∈ ss, s.ok) /\
  (∀ (k : Nat) (o : Oper) (s : Yld), l[k]? = some o -> ss[k]? = some s -> ∀ u w, Ext w0 w -> holdsAt (plan ++ ss) u w (depsOf md o) -> OutOp P ops s.V o (canon u (l.take k) (ss.take k) i (A u)) w) /\
  (∀ u w, Ext w0 w -> holdsAt (plan ++ ss) u w (List.range (i + l.length)) -> Q .normal (canon u l ss i (A u)) w)
 | [], i, plan, A, h => by
  refine ⟨[], rfl, fun s hs => (by cases hs), fun k o s hk => (by simp at hk), fun u w hw hh => ?_⟩
  rw [List.append_nil] at hh
  exact h u w hw hh
 | o :: l, i, plan, A, h => by
  obtain ⟨s, hs, h1, h2⟩ := h
  obtain ⟨ss, e1, e2, e3, e4⟩ := goV_spec l (i + 1) (plan ++ [s]) _ h2
  have ea : plan ++ s :: ss = plan ++ [s] ++ ss := by simp
  refine ⟨s :: ss, by simp [e1], fun x hx => ?_, fun k o' s' hk hk' u w hw hh => ?_, fun u w hw hh => ?_⟩
  ·rcases List.mem_cons.1 hx with rfl | hx
   ·exact hs
   ·exact e2 x hx
  ·cases k with
   | zero =>
    simp only [List.getElem?_cons_zero, Option.some.injEq] at hk hk'
    subst hk hk'
    exact h1 u w hw (holdsAt_weak hh)
   | succ k =>
    rw [List.getElem?_cons_succ] at hk hk'
    rw [ea] at hh
    exact e3 k o' s' hk hk' u w hw hh
  ·rw [ea, show i + (o :: l).length = i + 1 + l.length by rw [List.length_cons]; omega] at hh
   exact e4 u w hw hh
def Rep (l : List Oper) (sel : Nat -> Option Value) (a0 a : Act) : Prop :=
 a.defers = a0.defers /\ a.tmps.size = a0.tmps.size /\
 ∀ d, (∃ j o v, l[j]? = some o /\ o.dst = some d /\ sel j = some v /\ a.tmps[d]? = if d < a0.tmps.size then some v else none) ∨
  ((∀ j o, l[j]? = some o -> o.dst = some d -> sel j = none) /\ a.tmps[d]? = a0.tmps[d]?)
theorem Rep.refl (l : List Oper) (a0 : Act) {sel : Nat -> Option Value} (h : ∀ j o, l[j]? = some o -> sel j = none) : Rep l sel a0 a0 := ⟨rfl, rfl, fun d => .inr ⟨fun j o hj _ => h j o hj, rfl⟩⟩
theorem Rep.put {l : List Oper} {sel sel' : Nat -> Option Value} {a0 a : Act} (h : Rep l sel a0 a) {i : Nat} {o : Oper} (hi : l[i]? = some o) (v : Value)
  (h1 : sel' i = some v) (h2 : ∀ j, j ≠ i -> sel' j = sel j) : Rep l sel' a0 (a.put o.dst v) := by
 obtain ⟨r1, r2, r3⟩ := h
 cases hd : o.dst with
 | none =>
  refine ⟨r1, r2, fun d => ?_⟩
  rcases r3 d with ⟨j, p, x, k1, k2, k3, k4⟩ | ⟨k1, k2⟩
  ·exact .inl ⟨j, p, x, k1, k2, by rw [h2 j (fun e => by subst e; rw [hi] at k1; cases k1; rw [hd] at k2; cases k2)]; exact k3, k4⟩
  ·exact .inr ⟨fun j p hj hp => by rw [h2 j (fun e => by subst e; rw [hi] at hj; cases hj; rw [hd] at hp; cases hp)]; exact k1 j p hj hp, k2⟩
 | some e =>
  refine ⟨r1, by simpa [Act.put] using r2, fun d => ?_⟩
  by_cases hde : d = e
  ·subst hde
   refine .inl ⟨i, o, v, hi, hd, h1, ?_⟩
   simp only [Act.put, Array.getElem?_setIfInBounds, if_true, r2]
  ·have e1 : (a.put (some e) v).tmps[d]? = a.tmps[d]? := by simp only [Act.put, Array.getElem?_setIfInBounds_ne (Ne.symm hde)]
   rw [e1]
   rcases r3 d with ⟨j, p, x, k1, k2, k3, k4⟩ | ⟨k1, k2⟩
   ·exact .inl ⟨j, p, x, k1, k2, by rw [h2 j (fun q => by subst q; rw [hi] at k1; cases k1; rw [hd] at k2; cases k2; exact hde rfl)]; exact k3, k4⟩
   ·exact .inr ⟨fun j p hj hp => by rw [h2 j (fun q => by subst q; rw [hi] at hj; cases hj; rw [hd] at hp; cases hp; exact hde rfl)]; exact k1 j p hj hp, k2⟩
theorem Rep.eq {l : List Oper} {sel sel' : Nat -> Option Value} {a0 a a' : Act} (hdist : ∀ (i j : Nat) (o p : Oper) (d : Tmp), l[i]? = some o -> l[j]? = some p -> o.dst = some d -> p.dst = some d -> i = j)
  (h : Rep l sel a0 a) (h' : Rep l sel' a0 a') (d : Nat) (hs : ∀ j o, l[j]? = some o -> o.dst = some d -> sel j = sel' j) : a.tmps[d]? = a'.tmps[d]? := by
 rcases h.2.2 d with ⟨j, p, x, k1, k2, k3, k4⟩ | ⟨k1, k2⟩
 ·rcases h'.2.2 d with ⟨j', p', x', k1', k2', k3', k4'⟩ | ⟨k1', k2'⟩
  ·obtain rfl := hdist j j' p p' d k1 k1' k2 k2'
   rw [hs j p k1 k2, k3'] at k3
   cases k3
   rw [k4, k4']
  ·have := k1' j p k1 k2
   rw [← hs j p k1 k2, k3] at this; cases this
 ·rcases h'.2.2 d with ⟨j', p', x', k1', k2', k3', k4'⟩ | ⟨k1', k2'⟩
  ·have := k1 j' p' k1' k2'
   rw [hs j' p' k1' k2', k3'] at this; cases this
  ·rw [k2, k2']
theorem exec_same {o : Oper} (hs : ∀ cs b, o.op ≠ .select cs b) {a a' : Act} (h : ∀ d ∈ o.looksAt ops, a.tmps[d]? = a'.tmps[d]?) : execOp a.eval o = execOp a'.eval o :=
 execOp_congr o hs fun x hx => by
  cases x with
  | tmp t =>
   have := h t (List.mem_append_left _ (List.mem_filterMap.2 ⟨.tmp t, by simpa using hx, rfl⟩))
   simp [Act.eval, this]
  | _ => rfl
theorem wanted_same {o : Oper} {a a' : Act} (h : ∀ d ∈ o.looksAt ops, a.tmps[d]? = a'.tmps[d]?) : Region.wanted o (yielded ops a.tmps) = Region.wanted o (yielded ops a'.tmps) := by
 unfold Region.wanted
 cases hg : o.guard with
 | none => rfl
 | some gw =>
  obtain ⟨g, want⟩ := gw
  have hy : yielded ops a.tmps g = yielded ops a'.tmps g := by
   unfold yielded
   cases ht : (ops[g]?).bind (·.dst) with
   | none => rfl
   | some t =>
    have := h t (by simp [Oper.looksAt, hg, ht])
    simp [this]
  simp only [hy]
theorem OutOp.wpOp {V : Value -> World -> Prop} {i : Nat} {o : Oper} {a : Act} {w : World} (hi : ops[i]? = some o) (h : OutOp P ops V o a w) {K : Act -> World -> Prop}
  (k : ∀ u w', Ext w w' -> V u w' -> K (a.put o.dst u) w') : wpOp P ops Q i K a w := by
 unfold Go.wpOp
 simp only [hi]
 rcases h with ⟨hw, hv⟩ | ⟨hw, hv⟩
 ·simp only [hw, if_true, Oper.wp]
  left
  generalize (execOp a.eval o).run P w = r at *
  unfold OutV at hv
  split at hv
  ·exact k _ _ hv.1 hv.2
  ·exact Calls.mono hv.2 fun e w'' he => by
    obtain ⟨u, rfl, h1, h2⟩ := he
    exact k _ _ (hv.1.trans h1) h2
  ·exact Rows.mono hv.2 fun u w'' he => k _ _ (hv.1.trans he.1) he.2
  ·exact hv.elim
 ·simp only [hw, Bool.false_eq_true, if_false]; exact k _ _ (Ext.refl _) hv
theorem countP_lt {p q : Nat -> Bool} {i : Nat} (hp : p i = true) (hq : q i = false) (h : ∀ j, q j = true -> p j = true) : ∀ {l : List Nat}, i ∈ l -> l.countP q < l.countP p
 | [], hi => by cases hi
 | x :: l, hi => by
  have hle : l.countP q <= l.countP p := List.countP_mono_left fun j _ hj => h j hj
  by_cases hx : x = i
  ·subst hx
   rw [List.countP_cons_of_pos hp, List.countP_cons_of_neg (by simp [hq])]; omega
  ·have := countP_lt hp hq h (l := l) ((List.mem_cons.1 hi).resolve_left (fun e => hx e.symm))
   simp only [List.countP_cons]
   cases hqx : q x with
   | true => simp [h x hqx]; exact this
   | false => cases p x <;> simp <;> omega
def rgOK (md : Region.Mode) (l : List Oper) : Bool :=
 Region.noSelect l.toArray && (List.range l.length).all fun i => match l[i]? with
  | none => true
  | some o => (depsOf md o).all (fun j => decide (j < i)) && (List.range l.length).all fun j => i == j || match l[j]? with
   | none => true
   | some p => match p.dst with
    | none => true
    | some d => o.dst != some d && (!(o.looksAt l.toArray).contains d || (depsOf md o).contains j || (depsOf md p).contains i)
theorem rgOK_spec {l : List Oper} (h : rgOK md l = true) : (∀ (i j : Nat) (o p : Oper) (d : Tmp), l[i]? = some o -> l[j]? = some p -> o.dst = some d -> p.dst = some d -> i = j) /\ (∀ (i : Nat) (o : Oper), l[i]? = some o -> ∀ j ∈ depsOf md o, j < i) /\
  (∀ (i j : Nat) (o p : Oper) (d : Tmp), l[i]? = some o -> l[j]? = some p -> p.dst = some d -> d ∈ o.looksAt l.toArray -> i = j ∨ j ∈ depsOf md o ∨ i ∈ depsOf md p) := by
 unfold rgOK at h
 rw [Bool.and_eq_true, List.all_eq_true] at h
 have hh : ∀ (i : Nat) (o : Oper), l[i]? = some o -> (∀ j ∈ depsOf md o, j < i) /\ ∀ (j : Nat) (p : Oper) (d : Tmp), l[j]? = some p -> p.dst = some d -> i = j ∨ (o.dst ≠ some d /\ (d ∉ o.looksAt l.toArray ∨ j ∈ depsOf md o ∨ i ∈ depsOf md p)) := by
  intro i o hi
  have := h.2 i (List.mem_range.2 (List.getElem?_eq_some_iff.1 hi).1)
  rw [hi] at this
  simp only [Bool.and_eq_true, List.all_eq_true, decide_eq_true_eq] at this
  refine ⟨this.1, fun j p d hj hd => ?_⟩
  have h2 := this.2 j (List.mem_range.2 (List.getElem?_eq_some_iff.1 hj).1)
  rw [hj] at h2
  simp only [hd, Bool.or_eq_true, beq_iff_eq, Bool.and_eq_true, bne_iff_ne, Bool.not_eq_true', List.contains_eq_mem, decide_eq_true_eq, decide_eq_false_iff_not] at h2
  rcases h2 with h2 | ⟨h2, h3⟩
  ·exact .inl h2
  ·refine .inr ⟨h2, ?_⟩
   rcases h3 with (h3 | h3) | h3
   ·exact .inl h3
   ·exact .inr (.inl h3)
   ·exact .inr (.inr h3)
 refine ⟨fun i j o p d hi hj ho hp => ?_, fun i o hi => (hh i o hi).1, fun i j o p d hi hj hp hd => ?_⟩
 ·rcases (hh i o hi).2 j p d hj hp with e | ⟨e, _⟩
  ·exact e
  ·exact absurd ho e
 ·rcases (hh i o hi).2 j p d hj hp with e | ⟨_, e | e⟩
  ·exact .inl e
  ·exact absurd hd e
  ·exact .inr e
theorem canon_rep {l : List Oper} {ss : List Yld} (hl : ss.length = l.length) (u : Nat -> Value) (a0 : Act) : ∀ k, k <= l.length ->
  Rep l (fun j => if j < k then (ss[j]?).map (·.at (u j)) else none) a0 (canon u (l.take k) (ss.take k) 0 a0)
 | 0, _ => by
  refine Rep.refl _ _ fun j o _ => ?_
  simp
 | k + 1, hk => by
  have ih := canon_rep hl u a0 k (by omega)
  have e1 : l.take (k + 1) = l.take k ++ [l[k]'(by omega)] := by rw [List.take_add_one, List.getElem?_eq_getElem (by omega)]; rfl
  have e2 : ss.take (k + 1) = ss.take k ++ [ss[k]'(by omega)] := by rw [List.take_add_one, List.getElem?_eq_getElem (by omega)]; rfl
  rw [e1, e2, canon_snoc u _ _ _ _ _ _ (by simp; omega)]
  have e3 : 0 + (l.take k).length = k := by simp; omega
  rw [e3]
  refine ih.put (i := k) (List.getElem?_eq_getElem (by omega)) _ ?_ fun j hj => ?_
  ·rw [if_pos (by omega), List.getElem?_eq_getElem (by omega)]; rfl
  ·by_cases h : j < k
   ·rw [if_pos h, if_pos (by omega)]
   ·rw [if_neg h, if_neg (by omega)]
theorem getD_set {listed : Array Bool} {i j : Nat} (hi : i < listed.size) : (listed.setIfInBounds i true).getD j false = if j = i then true else listed.getD j false := by
 rw [Array.getD_eq_getD_getElem?, Array.getElem?_setIfInBounds, Array.getD_eq_getD_getElem?]
 by_cases h : i = j
 ·subst h; simp [hi]
 ·rw [if_neg h, if_neg (fun e => h e.symm)]
theorem wpAny_rg {l : List Oper} (hops : ops = l.toArray) {a0 : Act} (hok : rgOK md l = true) {ss : List Yld} (hl : ss.length = l.length) (hss : ∀ s ∈ ss, s.ok)
  (hob : ∀ (k : Nat) (o : Oper) (s : Yld), l[k]? = some o -> ss[k]? = some s -> ∀ u w, Ext w0 w -> holdsAt ss u w (depsOf md o) -> OutOp P ops s.V o (canon u (l.take k) (ss.take k) 0 a0) w)
  (hend : ∀ u w, Ext w0 w -> holdsAt ss u w (List.range l.length) -> Q .normal (canon u l ss 0 a0) w) :
  ∀ (fuel : Nat) (listed : Array Bool) (a : Act) (w : World), listed.size = l.length -> (List.range l.length).countP (fun j => !listed.getD j false) <= fuel -> Ext w0 w ->
   (∀ j o, l[j]? = some o -> listed.getD j false = true -> ∀ k ∈ depsOf md o, listed.getD k false = true) ->
   (∃ u : Nat -> Value, Rep l (fun j => if listed.getD j false = true then some (u j) else none) a0 a /\ ∀ j s, ss[j]? = some s -> listed.getD j false = true -> s.V (u j) w) -> wpAny P md ops Q fuel listed a w := by
 obtain ⟨hdist, htop, hlook⟩ := rgOK_spec hok
 have hns : ∀ (j : Nat) (o : Oper) cs b, ops[j]? = some o -> o.op ≠ .select cs b := by
  unfold rgOK at hok
  rw [Bool.and_eq_true] at hok
  rw [hops]
  exact Region.noSelect_spec hok.1
 have hget : ∀ j, ops[j]? = l[j]? := fun j => by rw [hops, List.getElem?_toArray]
 have done : ∀ (listed : Array Bool) (a : Act) (w : World), listed.size = l.length -> Region.ready md ops listed = [] -> Ext w0 w ->
   (∃ u : Nat -> Value, Rep l (fun j => if listed.getD j false = true then some (u j) else none) a0 a /\ ∀ j s, ss[j]? = some s -> listed.getD j false = true -> s.V (u j) w) -> Q .normal a w := by
  intro listed a w hsz hr hw ⟨u, hrep, hV⟩
  have hall : ∀ j, j < l.length -> listed.getD j false = true := by
   intro j
   induction j using Nat.strongRecOn with
   | _ j ih =>
    intro hj
    cases hlj : listed.getD j false with
    | true => rfl
    | false =>
     have : j ∈ Region.ready md ops listed := mem_ready.2 ⟨by
      rw [Array.getD_eq_getD_getElem?, Array.getElem?_eq_getElem (by omega)] at hlj ⊢
      exact hlj, l[j], by rw [hget, List.getElem?_eq_getElem hj], fun e he hb => by
      have hlt := htop j l[j] (List.getElem?_eq_getElem hj) e.on (mem_deps.2 ⟨e, he, hb, rfl⟩)
      exact ih e.on hlt (by omega)⟩
     rw [hr] at this; cases this
  have hc := canon_rep hl u a0 l.length (Nat.le_refl _)
  rw [List.take_length, ← hl, List.take_length] at hc
  have hat : ∀ j s, ss[j]? = some s -> s.at (u j) = u j := fun j s hs => by
   have hj : j < l.length := by rw [← hl]; exact (List.getElem?_eq_some_iff.1 hs).1
   exact Yld.at_eq (hss s (List.mem_of_getElem? hs)) (hV j s hs (hall j hj))
  have ea : a = canon u l ss 0 a0 := by
   have et : a.tmps = (canon u l ss 0 a0).tmps := by
    apply Array.ext_getElem?
    intro d
    refine Rep.eq hdist hrep hc d fun j o hj ho => ?_
    have hjl : j < l.length := (List.getElem?_eq_some_iff.1 hj).1
    rw [if_pos (hall j hjl), if_pos (by omega)]
    have hs : ss[j]? = some (ss[j]'(by omega)) := List.getElem?_eq_getElem (by omega)
    rw [hs, Option.map_some, hat j _ hs]
   have ed : a.defers = (canon u l ss 0 a0).defers := by rw [hrep.1, hc.1]
   generalize canon u l ss 0 a0 = c at *
   cases a; cases c
   simp only at et ed
   subst et ed; rfl
  rw [ea]
  refine hend u w hw (holdsAt_all fun j hj s hs => hV j s hs (hall j (List.mem_range.1 hj)))
 intro fuel
 induction fuel with
 | zero =>
  intro listed a w hsz hcnt hw hcl hu
  have hr : Region.ready md ops listed = [] := by
   cases hr : Region.ready md ops listed with
   | nil => rfl
   | cons j js =>
    have hj : j ∈ Region.ready md ops listed := by rw [hr]; simp
    obtain ⟨h1, o, h2, _⟩ := mem_ready.1 hj
    rw [hget] at h2
    have hjl : j < l.length := (List.getElem?_eq_some_iff.1 h2).1
    have := (List.countP_pos_iff (p := fun j => !listed.getD j false) (l := List.range l.length)).2 ⟨j, List.mem_range.2 hjl, by
     rw [Array.getD_eq_getD_getElem?, Array.getElem?_eq_getElem (by omega)] at h1 ⊢
     simpa using h1⟩
    omega
  exact ⟨hr, done listed a w hsz hr hw hu⟩
 | succ fuel ih =>
  intro listed a w hsz hcnt hw hcl hu
  refine ⟨fun hr => done listed a w hsz hr hw hu, fun i hi => ?_⟩
  obtain ⟨u, hrep, hV⟩ := hu
  obtain ⟨hun, o, ho, hdeps⟩ := mem_ready.1 hi
  have hol : l[i]? = some o := by rw [← hget]; exact ho
  have hil : i < l.length := (List.getElem?_eq_some_iff.1 hol).1
  have hun' : listed.getD i false = false := by
   rw [Array.getD_eq_getD_getElem?, Array.getElem?_eq_getElem (by omega)] at hun ⊢
   exact hun
  have hs : ss[i]? = some (ss[i]'(by omega)) := List.getElem?_eq_getElem (by omega)
  have hd : ∀ j ∈ depsOf md o, listed.getD j false = true := fun j hj => by
   obtain ⟨e, he, hb, rfl⟩ := mem_deps.1 hj
   exact hdeps e he hb
  have h1 := hob i o _ hol hs u w hw (holdsAt_all fun j hj s hsj => hV j s hsj (hd j hj))
  have hc := canon_rep hl u a0 i (Nat.le_of_lt hil)
  have hagree : ∀ d ∈ o.looksAt ops, a.tmps[d]? = (canon u (l.take i) (ss.take i) 0 a0).tmps[d]? := fun d hdl => by
   refine Rep.eq hdist hrep hc d fun j p hj hp => ?_
   have hjl : j < l.length := (List.getElem?_eq_some_iff.1 hj).1
   rw [hops] at hdl
   rcases hlook i j o p d hol hj hp hdl with rfl | hji | hij
   ·rw [if_neg (by rw [hun']; simp), if_neg (by omega)]
   ·have hsj : ss[j]? = some (ss[j]'(by omega)) := List.getElem?_eq_getElem (by omega)
    rw [if_pos (hd j hji), if_pos (htop i o hol j hji), hsj, Option.map_some, Yld.at_eq (hss _ (List.getElem_mem _)) (hV j _ hsj (hd j hji))]
   ·have hlt := htop j p hj i hij
    have : listed.getD j false = false := by
     cases hlj : listed.getD j false with
     | false => rfl
     | true => have := hcl j p hj hlj i hij; rw [hun'] at this; cases this
    rw [if_neg (by rw [this]; simp), if_neg (by omega)]
  have h2 : OutOp P ops (ss[i]'(by omega)).V o a w := by
   unfold OutOp at h1 ⊢
   rw [wanted_same hagree, exec_same (hns i o · · ho) hagree]
   exact h1
  refine h2.wpOp ho fun x w' hx hv => ih _ _ _ (by simpa using hsz) ?_ (hw.trans hx) (fun j p hj hlj k hk => ?_) ⟨fun j => if j = i then x else u j, ?_, fun j s hsj hlj => ?_⟩
  ·have hlt := countP_lt (p := fun j => !listed.getD j false) (q := fun j => !(listed.setIfInBounds i true).getD j false) (i := i) (by rw [hun']; rfl) (by rw [getD_set (by omega)]; simp) (fun j hj => by
    rw [getD_set (by omega)] at hj
    by_cases e : j = i
    ·simp [e] at hj
    ·rw [if_neg e] at hj; exact hj) (List.mem_range.2 hil)
   omega
  ·rw [getD_set (by omega)] at hlj ⊢
   split
   ·rfl
   ·by_cases e : j = i
    ·subst e
     rw [hol] at hj; cases hj
     exact hd k hk
    ·rw [if_neg e] at hlj; exact hcl j p hj hlj k hk
  ·refine hrep.put hol x ?_ fun j hj => ?_
   ·simp only [getD_set (show i < listed.size by omega), if_true]
   ·simp only [getD_set (show i < listed.size by omega), if_neg hj]
  ·rw [getD_set (by omega)] at hlj
   by_cases e : j = i
   ·subst e
    rw [hs] at hsj; cases hsj
    simp only [if_true]; exact hv
   ·rw [if_neg e] at hlj
    simp only [if_neg e]
    exact (hss s (List.mem_of_getElem? hsj)).stay _ _ _ (hV j s hsj hlj) hx
theorem wp_region_rg {id : Nat} {l : List Oper} {a : Act} {w : World} (w0 : World) (hm : P.follows .mixedOrders = true) (hok : rgOK .any l = true) (hw : Ext w0 w)
  (h : goV P l.toArray Q .any w0 l 0 [] (fun _ => a)) : (Code.region id l.toArray true).wp P Q a w := by
 obtain ⟨ss, h1, h2, h3, h4⟩ := goV_spec l 0 [] _ h
 simp only [List.nil_append, Nat.zero_add] at h3 h4
 refine wp_region_any hm (wpAny_rg rfl hok h1 h2 h3 h4 _ _ _ _ (by simp) ?_ hw.drew (fun j o _ hj => ?_) ⟨fun _ => undef, ?_, fun j s _ hj => ?_⟩)
 ·refine Nat.le_trans List.countP_le_length ?_
  simp
 ·rw [Array.getD_eq_getD_getElem?, Array.getElem?_replicate] at hj
  split at hj <;> simp at hj
 ·refine Rep.refl _ _ fun j o _ => ?_
  simp only
  rw [if_neg]
  rw [Array.getD_eq_getD_getElem?, Array.getElem?_replicate]
  split <;> simp
 ·rw [Array.getD_eq_getD_getElem?, Array.getElem?_replicate] at hj
  split at hj <;> simp at hj
theorem goV_val {o : Oper} {rest : List Oper} {i : Nat} {plan : List Yld} {A : (Nat -> Value) -> Act} (v : Value) (hw : ∀ u, Region.wanted o (yielded ops (A u).tmps) = true)
  (h : ∀ u w, Ext w0 w -> holdsAt plan u w (depsOf md o) -> (execOp (A u).eval o).run P w = .ok (.value v) w) (k : goV P ops Q md w0 rest (i + 1) (plan ++ [.val v]) (fun u => (A u).put o.dst v)) : goV P ops Q md w0 (o :: rest) i plan A :=
 ⟨.val v, Yld.val_ok v, fun u w hx hh => .inl ⟨hw u, by rw [h u w hx hh]; exact ⟨Ext.refl _, rfl⟩⟩, k⟩
theorem goV_skip {o : Oper} {rest : List Oper} {i : Nat} {plan : List Yld} {A : (Nat -> Value) -> Act} (hw : ∀ u, Region.wanted o (yielded ops (A u).tmps) = false)
  (k : goV P ops Q md w0 rest (i + 1) (plan ++ [.val undef]) (fun u => (A u).put o.dst undef)) : goV P ops Q md w0 (o :: rest) i plan A :=
 ⟨.val undef, Yld.val_ok _, fun u w hx hh => .inr ⟨hw u, rfl⟩, k⟩
theorem goV_call {o : Oper} {rest : List Oper} {i : Nat} {plan : List Yld} {A : (Nat -> Value) -> Act} {f : FuncId} {args : Array Value} {v : Value} (hw : ∀ u, Region.wanted o (yielded ops (A u).tmps) = true)
  (hc : ∀ w, Ext w0 w -> Calls P f args w fun e w' => e = .returned v /\ Ext w w')
  (h : ∀ u w, Ext w0 w -> holdsAt plan u w (depsOf md o) -> (execOp (A u).eval o).run P w = .ok (.enter f args) w) (k : goV P ops Q md w0 rest (i + 1) (plan ++ [.val v]) (fun u => (A u).put o.dst v)) : goV P ops Q md w0 (o :: rest) i plan A :=
 ⟨.val v, Yld.val_ok v, fun u w hx hh => .inl ⟨hw u, by rw [h u w hx hh]; exact ⟨Ext.refl _, (hc w hx).mono fun e w' he => ⟨v, he.1, he.2, rfl⟩⟩⟩, k⟩
theorem goV_rel {o : Oper} {rest : List Oper} {i : Nat} {plan : List Yld} {A : (Nat -> Value) -> Act} (V : Value -> World -> Prop) (hV : ∀ u w w', V u w -> Ext w w' -> V u w') (hw : ∀ u, Region.wanted o (yielded ops (A u).tmps) = true)
  (h : ∀ u w, Ext w0 w -> holdsAt plan u w (depsOf md o) -> OutV P w V ((execOp (A u).eval o).run P w)) (k : goV P ops Q md w0 rest (i + 1) (plan ++ [.rel V]) (fun u => (A u).put o.dst (u i))) : goV P ops Q md w0 (o :: rest) i plan A :=
 ⟨.rel V, Yld.rel_ok hV, fun u w hx hh => .inl ⟨hw u, h u w hx hh⟩, k⟩
end
open Go.RowKit
def Blk (w : World) (b : Nat) (cs : List Value) (t : TypeId) : Prop := w.heap[b]? = some (.cells cs.toArray t (0, 0))
theorem Blk.lt {w : World} {b : Nat} {cs : List Value} {t : TypeId} (h : Blk w b cs t) : b < w.heap.size := by
 unfold Blk at h
 rcases Nat.lt_or_ge b w.heap.size with h1 | h1
 ·exact h1
 ·rw [Array.getElem?_eq_none h1] at h; cases h
theorem Blk.cell {w : World} {b : Nat} {cs : List Value} {t : TypeId} (h : Blk w b cs t) {i : Nat} {v : Value} (hi : cs[i]? = some v) : w.cell? ⟨b, i, none⟩ = some v := by
 unfold World.cell?; rw [h]; simp [hi]
theorem Blk.free {w : World} {b : Nat} {cs : List Value} {t : TypeId} (h : Blk w b cs t) (i : Nat) : w.frozen? ⟨b, i, none⟩ = false := by
 unfold World.frozen?; rw [h]; simp
theorem Blk.of_heap {w w' : World} {b : Nat} {cs : List Value} {t : TypeId} (h : Blk w b cs t) (e : w'.heap[b]? = w.heap[b]?) : Blk w' b cs t := by
 unfold Blk; rw [e]; exact h
theorem Blk.drew {w : World} {b : Nat} {cs : List Value} {t : TypeId} (h : Blk w b cs t) : Blk w.drew b cs t := h
theorem Blk.drewN {w : World} {b : Nat} {cs : List Value} {t : TypeId} (h : Blk w b cs t) (n : Nat) : Blk (w.drewN n) b cs t := h
theorem Blk.alloc {w : World} {b : Nat} {cs : List Value} {t : TypeId} (h : Blk w b cs t) (o : Obj) : Blk (w.alloc o) b cs t :=
 h.of_heap (Below.heap_alloc _ _ _ h.lt)
theorem Blk.new (w : World) (cs : Array Value) (t : TypeId) : Blk (w.alloc (.cells cs t (0, 0))) w.heap.size cs.toList t := by
 unfold Blk; rw [(MapKept.heap_alloc w _).1]
theorem Blk.set {w : World} {b : Nat} {cs : List Value} {t : TypeId} (h : Blk w b cs t) (i : Nat) (v : Value) : Blk (w.setCell ⟨b, i, none⟩ v) b (cs.set i v) t := by
 unfold Blk at *
 simp only [World.setCell, Array.getElem?_modify, if_true, h]
 simp
theorem Blk.set_ne {w : World} {b : Nat} {cs : List Value} {t : TypeId} (h : Blk w b cs t) (p : Addr) (hp : p.block ≠ b) (v : Value) : Blk (w.setCell p v) b cs t :=
 h.of_heap (Below.heap_setCell _ _ _ _ (fun e => hp e.symm))
structure Keep (S : List Nat) (w w' : World) : Prop where
 os : w'.os = w.os
 tape : w'.tape = w.tape
 output : w'.output = w.output
 size : w.heap.size <= w'.heap.size
 block : ∀ i, i < w.heap.size -> i ∉ S -> w'.heap[i]? = w.heap[i]?
theorem Keep.refl (S : List Nat) (w : World) : Keep S w w := ⟨rfl, rfl, rfl, Nat.le_refl _, fun _ _ _ => rfl⟩
theorem Keep.trans {S : List Nat} {a b c : World} (h : Keep S a b) (k : Keep S b c) : Keep S a c :=
 ⟨k.os.trans h.os, k.tape.trans h.tape, k.output.trans h.output, Nat.le_trans h.size k.size, fun i hi hn => (k.block i (Nat.lt_of_lt_of_le hi h.size) hn).trans (h.block i hi hn)⟩
theorem Keep.mono {S T : List Nat} {w w' : World} (h : Keep S w w') (hs : ∀ x ∈ S, x ∈ T ∨ w.heap.size <= x) : Keep T w w' :=
 ⟨h.os, h.tape, h.output, h.size, fun i hi hn => h.block i hi (fun hx => (hs i hx).elim hn (by omega))⟩
theorem Keep.drew {S : List Nat} {a w : World} (h : Keep S a w) : Keep S a w.drew := ⟨h.os, h.tape, h.output, h.size, h.block⟩
theorem Keep.drewN {S : List Nat} {a w : World} (h : Keep S a w) (n : Nat) : Keep S a (w.drewN n) := ⟨h.os, h.tape, h.output, h.size, h.block⟩
theorem Keep.alloc {S : List Nat} {a w : World} (h : Keep S a w) (o : Obj) : Keep S a (w.alloc o) :=
 ⟨h.os, h.tape, h.output, Nat.le_trans h.size (by show _ <= (w.heap.push o).size; simp), fun i hi hn => (Below.heap_alloc _ _ _ (Nat.lt_of_lt_of_le hi h.size)).trans (h.block i hi hn)⟩
theorem Keep.setCell {S : List Nat} {a w : World} (h : Keep S a w) {p : Addr} (hp : p.block ∈ S ∨ a.heap.size <= p.block) (u : Value) : Keep S a (w.setCell p u) :=
 ⟨h.os, h.tape, h.output, by simpa [World.setCell] using h.size, fun i hi hn => by
  rw [Below.heap_setCell _ _ _ _ (fun e => by subst e; rcases hp with hp | hp; exact hn hp; omega)]; exact h.block i hi hn⟩
theorem Keep.ext {S : List Nat} {w w' : World} (h : Keep S w w') (hs : ∀ x ∈ S, w.heap.size <= x) : Ext w w' :=
 ⟨h.os, h.tape, h.output, h.size, fun i hi => h.block i hi (fun hx => by have := hs i hx; omega)⟩
theorem Ext.keep {w w' : World} (h : Ext w w') (S : List Nat) : Keep S w w' :=
 ⟨h.os, h.tape, h.output, Below.size h, fun i hi _ => Below.block h i hi⟩
theorem Blk.keep {S : List Nat} {w w' : World} {b : Nat} {cs : List Value} {t : TypeId} (h : Blk w b cs t) (k : Keep S w w') (hb : b ∉ S) : Blk w' b cs t :=
 h.of_heap (k.block b h.lt hb)
theorem Blk.ext {w w' : World} {b : Nat} {cs : List Value} {t : TypeId} (h : Blk w b cs t) (k : Ext w w') : Blk w' b cs t :=
 h.of_heap (Below.block k b h.lt)
theorem Keep.cell {S : List Nat} {w w' : World} (k : Keep S w w') {p : Addr} (hp : p.block < w.heap.size) (hn : p.block ∉ S) : w'.cell? p = w.cell? p := World.cell?_of_block (w := w) (k.block _ hp hn)
theorem ownsRow_keep {S : List Nat} {w w' : World} {base : Nat} {e : TypeId} {size : Nat} {v : Value} {n : Nat} {xs : List Value} (h : w.ownsRow base e size v n xs) (k : Keep S w w') (hb : ∀ g ∈ S, g < base) : w'.ownsRow base e size v n xs := by
 refine ⟨h.1, ?_⟩
 rcases h.2 with hn | ⟨g, cap, cur, rfl, hg, hgg, rest⟩
 ·exact .inl hn
 ·refine .inr ⟨g, cap, cur, rfl, hg, ?_, rest⟩
  have hlt : g < w.heap.size := by
   rcases Nat.lt_or_ge g w.heap.size with h1 | h1
   ·exact h1
   ·rw [Array.getElem?_eq_none h1] at hgg; cases hgg
  rw [k.block g hlt (fun hm => by have := hb g hm; omega)]; exact hgg
theorem Ext.grown {a w w' : World} {row : Option Nat} (h : Ext a w) (hg : w.grownBy w' row) (hr : ∀ k, row = some k -> a.heap.size <= k) : Ext a w' := Below.grown h hg h.size hr
theorem Keep.of_grown {w w' : World} {row : Option Nat} (hg : w.grownBy w' row) : Keep row.toList w w' :=
 ⟨hg.os, hg.tape, hg.output, hg.size, fun i hi hn => hg.block i hi (fun e => hn (by rw [← e]; simp))⟩
theorem Keep.grown {S : List Nat} {a w w' : World} {row : Option Nat} (h : Keep S a w) (hg : w.grownBy w' row) (hr : ∀ k, row = some k -> a.heap.size <= k) : Keep S a w' :=
 ⟨hg.os.trans h.os, hg.tape.trans h.tape, hg.output.trans h.output, Nat.le_trans h.size hg.size, fun i hi hn => (hg.block i (Nat.lt_of_lt_of_le hi h.size) (fun e => by have := hr i e.symm; omega)).trans (h.block i hi hn)⟩
end Go.Proofs.YtnohnnjeabehjaaGreatDoor
