/-
  An arena in memory: plain facts.
-/
import Derived.Test.YtkoinkpolpccbaaHeap
import Derived.Handy
import Derived.Outline
import Derived.RegionTactic
import Derived.BigRegion
import Derived.Deep.LoopGhost
set_option linter.unusedSimpArgs false
set_option linter.unusedVariables false
namespace Go.Proofs.Ytkoinkpolpccbaa
open Go.RowKit

/-- one slot -/
structure Sl where
  gen : Int
  taken : Bool
  x : List Value
def Sl.cells (s : Sl) : List Value := .int .i64 s.gen :: .bool s.taken :: s.x
def rowOf (l : List Sl) : List Value := l.flatMap Sl.cells
/-- every slot takes c cells -/
def Wd (c : Nat) (l : List Sl) : Prop := ∀ s ∈ l, s.x.length + 2 = c
theorem rowOf_cons (s : Sl) (l : List Sl) : rowOf (s :: l) = s.cells ++ rowOf l := by simp [rowOf]
theorem Wd.tail {c : Nat} {s : Sl} {l : List Sl} (h : Wd c (s :: l)) : Wd c l := fun t ht => h t (List.mem_cons_of_mem _ ht)
theorem Wd.cells {c : Nat} {l : List Sl} (h : Wd c l) {s : Sl} (hs : s ∈ l) : s.cells.length = c := by have := h s hs; simp [Sl.cells]; omega
theorem rowOf_len {c : Nat} (l : List Sl) (h : Wd c l) : (rowOf l).length = l.length * c := by
  induction l with
  | nil => simp [rowOf]
  | cons s l ih =>
    rw [rowOf_cons, List.length_append, ih h.tail, h.cells List.mem_cons_self, List.length_cons, Nat.succ_mul]; omega
theorem rowOf_at {c : Nat} (l : List Sl) (h : Wd c l) (i : Nat) (s : Sl) (hs : l[i]? = some s) (k : Nat) (hk : k < c) : (rowOf l)[i * c + k]? = s.cells[k]? := by
  induction l generalizing i with
  | nil => simp at hs
  | cons t l ih =>
    have e := h.cells (s := t) List.mem_cons_self
    rcases i with _ | i
    · simp at hs; subst hs
      rw [rowOf_cons, Nat.zero_mul, Nat.zero_add, List.getElem?_append_left (by omega)]
    · have h' : l[i]? = some s := by simpa using hs
      rw [rowOf_cons, Nat.succ_mul, List.getElem?_append_right (by omega), e, ← ih h.tail i h']
      congr 1; omega
theorem rowOf_setAt {c : Nat} (l : List Sl) (h : Wd c l) (i : Nat) (s t : Sl) (hs : l[i]? = some s) (k : Nat) (hk : k < c) (v : Value) (ht : t.cells = s.cells.set k v) : (rowOf l).set (i * c + k) v = rowOf (l.set i t) := by
  induction l generalizing i with
  | nil => simp at hs
  | cons u l ih =>
    have e := h.cells (s := u) List.mem_cons_self
    rcases i with _ | i
    · simp at hs; subst hs
      rw [rowOf_cons, Nat.zero_mul, Nat.zero_add, List.set_append_left _ _ (by omega), List.set_cons_zero, rowOf_cons, ht]
    · have h' : l[i]? = some s := by simpa using hs
      rw [rowOf_cons, List.set_cons_succ, rowOf_cons, Nat.succ_mul, List.set_append_right _ _ (by omega), e, ← ih h.tail i h']
      congr 2; omega
theorem Wd.set {c : Nat} {l : List Sl} (h : Wd c l) (i : Nat) (t : Sl) (ht : t.x.length + 2 = c) : Wd c (l.set i t) := by
  intro s hs
  rcases List.mem_or_eq_of_mem_set hs with h1 | h1
  · exact h s h1
  · rw [h1]; exact ht
theorem Wd.replicate {c : Nat} (n : Nat) (t : Sl) (ht : t.x.length + 2 = c) : Wd c (List.replicate n t) := by
  intro s hs; rw [(List.mem_replicate.1 hs).2]; exact ht

/-- an arena in memory: its struct in block p, its slots in block q, c cells a slot -/
structure IsArena (ta ts c : Nat) (w : World) (p q : Nat) (l : List Sl) (free n : Int) : Prop where
  top : Blk w p [.slice (some ⟨q, 0, none⟩) l.length l.length, .int .i64 free, .int .i64 n] ta
  row : Blk w q (rowOf l) ts
  ne : p ≠ q
  len : l.length ≤ 4096
  wd : Wd c l
section
variable {ta ts c : Nat} {w : World} {p q : Nat} {l : List Sl} {free n : Int} (h : IsArena ta ts c w p q l free n)
include h
theorem IsArena.drewN (m : Nat) : IsArena ta ts c (w.drewN m) p q l free n := ⟨h.1, h.2, h.3, h.4, h.5⟩
theorem IsArena.drew : IsArena ta ts c w.drew p q l free n := ⟨h.1, h.2, h.3, h.4, h.5⟩
theorem IsArena.alloc (o : Obj) : IsArena ta ts c (w.alloc o) p q l free n := ⟨h.1.alloc _, h.2.alloc _, h.3, h.4, h.5⟩
theorem IsArena.ext {w' : World} (k : Ext w w') : IsArena ta ts c w' p q l free n := ⟨h.1.ext k, h.2.ext k, h.3, h.4, h.5⟩
theorem IsArena.keep {w' : World} {S : List Nat} (k : Keep S w w') (hp : p ∉ S) (hq : q ∉ S) : IsArena ta ts c w' p q l free n := ⟨h.1.keep k hp, h.2.keep k hq, h.3, h.4, h.5⟩
theorem IsArena.setFree (k : Int) : IsArena ta ts c (w.setCell ⟨p, 1, none⟩ (.int .i64 k)) p q l k n := ⟨h.1.set 1 _, h.2.set_ne _ h.3 _, h.3, h.4, h.5⟩
theorem IsArena.setN (k : Int) : IsArena ta ts c (w.setCell ⟨p, 2, none⟩ (.int .i64 k)) p q l free k := ⟨h.1.set 2 _, h.2.set_ne _ h.3 _, h.3, h.4, h.5⟩
theorem IsArena.other {a : Addr} (h1 : a.block ≠ p) (h2 : a.block ≠ q) (v : Value) : IsArena ta ts c (w.setCell a v) p q l free n := ⟨h.1.set_ne _ h1 _, h.2.set_ne _ h2 _, h.3, h.4, h.5⟩
/-- a store into cell k of slot i -/
theorem IsArena.setAt (i : Nat) (s t : Sl) (hs : l[i]? = some s) (k : Nat) (hk : k < c) (v : Value) (ht : t.cells = s.cells.set k v) :
    IsArena ta ts c (w.setCell ⟨q, i * c + k, none⟩ v) p q (l.set i t) free n := by
  have hx : t.x.length + 2 = c := by
    have e1 : t.cells.length = s.cells.length := by rw [ht, List.length_set]
    have e2 := h.wd.cells (List.mem_of_getElem? hs)
    simp [Sl.cells] at e1 e2; omega
  refine ⟨?_, ?_, h.ne, by rw [List.length_set]; exact h.len, h.wd.set i t hx⟩
  · rw [List.length_set]; exact h.top.set_ne _ (Ne.symm h.ne) _
  · have := h.row.set (i * c + k) v
    rwa [rowOf_setAt l h.wd i s t hs k hk v ht] at this
theorem IsArena.gen {i : Nat} {s : Sl} (hs : l[i]? = some s) (hc : 2 ≤ c) : w.cell? ⟨q, i * c, none⟩ = some (.int .i64 s.gen) := by
  have := rowOf_at l h.wd i s hs 0 (by omega)
  exact h.row.cell (by simpa [Sl.cells] using this)
theorem IsArena.taken {i : Nat} {s : Sl} (hs : l[i]? = some s) (hc : 2 ≤ c) : w.cell? ⟨q, i * c + 1, none⟩ = some (.bool s.taken) := by
  have := rowOf_at l h.wd i s hs 1 (by omega)
  exact h.row.cell (by simpa [Sl.cells] using this)
theorem IsArena.val {i : Nat} {s : Sl} (hs : l[i]? = some s) (k : Nat) (hk : k + 2 < c) {v : Value} (hv : s.x[k]? = some v) : w.cell? ⟨q, i * c + (k + 2), none⟩ = some v := by
  have := rowOf_at l h.wd i s hs (k + 2) (by omega)
  exact h.row.cell (by rw [this]; simpa [Sl.cells] using hv)
end
theorem get_set_self {l : List Sl} {i : Nat} {s t : Sl} (h : l[i]? = some s) : (l.set i t)[i]? = some t := by
  rw [List.getElem?_set_self (by rcases Nat.lt_or_ge i l.length with h1 | h1; exact h1; rw [List.getElem?_eq_none h1] at h; cases h)]
/-- slot i written anew, one value cell -/
theorem IsArena.slot1 {ta ts : Nat} {w : World} {p q : Nat} {l : List Sl} {free n : Int} (h : IsArena ta ts 3 w p q l free n) {i : Nat} {s : Sl} (hs : l[i]? = some s) (g : Int) (b : Bool) (v v0 : Value) (hv : s.x = [v0]) :
    IsArena ta ts 3 (((w.setCell ⟨q, i * 3, none⟩ (.int .i64 g)).setCell ⟨q, i * 3 + 1, none⟩ (.bool b)).setCell ⟨q, i * 3 + 2, none⟩ v) p q (l.set i ⟨g, b, [v]⟩) free n := by
  have A := h.setAt i s ⟨g, s.taken, s.x⟩ hs 0 (by omega) (.int .i64 g) (by simp [Sl.cells])
  have B := A.setAt i _ ⟨g, b, s.x⟩ (get_set_self hs) 1 (by omega) (.bool b) (by simp [Sl.cells])
  have C := B.setAt i _ ⟨g, b, [v]⟩ (get_set_self (get_set_self hs)) 2 (by omega) v (by simp [Sl.cells, hv])
  rw [List.set_set, List.set_set] at C
  exact C
/-- the same, two value cells -/
theorem IsArena.slot2 {ta ts : Nat} {w : World} {p q : Nat} {l : List Sl} {free n : Int} (h : IsArena ta ts 4 w p q l free n) {i : Nat} {s : Sl} (hs : l[i]? = some s) (g : Int) (b : Bool) (v u v0 u0 : Value) (hv : s.x = [v0, u0]) :
    IsArena ta ts 4 ((((w.setCell ⟨q, i * 4, none⟩ (.int .i64 g)).setCell ⟨q, i * 4 + 1, none⟩ (.bool b)).setCell ⟨q, i * 4 + 2, none⟩ v).setCell ⟨q, i * 4 + 3, none⟩ u) p q (l.set i ⟨g, b, [v, u]⟩) free n := by
  have A := h.setAt i s ⟨g, s.taken, s.x⟩ hs 0 (by omega) (.int .i64 g) (by simp [Sl.cells])
  have B := A.setAt i _ ⟨g, b, s.x⟩ (get_set_self hs) 1 (by omega) (.bool b) (by simp [Sl.cells])
  have C := B.setAt i _ ⟨g, b, [v, u0]⟩ (get_set_self (get_set_self hs)) 2 (by omega) v (by simp [Sl.cells, hv])
  have D := C.setAt i _ ⟨g, b, [v, u]⟩ (get_set_self (get_set_self (get_set_self hs))) 3 (by omega) u (by simp [Sl.cells])
  rw [List.set_set, List.set_set, List.set_set] at D
  exact D
theorem made_rowOf (c : Nat) (z : List Value) (hz : z.length + 2 = c) (n : Nat) : madeCells (Value.int .i64 0 :: Value.bool false :: z).toArray (n * c) = (rowOf (List.replicate n ⟨0, false, z⟩)).toArray := by
  have hw : Wd c (List.replicate n ⟨0, false, z⟩) := Wd.replicate n _ hz
  apply Array.ext'
  apply List.ext_getElem?
  intro j
  by_cases hj : j < n * c
  · have hc : 0 < c := by omega
    obtain ⟨i, r, hr, rfl⟩ : ∃ i r, r < c ∧ j = i * c + r := ⟨j / c, j % c, Nat.mod_lt _ hc, by rw [Nat.mul_comm]; exact (Nat.div_add_mod j c).symm⟩
    have hi : i < n := by
      rcases Nat.lt_or_ge i n with h | h
      · exact h
      · have := Nat.mul_le_mul_right c h; omega
    have g := rowOf_at _ hw i ⟨0, false, z⟩ (by rw [List.getElem?_replicate, if_pos hi]) r hr
    rw [show (rowOf (List.replicate n ⟨0, false, z⟩)).toArray.toList = rowOf (List.replicate n ⟨0, false, z⟩) from rfl, g]
    simp only [madeCells, Array.toList_map, Array.toList_range, List.getElem?_map, List.getElem?_range hj, Option.map_some]
    have hs : (Value.int .i64 0 :: Value.bool false :: z).toArray.size = c := by simp; omega
    rw [hs, Nat.mul_comm, Nat.mul_add_mod, Nat.mod_eq_of_lt hr]
    have hl : r < (Sl.cells ⟨0, false, z⟩).length := by simp [Sl.cells]; omega
    rw [List.getElem?_eq_getElem hl]
    simp only [Sl.cells] at hl ⊢
    rw [getElem!_pos _ _ (by simpa using hl)]
    simp
  · rw [List.getElem?_eq_none (by simp [madeCells]; omega), List.getElem?_eq_none (by rw [show (rowOf (List.replicate n ⟨0, false, z⟩)).toArray.toList = rowOf (List.replicate n ⟨0, false, z⟩) from rfl, rowOf_len _ hw]; simp; omega)]
/-- slot i is in use under generation g -/
def Hit (l : List Sl) (i g : Int) (s : Sl) : Prop := 0 ≤ i ∧ i < l.length ∧ l[i.toNat]? = some s ∧ s.taken = true ∧ s.gen = g
end Go.Proofs.Ytkoinkpolpccbaa
