/-
  The growth under which a region makes one variable of a type and lays a value into it.
-/
import Derived.Test.YtbbdcodhgbgekaaGreatDoorRg2
import Derived.Test.YtbbdcodhgbgekaaGreatDoorHeap
import Derived.Laws.Tables
set_option linter.unusedSimpArgs false
set_option linter.unusedVariables false
namespace Go.Proofs.YtbbdcodhgbgekaaGreatDoor
open Go.RowKit
/-- a block is as it was, or a new variable of type t that now holds C -/
structure GrowTo (base : Nat) (t : TypeId) (n : Nat) (C : List Value) (w w' : World) : Prop where
  os : w'.os = w.os
  tape : w'.tape = w.tape
  output : w'.output = w.output
  size : w.heap.size ≤ w'.heap.size
  block : ∀ b, b < w.heap.size → w'.heap[b]? = w.heap[b]? ∨ (base ≤ b ∧ (∃ cs, cs.length = n ∧ Blk w b cs t) ∧ Blk w' b C t)
theorem GrowTo.ok {w0 : World} {t : TypeId} {n : Nat} {C : List Value} : GrowOK (GrowTo w0.heap.size t n C) w0 where
  refl := fun w => ⟨rfl, rfl, rfl, Nat.le_refl _, fun b _ => .inl rfl⟩
  trans := fun a b c h k => ⟨k.os.trans h.os, k.tape.trans h.tape, k.output.trans h.output, Nat.le_trans h.size k.size, fun i hi => by
    rcases k.block i (Nat.lt_of_lt_of_le hi h.size) with k1 | ⟨k1, k2, k3⟩
    · rcases h.block i hi with h1 | ⟨h1, h2, h3⟩
      · exact .inl (k1.trans h1)
      · exact .inr ⟨h1, h2, h3.of_heap k1⟩
    · rcases h.block i hi with h1 | ⟨h1, h2, h3⟩
      · obtain ⟨cs, e, hb⟩ := k2
        exact .inr ⟨k1, ⟨cs, e, hb.of_heap h1.symm⟩, k3⟩
      · exact .inr ⟨h1, h2, k3⟩⟩
  base := fun w w' h k => ⟨k.os.trans h.os, k.tape.trans h.tape, k.output.trans h.output, Nat.le_trans h.size k.size, fun i hi => by
    rcases k.block i (Nat.lt_of_lt_of_le hi h.size) with k1 | ⟨k1, _, _⟩
    · exact k1.trans (Below.block h i hi)
    · omega⟩
  ofExt := fun w w' _ h => ⟨h.os, h.tape, h.output, h.size, fun b hb => .inl (Below.block h b hb)⟩
theorem GrowTo.isT {base : Nat} {t : TypeId} {n : Nat} {C : List Value} (hC : C.length = n) {w w' : World} (h : GrowTo base t n C w w') {b : Nat} (hb : ∃ cs, cs.length = n ∧ Blk w b cs t) : ∃ cs, cs.length = n ∧ Blk w' b cs t := by
  obtain ⟨cs, e, hb⟩ := hb
  rcases h.block b hb.lt with h1 | ⟨_, _, h3⟩
  · exact ⟨cs, e, hb.of_heap h1⟩
  · exact ⟨C, hC, h3⟩
theorem GrowTo.isC {base : Nat} {t : TypeId} {n : Nat} {C : List Value} {w w' : World} (h : GrowTo base t n C w w') {b : Nat} (hb : Blk w b C t) : Blk w' b C t := by
  rcases h.block b hb.lt with h1 | ⟨_, _, h3⟩
  · exact hb.of_heap h1
  · exact h3
theorem GrowTo.other {base : Nat} {t t' : TypeId} (hne : t' ≠ t) {n : Nat} {C : List Value} {w w' : World} (h : GrowTo base t n C w w') {b : Nat} {cs : List Value} (hb : Blk w b cs t') : Blk w' b cs t' := by
  rcases h.block b hb.lt with h1 | ⟨_, ⟨ds, _, h2⟩, _⟩
  · exact hb.of_heap h1
  · unfold Blk at hb h2
    rw [hb] at h2
    have h3 := Option.some.inj h2
    injection h3 with _ h4
    exact absurd h4 hne
/-- what the variable's pointer is known by -/
def VNew (base : Nat) (t : TypeId) (n : Nat) : (Nat → Value) → Value → World → Prop := fun _ u w => ∃ b, u = .pointer (some ⟨b, 0, none⟩) ∧ base ≤ b ∧ ∃ cs, cs.length = n ∧ Blk w b cs t
theorem VNew.ok {w0 : World} {t : TypeId} {n : Nat} {C : List Value} (hC : C.length = n) {ds : List Nat} : (Yld2.rel (VNew w0.heap.size t n)).ok (GrowTo w0.heap.size t n C) w0 ds where
  stay := fun e u w w' _ h k => by
    obtain ⟨b, e1, e2, e3⟩ := h
    exact ⟨b, e1, e2, k.isT hC e3⟩
  pure := fun v e u w h => by cases h
  cong := fun e e' u w _ h => h
/-- that it holds the value -/
def VHas (i : Nat) (t : TypeId) (C : List Value) : (Nat → Value) → Value → World → Prop := fun e _ w => ∀ b, e i = .pointer (some ⟨b, 0, none⟩) → Blk w b C t
theorem VHas.ok {w0 : World} {t : TypeId} {n : Nat} {C : List Value} {i : Nat} {ds : List Nat} (hi : i ∈ ds) : (Yld2.rel (VHas i t C)).ok (GrowTo w0.heap.size t n C) w0 ds where
  stay := fun e u w w' _ h k b hb => k.isC (h b hb)
  pure := fun v e u w h => by cases h
  cong := fun e e' u w hc h b hb => h b (by rw [hc i hi]; exact hb)
theorem run_storeAt_T {P : Program} {w : World} {b : Nat} {cs : List Value} {t ty : TypeId} {cells : Array Value} (h : Blk w b cs t) (hl : cells.size = cs.length) (hi : (P.info? ty).map (·.size) = some cells.size) (h1 : cells.all (·.oneCell') = true) :
    (Instr.storeAt ty (.pointer (some ⟨b, 0, none⟩)) (.agg cells)).run P w = .ok () (w.setRow b cells) := by
  simp only [Instr.storeAt, Instr.sureAddr, Sem.run_bind, Sem.run_pure, Result.andThen_ok]
  unfold Blk at h
  rw [run_storeVar_row (P := P) w b t ty cs.toArray cells h hi (by rw [hl]; simp) h1]
theorem GrowTo.setRow {w0 w : World} {t : TypeId} {n : Nat} {cells : Array Value} {b : Nat} {cs : List Value} (hb0 : w0.heap.size ≤ b) (h : Blk w b cs t) (hl : cs.length = n) : GrowTo w0.heap.size t n cells.toList w (w.setRow b cells) where
  os := rfl
  tape := rfl
  output := rfl
  size := by simp [World.setRow]
  block := fun i hi => by
    by_cases hib : i = b
    · subst hib
      refine .inr ⟨hb0, ⟨cs, hl, h⟩, ?_⟩
      unfold Blk at *; exact setRow_heap w i _ cells t (0, 0) h
    · exact .inl (setRow_other w b i cells hib)
theorem holdsAt2_get {p : List Yld2} {u : Nat → Value} {w : World} {V : (Nat → Value) → Value → World → Prop} : ∀ {js : List Nat} {j : Nat}, holdsAt2 p u w js → j ∈ js → p[j]? = some (Yld2.rel V) → V u (u j) w
  | k :: js, j, h, hj, hp => by
    by_cases e : k = j
    · subst e
      have h1 := h.1
      rw [hp] at h1
      exact h1
    · exact holdsAt2_get h.2 ((List.mem_cons.1 hj).resolve_left (fun h => e h.symm)) hp
theorem goW_storeT {P : Program} {ops : Array Oper} {Q : Exit → Act → World → Prop} {md : Region.Mode} {w0 : World} {o : Oper} {rest : List Oper} {i : Nat} {plan : List Yld2} {A : (Nat → Value) → Act} {t ty : TypeId} {n : Nat} {cells : Array Value} (ia : Nat) (x y : Operand) (ho : o.op = .store ty x y)
    (hC : cells.size = n) (hi : (P.info? ty).map (·.size) = some cells.size) (h1 : cells.all (·.oneCell') = true) (hm : ia ∈ depsOf md o) (hplan : plan[ia]? = some (Yld2.rel (VNew w0.heap.size t n)))
    (hw : ∀ u, Region.wanted o (yielded ops (A u).tmps) = true) (hx : ∀ u, (A u).eval x = u ia) (hy : ∀ u, (A u).eval y = .agg cells)
    (k : goW P ops Q md (GrowTo w0.heap.size t n cells.toList) w0 rest (i + 1) (plan ++ [.rel (VHas ia t cells.toList)]) (fun u => (A u).put o.dst (u i))) : goW P ops Q md (GrowTo w0.heap.size t n cells.toList) w0 (o :: rest) i plan A :=
  goW_rel _ (VHas.ok hm) hw (fun u w hx' hh => by
    obtain ⟨b, hu, hb0, cs, hl, hb⟩ := holdsAt2_get hh hm hplan
    have e := run_storeAt_T (P := P) (ty := ty) hb (by rw [hC, hl]) hi h1
    unfold execOp
    rw [ho]
    simp only [hx, hy, hu, Sem.run_bind, e, Result.andThen_ok, Sem.run_pure]
    refine ⟨GrowTo.setRow hb0 hb hl, fun b' hb' => ?_⟩
    rw [hu] at hb'
    cases hb'
    unfold Blk at *; exact setRow_heap w b _ cells t (0, 0) hb) k
end Go.Proofs.YtbbdcodhgbgekaaGreatDoor
