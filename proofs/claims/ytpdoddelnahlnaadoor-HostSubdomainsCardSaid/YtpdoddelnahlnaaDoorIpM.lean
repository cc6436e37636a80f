/-
  append(s, make([]T, n)...): onto a slice that the call owns.
-/
import Derived.Test.YtpdoddelnahlnaaDoorHeap
import Derived.Laws.AppendOwn
import Derived.Laws.CopyRow
set_option linter.unusedSimpArgs false
set_option linter.unusedVariables false
namespace Go.Proofs.YtpdoddelnahlnaaDoor
open Go.RowKit

theorem zeroCells_list (v : Value) (m : Nat) : (Builtin.zeroCells #[v] m).toList = List.replicate m v := by
  unfold Builtin.zeroCells
  apply List.ext_getElem?
  intro j
  simp [Nat.mod_one, List.getElem?_replicate]
  by_cases h : j < m
  · simp [h, List.getElem?_range]
  · simp [h]
section
variable {P : Program} (w : World)
theorem run_append_made (base : Nat) (t tx ty e : TypeId) (i : TypeInfo) (z : Value) (bytes : Nat) (ht : P.underlying t = some (.slice e)) (hk : P.underlying tx = some (.int .i64)) (hi : P.info? e = some i) (hz : i.zero = some z)
    (hsize : i.size = 1) (hby : i.bytes = bytes) (hzs : z.cells = #[z]) (hz1 : z.oneCell' = true)
    (v : Value) (n : Nat) (xs : List Value) (hown : w.ownsRow base e 1 v n xs) (m : Nat) (hm : 0 < m) (hml : m * bytes ≤ 281474976710656) (hm6 : m ≤ 9223372036854775807)
    (h63 : n + m ≤ maxLen) (hbytes : (n + m) * bytes ≤ 140737488355328) (hbase : base ≤ w.heap.size) :
    ∃ v' w', (Builtin.append_ #[t, tx] ty #[v, .int .i64 m]).run P w = .ok v' w' ∧ w'.ownsRow base e 1 v' (n + m) (xs ++ List.replicate m z) ∧ w.grownBy w' v.ownBlock ∧ v' ≠ .slice none 0 0 := by
  subst hby
  have hsmall : n + m ≤ 9223372036854775807 := by simp only [maxLen] at h63; omega
  have hlen : (xs ++ List.replicate m z).length = n + m := by rw [List.length_append, hown.1, List.length_replicate, Nat.mul_one]
  have hw : wrap64 (m : Int) = m := IntWalk.wrap64_in _ (by omega)
  have hw2 : IntKind.i64.wrap (m : Int) = m := IntWalk.i64_in _ (by omega)
  have h48 : ¬ ((281474976710656 : Int) < (m : Int) * (i.bytes : Int)) := by
    have h1 := Int.natCast_mul m i.bytes
    rw [← h1]; generalize m * i.bytes = q at *; omega
  have hzl := zeroCells_list z m
  have grown : ∀ (old : Nat), old < n + m → ∀ (row : Option Nat),
      (w.drew.alloc (.cells (xs.toArray ++ (List.replicate m z).toArray ++ Builtin.zeroCells z.cells (grownCap w (n + m) old e - (n + m))) e)).ownsRow base e 1
        (.slice (some ⟨w.heap.size, 0, none⟩) (n + m) (grownCap w (n + m) old e)) (n + m) (xs ++ List.replicate m z) ∧
      w.grownBy (w.drew.alloc (.cells (xs.toArray ++ (List.replicate m z).toArray ++ Builtin.zeroCells z.cells (grownCap w (n + m) old e - (n + m))) e)) row := by
    intro old ho row
    have hge := grownCap_ge w (n + m) old e
    have hcm : grownCap w (n + m) old e ≤ maxLen := grownCap_le_maxLen w (n + m) old e h63
    refine ⟨⟨by rw [hlen, Nat.mul_one], .inr ⟨w.heap.size, _, _, rfl, hbase, heap_alloc_new w.drew _, hge, hcm, ?_, ?_⟩⟩, (have hg := World.grownBy_alloc w.drew (.cells (xs.toArray ++ (List.replicate m z).toArray ++ Builtin.zeroCells z.cells (grownCap w (n + m) old e - (n + m))) e) row; ⟨hg.os, hg.tape, hg.output, hg.size, hg.block⟩)⟩
    · simp only [Array.size_append, List.size_toArray, size_zeroCells, hzs, hown.1, List.length_replicate, Nat.mul_one, List.size_toArray, List.length_cons, List.length_nil]
      simp
      omega
    · simp only [Array.toList_append, List.append_assoc]
      rw [← List.append_assoc, Nat.mul_one, ← hlen]
      exact List.take_left
  have hm0 : ¬ m = 0 := by omega
  have hm1 : ¬ ((m : Int) < 0) := by omega
  have hzl2 : Builtin.zeroCells #[z] m = (List.replicate m z).toArray := by apply Array.ext'; rw [hzl]
  rcases hown.2 with ⟨rfl, rfl⟩ | ⟨g, cap, cur, rfl, hbg, hg, hnc, hcm, hcs, htake⟩
  · have hx : xs = [] := List.eq_nil_of_length_eq_zero (by simpa using hown.1)
    subst hx
    have h48' : ¬ (281474976710656 < Builtin.nextslicecap m 0 * i.bytes) := by rw [nextslicecap_zero hm]; omega
    have hgr := grown 0 (by omega) (Value.ownBlock (.slice none 0 0))
    simp only [Nat.zero_add, List.nil_append] at hgr ⊢
    refine ⟨.slice (some ⟨w.heap.size, 0, none⟩) m (grownCap w m 0 e), _, ?_, hgr.1, hgr.2, by simp⟩
    have h63' : ¬ (9223372036854775807 < (m : Int)) := by omega
    simp [Builtin.append_, run_underlying ht, run_underlying hk, sizeOf, typeInfo, zeroValue, hi, hz, hsize, hzs, asInt, asIntOf, hw, hw2, hm0, hm1, h48, h48', h63', Question.forced, run_firstCells_none, newRow, grownCap, hzl2]
  · by_cases hroom : n + m ≤ cap
    · have hfit : n * 1 + (List.replicate m z).length ≤ cur.size := by rw [List.length_replicate, hcs, Nat.mul_one, Nat.mul_one]; exact hroom
      have hst := run_storeCells_at P g (n * 1) e (List.replicate m z) 0 cur w hg (by simpa using hfit) (fun u hu => by rw [List.eq_of_mem_replicate hu]; exact hz1)
      simp only [Nat.add_zero, Nat.mul_one] at hst
      refine ⟨.slice (some ⟨g, 0, none⟩) (n + m) cap, w.setRow g (cur.toList.take n ++ List.replicate m z ++ cur.toList.drop (n + (List.replicate m z).length)).toArray, ?_, ⟨by rw [hlen, Nat.mul_one], .inr ⟨g, cap, _, rfl, hbg, setRow_heap w g cur _ e _ hg, hroom, hcm, ?_, ?_⟩⟩, ⟨rfl, rfl, rfl, by simp, fun k _ hk => setRow_other w g k _ (fun e => hk (by simp [Value.ownBlock, e]))⟩, by simp⟩
      · simp [Builtin.append_, run_underlying ht, run_underlying hk, sizeOf, typeInfo, zeroValue, hi, hz, hsize, hzs, asInt, asIntOf, hw, hw2, hm0, hm1, h48, hroom, Addr.add_lit, hzl, hst]
      · simp only [List.size_toArray, List.length_append, List.length_take, List.length_drop, Array.length_toList, List.length_replicate] at *
        omega
      · have e1 : cur.toList.take n = xs := by simpa using htake
        rw [e1, Nat.mul_one, ← hlen]
        exact List.take_left
    · have hfo := run_firstCells_some (P := P) w.drew 1 n ⟨g, 0, none⟩ n cap xs (by simpa using hown.1) (fun j u hj => by simpa using hown.cells (g := g) rfl j u hj)
      have h48' : ¬ (281474976710656 < Builtin.nextslicecap (n + m) cap * i.bytes) := by have := growslice_fits (old := cap) (by omega) hbytes; omega
      have h63' : ¬ (9223372036854775807 < ((n : Int) + (m : Int))) := by omega
      have hgr := grown cap (by omega) (Value.ownBlock (.slice (some ⟨g, 0, none⟩) n cap))
      refine ⟨.slice (some ⟨w.heap.size, 0, none⟩) (n + m) (grownCap w (n + m) cap e), _, ?_, hgr.1, hgr.2, by simp⟩
      simp [Builtin.append_, run_underlying ht, run_underlying hk, sizeOf, typeInfo, zeroValue, hi, hz, hsize, hzs, asInt, asIntOf, hw, hw2, hm0, hm1, h48, h48', h63', hroom, Question.forced, hfo, newRow, grownCap, hzl2]

theorem wpList_append_made {ops : Array Oper} {rest : List Oper} {o : Oper} {a : Act} {Q : Exit → Act → World → Prop} (hgd : o.guard = none) (s x : Operand) (t tx : TypeId)
    (ho : o.op = .call { callee := .builtin .append, args := #[s, x], argTypes := #[t, tx] })
    (base : Nat) (e : TypeId) (i : TypeInfo) (z : Value) (bytes : Nat) (ht : P.underlying t = some (.slice e)) (hk : P.underlying tx = some (.int .i64)) (hi : P.info? e = some i) (hz : i.zero = some z)
    (hsize : i.size = 1) (hby : i.bytes = bytes) (hzs : z.cells = #[z]) (hz1 : z.oneCell' = true)
    (v : Value) (n : Nat) (xs : List Value) (hs : a.eval s = v) (hown : w.ownsRow base e 1 v n xs) (m : Nat) (hx : a.eval x = .int .i64 m) (hm : 0 < m) (hml : m * bytes ≤ 281474976710656) (hm6 : m ≤ 9223372036854775807)
    (h63 : n + m ≤ maxLen) (hbytes : (n + m) * bytes ≤ 140737488355328) (hbase : base ≤ w.heap.size)
    (h : ∀ v' w', w'.ownsRow base e 1 v' (n + m) (xs ++ List.replicate m z) → w.grownBy w' v.ownBlock → v' ≠ .slice none 0 0 → wpList P ops Q rest (a.put o.dst v') w') : wpList P ops Q (o :: rest) a w := by
  obtain ⟨v', w', hr, h2, h3, h4⟩ := run_append_made (P := P) w base t tx o.type e i z bytes ht hk hi hz hsize hby hzs hz1 v n xs hown m hm hml hm6 h63 hbytes hbase
  refine wpList_plain hgd fun _ hK => ?_
  unfold Oper.wp execOp
  simp only [ho, resolve, invoke, builtin, Sem.run_bind, Sem.run_pure, Result.andThen_ok, List.map_toArray, List.map_cons, List.map_nil, hs, hx, hr]
  exact hK _ _ (h v' w' h2 h3 h4)
end
end Go.Proofs.YtpdoddelnahlnaaDoor
