/-
  '==' of an address and itself, whatever it holds.
-/
import Derived.Test.YtpdoddelnahlnaaDoorIpA
import Derived.Test.YtpdoddelnahlnaaDoorIpE
import Derived.Test.YtpdoddelnahlnaaDoorIpO
import Derived.Test.YtpdoddelnahlnaaDoorUni
import Derived.DeepKeys
set_option linter.unusedSimpArgs false
set_option linter.unusedVariables false
namespace Go.Proofs.YtpdoddelnahlnaaDoor
open Go.RowKit

theorem mapM_isSome {α β : Type} {f : α → Option β} : ∀ {l : List α}, (∀ x ∈ l, (f x).isSome = true) → (l.mapM f).isSome = true
  | [], _ => rfl
  | x :: l, h => by
    obtain ⟨y, hy⟩ := Option.isSome_iff_exists.1 (h x (by simp))
    obtain ⟨ys, hys⟩ := Option.isSome_iff_exists.1 (mapM_isSome (l := l) fun z hz => h z (by simp [hz]))
    simp [List.mapM_cons, hy, hys]
theorem keyLits_bool (d : Nat) (b : Bool) : Tryd.prog.keyLits (d + 1) 4 [.bool b] = some [.bool b] := by
  simp only [Program.keyLits, Tryd.underlying4]
theorem keyLits_u8 (d : Nat) {z : Int} (h : 0 ≤ z ∧ z < 256) : Tryd.prog.keyLits (d + 1) 5 [.int .u8 z] = some [.int .u8 z] := by
  have hw : (Lit.int .u8 z).wf = true := by
    simp only [Lit.wf, Bool.and_eq_true, decide_eq_true_eq, IntKind.min, IntKind.max, IntKind.bits, IntKind.signed]
    simp
    omega
  simp only [Program.keyLits, Tryd.underlying5, hw, and_self, if_true]
theorem keyLits_16 (d : Nat) {l : List Int} (h : l.length = 16) (hb : ∀ x ∈ l, 0 ≤ x ∧ x < 256) : (Tryd.prog.keyLits (d + 2) 35 (l.map (Value.int .u8))).isSome = true := by
  unfold Program.keyLits
  have c : (l.map (Value.int .u8)).length = Tryd.prog.cellsOf 35 := by rw [cells_16, List.length_map, h]
  simp only [Tryd.underlying35]
  rw [if_pos c, Option.isSome_map]
  refine mapM_isSome (l := List.range 16) (f := fun i => Tryd.prog.keyLits (d + 1) 5 (((l.map (Value.int .u8)).drop (i * Tryd.prog.cellsOf 5)).take (Tryd.prog.cellsOf 5))) fun i hi => ?_
  show (Tryd.prog.keyLits (d + 1) 5 (((l.map (Value.int .u8)).drop (i * Tryd.prog.cellsOf 5)).take (Tryd.prog.cellsOf 5))).isSome = true
  rw [cells_u8]
  have hi := List.mem_range.1 hi
  have e : ((l.map (Value.int .u8)).drop (i * 1)).take 1 = [.int .u8 (l.getD i 0)] := by
    apply List.ext_getElem?
    intro j
    rcases j with _ | j
    · simp [List.getD_eq_getElem?_getD, List.getElem?_eq_getElem (show i < l.length by omega), List.getElem?_take, List.getElem?_drop]
    · simp [List.getElem?_take]
  rw [e, keyLits_u8 d (hb _ (by rw [List.getD_eq_getElem?_getD, List.getElem?_eq_getElem (show i < l.length by omega)]; exact List.getElem_mem _))]
  rfl
set_option maxRecDepth 8000 in
theorem keyLits_A {a : Adr} (ha : okA a) : (Tryd.prog.keyLits 4 37 (ac a).toList).isSome = true := by
  unfold Program.keyLits
  have hl : (ac a).toList.length = 17 := by rw [Array.length_toList]; exact ac_size ha
  have e : (ac a).toList = .bool a.1 :: a.2.map (Value.int .u8) := rfl
  simp only [Tryd.underlying37]
  rw [if_pos ⟨by rw [hl, cells_A], by kernel_rfl⟩, Option.isSome_map]
  refine mapM_isSome fun f hf => ?_
  simp only [List.mem_cons, List.not_mem_nil, or_false, List.toList_toArray] at hf
  rcases hf with rfl | rfl
  · show (Tryd.prog.keyLits 3 4 (((ac a).toList.drop 0).take (Tryd.prog.cellsOf 4))).isSome = true
    rw [cells_b, e]
    show (Tryd.prog.keyLits 3 4 [.bool a.1]).isSome = true
    rw [keyLits_bool]; rfl
  · show (Tryd.prog.keyLits 3 35 (((ac a).toList.drop 1).take (Tryd.prog.cellsOf 35))).isSome = true
    rw [cells_16, e, List.drop_succ_cons, List.drop_zero, List.take_of_length_le (by rw [List.length_map, ha.1]; exact Nat.le_refl _)]
    exact keyLits_16 1 ha.1 ha.2
theorem key24 : Tryd.prog.keyTypeAt 3 37 = true := by kernel_rfl
theorem formed_A {a : Adr} (ha : okA a) : (av a).formed Tryd.prog 37 = true := by
  simp only [Value.formed, Tryd.underlying37, cells_A, ac_size ha, beq_self_eq_true]
theorem equal_A {a b : Adr} (ha : okA a) (hb : okA b) (h : a = b) (W : World) : (Op.equal 37 (.agg (ac a)) (.agg (ac b))).run Tryd.prog W = .ok true W := by
  subst h
  obtain ⟨la, hla⟩ := Option.isSome_iff_exists.1 (keyLits_A ha)
  obtain ⟨r, hr, hi⟩ := run_equalIn_deep (P := Tryd.prog) 9997 3 37 key24 W 4 4 (av a) (av a) la la (formed_A ha) (formed_A ha) hla hla
  rw [hi.2 rfl] at hr
  exact hr
theorem noGuard_A : Tryd.prog.eqGuardType Tryd.prog.depth 37 = false := by kernel_rfl
theorem exec_eqA {o : Oper} {f : Act} (x y : Operand) {t : TypeId} (ho : o.op = .binOp .eql 37 x y t) {a b : Adr} (ha : okA a) (hb : okA b) (h : a = b) (hx : f.eval x = .agg (ac a)) (hy : f.eval y = .agg (ac b)) (w : World) :
    (execOp f.eval o).run Tryd.prog w = .ok (.value (.bool true)) w := by
  unfold execOp
  rw [ho]
  have e := equal_A ha hb h w
  have e1 : (eqGuard .eql 37 x y (.agg (ac a)) (.agg (ac b))).run Tryd.prog w = .ok () w := by
    simp [eqGuard, noGuard_A, Sem.run_bind]
  have e2 : (binOp .eql 37 (.agg (ac a)) (.agg (ac b))).run Tryd.prog w = .ok (.bool true) w := by
    simp only [binOp, Sem.run_bind, e, Result.andThen_ok, Sem.run_pure]
  simp only [hx, hy, Sem.run_bind, e1, e2, Result.andThen_ok, Sem.run_pure]
theorem goU_eqA {ops : Array Oper} {Q : Exit → Act → World → Prop} {S : World → Prop} {o : Oper} {rest : List Oper} {f : Act} (hw : Region.wanted o (yielded ops f.tmps) = true) (x y : Operand) {t : TypeId} (ho : o.op = .binOp .eql 37 x y t)
    {a b : Adr} (ha : okA a) (hb : okA b) (h : a = b) (hx : f.eval x = .agg (ac a)) (hy : f.eval y = .agg (ac b)) (k : goU Tryd.prog ops Q S rest (f.put o.dst (.bool true))) : goU Tryd.prog ops Q S (o :: rest) f :=
  ⟨_, .value hw (fun w _ => exec_eqA x y ho ha hb h hx hy w), k⟩
end Go.Proofs.YtpdoddelnahlnaaDoor
