/-
  Several texts joined: IpE, IpO, Uni.
-/
import Derived.DeepKeys
import Derived.Test.YtpdoddelnahlnaaGreatDoorK03
import Derived.Lib.LaidTab
import Derived.ChangeSame
import Derived.WideShapes
import Derived.OrdersHeld
import Derived.Tactics
import Derived.KernelRfl
import Derived.ProofKit
/-
  '==' of two addresses.
-/
set_option linter.unusedSimpArgs false
set_option linter.unusedVariables false
namespace Go.Proofs.YtpdoddelnahlnaaGreatDoor
open Go.RowKit

theorem key22 : Tryz.prog.keyTypeAt 2 28 = true := by kernel_rfl
theorem eq_awake (W : World) : (Op.equalIn 9999 28 (.agg #[.int .u8 10, .int .u8 0, .int .u8 0, .int .u8 1, .int .u8 0, .int .u8 0, .int .u8 0, .int .u8 0, .int .u8 0, .int .u8 0, .int .u8 0, .int .u8 0, .int .u8 0, .int .u8 0, .int .u8 0, .int .u8 0]) (.agg #[.int .u8 10, .int .u8 0, .int .u8 0, .int .u8 1, .int .u8 0, .int .u8 0, .int .u8 0, .int .u8 0, .int .u8 0, .int .u8 0, .int .u8 0, .int .u8 0, .int .u8 0, .int .u8 0, .int .u8 0, .int .u8 0])).run Tryz.prog W = .ok true W := by
  obtain ⟨la, hla⟩ := Option.isSome_iff_exists.1 (show (Tryz.prog.keyLits 9 28 (Value.agg #[.int .u8 10, .int .u8 0, .int .u8 0, .int .u8 1, .int .u8 0, .int .u8 0, .int .u8 0, .int .u8 0, .int .u8 0, .int .u8 0, .int .u8 0, .int .u8 0, .int .u8 0, .int .u8 0, .int .u8 0, .int .u8 0]).cells.toList).isSome = true by kernel_rfl)
  obtain ⟨r, hr, hi⟩ := run_equalIn_deep (P := Tryz.prog) 9997 2 28 key22 W 9 9 _ _ la la (by kernel_rfl) (by kernel_rfl) hla hla
  rw [hi.2 rfl] at hr
  exact hr
end Go.Proofs.YtpdoddelnahlnaaGreatDoor
/-
  The arguments of the laws, opened: an address.
-/
set_option linter.unusedSimpArgs false
set_option linter.unusedVariables false
namespace Go.Proofs.YtpdoddelnahlnaaGreatDoor
open Go.RowKit Go.ChangeShapes Go.WideShapes
section
variable {H : Type} {enc : TypeId × Value → H} {W : World} {base : Nat} {sp : Nat → Bool} {held : Bool} {r : Reach} {b0 : Nat}
theorem cells_ints {P : Program} {fuel : Nat} {t e : TypeId} {n : Nat} {k : IntKind} {cs : List Value} {x : DataW H × List MemPlace}
    (ht : P.underlying t = some (.array n e)) (he : P.underlying e = some (.int k)) (hce : P.cellsOf e = 1) (hct : P.cellsOf t = n)
    (h : DataW.trod enc P W base sp held fuel t cs = some x) : ∃ zs : List Int, cs = zs.map (Value.int k) ∧ zs.length = n ∧ ∀ z ∈ zs, (Lit.int k z).wf = true := by
  cases fuel with
  | zero => simp [DataW.trod] at h
  | succ fuel =>
    simp only [DataW.trod, ht, hce, hct, Nat.mul_one] at h
    split at h
    · rename_i hl
      obtain ⟨xs, hm, hx⟩ := Option.map_eq_some_iff.1 h
      have key : ∀ i, i < n → ∃ z, cs[i]? = some (.int k z) ∧ (Lit.int k z).wf = true := by
        intro i hi
        obtain ⟨b, hb, hf⟩ := Lib.mapM_at hm i i (by simp [hi])
        obtain ⟨z, hc, rfl, hw⟩ := DataW.trod_int he hf
        have h1 : cs[i]? = some (.int k z) := by
          have := congrArg (·[0]?) hc
          simpa [List.getElem?_take, List.getElem?_drop] using this
        exact ⟨z, h1, hw⟩
      have hl' : cs.length = n := by simpa using hl
      refine ⟨cs.map fun v => match v with | .int _ z => z | _ => 0, ?_, by simpa using hl', ?_⟩
      · apply List.ext_getElem?
        intro i
        rcases Nat.lt_or_ge i n with hi | hi
        · obtain ⟨z, hz, _⟩ := key i hi
          simp [hz]
        · simp [List.getElem?_eq_none (show cs.length ≤ i by omega)]
      · intro z hz
        obtain ⟨v, hv, rfl⟩ := List.mem_map.1 hz
        obtain ⟨i, hi, rfl⟩ := List.getElem_of_mem hv
        obtain ⟨z, hz, hw⟩ := key i (by omega)
        rw [List.getElem?_eq_getElem hi] at hz
        rw [Option.some.inj hz]
        exact hw
    · cases h
theorem cells_A : Tryz.prog.cellsOf 30 = 17 := by kernel_rfl
theorem cells_16 : Tryz.prog.cellsOf 28 = 16 := by kernel_rfl
theorem cells_b : Tryz.prog.cellsOf 4 = 1 := by kernel_rfl
theorem cells_u8 : Tryz.prog.cellsOf 5 = 1 := by kernel_rfl
set_option maxRecDepth 20000 in
theorem open_A {v : Value} {d : DataW H} {p : List MemPlace} (hv : Value.okWide Tryz.prog W r b0 30 v) (h : DataW.Trod enc Tryz.prog W base sp held 30 v d p) :
    ∃ a : Adr, okA a ∧ v = av a := by
  obtain ⟨cs, rfl, hsz⟩ := okWide_struct Tryz.underlying30 hv
  obtain ⟨fuel, hf⟩ := h
  obtain ⟨y0, y1, n, -, hl, h0, h1⟩ := trod_struct2 Tryz.underlying30 hf
  obtain ⟨b, hb, -⟩ := DataW.trod_bool Tryz.underlying4 h0
  obtain ⟨zs, hz, hzl, hzw⟩ := cells_ints Tryz.underlying28 Tryz.underlying5 cells_u8 cells_16 h1
  rw [cells_A] at hsz
  have hc : (Value.agg cs).cells = cs := rfl
  rw [hc] at hb hz
  simp only [cells_b, cells_16] at hb hz
  refine ⟨(b, zs), ⟨hzl, fun x hx => ?_⟩, ?_⟩
  · have := hzw x hx
    simp only [Lit.wf, Bool.and_eq_true, decide_eq_true_eq, IntKind.min, IntKind.max, IntKind.bits, IntKind.signed] at this
    simp at this
    omega
  · unfold av ac
    congr 1
    apply Array.ext'
    have e : cs.toList = cs.toList.take 1 ++ cs.toList.drop 1 := (List.take_append_drop 1 _).symm
    rw [e]
    have h16 : (cs.toList.drop 1).take 16 = cs.toList.drop 1 := List.take_of_length_le (by simp; omega)
    rw [h16] at hz
    rw [hz]
    have hb' : cs.toList.take 1 = [.bool b] := by simpa using hb
    rw [hb']; rfl
end
end Go.Proofs.YtpdoddelnahlnaaGreatDoor
/-
  A region that draws its order, in which every operation yields ONE value in every world that meets a condition S, and leaves a world that meets S (a load of what stays, a call that changes nothing that was there, arithmetic):
  whatever the order, it is as if the operations came as they are written.
-/
set_option linter.unusedSimpArgs false
set_option linter.unusedVariables false
namespace Go.Proofs.YtpdoddelnahlnaaGreatDoor
section
variable {P : Program} {ops : Array Oper} {Q : Exit → Act → World → Prop} {md : Region.Mode} {S : World → Prop}

def Outcome (P : Program) (S : World → Prop) (v : Value) : Result Next → Prop
  | .ok (.value u) w' => u = v ∧ S w'
  | .ok (.enter f args) w' => Calls P f args w' fun e w'' => e = .returned v ∧ S w''
  | .ok (.row row args) w' => Rows P row args w' fun u w'' => u = v ∧ S w''
  | _ => False

/-- In state 'a', in every world that meets S, the operation lays 'v' and S holds behind it. -/
def DoesIf (P : Program) (ops : Array Oper) (S : World → Prop) (o : Oper) (v : Value) (a : Act) : Prop :=
  (Region.wanted o (yielded ops a.tmps) = true ∧ ∀ w, S w → Outcome P S v ((execOp a.eval o).run P w)) ∨
  (Region.wanted o (yielded ops a.tmps) = false ∧ v = undef)

theorem DoesIf.value {o : Oper} {v : Value} {a : Act} (hw : Region.wanted o (yielded ops a.tmps) = true) (h : ∀ w, S w → (execOp a.eval o).run P w = .ok (.value v) w) : DoesIf P ops S o v a :=
  .inl ⟨hw, fun w hS => by rw [h w hS]; exact ⟨rfl, hS⟩⟩
theorem DoesIf.call {o : Oper} {v : Value} {a : Act} {f : FuncId} {args : Array Value} (hw : Region.wanted o (yielded ops a.tmps) = true) (h : ∀ w, (execOp a.eval o).run P w = .ok (.enter f args) w)
    (hc : ∀ w, S w → Calls P f args w fun e w' => e = .returned v ∧ S w') : DoesIf P ops S o v a :=
  .inl ⟨hw, fun w hS => by rw [h w]; exact hc w hS⟩
theorem DoesIf.skip {o : Oper} {a : Act} (hw : Region.wanted o (yielded ops a.tmps) = false) : DoesIf P ops S o undef a := .inr ⟨hw, rfl⟩

theorem DoesIf.of_same {o : Oper} {v : Value} {a a' : Act} (hy : DoesIf P ops S o v a) (he : execOp a'.eval o = execOp a.eval o)
    (hw : Region.wanted o (yielded ops a'.tmps) = Region.wanted o (yielded ops a.tmps)) : DoesIf P ops S o v a' := by
  unfold DoesIf at *
  rw [he, hw]
  exact hy

theorem DoesIf.wpOp {i : Nat} {o : Oper} {v : Value} {a : Act} (hi : ops[i]? = some o) (hy : DoesIf P ops S o v a)
    {K : Act → World → Prop} {w : World} (hS : S w) (h : ∀ w', S w' → K (a.put o.dst v) w') : wpOp P ops Q i K a w := by
  unfold Go.wpOp
  simp only [hi]
  rcases hy with ⟨hw, hv⟩ | ⟨hw, rfl⟩
  · simp only [hw, if_true, Oper.wp]
    left
    have hv := hv w hS
    generalize (execOp a.eval o).run P w = r at *
    unfold Outcome at hv
    split at hv
    · obtain ⟨rfl, hs⟩ := hv; exact h _ hs
    · exact Calls.mono hv fun e w'' he => by obtain ⟨rfl, hs⟩ := he; exact h _ hs
    · exact Rows.mono hv fun u w'' he => by obtain ⟨rfl, hs⟩ := he; exact h _ hs
    · exact hv.elim
  · simp only [hw, Bool.false_eq_true, if_false]; exact h _ hS

theorem wpOp_putU {j : Nat} {oi oj : Oper} {v : Value} (hj : ops[j]? = some oj) (hap : oi.apart ops oj = true)
    (hsi : ∀ cs b, oi.op ≠ .select cs b) (hsj : ∀ cs b, oj.op ≠ .select cs b)
    (hQ : ∀ c a w, Q (.panic c) (a.put oi.dst v) w → Q (.panic c) a w) {K : Act → World → Prop} {a : Act} {w : World}
    (hy : DoesIf P ops S oi v a) (h : wpOp P ops Q j K (a.put oi.dst v) w) :
    wpOp P ops Q j (fun a' w' => DoesIf P ops S oi v a' ∧ K (a'.put oi.dst v) w') a w := by
  obtain ⟨h1, h2, h3⟩ := Oper.apart_spec hap
  have keep : ∀ (a : Act), DoesIf P ops S oi v a → ∀ u, DoesIf P ops S oi v (a.put oj.dst u) := fun a hy u =>
    hy.of_same (execOp_put oi hsi a oj.dst u h3) (wanted_put oi a oj.dst u h3)
  have keepD : ∀ d, DoesIf P ops S oi v { a with defers := d :: a.defers } := fun d => hy.of_same rfl rfl
  unfold wpOp at *
  simp only [hj] at *
  rw [wanted_put oj a oi.dst v h1] at h
  split
  · rename_i hw
    simp only [hw, if_true] at h
    rcases h with h | ⟨hasks, hlets⟩
    case inr => exact .inr ⟨by unfold Oper.asks at *; rw [execOp_put oj hsj a oi.dst v h1] at hasks; exact hasks, hlets⟩
    refine .inl ?_
    unfold Oper.wp at *
    rw [execOp_put oj hsj a oi.dst v h1] at h
    generalize (execOp a.eval oj).run P w = r at *
    cases r with
    | ok n w' =>
      cases n <;> simp only [Oper.upon] at h ⊢
      case value u => exact ⟨keep a hy u, by rw [← Act.put_comm a v u h2]; exact h⟩
      case skip => exact ⟨keep a hy _, by rw [← Act.put_comm a v undef h2]; exact h⟩
      case defer d =>
        refine ⟨keep _ (keepD d) _, ?_⟩
        rw [← Act.put_comm _ v undef h2, ← Act.put_defers]
        exact h
      case enter f args =>
        refine Calls.mono h fun e w'' he => ?_
        cases e with
        | returned u => exact ⟨keep a hy u, by rw [← Act.put_comm a v u h2]; exact he⟩
        | panicked c => exact hQ _ _ _ he
        | outgrown => exact he
      case row row args => exact Rows.mono h fun u w'' he => ⟨keep a hy u, by rw [← Act.put_comm a v u h2]; exact he⟩
    | halt x w' =>
      cases x <;> simp only [Oper.upon] at h ⊢
      case panic u => exact hQ _ _ _ h
  · rename_i hw
    simp only [hw] at h
    exact ⟨keep a hy _, by rw [← Act.put_comm a v undef h2]; exact h⟩

/-- Whatever order is picked from here on, in every world that meets S. -/
def wpU (P : Program) (md : Region.Mode) (ops : Array Oper) (Q : Exit → Act → World → Prop) (S : World → Prop) : Nat → Array Bool → Act → Prop
  | 0, listed, a => Region.ready md ops listed = [] ∧ ∀ w, S w → Q .normal a w
  | fuel + 1, listed, a =>
    (Region.ready md ops listed = [] → ∀ w, S w → Q .normal a w) ∧
    ∀ i ∈ Region.ready md ops listed, ∀ w, S w → wpOp P ops Q i (fun a' w' => S w' ∧ wpU P md ops Q S fuel (listed.setIfInBounds i true) a') a w

theorem wpAny_of_U : ∀ (fuel : Nat) (listed : Array Bool) (a : Act) (w : World), S w → wpU P md ops Q S fuel listed a → wpAny P md ops Q fuel listed a w
  | 0, _, _, w, hS, h => ⟨h.1, h.2 w hS⟩
  | fuel + 1, _, _, w, hS, h => ⟨fun h0 => h.1 h0 w hS, fun i hi => wpOp_mono (fun a' w' h' => wpAny_of_U fuel _ a' w' h'.1 h'.2) (h.2 i hi w hS)⟩

theorem wpU_first {i : Nat} {oi : Oper} {v : Value} (hi : ops[i]? = some oi) (hsel : ∀ (j : Nat) (o : Oper) cs b, ops[j]? = some o → o.op ≠ .select cs b)
    (hQ : ∀ c a w, Q (.panic c) (a.put oi.dst v) w → Q (.panic c) a w) :
    ∀ (fuel : Nat) (listed : Array Bool) (a : Act),
      (∀ j oj, ops[j]? = some oj → j ≠ i → listed.getD j true = false → (∀ e ∈ oj.after, Region.binds md e = true → e.on ≠ i) → oi.apart ops oj = true) →
      i ∈ Region.ready md ops listed → DoesIf P ops S oi v a →
      wpU P md ops Q S fuel (listed.setIfInBounds i true) (a.put oi.dst v) → wpU P md ops Q S (fuel + 1) listed a := by
  intro fuel
  induction fuel with
  | zero =>
    intro listed a _ hr hy H
    refine ⟨fun h => (by rw [h] at hr; cases hr), fun j hj => ?_⟩
    by_cases hji : j = i
    · subst hji; exact fun w hS => hy.wpOp hi hS fun w' hS' => ⟨hS', H⟩
    · have := ready_mono hj hji
      rw [H.1] at this
      cases this
  | succ fuel ih =>
    intro listed a hfree hr hy H
    refine ⟨fun h => (by rw [h] at hr; cases hr), fun j hj w hS => ?_⟩
    by_cases hji : j = i
    · subst hji; exact hy.wpOp hi hS fun w' hS' => ⟨hS', H⟩
    · have h1 := H.2 j (ready_mono hj hji) w hS
      obtain ⟨hjun, oj, hoj, hall⟩ := mem_ready.1 hj
      have hnot : ∀ e ∈ oj.after, Region.binds md e = true → e.on ≠ i := fun e he hb heq => by
        have h1 := hall e he hb
        have h0 := (mem_ready.1 hr).1
        rw [heq] at h1
        rcases Nat.lt_or_ge i listed.size with h' | h'
        · simp [h'] at h0 h1; rw [h0] at h1; cases h1
        · simp [Array.getElem?_eq_none h'] at h1
      have h2 := wpOp_putU hoj (hfree j oj hoj hji hjun hnot) (fun cs b => hsel i oi cs b hi) (fun cs b => hsel j oj cs b hoj) hQ hy h1
      have hfree' : ∀ k ok, ops[k]? = some ok → k ≠ i → (listed.setIfInBounds j true).getD k true = false →
          (∀ e ∈ ok.after, Region.binds md e = true → e.on ≠ i) → oi.apart ops ok = true := fun k ok hk hki hun hno => by
        refine hfree k ok hk hki ?_ hno
        by_cases hjk : j = k
        · subst hjk; exact hjun
        · rw [getD_set_ne true hjk] at hun; exact hun
      refine wpOp_mono (fun a' w' h3 => ⟨h3.2.1, ih (listed.setIfInBounds j true) a' hfree' (ready_mono hr (Ne.symm hji)) h3.1 ?_⟩) h2
      rw [Array.setIfInBounds_comm _ _ hji]
      exact h3.2.2

/-- Taken as they are written, each may come up and touches no temporary of one that could come before it. -/
def schedOK (md : Region.Mode) (ops : Array Oper) : Array Bool → List Nat → Bool
  | listed, [] => (Region.ready md ops listed).isEmpty
  | listed, i :: r => Region.free md ops listed i && ((Region.ready md ops listed).contains i && schedOK md ops (listed.setIfInBounds i true) r)

/-- The walk: one operation after the other. -/
def goU (P : Program) (ops : Array Oper) (Q : Exit → Act → World → Prop) (S : World → Prop) : List Oper → Act → Prop
  | [], a => ∀ w, S w → Q .normal a w
  | o :: rest, a => ∃ v, DoesIf P ops S o v a ∧ goU P ops Q S rest (a.put o.dst v)

theorem goU_val {o : Oper} {rest : List Oper} {v : Value} {a : Act} (hw : Region.wanted o (yielded ops a.tmps) = true) (h : ∀ w, S w → (execOp a.eval o).run P w = .ok (.value v) w) (k : goU P ops Q S rest (a.put o.dst v)) : goU P ops Q S (o :: rest) a :=
  ⟨v, .value hw h, k⟩
theorem goU_skip {o : Oper} {rest : List Oper} {a : Act} (hw : Region.wanted o (yielded ops a.tmps) = false) (k : goU P ops Q S rest (a.put o.dst undef)) : goU P ops Q S (o :: rest) a :=
  ⟨undef, .skip hw, k⟩
theorem goU_call {o : Oper} {rest : List Oper} {v : Value} {a : Act} {f : FuncId} {args : Array Value} (hw : Region.wanted o (yielded ops a.tmps) = true) (hc : ∀ w, S w → Calls P f args w fun e w' => e = .returned v ∧ S w')
    (h : ∀ w, (execOp a.eval o).run P w = .ok (.enter f args) w) (k : goU P ops Q S rest (a.put o.dst v)) : goU P ops Q S (o :: rest) a :=
  ⟨v, .call hw h hc, k⟩

theorem wpU_go (hs : Region.noSelect ops = true) (hQ : ∀ c a t v w, Q (.panic c) (Act.put a t v) w → Q (.panic c) a w) :
    ∀ (l : List Oper) (is : List Nat) (listed : Array Bool) (a : Act), schedOK md ops listed is = true → is.map (ops[·]?) = l.map some → goU P ops Q S l a → wpU P md ops Q S l.length listed a
  | [], [], listed, a, h, _, hg => by
    simp only [schedOK, List.isEmpty_iff] at h
    exact ⟨h, hg⟩
  | [], _ :: _, _, _, _, h, _ => by simp at h
  | _ :: _, [], _, _, _, h, _ => by simp at h
  | o :: l, i :: is, listed, a, h, hm, hg => by
    simp only [schedOK, Bool.and_eq_true] at h
    simp only [List.map_cons, List.cons.injEq] at hm
    obtain ⟨v, hd, hg⟩ := hg
    exact wpU_first hm.1 (Region.noSelect_spec hs) (fun c a w => hQ c a _ _ w) l.length listed a (Region.free_spec hm.1 h.1) (by simpa using h.2.1) hd (wpU_go hs hQ l is _ _ h.2.2 hm.2 hg)

theorem wp_region_uni {id : Nat} {l : List Oper} {a : Act} {w : World} (S : World → Prop) (hm : P.follows .mixedOrders = true) (hs : Region.noSelect l.toArray = true)
    (hsc : schedOK .any l.toArray (Array.replicate l.length false) (List.range l.length) = true) (hQ : ∀ c a t v w, Q (.panic c) (Act.put a t v) w → Q (.panic c) a w)
    (hS : S w.drew) (h : goU P l.toArray Q S l a) : (Code.region id l.toArray true).wp P Q a w := by
  refine wp_region_any hm (wpAny_of_U _ _ _ _ hS ?_)
  have := wpU_go (md := .any) hs hQ l (List.range l.length) (Array.replicate l.length false) a hsc (by
    apply List.ext_getElem?
    intro i
    rcases Nat.lt_or_ge i l.length with hi | hi
    · simp [hi, List.getElem?_range]
    · simp [hi]) h
  simpa using this
end
end Go.Proofs.YtpdoddelnahlnaaGreatDoor
