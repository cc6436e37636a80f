/-
  The statement ScriptDecodesExactly: for every input the law returns true and its arguments read as before. The library's tables that the row lists read as listed.
-/
import Derived.Test.YtmdlgfnibjcgmaaGreatDoorRows
import Derived.Test.YtmdlgfnibjcgmaaGreatDoorCards
import Derived.Test.YtmdlgfnibjcgmaaGreatDoorTie
import Derived.Test.YtmdlgfnibjcgmaaGreatDoorK46
import Derived.Test.YtmdlgfnibjcgmaaGreatDoorK05
import Derived.Test.YtmdlgfnibjcgmaaGreatDoorSeE
set_option linter.unusedSimpArgs false
set_option linter.unusedVariables false
namespace Go.Proofs.YtmdlgfnibjcgmaaGreatDoor.lawScriptDecodesExactly
open Go.ChangeShapes Go.WideShapes Go.ChangeAt Go.RowKit
open Go.ChangeMaps (open_string shut_string)
theorem own : ownKnob Tryz.prog.godebug = none := by kernel_rfl
theorem laidOut : laidOutB Tryz.prog = true := by kernel_rfl
theorem reads (os : Go.Os) {H : Type} (enc : TypeId × Value → H) : ∃ places, DataW.whole enc Tryz.prog ((laidWorld os #[]).forCall (fun _ _ => 0) ⟨#[], #[.slice none 0 0, .slice none 0 0, .int .i64 0, .int .u8 0, .bool false], []⟩).memory Tryz.f5.params.toList Rows.scriptDecodesExactlySpec.vars false (#[.slice none 0 0, .slice none 0 0, .int .i64 0, .int .u8 0, .bool false] : Array Value).toList 8 = some ([.nil, .nil, .lit (.int .i64 0), .lit (.int .u8 0), .lit (.bool false)], [], places) :=
  ⟨[], by kernel_rfl⟩
set_option maxRecDepth 100000 in
theorem lifted (os : Go.Os) (started : os.Started) (H : Type) (enc : TypeId × Value → H) (F : Stop.Interp) :
    ReturnsInHanded {} Tryz.checked os 5 .any ((OpenSpec.ofChange Rows.scriptDecodesExactlySpec).preRow enc Tryz.prog Tryz.f5 Rows.scriptDecodesExactlyRow.domain false Rows.scriptDecodesExactlyRow.laid) (((OpenSpec.ofChange Rows.scriptDecodesExactlySpec).at F).post enc Tryz.prog Tryz.f5 false true false false) := by
  obtain ⟨places, hx⟩ := reads os enc
  refine law_liftedR (C := Tryz.checked) own laidOut started Rows.scriptDecodesExactlySpec (OpenSpec.ofChange Rows.scriptDecodesExactlySpec) ⟨_, rfl⟩ (by kernel_rfl) Tryz.func5 rfl 4 rfl Tryz.underlying4 (by kernel_rfl) 5 rfl ?_
    (witness_row_atRef (enc := enc) (C := Tryz.checked) false (laidWorld os #[]) #[.slice none 0 0, .slice none 0 0, .int .i64 0, .int .u8 0, .bool false] rfl (by kernel_rfl) (by kernel_rfl) (by kernel_rfl)
      (OpenSpec.preRow_of_cond 8 hx (by kernel_rfl) (fun k hk => by cases hk) (by kernel_rfl) (laid_met os _))) ?_
  · intro ds h
    match ds, h with
    | [d0, d1, d2, d3, d4], _ => rfl
  · intro W base args ds ps hval0 hA0 hsz0 hcond hL hsh
    have henv := env_of_shaped hsh
    have htabs := tabs_of_laid hL
    have hval : ∀ (j : Nat) t v, Tryz.f5.params[j]? = some t → args[j]? = some v → Value.okWide Tryz.prog W .any base t v := hval0
    have hA : DataW.TrodAll enc Tryz.prog W 0 (fun _ => true) true Tryz.f5.params.toList args ds ps := hA0
    have hsz : (DataW.weightsEach Tryz.prog Tryz.f5.params.toList ds).all (· ≤ reachBytes) = true := hsz0
    clear hA0 hval0 hsz0
    rw [Tryz.params5] at hA hval hsz
    obtain ⟨v0, vs0, d0, ds0, p0, q0, rfl, rfl, rfl, h0, r0⟩ := trodAll_cons hA
    obtain ⟨v1, vs1, d1, ds1, p1, q1, rfl, rfl, rfl, h1, r1⟩ := trodAll_cons r0
    obtain ⟨v2, vs2, d2, ds2, p2, q2, rfl, rfl, rfl, h2, r2⟩ := trodAll_cons r1
    obtain ⟨v3, vs3, d3, ds3, p3, q3, rfl, rfl, rfl, h3, r3⟩ := trodAll_cons r2
    obtain ⟨v4, vs4, d4, ds4, p4, q4, rfl, rfl, rfl, h4, r4⟩ := trodAll_cons r3
    obtain ⟨rfl, rfl, rfl⟩ := trodAll_nil r4
    obtain ⟨a0, l0, c0, x0, rfl, z0, w0, g0, cv0⟩ := open_bytes Tryz.underlying39 Tryz.underlying5 (by kernel_rfl) (by kernel_rfl) (hval 0 39 v0 rfl rfl) h0 hsz (j := 0) rfl rfl
    obtain ⟨l1, g1, z1⟩ := open_evs (hval 1 22 v1 rfl rfl) h1
    obtain ⟨a2, rfl, rfl, rfl, w2⟩ := open_int Tryz.underlying3 (hval 2 3 v2 rfl rfl) h2
    obtain ⟨a3, rfl, rfl, rfl, w3⟩ := open_int Tryz.underlying5 (hval 3 5 v3 rfl rfl) h3
    obtain ⟨a4, rfl, rfl, rfl⟩ := open_bool Tryz.underlying4 (hval 4 4 v4 rfl rfl) h4
    exact ScriptDecodesExactly_walk a0 l0 c0 x0 v1 l1 a2 a3 a4 z0 w0 z1 w2 w3 W henv htabs cv0 g1
set_option maxHeartbeats 8000000 in
theorem closed : joinedFacts Tryz.pinned.checked.prog 5 Tryz.f5 (OpenSpec.ofChange Rows.scriptDecodesExactlySpec).bare Rows.scriptDecodesExactlyRow = true := by
  unfold joinedFacts
  simp only [Bool.and_eq_true]
  repeat' apply And.intro
  all_goals (as_aux_lemma => kernel_rfl)
theorem said : Rows.ScriptDecodesExactlySaid :=
  OpenClaim.holds_of_cond 5 Tryz.f5 rfl rfl rfl rfl rfl rfl rfl ⟨rfl, rfl, rfl, rfl, rfl⟩ rfl rfl rfl rfl rfl (by as_aux_lemma => kernel_rfl) Tryz.func5 closed
    (of_decide_eq_true (by as_aux_lemma => kernel_rfl)) (by unfold Func.isWrapper; first | (rw [if_pos (by decide +kernel)]; as_aux_lemma => kernel_rfl) | (rw [if_neg (by decide +kernel)]; exact ⟨rfl, rfl⟩))
    (fun os started H enc _ F => by rw [OpenClaim.pre_eq_preRow]; exact lifted os started H enc F)
theorem plain (f : FuncId) (fn : Func) (hf : Tryz.pinned.checked.prog.funcNamed "ginnel/ginnellaw35.ScriptDecodesExactly" = some f) (hfn : Tryz.pinned.checked.prog.funcs[f]? = some fn) :
    true = Tryz.pinned.checked.prog.looks [] ∧ ∀ (j : Nat) t, fn.params[j]? = some t → Tryz.pinned.checked.prog.wantsStandIn t = false := by
  obtain rfl : f = 5 := Option.some.inj ((show Tryz.prog.funcNamed "ginnel/ginnellaw35.ScriptDecodesExactly" = some 5 by kernel_rfl).symm.trans hf) |>.symm
  obtain rfl : fn = Tryz.f5 := (Option.some.inj (Tryz.func5.symm.trans hfn)).symm
  refine ⟨by kernel_rfl, fun j t ht => ?_⟩
  rw [Tryz.params5] at ht
  have hm := Array.mem_of_getElem? ht
  have h : ∀ t ∈ (#[39, 22, 3, 5, 4] : Array TypeId), Tryz.prog.wantsStandIn t = false := by
    intro t ht
    simp only [List.mem_toArray, List.mem_cons, List.not_mem_nil, or_false] at ht
    rcases ht with rfl | rfl | rfl | rfl | rfl <;> kernel_rfl
  exact h t hm
theorem proved : Rows.ScriptDecodesExactlyCardSaid :=
  Claim7.holds_tied_plain_at .later [] _ _ _ _ said (fun _ h => by cases h) (by kernel_rfl) (fun _ h => by cases h) scriptDecodesExactly_row_tie rfl ⟨rfl, rfl⟩ (by kernel_rfl) rfl plain (goesBy_none _).symm
#print axioms proved
end Go.Proofs.YtmdlgfnibjcgmaaGreatDoor.lawScriptDecodesExactly
