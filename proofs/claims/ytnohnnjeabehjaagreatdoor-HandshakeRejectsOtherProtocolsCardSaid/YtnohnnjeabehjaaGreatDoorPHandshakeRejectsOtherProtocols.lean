/-
  The statement HandshakeRejectsOtherProtocols: for every input the law returns true and its arguments read as before. The library's tables that the row lists read as listed.
-/
import Derived.Test.YtnohnnjeabehjaaGreatDoorRows
import Derived.Test.YtnohnnjeabehjaaGreatDoorCards
import Derived.Test.YtnohnnjeabehjaaGreatDoorTie
import Derived.Test.YtnohnnjeabehjaaGreatDoorK40
import Derived.Test.YtnohnnjeabehjaaGreatDoorK03
import Derived.Test.YtnohnnjeabehjaaGreatDoorHuBy
import Derived.Test.YtnohnnjeabehjaaGreatDoorHuP
set_option linter.unusedSimpArgs false
set_option linter.unusedVariables false
namespace Go.Proofs.YtnohnnjeabehjaaGreatDoor.lawHandshakeRejectsOtherProtocols
open Go.ChangeShapes Go.WideShapes Go.ChangeAt Go.RowKit
open Go.ChangeMaps (open_string shut_string)
theorem own : ownKnob Tryz.prog.godebug = none := by kernel_rfl
theorem laidOut : laidOutB Tryz.prog = true := by kernel_rfl
theorem reads (os : Os) {H : Type} (enc : TypeId × Value → H) : ∃ places, DataW.whole enc Tryz.prog ((laidWorld os #[]).forCall (fun _ _ => 0) ⟨#[], #[.slice none 0 0], []⟩).memory Tryz.f7.params.toList Rows.handshakeRejectsOtherProtocolsSpec.vars false (#[.slice none 0 0] : Array Value).toList 8 = some ([.nil], [], places) :=
  ⟨[], by kernel_rfl⟩
set_option maxRecDepth 100000 in
theorem lifted (os : Os) (started : os.Started) (H : Type) (enc : TypeId × Value → H) (F : Stop.Interp) :
    ReturnsInHanded {} Tryz.checked os 7 .any ((OpenSpec.ofChange Rows.handshakeRejectsOtherProtocolsSpec).preRow enc Tryz.prog Tryz.f7 Rows.handshakeRejectsOtherProtocolsRow.domain false Rows.handshakeRejectsOtherProtocolsRow.laid) (((OpenSpec.ofChange Rows.handshakeRejectsOtherProtocolsSpec).at F).post enc Tryz.prog Tryz.f7 false true false false) := by
  obtain ⟨places, hx⟩ := reads os enc
  refine law_liftedR (C := Tryz.checked) own laidOut started Rows.handshakeRejectsOtherProtocolsSpec (OpenSpec.ofChange Rows.handshakeRejectsOtherProtocolsSpec) ⟨_, rfl⟩ (by kernel_rfl) Tryz.func7 rfl 4 rfl Tryz.underlying4 (by kernel_rfl) 1 rfl ?_
    (witness_row_atRef (enc := enc) (C := Tryz.checked) false (laidWorld os #[]) #[.slice none 0 0] rfl (by kernel_rfl) (by kernel_rfl) (by kernel_rfl)
      (OpenSpec.preRow_of_cond 8 hx (by kernel_rfl) (fun k hk => by cases hk) (by kernel_rfl) (laid_met os _))) ?_
  · intro ds h
    match ds, h with
    | [d0], _ => rfl
  · intro W base args ds ps hval0 hA0 hsz0 hcond hL hsh
    have henv := env_of_shaped hsh
    have htabs := tabs_of_laid hL
    have hval : ∀ (j : Nat) t v, Tryz.f7.params[j]? = some t → args[j]? = some v → Value.okWide Tryz.prog W .any base t v := hval0
    have hA : DataW.TrodAll enc Tryz.prog W 0 (fun _ => true) true Tryz.f7.params.toList args ds ps := hA0
    have hsz : (DataW.weightsEach Tryz.prog Tryz.f7.params.toList ds).all (· ≤ reachBytes) = true := hsz0
    clear hA0 hval0 hsz0
    rw [Tryz.params7] at hA hval hsz
    obtain ⟨v0, vs0, d0, ds0, p0, q0, rfl, rfl, rfl, h0, r0⟩ := trodAll_cons hA
    obtain ⟨rfl, rfl, rfl⟩ := trodAll_nil r0
    obtain ⟨a0, l0, c0, x0, rfl, z0, w0, g0, cv0⟩ := open_bytes9 Tryz.underlying33 Tryz.underlying5 (by kernel_rfl) (by kernel_rfl) (hval 0 33 v0 rfl rfl) h0 hsz (j := 0) rfl rfl
    exact HandshakeRejectsOtherProtocols_walk a0 l0 c0 x0 z0 w0 W henv htabs g0 (fun W1 hW1 => cv0 W1 hW1 _ Tryz.underlying9)
set_option maxHeartbeats 8000000 in
theorem closed : joinedFacts Tryz.pinned.checked.prog 7 Tryz.f7 (OpenSpec.ofChange Rows.handshakeRejectsOtherProtocolsSpec).bare Rows.handshakeRejectsOtherProtocolsRow = true := by
  unfold joinedFacts
  simp only [Bool.and_eq_true]
  repeat' apply And.intro
  all_goals (as_aux_lemma => kernel_rfl)
theorem said : Rows.HandshakeRejectsOtherProtocolsSaid :=
  OpenClaim.holds_of_cond 7 Tryz.f7 rfl rfl rfl rfl rfl rfl rfl ⟨rfl, rfl, rfl, rfl, rfl⟩ rfl rfl rfl rfl rfl (by as_aux_lemma => kernel_rfl) Tryz.func7 closed
    (of_decide_eq_true (by as_aux_lemma => kernel_rfl)) (by unfold Func.isWrapper; first | (rw [if_pos (by decide +kernel)]; as_aux_lemma => kernel_rfl) | (rw [if_neg (by decide +kernel)]; exact ⟨rfl, rfl⟩))
    (fun os started H enc _ F => by rw [OpenClaim.pre_eq_preRow]; exact lifted os started H enc F)
theorem plain (f : FuncId) (fn : Func) (hf : Tryz.pinned.checked.prog.funcNamed "ginnel/ginnellaw23.HandshakeRejectsOtherProtocols" = some f) (hfn : Tryz.pinned.checked.prog.funcs[f]? = some fn) :
    true = Tryz.pinned.checked.prog.looks [] ∧ ∀ (j : Nat) t, fn.params[j]? = some t → Tryz.pinned.checked.prog.wantsStandIn t = false := by
  obtain rfl : f = 7 := Option.some.inj ((show Tryz.prog.funcNamed "ginnel/ginnellaw23.HandshakeRejectsOtherProtocols" = some 7 by kernel_rfl).symm.trans hf) |>.symm
  obtain rfl : fn = Tryz.f7 := (Option.some.inj (Tryz.func7.symm.trans hfn)).symm
  refine ⟨by kernel_rfl, fun j t ht => ?_⟩
  rw [Tryz.params7] at ht
  have hm := Array.mem_of_getElem? ht
  have h : ∀ t ∈ (#[33] : Array TypeId), Tryz.prog.wantsStandIn t = false := by
    intro t ht
    simp only [List.mem_toArray, List.mem_cons, List.not_mem_nil, or_false] at ht
    rcases ht with rfl <;> kernel_rfl
  exact h t hm
theorem proved : Rows.HandshakeRejectsOtherProtocolsCardSaid :=
  Claim7.holds_tied_plain_at .later [] _ _ _ _ said (fun _ h => by cases h) (by kernel_rfl) (fun _ h => by cases h) handshakeRejectsOtherProtocols_row_tie rfl ⟨rfl, rfl⟩ (by kernel_rfl) rfl plain (by kernel_rfl)
#print axioms proved
end Go.Proofs.YtnohnnjeabehjaaGreatDoor.lawHandshakeRejectsOtherProtocols
