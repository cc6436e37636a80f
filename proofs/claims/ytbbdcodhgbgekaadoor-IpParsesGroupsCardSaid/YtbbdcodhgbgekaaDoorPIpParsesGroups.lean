/-
  The statement IpParsesGroups: for every input the law returns true and its arguments read as before. The library's tables that the row lists read as listed.
-/
import Derived.Test.YtbbdcodhgbgekaaDoorRows
import Derived.Test.YtbbdcodhgbgekaaDoorCards
import Derived.Test.YtbbdcodhgbgekaaDoorTie
import Derived.Test.YtbbdcodhgbgekaaDoorLawR
import Derived.Test.YtbbdcodhgbgekaaDoorLawW
import Derived.Test.YtbbdcodhgbgekaaDoorIpO
import Derived.Test.YtbbdcodhgbgekaaDoorIpOg
import Derived.Test.YtbbdcodhgbgekaaDoorIpPg
import Derived.Test.YtbbdcodhgbgekaaDoorIpOh
set_option linter.unusedSimpArgs false
set_option linter.unusedVariables false
namespace Go.Proofs.YtbbdcodhgbgekaaDoor.lawIpParsesGroups
open Go.ChangeShapes Go.WideShapes Go.ChangeAt Go.RowKit
open Go.ChangeMaps (open_string shut_string)
theorem own : ownKnob Tryd.prog.godebug = none := by kernel_rfl
theorem laidOut : laidOutB Tryd.prog = true := by kernel_rfl
theorem reads (os : Os) {H : Type} (enc : TypeId × Value → H) : ∃ places, DataW.whole enc Tryd.prog ((laidWorld os #[]).forCall (fun _ _ => 0) ⟨#[], #[.slice none 0 0, .int .i64 0, .bool false, .bool false], []⟩).memory Tryd.f6.params.toList Rows.ipParsesGroupsSpec.vars false (#[.slice none 0 0, .int .i64 0, .bool false, .bool false] : Array Value).toList 8 = some ([.nil, .lit (.int .i64 0), .lit (.bool false), .lit (.bool false)], [], places) :=
  ⟨[], by kernel_rfl⟩
set_option maxRecDepth 100000 in
theorem lifted (os : Os) (started : os.Started) (H : Type) (enc : TypeId × Value → H) (F : Stop.Interp) :
    ReturnsInHanded {} Tryd.checked os 6 .any ((OpenSpec.ofChange Rows.ipParsesGroupsSpec).preRow enc Tryd.prog Tryd.f6 Rows.ipParsesGroupsRow.domain false Rows.ipParsesGroupsRow.laid) (((OpenSpec.ofChange Rows.ipParsesGroupsSpec).at F).post enc Tryd.prog Tryd.f6 false true false false) := by
  obtain ⟨places, hx⟩ := reads os enc
  refine law_liftedR (C := Tryd.checked) own laidOut started Rows.ipParsesGroupsSpec (OpenSpec.ofChange Rows.ipParsesGroupsSpec) ⟨_, rfl⟩ (by kernel_rfl) Tryd.func6 rfl 4 rfl Tryd.underlying4 (by kernel_rfl) 4 rfl ?_
    (witness_row_atRef (enc := enc) (C := Tryd.checked) false (laidWorld os #[]) #[.slice none 0 0, .int .i64 0, .bool false, .bool false] rfl (by kernel_rfl) (by kernel_rfl) (by kernel_rfl)
      (OpenSpec.preRow_of_cond 8 hx (by kernel_rfl) (fun k hk => by cases hk) (by kernel_rfl) (laid_met os _))) ?_
  · intro ds h
    match ds, h with
    | [d0, d1, d2, d3], _ => rfl
  · intro W base args ds ps hval0 hA0 hsz0 hcond hL hsh
    have henv := env_of_shaped hsh
    have htabs := tabs_of_laid hL
    have hval : ∀ (j : Nat) t v, Tryd.f6.params[j]? = some t → args[j]? = some v → Value.okWide Tryd.prog W .any base t v := hval0
    have hA : DataW.TrodAll enc Tryd.prog W 0 (fun _ => true) true Tryd.f6.params.toList args ds ps := hA0
    have hsz : (DataW.weightsEach Tryd.prog Tryd.f6.params.toList ds).all (· ≤ reachBytes) = true := hsz0
    clear hA0 hval0 hsz0
    rw [Tryd.params6] at hA hval hsz
    obtain ⟨v0, vs0, d0, ds0, p0, q0, rfl, rfl, rfl, h0, r0⟩ := trodAll_cons hA
    obtain ⟨v1, vs1, d1, ds1, p1, q1, rfl, rfl, rfl, h1, r1⟩ := trodAll_cons r0
    obtain ⟨v2, vs2, d2, ds2, p2, q2, rfl, rfl, rfl, h2, r2⟩ := trodAll_cons r1
    obtain ⟨v3, vs3, d3, ds3, p3, q3, rfl, rfl, rfl, h3, r3⟩ := trodAll_cons r2
    obtain ⟨rfl, rfl, rfl⟩ := trodAll_nil r3
    obtain ⟨a0, g0, z0⟩ := open_u16g (hval 0 37 v0 rfl rfl) h0 hsz (j := 0) rfl rfl
    obtain ⟨a1, rfl, rfl, rfl, w1⟩ := open_int Tryd.underlying3 (hval 1 3 v1 rfl rfl) h1
    obtain ⟨a2, rfl, rfl, rfl⟩ := open_bool Tryd.underlying4 (hval 2 4 v2 rfl rfl) h2
    obtain ⟨a3, rfl, rfl, rfl⟩ := open_bool Tryd.underlying4 (hval 3 4 v3 rfl rfl) h3
    exact IpParsesGroups_walk v0 a0 a1 a2 a3 w1 W henv htabs g0 z0
theorem said : Rows.IpParsesGroupsSaid :=
  OpenClaim.holds_of_cond 6 Tryd.f6 rfl rfl rfl rfl rfl rfl rfl ⟨rfl, rfl, rfl, rfl, rfl⟩ rfl rfl rfl rfl rfl (by kernel_rfl) Tryd.func6 (by kernel_rfl)
    (of_decide_eq_true (by kernel_rfl)) (by unfold Func.isWrapper; first | (rw [if_pos (by decide +kernel)]; kernel_rfl) | (rw [if_neg (by decide +kernel)]; exact ⟨rfl, rfl⟩))
    (fun os started H enc _ F => by rw [OpenClaim.pre_eq_preRow]; exact lifted os started H enc F)
theorem plain (f : FuncId) (fn : Func) (hf : Tryd.pinned.checked.prog.funcNamed "ginnel/ginnellaw07.IpParsesGroups" = some f) (hfn : Tryd.pinned.checked.prog.funcs[f]? = some fn) :
    true = Tryd.pinned.checked.prog.looks [] ∧ ∀ (j : Nat) t, fn.params[j]? = some t → Tryd.pinned.checked.prog.wantsStandIn t = false := by
  obtain rfl : f = 6 := Option.some.inj ((show Tryd.prog.funcNamed "ginnel/ginnellaw07.IpParsesGroups" = some 6 by kernel_rfl).symm.trans hf) |>.symm
  obtain rfl : fn = Tryd.f6 := (Option.some.inj (Tryd.func6.symm.trans hfn)).symm
  refine ⟨by kernel_rfl, fun j t ht => ?_⟩
  rw [Tryd.params6] at ht
  have hm := Array.mem_of_getElem? ht
  have h : ∀ t ∈ (#[37, 3, 4, 4] : Array TypeId), Tryd.prog.wantsStandIn t = false := by
    intro t ht
    simp only [List.mem_toArray, List.mem_cons, List.not_mem_nil, or_false] at ht
    rcases ht with rfl | rfl | rfl | rfl <;> kernel_rfl
  exact h t hm
theorem proved : Rows.IpParsesGroupsCardSaid :=
  Claim7.holds_tied_plain_at .later [] _ _ _ _ said (fun _ h => by cases h) (by kernel_rfl) (fun _ h => by cases h) ipParsesGroups_row_tie rfl ⟨rfl, rfl⟩ (by kernel_rfl) rfl plain (by kernel_rfl)
#print axioms proved
end Go.Proofs.YtbbdcodhgbgekaaDoor.lawIpParsesGroups
