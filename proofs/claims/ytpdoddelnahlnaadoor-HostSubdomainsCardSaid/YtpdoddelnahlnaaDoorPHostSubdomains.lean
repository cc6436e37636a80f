/-
  The statement HostSubdomains: for every input the law returns true and its arguments read as before. The library's tables that the row lists read as listed.
-/
import Derived.Test.YtpdoddelnahlnaaDoorRows
import Derived.Test.YtpdoddelnahlnaaDoorCards
import Derived.Test.YtpdoddelnahlnaaDoorTie
import Derived.Test.YtpdoddelnahlnaaDoorLawR
import Derived.Test.YtpdoddelnahlnaaDoorLawW
import Derived.Test.YtpdoddelnahlnaaDoorIpO
import Derived.Test.YtpdoddelnahlnaaDoorHoSd
set_option linter.unusedSimpArgs false
set_option linter.unusedVariables false
namespace Go.Proofs.YtpdoddelnahlnaaDoor.lawHostSubdomains
open Go.ChangeShapes Go.WideShapes Go.ChangeAt Go.RowKit
open Go.ChangeMaps (open_string shut_string)
theorem own : ownKnob Tryd.prog.godebug = none := by kernel_rfl
theorem laidOut : laidOutB Tryd.prog = true := by kernel_rfl
theorem reads (os : Os) {H : Type} (enc : TypeId × Value → H) : ∃ places, DataW.whole enc Tryd.prog ((laidWorld os #[]).forCall (fun _ _ => 0) ⟨#[], #[.string ByteArray.empty, .string ByteArray.empty, .string ByteArray.empty], []⟩).memory Tryd.f3.params.toList Rows.hostSubdomainsSpec.vars false (#[.string ByteArray.empty, .string ByteArray.empty, .string ByteArray.empty] : Array Value).toList 8 = some ([.lit (.string []), .lit (.string []), .lit (.string [])], [], places) :=
  ⟨[], by kernel_rfl⟩
set_option maxRecDepth 100000 in
theorem lifted (os : Os) (started : os.Started) (H : Type) (enc : TypeId × Value → H) (F : Stop.Interp) :
    ReturnsInHanded {} Tryd.checked os 3 .any ((OpenSpec.ofChange Rows.hostSubdomainsSpec).preRow enc Tryd.prog Tryd.f3 Rows.hostSubdomainsRow.domain false Rows.hostSubdomainsRow.laid) (((OpenSpec.ofChange Rows.hostSubdomainsSpec).at F).post enc Tryd.prog Tryd.f3 false true false false) := by
  obtain ⟨places, hx⟩ := reads os enc
  refine law_liftedR (C := Tryd.checked) own laidOut started Rows.hostSubdomainsSpec (OpenSpec.ofChange Rows.hostSubdomainsSpec) ⟨_, rfl⟩ (by kernel_rfl) Tryd.func3 rfl 4 rfl Tryd.underlying4 (by kernel_rfl) 3 rfl ?_
    (witness_row_atRef (enc := enc) (C := Tryd.checked) false (laidWorld os #[]) #[.string ByteArray.empty, .string ByteArray.empty, .string ByteArray.empty] rfl (by kernel_rfl) (by kernel_rfl) (by kernel_rfl)
      (OpenSpec.preRow_of_cond 8 hx (by kernel_rfl) (fun k hk => by cases hk) (by kernel_rfl) (laid_met os _))) ?_
  · intro ds h
    match ds, h with
    | [d0, d1, d2], _ => rfl
  · intro W base args ds ps hval0 hA0 hsz0 hcond hL hsh
    have henv := env_of_shaped hsh
    have htabs := tabs_of_laid hL
    have hval : ∀ (j : Nat) t v, Tryd.f3.params[j]? = some t → args[j]? = some v → Value.okWide Tryd.prog W .any base t v := hval0
    have hA : DataW.TrodAll enc Tryd.prog W 0 (fun _ => true) true Tryd.f3.params.toList args ds ps := hA0
    have hsz : (DataW.weightsEach Tryd.prog Tryd.f3.params.toList ds).all (· ≤ reachBytes) = true := hsz0
    clear hA0 hval0 hsz0
    rw [Tryd.params3] at hA hval hsz
    obtain ⟨v0, vs0, d0, ds0, p0, q0, rfl, rfl, rfl, h0, r0⟩ := trodAll_cons hA
    obtain ⟨v1, vs1, d1, ds1, p1, q1, rfl, rfl, rfl, h1, r1⟩ := trodAll_cons r0
    obtain ⟨v2, vs2, d2, ds2, p2, q2, rfl, rfl, rfl, h2, r2⟩ := trodAll_cons r1
    obtain ⟨rfl, rfl, rfl⟩ := trodAll_nil r2
    obtain ⟨a0, rfl, rfl, rfl, z0⟩ := open_string Tryd.underlying9 (hval 0 9 v0 rfl rfl) h0
    have w0 : a0.size ≤ 140737488351232 := by
      have := sized_string hsz (j := 0) (t := 9) rfl rfl
      simpa [reachBytes] using this
    obtain ⟨a1, rfl, rfl, rfl, z1⟩ := open_string Tryd.underlying9 (hval 1 9 v1 rfl rfl) h1
    have w1 : a1.size ≤ 140737488351232 := by
      have := sized_string hsz (j := 1) (t := 9) rfl rfl
      simpa [reachBytes] using this
    obtain ⟨a2, rfl, rfl, rfl, z2⟩ := open_string Tryd.underlying9 (hval 2 9 v2 rfl rfl) h2
    have w2 : a2.size ≤ 140737488351232 := by
      have := sized_string hsz (j := 2) (t := 9) rfl rfl
      simpa [reachBytes] using this
    exact HostSubdomains_walk a0 a1 a2 w0 w1 w2 W henv htabs 
theorem said : Rows.HostSubdomainsSaid :=
  OpenClaim.holds_of_cond 3 Tryd.f3 rfl rfl rfl rfl rfl rfl rfl ⟨rfl, rfl, rfl, rfl, rfl⟩ rfl rfl rfl rfl rfl (by kernel_rfl) Tryd.func3 (by kernel_rfl)
    (of_decide_eq_true (by kernel_rfl)) (by unfold Func.isWrapper; first | (rw [if_pos (by decide +kernel)]; kernel_rfl) | (rw [if_neg (by decide +kernel)]; exact ⟨rfl, rfl⟩))
    (fun os started H enc _ F => by rw [OpenClaim.pre_eq_preRow]; exact lifted os started H enc F)
theorem plain (f : FuncId) (fn : Func) (hf : Tryd.pinned.checked.prog.funcNamed "ginnel/ginnellaw08.HostSubdomains" = some f) (hfn : Tryd.pinned.checked.prog.funcs[f]? = some fn) :
    true = Tryd.pinned.checked.prog.looks [] ∧ ∀ (j : Nat) t, fn.params[j]? = some t → Tryd.pinned.checked.prog.wantsStandIn t = false := by
  obtain rfl : f = 3 := Option.some.inj ((show Tryd.prog.funcNamed "ginnel/ginnellaw08.HostSubdomains" = some 3 by kernel_rfl).symm.trans hf) |>.symm
  obtain rfl : fn = Tryd.f3 := (Option.some.inj (Tryd.func3.symm.trans hfn)).symm
  refine ⟨by kernel_rfl, fun j t ht => ?_⟩
  rw [Tryd.params3] at ht
  have hm := Array.mem_of_getElem? ht
  have h : ∀ t ∈ (#[9, 9, 9] : Array TypeId), Tryd.prog.wantsStandIn t = false := by
    intro t ht
    simp only [List.mem_toArray, List.mem_cons, List.not_mem_nil, or_false] at ht
    rcases ht with rfl | rfl | rfl <;> kernel_rfl
  exact h t hm
theorem proved : Rows.HostSubdomainsCardSaid :=
  Claim7.holds_tied_plain_at .later [] _ _ _ _ said (fun _ h => by cases h) (by kernel_rfl) (fun _ h => by cases h) hostSubdomains_row_tie rfl ⟨rfl, rfl⟩ (by kernel_rfl) rfl plain (by kernel_rfl)
#print axioms proved
end Go.Proofs.YtpdoddelnahlnaaDoor.lawHostSubdomains
