/-
  The statement HttpconnectRoundTripUpto: for every input the law returns true and its arguments read as before. Condition: the bulk of what it reads is bounded as the row says. The library's tables that the row lists read as listed.
-/
import Derived.Test.YtpdoddelnahlnaaGreatDoorRows
import Derived.Test.YtpdoddelnahlnaaGreatDoorCards
import Derived.Test.YtpdoddelnahlnaaGreatDoorTie
import Derived.Test.YtpdoddelnahlnaaGreatDoorK06
import Derived.Test.YtpdoddelnahlnaaGreatDoorK18
import Derived.Test.YtpdoddelnahlnaaGreatDoorHcOp
import Derived.Test.YtpdoddelnahlnaaGreatDoorHcRw
set_option linter.unusedSimpArgs false
set_option linter.unusedVariables false
namespace Go.Proofs.YtpdoddelnahlnaaGreatDoor.lawHttpconnectRoundTrip
open Go.ChangeShapes Go.WideShapes Go.ChangeAt Go.RowKit
open Go.ChangeMaps (open_string shut_string)
theorem own : ownKnob Tryz.prog.godebug = none := by kernel_rfl
theorem laidOut : laidOutB Tryz.prog = true := by kernel_rfl
theorem reads (os : Os) {H : Type} (enc : TypeId × Value → H) : ∃ places, DataW.whole enc Tryz.prog ((laidWorld os #[]).forCall (fun _ _ => 0) ⟨#[], #[.agg #[.string ByteArray.empty, .bool false, .int .u8 0, .int .u8 0, .int .u8 0, .int .u8 0, .int .u8 0, .int .u8 0, .int .u8 0, .int .u8 0, .int .u8 0, .int .u8 0, .int .u8 0, .int .u8 0, .int .u8 0, .int .u8 0, .int .u8 0, .int .u8 0, .int .i64 0, .bool false, .string ByteArray.empty, .string ByteArray.empty], .int .i64 0, .string ByteArray.empty, .string ByteArray.empty, .string ByteArray.empty], []⟩).memory Tryz.f10.params.toList Rows.httpconnectRoundTripSpec.vars false (#[.agg #[.string ByteArray.empty, .bool false, .int .u8 0, .int .u8 0, .int .u8 0, .int .u8 0, .int .u8 0, .int .u8 0, .int .u8 0, .int .u8 0, .int .u8 0, .int .u8 0, .int .u8 0, .int .u8 0, .int .u8 0, .int .u8 0, .int .u8 0, .int .u8 0, .int .i64 0, .bool false, .string ByteArray.empty, .string ByteArray.empty], .int .i64 0, .string ByteArray.empty, .string ByteArray.empty, .string ByteArray.empty] : Array Value).toList 8 = some ([.agg [.agg [.lit (.string []), .agg [.lit (.bool false), .agg [.lit (.int .u8 0), .lit (.int .u8 0), .lit (.int .u8 0), .lit (.int .u8 0), .lit (.int .u8 0), .lit (.int .u8 0), .lit (.int .u8 0), .lit (.int .u8 0), .lit (.int .u8 0), .lit (.int .u8 0), .lit (.int .u8 0), .lit (.int .u8 0), .lit (.int .u8 0), .lit (.int .u8 0), .lit (.int .u8 0), .lit (.int .u8 0)]], .lit (.int .i64 0)], .lit (.bool false), .lit (.string []), .lit (.string [])], .lit (.int .i64 0), .lit (.string []), .lit (.string []), .lit (.string [])], [], places) :=
  ⟨[], by kernel_rfl⟩
set_option maxRecDepth 100000 in
theorem lifted (os : Os) (started : os.Started) (H : Type) (enc : TypeId × Value → H) (F : Stop.Interp) :
    ReturnsInHanded {} Tryz.checked os 10 .any ((Rows.OpenSpec.upto Rows.httpconnectRoundTripSpec).preRow enc Tryz.prog Tryz.f10 Rows.httpconnectRoundTripUptoRow.domain false Rows.httpconnectRoundTripUptoRow.laid) (((Rows.OpenSpec.upto Rows.httpconnectRoundTripSpec).at F).post enc Tryz.prog Tryz.f10 false true false false) := by
  obtain ⟨places, hx⟩ := reads os enc
  refine law_liftedR (C := Tryz.checked) own laidOut started Rows.httpconnectRoundTripSpec (Rows.OpenSpec.upto Rows.httpconnectRoundTripSpec) ⟨_, rfl⟩ (by kernel_rfl) Tryz.func10 rfl 4 rfl Tryz.underlying4 (by kernel_rfl) 5 rfl ?_
    (witness_row_atRef (enc := enc) (C := Tryz.checked) false (laidWorld os #[]) #[.agg #[.string ByteArray.empty, .bool false, .int .u8 0, .int .u8 0, .int .u8 0, .int .u8 0, .int .u8 0, .int .u8 0, .int .u8 0, .int .u8 0, .int .u8 0, .int .u8 0, .int .u8 0, .int .u8 0, .int .u8 0, .int .u8 0, .int .u8 0, .int .u8 0, .int .i64 0, .bool false, .string ByteArray.empty, .string ByteArray.empty], .int .i64 0, .string ByteArray.empty, .string ByteArray.empty, .string ByteArray.empty] rfl (by kernel_rfl) (by kernel_rfl) (by kernel_rfl)
      (OpenSpec.preRow_of_cond 8 hx (by kernel_rfl) (fun k hk => by cases hk; kernel_rfl) (by kernel_rfl) (laid_met os _))) ?_
  · intro ds h
    match ds, h with
    | [d0, d1, d2, d3, d4], _ => rfl
  · intro W base args ds ps hval0 hA0 hsz0 hcond hL hsh
    have henv := env_of_shaped hsh
    have htabs := tabs_of_laid hL
    have hval : ∀ (j : Nat) t v, Tryz.f10.params[j]? = some t → args[j]? = some v → Value.okWide Tryz.prog W .any base t v := hval0
    have hA : DataW.TrodAll enc Tryz.prog W 0 (fun _ => true) true Tryz.f10.params.toList args ds ps := hA0
    have hsz : (DataW.weightsEach Tryz.prog Tryz.f10.params.toList ds).all (· ≤ reachBytes) = true := hsz0
    clear hA0 hval0 hsz0
    rw [Tryz.params10] at hA hval hsz
    obtain ⟨v0, vs0, d0, ds0, p0, q0, rfl, rfl, rfl, h0, r0⟩ := trodAll_cons hA
    obtain ⟨v1, vs1, d1, ds1, p1, q1, rfl, rfl, rfl, h1, r1⟩ := trodAll_cons r0
    obtain ⟨v2, vs2, d2, ds2, p2, q2, rfl, rfl, rfl, h2, r2⟩ := trodAll_cons r1
    obtain ⟨v3, vs3, d3, ds3, p3, q3, rfl, rfl, rfl, h3, r3⟩ := trodAll_cons r2
    obtain ⟨v4, vs4, d4, ds4, p4, q4, rfl, rfl, rfl, h4, r4⟩ := trodAll_cons r3
    obtain ⟨rfl, rfl, rfl⟩ := trodAll_nil r4
    obtain ⟨a0, w0, rfl, b0⟩ := open_C (hval 0 46 v0 rfl rfl) h0
    obtain ⟨a1, rfl, rfl, rfl, w1⟩ := open_int Tryz.underlying3 (hval 1 3 v1 rfl rfl) h1
    obtain ⟨a2, rfl, rfl, rfl, z2⟩ := open_string Tryz.underlying9 (hval 2 9 v2 rfl rfl) h2
    have w2 : a2.size ≤ 140737488351232 := by
      have := sized_string hsz (j := 2) (t := 9) rfl rfl
      simpa [reachBytes] using this
    obtain ⟨a3, rfl, rfl, rfl, z3⟩ := open_string Tryz.underlying9 (hval 3 9 v3 rfl rfl) h3
    have w3 : a3.size ≤ 140737488351232 := by
      have := sized_string hsz (j := 3) (t := 9) rfl rfl
      simpa [reachBytes] using this
    obtain ⟨a4, rfl, rfl, rfl, z4⟩ := open_string Tryz.underlying9 (hval 4 9 v4 rfl rfl) h4
    have w4 : a4.size ≤ 140737488351232 := by
      have := sized_string hsz (j := 4) (t := 9) rfl rfl
      simpa [reachBytes] using this
    have u2 : a2.size < 1048576 := by
      have h := hcond _ rfl
      simp [Rows.uptoSmall, Rows.uptoBulkAll, Rows.uptoBulk] at h
      have := size_list a2
      omega
    have u3 : a3.size < 1048576 := by
      have h := hcond _ rfl
      simp [Rows.uptoSmall, Rows.uptoBulkAll, Rows.uptoBulk] at h
      have := size_list a3
      omega
    have u4 : a4.size < 1048576 := by
      have h := hcond _ rfl
      simp [Rows.uptoSmall, Rows.uptoBulkAll, Rows.uptoBulk] at h
      have := size_list a4
      omega
    have bb0 : a0.2.2.1.size ≤ 1048576 ∧ a0.2.2.2.size ≤ 1048576 := b0 (by
      have h := hcond _ rfl
      simp [Rows.uptoSmall, Rows.uptoBulkAll, Rows.uptoBulk] at h
      omega)
    exact HttpconnectRoundTrip_walk a0 a1 a2 a3 a4 w0 w1 w2 w3 w4 W henv htabs bb0 u2 u3 u4
theorem said : Rows.HttpconnectRoundTripUptoSaid :=
  OpenClaim.holds_of_cond 10 Tryz.f10 rfl rfl rfl rfl rfl rfl rfl ⟨rfl, rfl, rfl, rfl, rfl⟩ rfl rfl rfl rfl rfl (by kernel_rfl) Tryz.func10 (by kernel_rfl)
    (of_decide_eq_true (by kernel_rfl)) (by unfold Func.isWrapper; first | (rw [if_pos (by decide +kernel)]; kernel_rfl) | (rw [if_neg (by decide +kernel)]; exact ⟨rfl, rfl⟩))
    (fun os started H enc _ F => by rw [OpenClaim.pre_eq_preRow]; exact lifted os started H enc F)
theorem plain (f : FuncId) (fn : Func) (hf : Tryz.pinned.checked.prog.funcNamed "ginnel/ginnellaw20.HttpconnectRoundTrip" = some f) (hfn : Tryz.pinned.checked.prog.funcs[f]? = some fn) :
    true = Tryz.pinned.checked.prog.looks [] ∧ ∀ (j : Nat) t, fn.params[j]? = some t → Tryz.pinned.checked.prog.wantsStandIn t = false := by
  obtain rfl : f = 10 := Option.some.inj ((show Tryz.prog.funcNamed "ginnel/ginnellaw20.HttpconnectRoundTrip" = some 10 by kernel_rfl).symm.trans hf) |>.symm
  obtain rfl : fn = Tryz.f10 := (Option.some.inj (Tryz.func10.symm.trans hfn)).symm
  refine ⟨by kernel_rfl, fun j t ht => ?_⟩
  rw [Tryz.params10] at ht
  have hm := Array.mem_of_getElem? ht
  have h : ∀ t ∈ (#[46, 3, 9, 9, 9] : Array TypeId), Tryz.prog.wantsStandIn t = false := by
    intro t ht
    simp only [List.mem_toArray, List.mem_cons, List.not_mem_nil, or_false] at ht
    rcases ht with rfl | rfl | rfl | rfl | rfl <;> kernel_rfl
  exact h t hm
theorem proved : Rows.HttpconnectRoundTripUptoCardSaid :=
  Claim7.holds_tied_plain_at .later [] _ _ _ _ said (fun _ h => by cases h) (by kernel_rfl) (fun _ h => by cases h) httpconnectRoundTripUpto_row_tie rfl ⟨rfl, rfl⟩ (by kernel_rfl) rfl plain (by kernel_rfl)
#print axioms proved
end Go.Proofs.YtpdoddelnahlnaaGreatDoor.lawHttpconnectRoundTrip
