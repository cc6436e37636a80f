/-
 The statement HandshakeIndependentOfSplits: for every input the law returns true and its arguments read as before. The library's tables that the row lists read as listed.
-/
import Derived.Test.YtnohnnjeabehjaaGreatDoorRows
import Derived.Test.YtnohnnjeabehjaaGreatDoorCards
import Derived.Test.YtnohnnjeabehjaaGreatDoorTie
import Derived.Test.YtnohnnjeabehjaaGreatDoorK40
import Derived.Test.YtnohnnjeabehjaaGreatDoorK03
import Derived.Test.YtnohnnjeabehjaaGreatDoorK39
import Derived.Test.YtnohnnjeabehjaaGreatDoorHuT
set_option linter.unusedSimpArgs false
set_option linter.unusedVariables false
namespace Go.Proofs.YtnohnnjeabehjaaGreatDoor.lawHandshakeIndependentOfSplits
open Go.ChangeShapes Go.WideShapes Go.ChangeAt Go.RowKit
open Go.ChangeMaps (open_string shut_string)
theorem own : ownKnob Tryz.prog.godebug = none := by kernel_rfl
theorem laidOut : laidOutB Tryz.prog = true := by kernel_rfl
theorem reads (os : Os) {H : Type} (enc : TypeId × Value -> H) : ∃ places, DataW.whole enc Tryz.prog ((laidWorld os #[]).forCall (fun _ _ => 0) ⟨#[], #[.int .i64 0, .int .i64 0, .string ByteArray.empty, .slice none 0 0, .slice none 0 0, .bool false], []⟩).memory Tryz.f5.params.toList Rows.handshakeIndependentOfSplitsSpec.vars false (#[.int .i64 0, .int .i64 0, .string ByteArray.empty, .slice none 0 0, .slice none 0 0, .bool false] : Array Value).toList 8 = some ([.lit (.int .i64 0), .lit (.int .i64 0), .lit (.string []), .nil, .nil, .lit (.bool false)], [], places) :=
 ⟨[], by kernel_rfl⟩
set_option maxRecDepth 100000 in
theorem lifted (os : Os) (started : os.Started) (H : Type) (enc : TypeId × Value -> H) (F : Stop.Interp) :
  ReturnsInHanded {} Tryz.checked os 5 .any ((OpenSpec.ofChange Rows.handshakeIndependentOfSplitsSpec).preRow enc Tryz.prog Tryz.f5 Rows.handshakeIndependentOfSplitsRow.domain false Rows.handshakeIndependentOfSplitsRow.laid) (((OpenSpec.ofChange Rows.handshakeIndependentOfSplitsSpec).at F).post enc Tryz.prog Tryz.f5 false true false false) := by
 obtain ⟨places, hx⟩ := reads os enc
 refine law_liftedR (C := Tryz.checked) own laidOut started Rows.handshakeIndependentOfSplitsSpec (OpenSpec.ofChange Rows.handshakeIndependentOfSplitsSpec) ⟨_, rfl⟩ (by kernel_rfl) Tryz.func5 rfl 4 rfl Tryz.underlying4 (by kernel_rfl) 6 rfl ?_
  (witness_row_atRef (enc := enc) (C := Tryz.checked) false (laidWorld os #[]) #[.int .i64 0, .int .i64 0, .string ByteArray.empty, .slice none 0 0, .slice none 0 0, .bool false] rfl (by kernel_rfl) (by kernel_rfl) (by kernel_rfl)
   (OpenSpec.preRow_of_cond 8 hx (by kernel_rfl) (fun k hk => by cases hk) (by kernel_rfl) (laid_met os _))) ?_
 ·intro ds h
  match ds, h with
  | [d0, d1, d2, d3, d4, d5], _ => rfl
 ·intro W base args ds ps hval0 hA0 hsz0 hcond hL hsh
  have henv := env_of_shaped hsh
  have htabs := tabs_of_laid hL
  have hval : ∀ (j : Nat) t v, Tryz.f5.params[j]? = some t -> args[j]? = some v -> Value.okWide Tryz.prog W .any base t v := hval0
  have hA : DataW.TrodAll enc Tryz.prog W 0 (fun _ => true) true Tryz.f5.params.toList args ds ps := hA0
  have hsz : (DataW.weightsEach Tryz.prog Tryz.f5.params.toList ds).all (· <= reachBytes) = true := hsz0
  clear hA0 hval0 hsz0
  rw [Tryz.params5] at hA hval hsz
  obtain ⟨v0, vs0, d0, ds0, p0, q0, rfl, rfl, rfl, h0, r0⟩ := trodAll_cons hA
  obtain ⟨v1, vs1, d1, ds1, p1, q1, rfl, rfl, rfl, h1, r1⟩ := trodAll_cons r0
  obtain ⟨v2, vs2, d2, ds2, p2, q2, rfl, rfl, rfl, h2, r2⟩ := trodAll_cons r1
  obtain ⟨v3, vs3, d3, ds3, p3, q3, rfl, rfl, rfl, h3, r3⟩ := trodAll_cons r2
  obtain ⟨v4, vs4, d4, ds4, p4, q4, rfl, rfl, rfl, h4, r4⟩ := trodAll_cons r3
  obtain ⟨v5, vs5, d5, ds5, p5, q5, rfl, rfl, rfl, h5, r5⟩ := trodAll_cons r4
  obtain ⟨rfl, rfl, rfl⟩ := trodAll_nil r5
  obtain ⟨a0, rfl, rfl, rfl, w0⟩ := open_int Tryz.underlying3 (hval 0 3 v0 rfl rfl) h0
  obtain ⟨a1, rfl, rfl, rfl, w1⟩ := open_int Tryz.underlying3 (hval 1 3 v1 rfl rfl) h1
  obtain ⟨a2, rfl, rfl, rfl, z2⟩ := open_string Tryz.underlying9 (hval 2 9 v2 rfl rfl) h2
  have w2 : a2.size <= 140737488351232 := by
   have := sized_string hsz (j := 2) (t := 9) rfl rfl
   simpa [reachBytes] using this
  obtain ⟨a3, l3, c3, x3, rfl, z3, g3⟩ := open_i64s (hval 3 22 v3 rfl rfl) h3 hsz (j := 3) rfl rfl
  obtain ⟨a4, l4, c4, x4, rfl, z4, g4⟩ := open_i64s (hval 4 22 v4 rfl rfl) h4 hsz (j := 4) rfl rfl
  obtain ⟨a5, rfl, rfl, rfl⟩ := open_bool Tryz.underlying4 (hval 5 4 v5 rfl rfl) h5
  exact HandshakeIndependentOfSplits_walk a0 a1 a2 a3 l3 c3 x3 a4 l4 c4 x4 a5 w0 w1 w2 z3 z4 W henv htabs g3 g4
set_option maxHeartbeats 8000000 in
theorem closed : joinedFacts Tryz.pinned.checked.prog 5 Tryz.f5 (OpenSpec.ofChange Rows.handshakeIndependentOfSplitsSpec).bare Rows.handshakeIndependentOfSplitsRow = true := by
 unfold joinedFacts
 simp only [Bool.and_eq_true]
 repeat' apply And.intro
 all_goals (as_aux_lemma => kernel_rfl)
theorem said : Rows.HandshakeIndependentOfSplitsSaid :=
 OpenClaim.holds_of_cond 5 Tryz.f5 rfl rfl rfl rfl rfl rfl rfl ⟨rfl, rfl, rfl, rfl, rfl⟩ rfl rfl rfl rfl rfl (by as_aux_lemma => kernel_rfl) Tryz.func5 closed
  (of_decide_eq_true (by as_aux_lemma => kernel_rfl)) (by unfold Func.isWrapper; first | (rw [if_pos (by decide +kernel)]; as_aux_lemma => kernel_rfl) | (rw [if_neg (by decide +kernel)]; exact ⟨rfl, rfl⟩))
  (fun os started H enc _ F => by rw [OpenClaim.pre_eq_preRow]; exact lifted os started H enc F)
theorem plain (f : FuncId) (fn : Func) (hf : Tryz.pinned.checked.prog.funcNamed "ginnel/ginnellaw23.HandshakeIndependentOfSplits" = some f) (hfn : Tryz.pinned.checked.prog.funcs[f]? = some fn) :
  true = Tryz.pinned.checked.prog.looks [] /\ ∀ (j : Nat) t, fn.params[j]? = some t -> Tryz.pinned.checked.prog.wantsStandIn t = false := by
 obtain rfl : f = 5 := Option.some.inj ((show Tryz.prog.funcNamed "ginnel/ginnellaw23.HandshakeIndependentOfSplits" = some 5 by kernel_rfl).symm.trans hf) |>.symm
 obtain rfl : fn = Tryz.f5 := (Option.some.inj (Tryz.func5.symm.trans hfn)).symm
 refine ⟨by kernel_rfl, fun j t ht => ?_⟩
 rw [Tryz.params5] at ht
 have hm := Array.mem_of_getElem? ht
 have h : ∀ t ∈ (#[3, 3, 9, 22, 22, 4] : Array TypeId), Tryz.prog.wantsStandIn t = false := by
  intro t ht
  simp only [List.mem_toArray, List.mem_cons, List.not_mem_nil, or_false] at ht
  rcases ht with rfl | rfl | rfl | rfl | rfl | rfl <;> kernel_rfl
 exact h t hm
theorem proved : Rows.HandshakeIndependentOfSplitsCardSaid :=
 Claim7.holds_tied_plain_at .later [] _ _ _ _ said (fun _ h => by cases h) (by kernel_rfl) (fun _ h => by cases h) handshakeIndependentOfSplits_row_tie rfl ⟨rfl, rfl⟩ (by kernel_rfl) rfl plain (by kernel_rfl)
#print axioms proved
end Go.Proofs.YtnohnnjeabehjaaGreatDoor.lawHandshakeIndependentOfSplits
