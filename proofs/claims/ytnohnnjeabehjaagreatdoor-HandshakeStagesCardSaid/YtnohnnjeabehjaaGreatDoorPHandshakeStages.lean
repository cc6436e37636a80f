/-
 The statement HandshakeStages: for every input the law returns true and its arguments read as before. The library's tables that the row lists read as listed.
-/
import Derived.Test.YtnohnnjeabehjaaGreatDoorRows
import Derived.Test.YtnohnnjeabehjaaGreatDoorCards
import Derived.Test.YtnohnnjeabehjaaGreatDoorTie
import Derived.Test.YtnohnnjeabehjaaGreatDoorK40
import Derived.Test.YtnohnnjeabehjaaGreatDoorK03
import Derived.Test.YtnohnnjeabehjaaGreatDoorHuBy
import Derived.Test.YtnohnnjeabehjaaGreatDoorK39
import Derived.Test.YtnohnnjeabehjaaGreatDoorHuS
set_option linter.unusedSimpArgs false
set_option linter.unusedVariables false
namespace Go.Proofs.YtnohnnjeabehjaaGreatDoor.lawHandshakeStages
open Go.ChangeShapes Go.WideShapes Go.ChangeAt Go.RowKit
open Go.ChangeMaps (open_string shut_string)
theorem own : ownKnob Tryz.prog.godebug = none := by kernel_rfl
theorem laidOut : laidOutB Tryz.prog = true := by kernel_rfl
theorem reads (os : Os) {H : Type} (enc : TypeId × Value -> H) : ∃ places, DataW.whole enc Tryz.prog ((laidWorld os #[]).forCall (fun _ _ => 0) ⟨#[], #[.slice none 0 0, .int .i64 0, .int .i64 0, .int .i64 0, .int .u8 0, .string ByteArray.empty, .int .u8 0, .slice none 0 0], []⟩).memory Tryz.f4.params.toList Rows.handshakeStagesSpec.vars false (#[.slice none 0 0, .int .i64 0, .int .i64 0, .int .i64 0, .int .u8 0, .string ByteArray.empty, .int .u8 0, .slice none 0 0] : Array Value).toList 8 = some ([.nil, .lit (.int .i64 0), .lit (.int .i64 0), .lit (.int .i64 0), .lit (.int .u8 0), .lit (.string []), .lit (.int .u8 0), .nil], [], places) :=
 ⟨[], by kernel_rfl⟩
set_option maxRecDepth 100000 in
theorem lifted (os : Os) (started : os.Started) (H : Type) (enc : TypeId × Value -> H) (F : Stop.Interp) :
  ReturnsInHanded {} Tryz.checked os 4 .any ((OpenSpec.ofChange Rows.handshakeStagesSpec).preRow enc Tryz.prog Tryz.f4 Rows.handshakeStagesRow.domain false Rows.handshakeStagesRow.laid) (((OpenSpec.ofChange Rows.handshakeStagesSpec).at F).post enc Tryz.prog Tryz.f4 false true false false) := by
 obtain ⟨places, hx⟩ := reads os enc
 refine law_liftedR (C := Tryz.checked) own laidOut started Rows.handshakeStagesSpec (OpenSpec.ofChange Rows.handshakeStagesSpec) ⟨_, rfl⟩ (by kernel_rfl) Tryz.func4 rfl 4 rfl Tryz.underlying4 (by kernel_rfl) 8 rfl ?_
  (witness_row_atRef (enc := enc) (C := Tryz.checked) false (laidWorld os #[]) #[.slice none 0 0, .int .i64 0, .int .i64 0, .int .i64 0, .int .u8 0, .string ByteArray.empty, .int .u8 0, .slice none 0 0] rfl (by kernel_rfl) (by kernel_rfl) (by kernel_rfl)
   (OpenSpec.preRow_of_cond 8 hx (by kernel_rfl) (fun k hk => by cases hk) (by kernel_rfl) (laid_met os _))) ?_
 ·intro ds h
  match ds, h with
  | [d0, d1, d2, d3, d4, d5, d6, d7], _ => rfl
 ·intro W base args ds ps hval0 hA0 hsz0 hcond hL hsh
  have henv := env_of_shaped hsh
  have htabs := tabs_of_laid hL
  have hval : ∀ (j : Nat) t v, Tryz.f4.params[j]? = some t -> args[j]? = some v -> Value.okWide Tryz.prog W .any base t v := hval0
  have hA : DataW.TrodAll enc Tryz.prog W 0 (fun _ => true) true Tryz.f4.params.toList args ds ps := hA0
  have hsz : (DataW.weightsEach Tryz.prog Tryz.f4.params.toList ds).all (· <= reachBytes) = true := hsz0
  clear hA0 hval0 hsz0
  rw [Tryz.params4] at hA hval hsz
  obtain ⟨v0, vs0, d0, ds0, p0, q0, rfl, rfl, rfl, h0, r0⟩ := trodAll_cons hA
  obtain ⟨v1, vs1, d1, ds1, p1, q1, rfl, rfl, rfl, h1, r1⟩ := trodAll_cons r0
  obtain ⟨v2, vs2, d2, ds2, p2, q2, rfl, rfl, rfl, h2, r2⟩ := trodAll_cons r1
  obtain ⟨v3, vs3, d3, ds3, p3, q3, rfl, rfl, rfl, h3, r3⟩ := trodAll_cons r2
  obtain ⟨v4, vs4, d4, ds4, p4, q4, rfl, rfl, rfl, h4, r4⟩ := trodAll_cons r3
  obtain ⟨v5, vs5, d5, ds5, p5, q5, rfl, rfl, rfl, h5, r5⟩ := trodAll_cons r4
  obtain ⟨v6, vs6, d6, ds6, p6, q6, rfl, rfl, rfl, h6, r6⟩ := trodAll_cons r5
  obtain ⟨v7, vs7, d7, ds7, p7, q7, rfl, rfl, rfl, h7, r7⟩ := trodAll_cons r6
  obtain ⟨rfl, rfl, rfl⟩ := trodAll_nil r7
  obtain ⟨a0, l0, c0, x0, rfl, z0, w0, g0, cv0⟩ := open_bytes9 Tryz.underlying33 Tryz.underlying5 (by kernel_rfl) (by kernel_rfl) (hval 0 33 v0 rfl rfl) h0 hsz (j := 0) rfl rfl
  obtain ⟨a1, rfl, rfl, rfl, w1⟩ := open_int Tryz.underlying3 (hval 1 3 v1 rfl rfl) h1
  obtain ⟨a2, rfl, rfl, rfl, w2⟩ := open_int Tryz.underlying3 (hval 2 3 v2 rfl rfl) h2
  obtain ⟨a3, rfl, rfl, rfl, w3⟩ := open_int Tryz.underlying3 (hval 3 3 v3 rfl rfl) h3
  obtain ⟨a4, rfl, rfl, rfl, w4⟩ := open_int Tryz.underlying5 (hval 4 5 v4 rfl rfl) h4
  obtain ⟨a5, rfl, rfl, rfl, z5⟩ := open_string Tryz.underlying9 (hval 5 9 v5 rfl rfl) h5
  have w5 : a5.size <= 140737488351232 := by
   have := sized_string hsz (j := 5) (t := 9) rfl rfl
   simpa [reachBytes] using this
  obtain ⟨a6, rfl, rfl, rfl, w6⟩ := open_int Tryz.underlying5 (hval 6 5 v6 rfl rfl) h6
  obtain ⟨a7, l7, c7, x7, rfl, z7, g7⟩ := open_i64s (hval 7 22 v7 rfl rfl) h7 hsz (j := 7) rfl rfl
  exact HandshakeStages_walk a0 l0 c0 x0 a1 a2 a3 a4 a5 a6 a7 l7 c7 x7 z0 w0 w1 w2 w3 w4 w5 w6 z7 W henv htabs g0 (fun W1 hW1 => cv0 W1 hW1 _ Tryz.underlying9) g7
set_option maxHeartbeats 8000000 in
theorem closed : joinedFacts Tryz.pinned.checked.prog 4 Tryz.f4 (OpenSpec.ofChange Rows.handshakeStagesSpec).bare Rows.handshakeStagesRow = true := by
 unfold joinedFacts
 simp only [Bool.and_eq_true]
 repeat' apply And.intro
 all_goals (as_aux_lemma => kernel_rfl)
theorem said : Rows.HandshakeStagesSaid :=
 OpenClaim.holds_of_cond 4 Tryz.f4 rfl rfl rfl rfl rfl rfl rfl ⟨rfl, rfl, rfl, rfl, rfl⟩ rfl rfl rfl rfl rfl (by as_aux_lemma => kernel_rfl) Tryz.func4 closed
  (of_decide_eq_true (by as_aux_lemma => kernel_rfl)) (by unfold Func.isWrapper; first | (rw [if_pos (by decide +kernel)]; as_aux_lemma => kernel_rfl) | (rw [if_neg (by decide +kernel)]; exact ⟨rfl, rfl⟩))
  (fun os started H enc _ F => by rw [OpenClaim.pre_eq_preRow]; exact lifted os started H enc F)
theorem plain (f : FuncId) (fn : Func) (hf : Tryz.pinned.checked.prog.funcNamed "ginnel/ginnellaw23.HandshakeStages" = some f) (hfn : Tryz.pinned.checked.prog.funcs[f]? = some fn) :
  true = Tryz.pinned.checked.prog.looks [] /\ ∀ (j : Nat) t, fn.params[j]? = some t -> Tryz.pinned.checked.prog.wantsStandIn t = false := by
 obtain rfl : f = 4 := Option.some.inj ((show Tryz.prog.funcNamed "ginnel/ginnellaw23.HandshakeStages" = some 4 by kernel_rfl).symm.trans hf) |>.symm
 obtain rfl : fn = Tryz.f4 := (Option.some.inj (Tryz.func4.symm.trans hfn)).symm
 refine ⟨by kernel_rfl, fun j t ht => ?_⟩
 rw [Tryz.params4] at ht
 have hm := Array.mem_of_getElem? ht
 have h : ∀ t ∈ (#[33, 3, 3, 3, 5, 9, 5, 22] : Array TypeId), Tryz.prog.wantsStandIn t = false := by
  intro t ht
  simp only [List.mem_toArray, List.mem_cons, List.not_mem_nil, or_false] at ht
  rcases ht with rfl | rfl | rfl | rfl | rfl | rfl | rfl | rfl <;> kernel_rfl
 exact h t hm
theorem proved : Rows.HandshakeStagesCardSaid :=
 Claim7.holds_tied_plain_at .later [] _ _ _ _ said (fun _ h => by cases h) (by kernel_rfl) (fun _ h => by cases h) handshakeStages_row_tie rfl ⟨rfl, rfl⟩ (by kernel_rfl) rfl plain (by kernel_rfl)
#print axioms proved
end Go.Proofs.YtnohnnjeabehjaaGreatDoor.lawHandshakeStages
