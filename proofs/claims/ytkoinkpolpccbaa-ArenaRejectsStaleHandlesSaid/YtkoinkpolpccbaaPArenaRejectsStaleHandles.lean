/-
  The statement ArenaRejectsStaleHandles: for every input the law returns true and its arguments read as before. No condition.
-/
import Derived.Test.YtkoinkpolpccbaaRows
import Derived.Test.YtkoinkpolpccbaaLaw
import Derived.Test.YtkoinkpolpccbaaArenaStale
set_option linter.unusedSimpArgs false
set_option linter.unusedVariables false
namespace Go.Proofs.Ytkoinkpolpccbaa.lawArenaRejectsStaleHandles
open Go.ChangeShapes Go.WideShapes Go.ChangeAt Go.RowKit
open Go.ChangeMaps (open_string shut_string)
theorem own : ownKnob Try.prog.godebug = none := by kernel_rfl
theorem laidOut : laidOutB Try.prog = true := by kernel_rfl
set_option maxRecDepth 100000 in
theorem lifted (os : Os) (started : os.Started) (H : Type) (enc : TypeId × Value → H) :
    ReturnsInHanded {} Try.checked os 10 .any (Rows.arenaRejectsStaleHandlesSpec.pre6 enc Try.prog Try.f10 Rows.arenaRejectsStaleHandlesRow.domain false) (Rows.arenaRejectsStaleHandlesSpec.post enc Try.prog Try.f10 false true false false) := by
  refine law_lifted (C := Try.checked) own laidOut started Rows.arenaRejectsStaleHandlesSpec (by kernel_rfl) Try.func10 rfl 4 rfl Try.underlying4 (by kernel_rfl) 3 rfl ?_
    (ChangeSpec.witness6 (enc := enc) (C := Try.checked) false ⟨#[], #[.int .i64 0, .agg #[.int .i64 0, .int .i64 0], .agg #[.int .i64 0, .int .i64 0]], []⟩ 8 (by kernel_rfl) (by kernel_rfl) (by kernel_rfl) (by kernel_rfl)) ?_
  · intro ds h
    match ds, h with
    | [d0, d1, d2], _ => rfl
  · intro W base args ds ps hval0 hA0 hsz0
    have hval : ∀ (j : Nat) t v, Try.f10.params[j]? = some t → args[j]? = some v → Value.okWide Try.prog W .any base t v := hval0
    have hA : DataW.TrodAll enc Try.prog W 0 (fun _ => true) true Try.f10.params.toList args ds ps := hA0
    have hsz : (DataW.weightsEach Try.prog Try.f10.params.toList ds).all (· ≤ reachBytes) = true := hsz0
    clear hA0 hval0 hsz0
    rw [Try.params10] at hA hval hsz
    obtain ⟨v0, vs0, d0, ds0, p0, q0, rfl, rfl, rfl, h0, r0⟩ := trodAll_cons hA
    obtain ⟨v1, vs1, d1, ds1, p1, q1, rfl, rfl, rfl, h1, r1⟩ := trodAll_cons r0
    obtain ⟨v2, vs2, d2, ds2, p2, q2, rfl, rfl, rfl, h2, r2⟩ := trodAll_cons r1
    obtain ⟨rfl, rfl, rfl⟩ := trodAll_nil r2
    obtain ⟨a0, rfl, rfl, rfl, w0⟩ := open_int Try.underlying3 (hval 0 3 v0 rfl rfl) h0
    obtain ⟨c1_0, c1_1, y1_0, y1_1, m1, rfl, rfl, rfl, g1_0, g1_1⟩ := Joins.open_agg2 Try.underlying55 (by kernel_rfl) (by kernel_rfl) (hval 1 55 v1 rfl rfl) h1
    obtain ⟨a1_0, e1_0, _, w1_0⟩ := DataW.trod_int Try.underlying3 g1_0
    simp at e1_0; subst e1_0
    obtain ⟨a1_1, e1_1, _, w1_1⟩ := DataW.trod_int Try.underlying3 g1_1
    simp at e1_1; subst e1_1
    obtain ⟨c2_0, c2_1, y2_0, y2_1, m2, rfl, rfl, rfl, g2_0, g2_1⟩ := Joins.open_agg2 Try.underlying55 (by kernel_rfl) (by kernel_rfl) (hval 2 55 v2 rfl rfl) h2
    obtain ⟨a2_0, e2_0, _, w2_0⟩ := DataW.trod_int Try.underlying3 g2_0
    simp at e2_0; subst e2_0
    obtain ⟨a2_1, e2_1, _, w2_1⟩ := DataW.trod_int Try.underlying3 g2_1
    simp at e2_1; subst e2_1
    exact ArenaRejectsStaleHandles_walk a0 a1_0 a1_1 a2_0 a2_1 W w0 w1_0 w1_1 w2_0 w2_1
theorem proved : Rows.ArenaRejectsStaleHandlesSaid :=
  OpenClaim.holds_of_wide 10 Try.f10 rfl rfl rfl rfl rfl rfl rfl ⟨rfl, rfl, rfl, rfl, rfl⟩ rfl rfl rfl rfl rfl (by kernel_rfl) Try.func10 (by kernel_rfl)
    (of_decide_eq_true (by kernel_rfl)) (by unfold Func.isWrapper; first | (rw [if_pos (by decide +kernel)]; kernel_rfl) | (rw [if_neg (by decide +kernel)]; exact ⟨rfl, rfl⟩))
    (fun os started H enc _ => lifted os started H enc)
#print axioms proved
end Go.Proofs.Ytkoinkpolpccbaa.lawArenaRejectsStaleHandles
