/-
  The statement UserpassParses: for every input the law returns true and its arguments read as before. No condition.
-/
import Derived.Test.YtkoinkpolpccbaaRows
import Derived.Test.YtkoinkpolpccbaaLaw
import Derived.Test.YtkoinkpolpccbaaUserL
set_option linter.unusedSimpArgs false
set_option linter.unusedVariables false
namespace Go.Proofs.Ytkoinkpolpccbaa.lawUserpassParses
open Go.ChangeShapes Go.WideShapes Go.ChangeAt Go.RowKit
open Go.ChangeMaps (open_string shut_string)
theorem own : ownKnob Try.prog.godebug = none := by kernel_rfl
theorem laidOut : laidOutB Try.prog = true := by kernel_rfl
set_option maxRecDepth 100000 in
theorem lifted (os : Os) (started : os.Started) (H : Type) (enc : TypeId × Value → H) :
    ReturnsInHanded {} Try.checked os 5 .any (Rows.userpassParsesSpec.pre6 enc Try.prog Try.f5 Rows.userpassParsesRow.domain false) (Rows.userpassParsesSpec.post enc Try.prog Try.f5 false true false false) := by
  refine law_lifted (C := Try.checked) own laidOut started Rows.userpassParsesSpec (by kernel_rfl) Try.func5 rfl 4 rfl Try.underlying4 (by kernel_rfl) 6 rfl ?_
    (ChangeSpec.witness6 (enc := enc) (C := Try.checked) false ⟨#[], #[.string ByteArray.empty, .slice none 0 0, .slice none 0 0, .int .u8 0, .int .u8 0, .int .i64 0], []⟩ 8 (by kernel_rfl) (by kernel_rfl) (by kernel_rfl) (by kernel_rfl)) ?_
  · intro ds h
    match ds, h with
    | [d0, d1, d2, d3, d4, d5], _ => rfl
  · intro W base args ds ps hval0 hA0 hsz0
    have hval : ∀ (j : Nat) t v, Try.f5.params[j]? = some t → args[j]? = some v → Value.okWide Try.prog W .any base t v := hval0
    have hA : DataW.TrodAll enc Try.prog W 0 (fun _ => true) true Try.f5.params.toList args ds ps := hA0
    have hsz : (DataW.weightsEach Try.prog Try.f5.params.toList ds).all (· ≤ reachBytes) = true := hsz0
    clear hA0 hval0 hsz0
    rw [Try.params5] at hA hval hsz
    obtain ⟨v0, vs0, d0, ds0, p0, q0, rfl, rfl, rfl, h0, r0⟩ := trodAll_cons hA
    obtain ⟨v1, vs1, d1, ds1, p1, q1, rfl, rfl, rfl, h1, r1⟩ := trodAll_cons r0
    obtain ⟨v2, vs2, d2, ds2, p2, q2, rfl, rfl, rfl, h2, r2⟩ := trodAll_cons r1
    obtain ⟨v3, vs3, d3, ds3, p3, q3, rfl, rfl, rfl, h3, r3⟩ := trodAll_cons r2
    obtain ⟨v4, vs4, d4, ds4, p4, q4, rfl, rfl, rfl, h4, r4⟩ := trodAll_cons r3
    obtain ⟨v5, vs5, d5, ds5, p5, q5, rfl, rfl, rfl, h5, r5⟩ := trodAll_cons r4
    obtain ⟨rfl, rfl, rfl⟩ := trodAll_nil r5
    obtain ⟨a0, rfl, rfl, rfl, z0⟩ := open_string Try.underlying9 (hval 0 9 v0 rfl rfl) h0
    have w0 : a0.size ≤ 140737488351232 := by
      have := sized_string hsz (j := 0) (t := 9) rfl rfl
      simpa [reachBytes] using this
    obtain ⟨a1, l1, c1, x1, rfl, z1, w1, g1, cv1⟩ := open_bytes Try.underlying22 Try.underlying5 (by kernel_rfl) (by kernel_rfl) (hval 1 22 v1 rfl rfl) h1 hsz (j := 1) rfl rfl
    obtain ⟨a2, l2, c2, x2, rfl, z2, w2, g2, cv2⟩ := open_bytes Try.underlying22 Try.underlying5 (by kernel_rfl) (by kernel_rfl) (hval 2 22 v2 rfl rfl) h2 hsz (j := 2) rfl rfl
    obtain ⟨a3, rfl, rfl, rfl, w3⟩ := open_int Try.underlying5 (hval 3 5 v3 rfl rfl) h3
    obtain ⟨a4, rfl, rfl, rfl, w4⟩ := open_int Try.underlying5 (hval 4 5 v4 rfl rfl) h4
    obtain ⟨a5, rfl, rfl, rfl, w5⟩ := open_int Try.underlying3 (hval 5 3 v5 rfl rfl) h5
    exact UserpassParses_walk a0 a1 l1 c1 x1 a2 l2 c2 x2 a3 a4 a5 W w0 z1 w1 g1 (fun W1 hW1 => cv1 W1 hW1 _ Try.underlying9) z2 w2 g2 (fun W1 hW1 => cv2 W1 hW1 _ Try.underlying9) w3 w4 w5
theorem proved : Rows.UserpassParsesSaid :=
  OpenClaim.holds_of_wide 5 Try.f5 rfl rfl rfl rfl rfl rfl rfl ⟨rfl, rfl, rfl, rfl, rfl⟩ rfl rfl rfl rfl rfl (by kernel_rfl) Try.func5 (by kernel_rfl)
    (of_decide_eq_true (by kernel_rfl)) (by unfold Func.isWrapper; first | (rw [if_pos (by decide +kernel)]; kernel_rfl) | (rw [if_neg (by decide +kernel)]; exact ⟨rfl, rfl⟩))
    (fun os started H enc _ => lifted os started H enc)
#print axioms proved
end Go.Proofs.Ytkoinkpolpccbaa.lawUserpassParses
