/-
  The arguments of the laws, opened: a prefix.
-/
import Derived.Test.YtbbdcodhgbgekaaGreatDoorCiP
import Derived.Test.YtbbdcodhgbgekaaGreatDoorIpO
set_option linter.unusedSimpArgs false
set_option linter.unusedVariables false
namespace Go.Proofs.YtbbdcodhgbgekaaGreatDoor
open Go.RowKit Go.ChangeShapes Go.WideShapes
section
variable {H : Type} {enc : TypeId × Value → H} {W : World} {base : Nat} {sp : Nat → Bool} {held : Bool} {r : Reach} {b0 : Nat}
set_option maxRecDepth 20000 in
theorem open_P {v : Value} {d : DataW H} {p : List MemPlace} (hv : Value.okWide Tryz.prog W r b0 26 v) (h : DataW.Trod enc Tryz.prog W base sp held 26 v d p) :
    ∃ q : Pfx, okP q ∧ v = pv q := by
  obtain ⟨cs, rfl, hsz⟩ := okWide_struct Tryz.underlying26 hv
  obtain ⟨fuel, hf⟩ := h
  obtain ⟨y0, y1, n, -, hl, h0, h1⟩ := trod_struct2 Tryz.underlying26 hf
  obtain ⟨x0, x1, m, -, hl2, g0, g1⟩ := trod_struct2 Tryz.underlying24 h0
  obtain ⟨b, hb, -⟩ := DataW.trod_bool Tryz.underlying4 g0
  obtain ⟨zs, hz, hzl, hzw⟩ := cells_ints Tryz.underlying22 Tryz.underlying5 cells_u8 cells_16 g1
  obtain ⟨k, hk, -, hkw⟩ := DataW.trod_int Tryz.underlying3 h1
  rw [cells_P] at hsz
  have hc : (Value.agg cs).cells = cs := rfl
  rw [hc] at hb hz hk
  simp only [cells_b, cells_16, cells_A, cells_int, List.drop_zero] at hb hz hk
  have hlen : cs.toList.length = 18 := by simpa using hsz
  have hk' : cs.toList.drop 17 = [.int .i64 k] := by
    rw [List.take_of_length_le (by rw [List.length_drop, hlen]; decide)] at hk; exact hk
  refine ⟨((b, zs), k), ⟨⟨hzl, fun x hx => ?_⟩, ?_⟩, ?_⟩
  · have := hzw x hx
    simp only [Lit.wf, Bool.and_eq_true, decide_eq_true_eq, IntKind.min, IntKind.max, IntKind.bits, IntKind.signed] at this
    simp at this
    omega
  · unfold i64ok
    simp [Lit.wf, IntKind.min, IntKind.max, IntKind.bits, IntKind.signed] at hkw
    omega
  · unfold pv pc ac
    congr 1
    apply Array.ext'
    have e : cs.toList = cs.toList.take 17 ++ cs.toList.drop 17 := (List.take_append_drop 17 _).symm
    have e2 : cs.toList.take 17 = (cs.toList.take 17).take 1 ++ (cs.toList.take 17).drop 1 := (List.take_append_drop 1 _).symm
    rw [e, e2, hk']
    rw [List.take_of_length_le (by rw [List.length_drop, List.length_take, hlen]; decide)] at hz
    rw [hb, hz]
    rfl
end
end Go.Proofs.YtbbdcodhgbgekaaGreatDoor
