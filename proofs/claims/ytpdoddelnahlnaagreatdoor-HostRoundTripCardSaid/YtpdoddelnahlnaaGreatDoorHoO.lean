/-
  The arguments of the laws, opened: a target.
-/
import Derived.Test.YtpdoddelnahlnaaGreatDoorHoT
import Derived.Test.YtpdoddelnahlnaaGreatDoorIpO
import Derived.Deep.Strs
set_option linter.unusedSimpArgs false
set_option linter.unusedVariables false
namespace Go.Proofs.YtpdoddelnahlnaaGreatDoor
open Go.RowKit Go.ChangeShapes Go.WideShapes Go.Deep
section
variable {H : Type} {enc : TypeId × Value → H} {W : World} {base : Nat} {sp : Nat → Bool} {held : Bool} {r : Reach} {b0 : Nat}
set_option maxRecDepth 20000 in
theorem open_T {v : Value} {d : DataW H} {p : List MemPlace} (hv : Value.okWide Tryz.prog W r b0 32 v) (h : DataW.Trod enc Tryz.prog W base sp held 32 v d p) :
    ∃ q : Tgt, okT q ∧ v = tv q := by
  obtain ⟨cs, rfl, hsz⟩ := okWide_struct Tryz.underlying32 hv
  obtain ⟨fuel, hf⟩ := h
  obtain ⟨y0, y1, y2, n, -, hl, hs0, h0, h1⟩ := trod_struct3 Tryz.underlying32 hf
  obtain ⟨x0, x1, m, -, hl2, g0, g1⟩ := trod_struct2 Tryz.underlying30 h0
  obtain ⟨s, hs, -, hsw⟩ := DataW.trod_string Tryz.underlying9 hs0
  obtain ⟨b, hb, -⟩ := DataW.trod_bool Tryz.underlying4 g0
  obtain ⟨zs, hz, hzl, hzw⟩ := cells_ints Tryz.underlying28 Tryz.underlying5 cells_u8 cells_16 g1
  obtain ⟨k, hk, -, hkw⟩ := DataW.trod_int Tryz.underlying3 h1
  rw [cells_T] at hsz
  have hc : (Value.agg cs).cells = cs := rfl
  rw [hc] at hb hz hk hs
  simp only [cells_b, cells_16, cells_A, cells_int, cells_str, List.drop_zero] at hb hz hk hs
  have hlen : cs.toList.length = 19 := by simpa using hsz
  have hk' : cs.toList.drop 18 = [.int .i64 k] := by
    rw [List.take_of_length_le (by rw [List.length_drop, hlen]; decide)] at hk; exact hk
  refine ⟨(s, (b, zs), k), ⟨⟨hzl, fun x hx => ?_⟩, ?_, hsw⟩, ?_⟩
  · have := hzw x hx
    simp only [Lit.wf, Bool.and_eq_true, decide_eq_true_eq, IntKind.min, IntKind.max, IntKind.bits, IntKind.signed] at this
    simp at this
    omega
  · unfold i64ok
    simp [Lit.wf, IntKind.min, IntKind.max, IntKind.bits, IntKind.signed] at hkw
    omega
  · unfold tv tc ac
    congr 1
    apply Array.ext'
    have e : cs.toList = cs.toList.take 1 ++ (cs.toList.drop 1) := (List.take_append_drop 1 _).symm
    have e1 : cs.toList.drop 1 = (cs.toList.drop 1).take 17 ++ (cs.toList.drop 1).drop 17 := (List.take_append_drop 17 _).symm
    have e2 : (cs.toList.drop 1).take 17 = ((cs.toList.drop 1).take 17).take 1 ++ ((cs.toList.drop 1).take 17).drop 1 := (List.take_append_drop 1 _).symm
    rw [e, hs, e1, e2, List.drop_drop, hk']
    rw [List.take_of_length_le (by rw [List.length_drop, List.length_take, List.length_drop, hlen]; decide)] at hz
    rw [hb, hz]
    rfl
end
end Go.Proofs.YtpdoddelnahlnaaGreatDoor
