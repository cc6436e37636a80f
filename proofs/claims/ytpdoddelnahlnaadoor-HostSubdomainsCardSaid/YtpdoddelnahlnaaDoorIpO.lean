/-
  The arguments of the laws, opened: an address.
-/
import Derived.Test.YtpdoddelnahlnaaDoorIpA
import Derived.Lib.LaidTab
import Derived.ChangeSame
import Derived.WideShapes
set_option linter.unusedSimpArgs false
set_option linter.unusedVariables false
namespace Go.Proofs.YtpdoddelnahlnaaDoor
open Go.RowKit Go.ChangeShapes Go.WideShapes
section
variable {H : Type} {enc : TypeId × Value → H} {W : World} {base : Nat} {sp : Nat → Bool} {held : Bool} {r : Reach} {b0 : Nat}
theorem cells_ints {P : Program} {fuel : Nat} {t e : TypeId} {n : Nat} {k : IntKind} {cs : List Value} {x : DataW H × List MemPlace}
    (ht : P.underlying t = some (.array n e)) (he : P.underlying e = some (.int k)) (hce : P.cellsOf e = 1) (hct : P.cellsOf t = n)
    (h : DataW.trod enc P W base sp held fuel t cs = some x) : ∃ zs : List Int, cs = zs.map (Value.int k) ∧ zs.length = n ∧ ∀ z ∈ zs, (Lit.int k z).wf = true := by
  cases fuel with
  | zero => simp [DataW.trod] at h
  | succ fuel =>
    simp only [DataW.trod, ht, hce, hct, Nat.mul_one] at h
    split at h
    · rename_i hl
      obtain ⟨xs, hm, hx⟩ := Option.map_eq_some_iff.1 h
      have key : ∀ i, i < n → ∃ z, cs[i]? = some (.int k z) ∧ (Lit.int k z).wf = true := by
        intro i hi
        obtain ⟨b, hb, hf⟩ := Lib.mapM_at hm i i (by simp [hi])
        obtain ⟨z, hc, rfl, hw⟩ := DataW.trod_int he hf
        have h1 : cs[i]? = some (.int k z) := by
          have := congrArg (·[0]?) hc
          simpa [List.getElem?_take, List.getElem?_drop] using this
        exact ⟨z, h1, hw⟩
      have hl' : cs.length = n := by simpa using hl
      refine ⟨cs.map fun v => match v with | .int _ z => z | _ => 0, ?_, by simpa using hl', ?_⟩
      · apply List.ext_getElem?
        intro i
        rcases Nat.lt_or_ge i n with hi | hi
        · obtain ⟨z, hz, _⟩ := key i hi
          simp [hz]
        · simp [List.getElem?_eq_none (show cs.length ≤ i by omega)]
      · intro z hz
        obtain ⟨v, hv, rfl⟩ := List.mem_map.1 hz
        obtain ⟨i, hi, rfl⟩ := List.getElem_of_mem hv
        obtain ⟨z, hz, hw⟩ := key i (by omega)
        rw [List.getElem?_eq_getElem hi] at hz
        rw [Option.some.inj hz]
        exact hw
    · cases h
theorem cells_A : Tryd.prog.cellsOf 37 = 17 := by kernel_rfl
theorem cells_16 : Tryd.prog.cellsOf 35 = 16 := by kernel_rfl
theorem cells_b : Tryd.prog.cellsOf 4 = 1 := by kernel_rfl
theorem cells_u8 : Tryd.prog.cellsOf 5 = 1 := by kernel_rfl
set_option maxRecDepth 20000 in
theorem open_A {v : Value} {d : DataW H} {p : List MemPlace} (hv : Value.okWide Tryd.prog W r b0 37 v) (h : DataW.Trod enc Tryd.prog W base sp held 37 v d p) :
    ∃ a : Adr, okA a ∧ v = av a := by
  obtain ⟨cs, rfl, hsz⟩ := okWide_struct Tryd.underlying37 hv
  obtain ⟨fuel, hf⟩ := h
  obtain ⟨y0, y1, n, -, hl, h0, h1⟩ := trod_struct2 Tryd.underlying37 hf
  obtain ⟨b, hb, -⟩ := DataW.trod_bool Tryd.underlying4 h0
  obtain ⟨zs, hz, hzl, hzw⟩ := cells_ints Tryd.underlying35 Tryd.underlying5 cells_u8 cells_16 h1
  rw [cells_A] at hsz
  have hc : (Value.agg cs).cells = cs := rfl
  rw [hc] at hb hz
  simp only [cells_b, cells_16] at hb hz
  refine ⟨(b, zs), ⟨hzl, fun x hx => ?_⟩, ?_⟩
  · have := hzw x hx
    simp only [Lit.wf, Bool.and_eq_true, decide_eq_true_eq, IntKind.min, IntKind.max, IntKind.bits, IntKind.signed] at this
    simp at this
    omega
  · unfold av ac
    congr 1
    apply Array.ext'
    have e : cs.toList = cs.toList.take 1 ++ cs.toList.drop 1 := (List.take_append_drop 1 _).symm
    rw [e]
    have h16 : (cs.toList.drop 1).take 16 = cs.toList.drop 1 := List.take_of_length_le (by simp; omega)
    rw [h16] at hz
    rw [hz]
    have hb' : cs.toList.take 1 = [.bool b] := by simpa using hb
    rw [hb']; rfl
end
end Go.Proofs.YtpdoddelnahlnaaDoor
