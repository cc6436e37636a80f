/-
  The arguments of the laws, opened: a slice of groups.
-/
import Derived.Test.YtbbdcodhgbgekaaDoorIpO
import Derived.Test.YtbbdcodhgbgekaaDoorIpV
import Derived.SizedLaws
set_option linter.unusedSimpArgs false
set_option linter.unusedVariables false
namespace Go.Proofs.YtbbdcodhgbgekaaDoor
open Go.RowKit Go.ChangeShapes Go.WideShapes
theorem bytes_u16 : Tryd.prog.bytesOf 39 = 2 := by kernel_rfl
theorem cells_u16 : Tryd.prog.cellsOf 39 = 1 := by kernel_rfl
theorem add_at (b off i : Nat) : (⟨b, off, none⟩ : Addr).add i = ⟨b, off + i, none⟩ := by unfold Addr.add; split <;> simp_all
set_option maxRecDepth 100000 in
theorem open_u16s {H : Type} {enc : TypeId × Value → H} {W : World} {r : Reach} {b0 : Nat} {v : Value} {d : DataW H} {p : List MemPlace} (hval : Value.okWide Tryd.prog W r b0 37 v) (hd : DataW.Trod enc Tryd.prog W 0 (fun _ => true) true 37 v d p)
    {ts : List TypeId} {ds : List (DataW H)} (hsz : (DataW.weightsEach Tryd.prog ts ds).all (· ≤ reachBytes) = true) {j : Nat} (hj : ts[j]? = some 37) (hjd : ds[j]? = some d) :
    ∃ gs : List Int, Grps W v gs ∧ gs.length ≤ 140737488351232 := by
  obtain ⟨a, len, cap, rfl⟩ := okWide_slice Tryd.underlying37 hval
  obtain ⟨fuel, hf⟩ := hd
  rcases open_ints Tryd.underlying37 Tryd.underlying39 cells_u16 hf with ⟨hcs, hx⟩ | ⟨a', l', c', zs, hcs, _, hl, hm, hz, hx, hcell, hwz⟩
  · simp [Value.cells] at hcs
    obtain ⟨rfl, rfl, rfl⟩ := hcs
    exact ⟨[], ⟨none, 0, rfl, Nat.le_refl _, (by unfold ok16; intro x h; cases h), fun h => by simp at h⟩, by simp⟩
  · simp [Value.cells] at hcs
    obtain ⟨rfl, rfl, rfl⟩ := hcs
    simp only [if_true] at hz
    simp only [Prod.mk.injEq] at hx
    obtain ⟨rfl, rfl⟩ := hx
    have hw := sized_slice hsz hj hjd Tryd.underlying37
    have h3 : len ≤ 140737488351232 := by
      rw [bytes_u16] at hw
      simp [reachBytes, lits] at hw
      omega
    have hgl : (zs.take len).length = len := by rw [List.length_take]; omega
    refine ⟨zs.take len, ⟨some a', cap, by rw [hgl], by omega, fun x hx => ?_, fun h8 => ?_⟩, by omega⟩
    · have := hwz x (List.mem_of_mem_take hx)
      simp only [Lit.wf, Bool.and_eq_true, decide_eq_true_eq, IntKind.min, IntKind.max, IntKind.bits, IntKind.signed] at this
      simp at this
      omega
    · obtain ⟨b, off, spot⟩ := a'
      have h0 := hcell 0 (by omega)
      have hspot : spot = none := by simpa [Addr.add] using World.cell?_spot h0
      subst hspot
      refine ⟨b, off, rfl, ?_, fun j x hj => ?_⟩
      · rw [add_at] at h0
        exact World.block_lt_of_cell? W _ h0
      · have hjl : j < len := by
          have := (List.getElem?_eq_some_iff.1 hj).1
          omega
        have hc := hcell j (by omega)
        rw [add_at] at hc
        rw [hc, List.getD_eq_getElem?_getD]
        rw [List.getElem?_take, if_pos hjl] at hj
        rw [hj]; rfl
end Go.Proofs.YtbbdcodhgbgekaaDoor
