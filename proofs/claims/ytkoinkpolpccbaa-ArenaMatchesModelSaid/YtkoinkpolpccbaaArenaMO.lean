/-
  The law ArenaMatchesModel: the operations that came in.
-/
import Derived.Test.YtkoinkpolpccbaaLaw
import Derived.Test.YtkoinkpolpccbaaArenaMW
set_option linter.unusedSimpArgs false
set_option linter.unusedVariables false
namespace Go.Proofs.Ytkoinkpolpccbaa
open Go.ChangeShapes Go.WideShapes Go.ChangeAt Go.RowKit

theorem cellsOp : Try.prog.cellsOf 72 = 4 := by kernel_rfl
theorem bytesOp : Try.prog.bytesOf 72 = 32 := by kernel_rfl
theorem cellsHd : Try.prog.cellsOf 48 = 2 := by kernel_rfl
theorem cellsIn : Try.prog.cellsOf 3 = 1 := by kernel_rfl

theorem add_at (b off i : Nat) : (⟨b, off, none⟩ : Addr).add i = ⟨b, off + i, none⟩ := by unfold Addr.add; split <;> simp_all

set_option maxRecDepth 100000 in
theorem open_op {H : Type} {enc : TypeId × Value → H} {W : World} {base : Nat} {spare : Nat → Bool} {held : Bool} {n : Nat} {cs : List Value} {x : DataW H × List MemPlace} (h : DataW.trod enc Try.prog W base spare held n 72 cs = some x) :
    ∃ k j g y : Int, cs = [.int .i64 k, .int .i64 j, .int .i64 g, .int .i64 y] := by
  obtain ⟨xs, m, _, _, hl, hlen, hf⟩ := DataW.trod_struct Try.underlying72 h
  have h0 := hf 0 _ rfl
  have h1 := hf 1 _ rfl
  have h2 := hf 2 _ rfl
  match xs, hlen with
  | [y0, y1, y2], _ =>
  simp only [List.getElem?_cons_zero, List.getElem?_cons_succ] at h0 h1 h2
  rw [cellsOp] at hl
  match cs, hl with
  | [c0, c1, c2, c3], _ =>
    simp [cellsHd, cellsIn] at h0 h1 h2
    obtain ⟨k, e0, _, _⟩ := DataW.trod_int Try.underlying3 h0
    obtain ⟨z0, z1, m', _, _, g0, g1⟩ := trod_struct2 Try.underlying48 h1
    simp [cellsIn] at g0 g1
    obtain ⟨j, e1, _, _⟩ := DataW.trod_int Try.underlying3 g0
    obtain ⟨g, e2, _, _⟩ := DataW.trod_int Try.underlying3 g1
    obtain ⟨y, e3, _, _⟩ := DataW.trod_int Try.underlying3 h2
    simp at e0 e1 e2 e3
    exact ⟨k, j, g, y, by rw [e0, e1, e2, e3]⟩

set_option maxRecDepth 100000 in
theorem open_ops {H : Type} {enc : TypeId × Value → H} {W : World} {r : Reach} {b0 : Nat} {v : Value} {d : DataW H} {p : List MemPlace} (hval : Value.okWide Try.prog W r b0 66 v) (hd : DataW.Trod enc Try.prog W 0 (fun _ => true) true 66 v d p)
    {ts : List TypeId} {ds : List (DataW H)} (hsz : (DataW.weightsEach Try.prog ts ds).all (· ≤ reachBytes) = true) {j : Nat} (hj : ts[j]? = some 66) (hjd : ds[j]? = some d) :
    ∃ (a : Option Addr) (len cap : Nat), v = .slice a len cap ∧ OpsRow W a len ∧ len ≤ 140737488351232 := by
  obtain ⟨a, len, cap, rfl⟩ := okWide_slice Try.underlying66 hval
  obtain ⟨fuel, hf⟩ := hd
  have hlt : ∀ q ∈ p, q.block < W.heap.size := DataW.trod_lt _ _ _ _ hf
  rcases DataW.trod_slice Try.underlying66 hf with ⟨hcs, hx⟩ | ⟨a', l', c', elems, rest, n, _, hcs, hx, _, hl, hm, hel, hcell, _, _⟩
  · simp [Value.cells] at hcs
    obtain ⟨rfl, rfl, rfl⟩ := hcs
    exact ⟨none, 0, 0, rfl, .inl rfl, by omega⟩
  · simp [Value.cells] at hcs
    obtain ⟨rfl, rfl, rfl⟩ := hcs
    simp only [Prod.mk.injEq] at hx
    obtain ⟨rfl, rfl⟩ := hx
    have hw := sized_slice hsz hj hjd Try.underlying66
    have h3 : len ≤ 140737488351232 := by
      rw [bytesOp] at hw
      simp [reachBytes] at hw
      omega
    have each : ∀ i, i < len → ∃ k j g x : Int, W.cell? ((a'.add (i * 4)).add 0) = some (.int .i64 k) ∧ W.cell? ((a'.add (i * 4)).add 1) = some (.int .i64 j) ∧ W.cell? ((a'.add (i * 4)).add 2) = some (.int .i64 g) ∧ W.cell? ((a'.add (i * 4)).add 3) = some (.int .i64 x) := by
      intro i hi
      have h1 := hcell i hi
      rw [List.getElem?_eq_getElem (by omega), cellsOp] at h1
      obtain ⟨cs, hc1, hc2⟩ := Option.bind_eq_some_iff.1 h1
      obtain ⟨_, hlen, hc⟩ := World.cells?_some hc1
      obtain ⟨k, j, g, y, rfl⟩ := open_op hc2
      exact ⟨k, j, g, y, hc 0 (by omega), hc 1 (by omega), hc 2 (by omega), hc 3 (by omega)⟩
    refine ⟨some a', len, cap, rfl, ?_, h3⟩
    by_cases hpos : len = 0
    · exact .inl hpos
    · obtain ⟨b, off, spot⟩ := a'
      obtain ⟨_, _, _, _, h0, _⟩ := each 0 (by omega)
      have hspot : spot = none := by simpa [Addr.add] using World.cell?_spot h0
      subst hspot
      refine .inr ⟨b, off, rfl, ?_, fun i hi => ?_⟩
      · have := World.cell?_spot h0
        rw [add_at, add_at] at h0
        exact World.block_lt_of_cell? W _ h0
      · obtain ⟨k, j, g, x, e0, e1, e2, e3⟩ := each i hi
        rw [add_at, add_at] at e0 e1 e2 e3
        exact ⟨k, j, g, x, e0, e1, e2, e3⟩
end Go.Proofs.Ytkoinkpolpccbaa
