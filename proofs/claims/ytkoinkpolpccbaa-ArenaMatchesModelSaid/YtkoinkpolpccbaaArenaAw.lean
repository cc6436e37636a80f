/-
  The laws on arena: awake, and the bound on the capacity.
-/
import Derived.Test.YtkoinkpolpccbaaArenaKInt
import Derived.Test.YtkoinkpolpccbaaArenaKStr
import Derived.Test.YtkoinkpolpccbaaArenaJStr
set_option linter.unusedSimpArgs false
set_option linter.unusedVariables false
namespace Go.Proofs.Ytkoinkpolpccbaa
open Go.RowKit

set_option maxRecDepth 100000 in
set_option maxHeartbeats 2000000 in
theorem aawake_any (w : World) :
    Calls Try.prog 31 #[] w fun e w' => e = .returned (.bool true) ∧ Ext w w' := by
  go_enter Try.func31, Try.ntmps31
  go_wp2_with fail
  refine (ArenaStr.new_ok 2 _ (by omega) (by omega)).mono ?_
  rintro e w1 ⟨rfl, A1, x1⟩
  have hp : w.heap.size + 1 < w1.heap.size := A1.top.lt
  go_wp2_with fail
  refine (ArenaInt.new_bad 0 _ (by omega)).mono ?_
  rintro e w' ⟨rfl, rfl⟩
  go_wp2_with fail
  refine (ArenaStr.alloc_hit w1 _ _ _ 0 0 ⟨#[97]⟩ 0 ⟨0, false, [.string ⟨#[]⟩]⟩ A1 (by omega) rfl rfl (by decide) (by decide) (by omega) (by omega) (by intro i h1 h2; omega)).mono ?_
  rintro e w2 ⟨rfl, A2, k2⟩
  have hs2 := k2.size
  go_wp2_with fail
  have A2' := A2.alloc (Obj.cells #[.int .i64 0, .int .i64 1] 48)
  have B1 := Blk.new w2 #[.int .i64 0, .int .i64 1] 48
  refine (ArenaStr.free_hit _ _ _ _ _ _ A2' (by omega) (by omega) 0 1 ⟨1, true, [.string ⟨#[97]⟩]⟩ ⟨by omega, by simp, rfl, rfl, rfl⟩).mono ?_
  rintro e w3 ⟨rfl, A3, k3⟩
  have hs3 := k3.size
  rw [World.size_alloc] at hs3
  go_wp2_with fail
  refine (ArenaStr.alloc_hit w3 _ _ _ 0 _ ⟨#[98]⟩ 0 ⟨1, false, [.string ⟨#[]⟩]⟩ A3 (by omega) rfl rfl (by decide) (by decide) (by omega) (by omega) (by intro i h1 h2; omega)).mono ?_
  rintro e w4 ⟨rfl, A4, k4⟩
  have hs4 := k4.size
  have B1' := (B1.keep k3 (by simp; omega)).keep k4 (by simp; omega)
  have b10 := B1'.cell (i := 0) rfl
  have b11 := B1'.cell (i := 1) rfl
  have hz : w2.heap.size < w4.heap.size := B1'.lt
  have HA4 := Lib.hid A4; clear A4
  have HB := Lib.hid B1'; clear B1' B1 A3 A2' A2 A1
  go_wp2_with fail
  have A4' := HA4.out.alloc (Obj.cells #[.int .i64 0, .int .i64 2] 48)
  refine (ArenaStr.get_miss _ _ _ _ _ _ A4' 0 1 (by rintro s ⟨_, _, h3, _, h5⟩; simp at h3; subst h3; simp at h5)).mono ?_
  rintro e w5 ⟨rfl, x5⟩
  have C1 := (HB.out.alloc (Obj.cells #[.int .i64 0, .int .i64 2] 48)).ext x5
  have C2 := (Blk.new w4 #[.int .i64 0, .int .i64 2] 48).ext x5
  have c10 := C1.cell (i := 0) rfl
  have c11 := C1.cell (i := 1) rfl
  have c20 := C2.cell (i := 0) rfl
  have c21 := C2.cell (i := 1) rfl
  have HC1 := Lib.hid C1; have HC2 := Lib.hid C2
  clear b10 b11 C1 C2
  go_wp2_with fail
  have A5 := A4'.ext x5
  refine (ArenaStr.get_hit _ _ _ _ _ _ A5 0 2 ⟨2, true, [.string ⟨#[98]⟩]⟩ ⟨by omega, by simp, rfl, rfl, rfl⟩ ⟨#[98]⟩ rfl).mono ?_
  rintro e w6 ⟨rfl, x6⟩
  have D1 := HC1.out.ext x6
  have D2 := HC2.out.ext x6
  have d10 := D1.cell (i := 0) rfl
  have d11 := D1.cell (i := 1) rfl
  have d20 := D2.cell (i := 0) rfl
  have d21 := D2.cell (i := 1) rfl
  have A6 := A5.ext x6
  have HA6 := Lib.hid A6
  clear c10 c11 c20 c21 A4' A5 A6 D1 D2
  go_wp2_with fail
  refine (ArenaStr.len_any _ _ _ _ _ _ HA6.out).mono ?_
  rintro e w7 ⟨rfl, rfl⟩
  go_wp2_with fail
  refine (ArenaStr.cap_any _ _ _ _ _ _ HA6.out).mono ?_
  rintro e w7 ⟨rfl, rfl⟩
  go_wp2_with fail
  go_ways
  go_ret
  refine ⟨rfl, ?_⟩
  have K : Keep [w.heap.size + 1, w.heap.size] w w6 := by
    refine (x1.keep _).trans (k2.trans ?_)
    refine Keep.trans ((Keep.refl _ _).alloc _) (k3.trans (k4.trans ?_))
    exact Keep.trans ((Keep.refl _ _).alloc _) ((x5.keep _).trans (x6.keep _))
  exact K.ext (by intro x hx; simp at hx; omega)
end Go.Proofs.Ytkoinkpolpccbaa
