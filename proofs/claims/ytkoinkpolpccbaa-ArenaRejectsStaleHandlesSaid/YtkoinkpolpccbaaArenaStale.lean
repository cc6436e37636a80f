/-
  The law ArenaRejectsStaleHandles.
-/
import Derived.Test.YtkoinkpolpccbaaArenaLow
import Derived.Test.YtkoinkpolpccbaaArenaJEnd
import Derived.Test.YtkoinkpolpccbaaArenaKEnd
import Derived.Deep.RegionHeld3
set_option linter.unusedSimpArgs false
set_option linter.unusedVariables false
namespace Go.Proofs.Ytkoinkpolpccbaa
open Go.RowKit

/-- the handles handed out in the first i turns -/
def H2 (i : Nat) : List (Int × Int) := (List.range i).map fun (j : Nat) => ((0 : Int), ((j + 1 : Nat) : Int))
theorem H2_succ (i : Nat) : hcells (H2 (i + 1)) = hcells (H2 i) ++ [.int .i64 0, .int .i64 ((i + 1 : Nat) : Int)] := by simp [H2, List.range_succ, hcells]
theorem H2_len (i : Nat) : (hcells (H2 i)).length = i * 2 := by
  induction i with
  | zero => rfl
  | succ i ih => rw [H2_succ, List.length_append, ih]; simp; omega
theorem H2_at (i j : Nat) (h : j < i) : (hcells (H2 i))[j * 2]? = some (.int .i64 0) ∧ (hcells (H2 i))[j * 2 + 1]? = some (.int .i64 ((j + 1 : Nat) : Int)) := by
  induction i with
  | zero => omega
  | succ i ih =>
    have hl := H2_len i
    rw [H2_succ]
    by_cases hj : j < i
    · obtain ⟨a, b⟩ := ih hj
      exact ⟨by rw [List.getElem?_append_left (by omega)]; exact a, by rw [List.getElem?_append_left (by omega)]; exact b⟩
    · obtain rfl : j = i := by omega
      exact ⟨by rw [List.getElem?_append_right (by omega), hl]; simp, by rw [List.getElem?_append_right (by omega), hl]; simp⟩
theorem owned_cells {w : World} {base : Nat} {e : TypeId} {n : Nat} {g cap : Nat} {xs : List Value} (h : w.ownsRow base e 2 (.slice (some ⟨g, 0, none⟩) n cap) n xs) {j : Nat} {u : Value} (hu : xs[j]? = some u) : w.cell? ⟨g, j, none⟩ = some u := by
  have := h.cells (g := g) rfl j u hu
  have e1 : (⟨g, 0, none⟩ : Addr).add j = ⟨g, j, none⟩ := by unfold Addr.add; split <;> simp_all
  rwa [e1] at this

set_option maxRecDepth 100000 in
set_option maxHeartbeats 8000000 in
theorem ArenaRejectsStaleHandles_walk (turns x0 x1 y0 y1 : Int) (w : World) {G1 G2 G3 G4 G5 : Prop} (_ : G1) (_ : G2) (_ : G3) (_ : G4) (_ : G5) :
    Calls Try.prog 10 #[.int .i64 turns, .agg #[.int .i64 x0, .int .i64 x1], .agg #[.int .i64 y0, .int .i64 y1]] w fun e w' => e = .returned (.bool true) ∧ Ext w w' := by
  obtain ⟨i0, hi, hz0, hz1, hz2⟩ := info_parts Try.infoH
  have HI := Lib.hid hi; have HZ0 := Lib.hid hz0; have HZ1 := Lib.hid hz1; have HZ2 := Lib.hid hz2
  clear hi hz0 hz1 hz2
  have kT := fun w => mod_any turns 40 w (by omega) (by omega)
  have bT := gmod_bd turns 40 (by omega) (by omega)
  generalize gmod turns 40 = t0 at *
  obtain ⟨T, rfl⟩ := Int.eq_ofNat_of_zero_le bT.1
  have hT : T < 40 := by omega
  have KT := Lib.hid kT; clear kT bT
  have hW1 : Ext w ((w.alloc (Obj.cells #[.int .i64 x0, .int .i64 x1] 55)).alloc (Obj.cells #[.int .i64 y0, .int .i64 y1] 55)) := ((Ext.refl w).alloc _).alloc _
  have BX : Blk ((w.alloc (Obj.cells #[.int .i64 x0, .int .i64 x1] 55)).alloc (Obj.cells #[.int .i64 y0, .int .i64 y1] 55)) w.heap.size [.int .i64 x0, .int .i64 x1] 55 := (Blk.new w _ _).alloc _
  have BY : Blk ((w.alloc (Obj.cells #[.int .i64 x0, .int .i64 x1] 55)).alloc (Obj.cells #[.int .i64 y0, .int .i64 y1] 55)) (w.heap.size + 1) [.int .i64 y0, .int .i64 y1] 55 := by
    have := Blk.new (w.alloc (Obj.cells #[.int .i64 x0, .int .i64 x1] 55)) #[.int .i64 y0, .int .i64 y1] 55
    rw [World.size_alloc] at this; exact this
  go_enter Try.func10, Try.ntmps10
  go_wp2_with fail
  generalize ((w.alloc (Obj.cells #[.int .i64 x0, .int .i64 x1] 55)).alloc (Obj.cells #[.int .i64 y0, .int .i64 y1] 55)) = w1 at *
  refine (ArenaEnd.new_ok 1 _ (by omega) (by omega)).mono ?_
  rintro e w2 ⟨rfl, A2, x2⟩
  have hby := BY.lt
  have hp2 : w1.heap.size + 1 < w2.heap.size := A2.top.lt
  have BX2 := BX.ext x2
  have BY2 := BY.ext x2
  have HA2 := Lib.hid A2; have HBX := Lib.hid BX2; have HBY := Lib.hid BY2
  clear A2 BX BY BX2 BY2
  go_wp2_with fail
  go_loopw [9, 10] (fun v i wr => ∃ j : Nat, j ≤ T ∧ i = .int .i64 j ∧ ArenaEnd.At wr (w1.heap.size + 1) w1.heap.size [⟨j, false, [.int .i64 0, .int .i64 0]⟩] 0 0 ∧ Keep [w1.heap.size + 1, w1.heap.size] w2 wr ∧ wr.ownsRow w2.heap.size 48 2 v j (hcells (H2 j))) (fun _ i _ => T - (intOf i).toNat)
  case atStart => exact ⟨0, Nat.zero_le _, rfl, HA2.out, Keep.refl _ _, World.ownsRow_nil _ _ _ _⟩
  case round =>
    obtain ⟨j, hj, rfl, hA, hK, hown⟩ := hrel
    have hsz := hK.size
    have HA := Lib.hid hA; have HK := Lib.hid hK; have HO := Lib.hid hown
    clear hA hK hown
    have BX3 := HBX.out.keep HK.out (by simp; omega)
    have BY3 := HBY.out.keep HK.out (by simp; omega)
    by_cases hlt : j < T
    · have hlt' : (j : Int) < T := by omega
      have bx0 := BX3.cell (i := 0) rfl
      have bx1 := BX3.cell (i := 1) rfl
      have HBX3 := Lib.hid BX3; have HBY3 := Lib.hid BY3
      clear BX3 BY3
      go_wp2_with fail
      refine (KT.out _).mono ?_
      rintro e w' ⟨rfl, rfl⟩
      go_wp2_with fail
      refine (ArenaEnd.alloc_hit _ _ _ _ 0 _ x0 x1 0 ⟨j, false, [.int .i64 0, .int .i64 0]⟩ HA.out (by omega) rfl rfl (by show _ ≤ (j : Int); omega) (by show (j : Int) < _; omega) (by omega) (by omega) (by intro i h1 h2; omega)).mono ?_
      rintro e w3 ⟨rfl, A3, k3⟩
      have hs3 := k3.size
      have HA3 := Lib.hid A3; have HK3 := Lib.hid k3
      clear A3 k3
      have BY4 := (HBY3.out.keep HK3.out (by simp; omega)).alloc (Obj.cells #[.int .i64 0, .int .i64 ((j : Int) + 1)] 48)
      have by0 := BY4.cell (i := 0) rfl
      have by1 := BY4.cell (i := 1) rfl
      have HBY4 := Lib.hid BY4; clear BY4
      have BR := Blk.new w3 #[.int .i64 0, .int .i64 ((j : Int) + 1)] 48
      have HBR := Lib.hid BR; clear BR
      go_wp2_with fail
      refine (ArenaEnd.alloc_full _ _ _ _ 0 _ y0 y1 (HA3.out.alloc _) (by simp) (by intro i h1 h2; obtain rfl : i = 0 := (by simp at h2; omega); exact ⟨_, rfl, rfl⟩)).mono ?_
      rintro e w4 ⟨rfl, A4, k4⟩
      have hs4 := k4.size
      rw [World.size_alloc] at hs4
      have HA4 := Lib.hid A4; have HK4 := Lib.hid k4
      clear A4 k4 by0 by1
      have BR4 := HBR.out.keep HK4.out (by simp; omega)
      have br0 := BR4.cell (i := 0) rfl
      have br1 := BR4.cell (i := 1) rfl
      have hbr := BR4.lt
      have HBR4 := Lib.hid BR4; clear BR4
      go_wp2_with fail
      refine (ArenaEnd.free_hit _ _ _ _ _ _ (HA4.out.alloc _) (by omega) (by omega) 0 ((j : Int) + 1) ⟨(j : Int) + 1, true, [.int .i64 x0, .int .i64 x1]⟩ ⟨by omega, by simp, rfl, rfl, rfl⟩).mono ?_
      rintro e w5 ⟨rfl, A5, k5⟩
      have hs5 := k5.size
      rw [World.size_alloc] at hs5
      have HA5 := Lib.hid A5; have HK5 := Lib.hid k5
      clear A5 k5 br0 br1
      have BR5 := (HBR4.out.alloc (Obj.cells #[.int .i64 0, .int .i64 0] 48)).keep HK5.out (by simp; omega)
      have br0 := BR5.cell (i := 0) rfl
      have br1 := BR5.cell (i := 1) rfl
      clear BR5
      have KA : Keep [w1.heap.size + 1, w1.heap.size] wr w5 :=
        HK3.out.trans (Keep.trans ((Keep.refl _ _).alloc _) (HK4.out.trans (Keep.trans ((Keep.refl _ _).alloc _) HK5.out)))
      have HKA := Lib.hid KA; clear KA
      have hown2 := ownsRow_keep HO.out HKA.out (by intro g hg; simp at hg; omega)
      go_wp2_with (at_builtin; refine wpList_append_own _ rfl _ _ 46 rfl w2.heap.size 48 i0 (.agg #[.int .i64 0, .int .i64 0]) 2 16 Try.underlying46 HI.out HZ0.out HZ1.out HZ2.out rfl (by decide) _ _ _ rfl (hown2.alloc _) ⟨w5.heap.size, 0, none⟩ 1 1 [.int .i64 0, .int .i64 ((j : Int) + 1)] rfl rfl ?c1 ?c2 ?c3 ?c4 ?c5 ?_)
      case c1 =>
        intro i u hu
        have B1 := Blk.new w5 #[Value.int IntKind.i64 0, Value.int IntKind.i64 ((j : Int) + 1)] 48
        have e1 : (⟨w5.heap.size, 0, none⟩ : Addr).add i = ⟨w5.heap.size, i, none⟩ := by unfold Addr.add; split <;> simp_all
        rw [e1]
        exact B1.cell hu
      case c2 => simp [Value.oneCell']
      case c3 => unfold maxLen; omega
      case c4 => omega
      case c5 => simp; omega
      intro v' w6 hown' hgrow _
      have Ho' := Lib.hid hown'; clear hown'
      have Hg := Lib.hid hgrow; clear hgrow
      have hlt2 := hown2.lt
      have Hl := Lib.hid hlt2; clear hlt2 hown2
      go_wp2_with fail
      go_roundw
      case rel =>
        refine ⟨j + 1, by omega, by go_num, ?_, ((HK.out.trans HKA.out).alloc _).grown Hg.out (fun g hg => (Hl.out g hg).1), by rw [H2_succ]; exact Ho'.out⟩
        have A6 := (HA5.out.alloc (Obj.cells #[.int .i64 0, .int .i64 ((j : Int) + 1)] 48)).keep (Keep.of_grown Hg.out) (by intro h; have := (Hl.out _ (Option.mem_toList.1 h)).1; omega) (by intro h; have := (Hl.out _ (Option.mem_toList.1 h)).1; omega)
        exact A6
      case measure => simp [intOf]; omega
    · obtain rfl : j = T := by omega
      have hlt' : ¬ ((j : Nat) : Int) < j := by omega
      go_wp2_with fail
      refine (KT.out _).mono ?_
      rintro e w' ⟨rfl, rfl⟩
      have by0 := BY3.cell (i := 0) rfl
      have by1 := BY3.cell (i := 1) rfl
      have HBX3 := Lib.hid BX3; have HBY3 := Lib.hid BY3
      clear BX3 BY3
      go_wp2_with fail
      refine (ArenaEnd.alloc_hit _ _ _ _ 0 _ y0 y1 0 ⟨j, false, [.int .i64 0, .int .i64 0]⟩ HA.out (by omega) rfl rfl (by show _ ≤ (j : Int); omega) (by show (j : Int) < _; omega) (by omega) (by omega) (by intro i h1 h2; omega)).mono ?_
      rintro e w3 ⟨rfl, A3, k3⟩
      have hs3 := k3.size
      have hown3 := ownsRow_keep HO.out k3 (by intro g hg; simp at hg; omega)
      have HA3 := Lib.hid (A3.alloc (Obj.cells #[.int .i64 0, .int .i64 ((j : Int) + 1)] 48)); have HK3 := Lib.hid k3
      have BX4 := (HBX3.out.keep HK3.out (by simp; omega)).alloc (Obj.cells #[.int .i64 0, .int .i64 ((j : Int) + 1)] 48)
      have BY4 := (HBY3.out.keep HK3.out (by simp; omega)).alloc (Obj.cells #[.int .i64 0, .int .i64 ((j : Int) + 1)] 48)
      have BR4 := Blk.new w3 #[.int .i64 0, .int .i64 ((j : Int) + 1)] 48
      have HO3 := Lib.hid (hown3.alloc (Obj.cells #[.int .i64 0, .int .i64 ((j : Int) + 1)] 48))
      have HBX4 := Lib.hid BX4; have HBY4 := Lib.hid BY4; have HBR4 := Lib.hid BR4
      clear A3 k3 hown3 BX4 BY4 BR4 by0 by1
      go_wp2_with fail
      have hK4 : Keep [w1.heap.size + 1, w1.heap.size] w2 (w3.alloc (Obj.cells #[.int .i64 0, .int .i64 ((j : Int) + 1)] 48)) := (HK.out.trans HK3.out).alloc _
      have hs4 : w3.heap.size < (w3.alloc (Obj.cells #[.int .i64 0, .int .i64 ((j : Int) + 1)] 48)).heap.size := by rw [World.size_alloc]; omega
      have HK4 := Lib.hid hK4; clear hK4
      generalize (w3.alloc (Obj.cells #[.int .i64 0, .int .i64 ((j : Int) + 1)] 48)) = w4 at *
      obtain ⟨hxs, ⟨rfl, rfl⟩ | ⟨bl, cap, cur, rfl, hbl, hcur, hcap, hcapm, hcs, hct⟩⟩ := HO3.out
      · have HX4 := Lib.hid (Ext.refl w4)
        go_loop [17] (fun v => v = .int .i64 0) (fun _ => 0)
        case atStart => rfl
        case round =>
          obtain rfl := hrel
          have BRu := HBR4.out.ext HX4.out
          have BYu := HBY4.out.ext HX4.out
          have r0 := BRu.cell (i := 0) rfl
          have r1 := BRu.cell (i := 1) rfl
          have hru := BRu.lt
          have HBYu := Lib.hid BYu
          clear BRu BYu
          go_wp2_with fail
          refine (ArenaEnd.get_hit _ _ _ _ _ _ (HA3.out.ext HX4.out) 0 _ ⟨_, true, [.int .i64 y0, .int .i64 y1]⟩ ⟨by omega, by simp, rfl, rfl, rfl⟩ y0 y1 rfl).mono ?_
          rintro e w8 ⟨rfl, x8⟩
          have HX8 := Lib.hid x8; clear x8 r0 r1
          go_wp2_with fail
          refine (aawake_any _).mono ?_
          rintro e w9 ⟨rfl, x9⟩
          have HX9 := Lib.hid x9; clear x9
          have BYv := ((HBYu.out.ext HX8.out).alloc (Obj.cells #[.int .i64 y0, .int .i64 y1] 55)).ext HX9.out
          have BVv := (Blk.new w8 #[.int .i64 y0, .int .i64 y1] 55).ext HX9.out
          have q0 := BYv.cell (i := 0) rfl
          have q1 := BYv.cell (i := 1) rfl
          have q2 := BVv.cell (i := 0) rfl
          have q3 := BVv.cell (i := 1) rfl
          clear BYv BVv
          go_wp2_with fail
          refine (ArenaEnd.len_any _ _ _ _ _ _ ((((HA3.out.ext HX4.out).ext HX8.out).alloc _).ext HX9.out)).mono ?_
          rintro e w10 ⟨rfl, rfl⟩
          go_wp2_with fail
          go_ret
          refine ⟨rfl, ?_⟩
          have K : Keep [w1.heap.size + 1, w1.heap.size] w w9 := by
            refine (hW1.keep _).trans ((x2.keep _).trans (HK4.out.trans ((HX4.out.keep _).trans ((HX8.out.keep _).trans ?_))))
            exact Keep.trans ((Keep.refl _ _).alloc _) (HX9.out.keep _)
          have hw1s := hW1.size
          exact K.ext (by intro x hx; simp at hx; omega)
      · have hbs : bl < w4.heap.size := by
          rcases Nat.lt_or_ge bl w4.heap.size with h1 | h1
          · exact h1
          · rw [Array.getElem?_eq_none h1] at hcur; cases hcur
        clear hxs hcur hct hcs
        go_loopw [17] (fun v wr => ∃ i : Nat, i ≤ j ∧ v = .int .i64 i ∧ Ext w4 wr) (fun v _ => j - (intOf v).toNat)
        case atStart => exact ⟨0, Nat.zero_le _, rfl, Ext.refl _⟩
        case round =>
          obtain ⟨i, hi, rfl, hx⟩ := hrel
          have hsx := hx.size
          have Hx := Lib.hid hx; clear hx
          by_cases hil : i < j
          · have hil' : (i : Int) < j := by omega
            obtain ⟨a0, a1⟩ := H2_at j i hil
            have c0 := (Hx.out.cell (p := ⟨bl, i * 2, none⟩) hbs).trans (owned_cells HO3.out a0)
            have c1 : wr.cell? ⟨bl, i * 2 + 1, none⟩ = some (.int .i64 ((i : Int) + 1)) := (Hx.out.cell (p := ⟨bl, i * 2 + 1, none⟩) hbs).trans (by rw [owned_cells HO3.out a1]; rfl)
            have ex0 := (HBX4.out.ext Hx.out).cell (i := 0) rfl
            have ex1 := (HBX4.out.ext Hx.out).cell (i := 1) rfl
            have hms : ∀ s, ¬ Hit ([⟨(j : Int), false, [.int .i64 0, .int .i64 0]⟩].set 0 ⟨(j : Int) + 1, true, [.int .i64 y0, .int .i64 y1]⟩) 0 ((i : Int) + 1) s := by
              rintro s ⟨_, _, h3, _, h5⟩
              simp at h3; subst h3; simp at h5; omega
            have Hms := Lib.hid hms
            clear a0 a1 hms
            go_wp2_with fail
            refine (ArenaEnd.get_miss _ _ _ _ _ _ (HA3.out.ext Hx.out) 0 ((i : Int) + 1) Hms.out).mono ?_
            rintro e w5 ⟨rfl, x5⟩
            go_wp2_with fail
            have hx6 : Ext w4 (w5.alloc (Obj.cells #[Value.int IntKind.i64 0, Value.int IntKind.i64 0] 55)) := (Hx.out.trans x5).alloc _
            generalize (w5.alloc (Obj.cells #[Value.int IntKind.i64 0, Value.int IntKind.i64 0] 55)) = w6 at *
            have hS : ∀ w', Ext w4 w' → Ext w4 w' ∧ w'.cell? ⟨bl, i * 2, none⟩ = some (.int .i64 0) ∧ w'.cell? ⟨bl, i * 2 + 1, none⟩ = some (.int .i64 ((i : Int) + 1)) ∧ w'.cell? ⟨w.heap.size, 0, none⟩ = some (.int .i64 x0) ∧ w'.cell? ⟨w.heap.size, 1, none⟩ = some (.int .i64 x1) := by
              intro w' hw'
              obtain ⟨a0, a1⟩ := H2_at j i hil
              exact ⟨hw', (hw'.cell (p := ⟨bl, i * 2, none⟩) hbs).trans (owned_cells HO3.out a0), (hw'.cell (p := ⟨bl, i * 2 + 1, none⟩) hbs).trans (by rw [owned_cells HO3.out a1]; rfl), (HBX4.out.ext hw').cell (i := 0) rfl, (HBX4.out.ext hw').cell (i := 1) rfl⟩
            obtain ⟨g0, g1, g2, g3, g4⟩ := hS w6 hx6
            have HS := Lib.hid hS; clear hS c0 c1 ex0 ex1
            go_region_held3 (fun w' => Ext w4 w' ∧ w'.cell? ⟨bl, i * 2, none⟩ = some (.int .i64 0) ∧ w'.cell? ⟨bl, i * 2 + 1, none⟩ = some (.int .i64 ((i : Int) + 1)) ∧ w'.cell? ⟨w.heap.size, 0, none⟩ = some (.int .i64 x0) ∧ w'.cell? ⟨w.heap.size, 1, none⟩ = some (.int .i64 x1)) (exact HS.out _ (by (repeat' (first | exact Ext.refl _ | assumption | refine Ext.alloc ?_ _ | refine Ext.drew ?_ | refine Ext.setCell ?_ (Nat.le_refl _) _ | refine Ext.setCell ?_ (Nat.le_add_right _ _) _ | refine Ext.drewN ?_ _ | refine Ext.trans ?_ (by assumption) | refine Ext.dr ?_ (by assumption))))) (first | (go_at_call 37; have hh := (‹Ext w4 _ ∧ _›).1; refine (ArenaEnd.set_miss _ _ _ _ _ _ (HA3.out.ext hh) 0 ((i : Int) + 1) Hms.out x0 x1).mono ?_; rintro e w' ⟨rfl, hx'⟩) | (go_at_call 35; have hh := (‹Ext w4 _ ∧ _›).1; refine (ArenaEnd.free_miss _ _ _ _ _ _ (HA3.out.ext hh) 0 ((i : Int) + 1) Hms.out).mono ?_; rintro e w' ⟨rfl, hx'⟩))
            go_wp2_with fail
            go_roundw
            case rel => exact ⟨i + 1, by omega, by go_num, (‹Ext w4 _ ∧ _›).1⟩
            case measure => simp [intOf]; omega
          · obtain rfl : i = j := by omega
            have hil' : ¬ ((i : Nat) : Int) < i := by omega
            have HX4 := Lib.hid Hx.out
            have BRu := HBR4.out.ext HX4.out
            have BYu := HBY4.out.ext HX4.out
            have r0 := BRu.cell (i := 0) rfl
            have r1 := BRu.cell (i := 1) rfl
            have hru := BRu.lt
            have HBYu := Lib.hid BYu
            clear BRu BYu
            go_wp2_with fail
            refine (ArenaEnd.get_hit _ _ _ _ _ _ (HA3.out.ext HX4.out) 0 _ ⟨_, true, [.int .i64 y0, .int .i64 y1]⟩ ⟨by omega, by simp, rfl, rfl, rfl⟩ y0 y1 rfl).mono ?_
            rintro e w8 ⟨rfl, x8⟩
            have HX8 := Lib.hid x8; clear x8 r0 r1
            go_wp2_with fail
            refine (aawake_any _).mono ?_
            rintro e w9 ⟨rfl, x9⟩
            have HX9 := Lib.hid x9; clear x9
            have BYv := ((HBYu.out.ext HX8.out).alloc (Obj.cells #[.int .i64 y0, .int .i64 y1] 55)).ext HX9.out
            have BVv := (Blk.new w8 #[.int .i64 y0, .int .i64 y1] 55).ext HX9.out
            have q0 := BYv.cell (i := 0) rfl
            have q1 := BYv.cell (i := 1) rfl
            have q2 := BVv.cell (i := 0) rfl
            have q3 := BVv.cell (i := 1) rfl
            clear BYv BVv
            go_wp2_with fail
            refine (ArenaEnd.len_any _ _ _ _ _ _ ((((HA3.out.ext HX4.out).ext HX8.out).alloc _).ext HX9.out)).mono ?_
            rintro e w10 ⟨rfl, rfl⟩
            go_wp2_with fail
            go_ret
            refine ⟨rfl, ?_⟩
            have K : Keep [w1.heap.size + 1, w1.heap.size] w w9 := by
              refine (hW1.keep _).trans ((x2.keep _).trans (HK4.out.trans ((HX4.out.keep _).trans ((HX8.out.keep _).trans ?_))))
              exact Keep.trans ((Keep.refl _ _).alloc _) (HX9.out.keep _)
            have hw1s := hW1.size
            exact K.ext (by intro x hx; simp at hx; omega)
end Go.Proofs.Ytkoinkpolpccbaa
