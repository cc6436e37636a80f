/-
  The law ArenaReusesLowestSlot.
-/
import Derived.Test.YtkoinkpolpccbaaArenaAw
import Derived.Test.YtkoinkpolpccbaaArenaJInt
import Derived.Test.YtkoinkpolpccbaaArenaH
set_option linter.unusedSimpArgs false
set_option linter.unusedVariables false
namespace Go.Proofs.Ytkoinkpolpccbaa
open Go.RowKit

/-- what gen.Mod computes -/
def gmod (a b : Int) : Int := wrap64 ((IntKind.u64.wrap a).tmod b)
theorem gmod_bd (a b : Int) (h1 : 0 < b) (h2 : b ≤ 9223372036854775807) : 0 ≤ gmod a b ∧ gmod a b < b := cut_bd a b h1 h2
set_option maxHeartbeats 400000 in
theorem mod_any (a b : Int) (w : World) (h1 : 0 < b) (h2 : b ≤ 9223372036854775807) :
    Calls Try.prog 27 #[.int .i64 a, .int .i64 b] w fun e w' => e = .returned (.int .i64 (gmod a b)) ∧ w = w' := by
  have hb : (b == 0) = false := by simp; omega
  go_enter Try.func27, Try.ntmps27
  go_wp2_with fail
  go_ret
  exact ⟨rfl, rfl⟩

/-- a list of slots by a function -/
def slots (k : Nat) (F : Nat → Sl) : List Sl := (List.range k).map F
theorem slots_len (k : Nat) (F : Nat → Sl) : (slots k F).length = k := by simp [slots]
theorem slots_get {k : Nat} {F : Nat → Sl} {i : Nat} (h : i < k) : (slots k F)[i]? = some (F i) := by simp [slots, h]
theorem slots_set (k : Nat) (F : Nat → Sl) (i : Nat) (t : Sl) : (slots k F).set i t = slots k (fun j => if j = i then t else F j) := by
  apply List.ext_getElem?
  intro j
  rw [List.getElem?_set]
  by_cases hj : j < k
  · rw [slots_get hj, slots_len]
    by_cases h : i = j
    · subst h; simp [hj]; rw [slots_get hj]; simp
    · rw [if_neg h, slots_get hj, if_neg (fun e => h e.symm)]
  · have e1 : (slots k F)[j]? = none := List.getElem?_eq_none (by rw [slots_len]; omega)
    have e2 : (slots k (fun j => if j = i then t else F j))[j]? = none := List.getElem?_eq_none (by rw [slots_len]; omega)
    rw [e1, e2, slots_len]
    split
    · rw [if_neg (by omega)]
    · rfl
theorem slots_congr {k : Nat} {F G : Nat → Sl} (h : ∀ i, i < k → F i = G i) : slots k F = slots k G := List.map_congr_left (fun i hi => h i (by simpa using hi))
theorem slots_fresh (k : Nat) (t : Sl) : List.replicate k t = slots k (fun _ => t) := by
  apply List.ext_getElem?
  intro j
  rw [List.getElem?_replicate]
  by_cases hj : j < k
  · rw [if_pos hj, slots_get hj]
  · rw [if_neg hj, List.getElem?_eq_none (by rw [slots_len]; omega)]

/-- the first i slots in use -/
def F1 (i j : Nat) : Sl := if j < i then ⟨1, true, [.int .i64 j]⟩ else ⟨0, false, [.int .i64 0]⟩
/-- the handles of the first i slots -/
def H1 (i : Nat) : List (Int × Int) := (List.range i).map fun (j : Nat) => ((j : Int), (1 : Int))
theorem H1_len (i : Nat) : (H1 i).length = i := by simp [H1]
theorem H1_succ (i : Nat) : hcells (H1 (i + 1)) = hcells (H1 i) ++ [.int .i64 i, .int .i64 1] := by simp [H1, List.range_succ, hcells]
theorem H1_at (i j : Nat) (h : j < i) : (hcells (H1 i))[j * 2]? = some (.int .i64 j) ∧ (hcells (H1 i))[j * 2 + 1]? = some (.int .i64 1) := by
  induction i with
  | zero => omega
  | succ i ih =>
    have hl : (hcells (H1 i)).length = i * 2 := by
      clear ih h
      induction i with
      | zero => rfl
      | succ i ih => rw [H1_succ, List.length_append, ih]; simp; omega
    rw [H1_succ]
    by_cases hj : j < i
    · obtain ⟨a, b⟩ := ih hj
      exact ⟨by rw [List.getElem?_append_left (by omega)]; exact a, by rw [List.getElem?_append_left (by omega)]; exact b⟩
    · obtain rfl : j = i := by omega
      exact ⟨by rw [List.getElem?_append_right (by omega), hl]; simp, by rw [List.getElem?_append_right (by omega), hl]; simp⟩

set_option maxRecDepth 100000 in
set_option maxHeartbeats 4000000 in
theorem ArenaReusesLowestSlot_walk (n p q : Int) (w : World) {G1 G2 G3 : Prop} (_ : G1) (_ : G2) (_ : G3) :
    Calls Try.prog 9 #[.int .i64 n, .int .i64 p, .int .i64 q] w fun e w' => e = .returned (.bool true) ∧ Ext w w' := by
  have hb := gmod_bd n 40 (by omega) (by omega)
  go_enter Try.func9, Try.ntmps9
  go_wp2_with fail
  refine (mod_any n 40 _ (by omega) (by omega)).mono ?_
  rintro e w' ⟨rfl, rfl⟩
  generalize gmod n 40 = m at *
  go_wp2_with fail
  have hb1 : 2 ≤ 2 + m := by omega
  have hb2 : 2 + m ≤ 41 := by omega
  generalize 2 + m = k0 at *
  obtain ⟨k, rfl⟩ := Int.eq_ofNat_of_zero_le (show 0 ≤ k0 by omega)
  have hk1 : 2 ≤ k := by omega
  have hk2 : k ≤ 41 := by omega
  clear hb1 hb2
  refine (ArenaInt.new_ok k _ (by omega) (by omega)).mono ?_
  rintro e w1 ⟨rfl, A1, x1⟩
  have hp1 : w.heap.size + 1 < w1.heap.size := A1.top.lt
  rw [slots_fresh] at A1
  obtain ⟨i0, hi, hz0, hz1, hz2⟩ := info_parts Try.infoH
  have HI := Lib.hid hi; have HZ0 := Lib.hid hz0; have HZ1 := Lib.hid hz1; have HZ2 := Lib.hid hz2
  clear hi hz0 hz1 hz2
  have HA1 := Lib.hid A1; clear A1
  go_wp2_with fail
  go_loopw [10, 11] (fun v i wr => ∃ j fr : Nat, j ≤ k ∧ fr ≤ j ∧ i = .int .i64 j ∧ ArenaInt.At wr (w.heap.size + 1) w.heap.size (slots k (F1 j)) fr j ∧ Keep [w.heap.size + 1, w.heap.size] w1 wr ∧ wr.ownsRow w1.heap.size 48 2 v j (hcells (H1 j))) (fun _ i _ => k - (intOf i).toNat)
  case atStart => exact ⟨0, 0, Nat.zero_le _, Nat.zero_le _, rfl, by rw [slots_congr (G := fun _ => ⟨0, false, [.int .i64 0]⟩) (fun i _ => by simp [F1])]; exact HA1.out, Keep.refl _ _, World.ownsRow_nil _ _ _ _⟩
  case round =>
    obtain ⟨j, fr, hj, hfr, rfl, hA, hK, hown⟩ := hrel
    by_cases hlt : j < k
    · have hlt' : (j : Int) < k := by omega
      have HA := Lib.hid hA; have HK := Lib.hid hK; have HO := Lib.hid hown
      clear hA hK hown
      go_wp2_with fail
      refine (ArenaInt.alloc_hit _ _ _ _ fr _ j j ⟨0, false, [.int .i64 0]⟩ HA.out hfr (by rw [slots_get hlt]; simp [F1]) rfl (by decide) (by decide) (by omega) (by omega) (by intro i h1 h2; exact ⟨_, slots_get (by omega), by simp [F1, h2]⟩)).mono ?_
      rintro e w2 ⟨rfl, A2, k2⟩
      rw [slots_set, slots_congr (G := F1 (j + 1)) (fun i _ => by
        by_cases h : i = j
        · subst h; simp [F1]
        · by_cases h2 : i < j
          · simp [F1, h, h2, Nat.lt_succ_of_lt h2]
          · rw [if_neg h]; unfold F1; rw [if_neg h2, if_neg (by omega)])] at A2
      have hs2 := k2.size
      have hw1 := HK.out.size
      have hown2 := ownsRow_keep HO.out k2 (by intro g hg; simp at hg; omega)
      have HA2 := Lib.hid A2; have HK2 := Lib.hid k2
      clear A2 k2
      go_wp2_with (at_builtin; refine wpList_append_own _ rfl _ _ 46 rfl w1.heap.size 48 i0 (.agg #[.int .i64 0, .int .i64 0]) 2 16 Try.underlying46 HI.out HZ0.out HZ1.out HZ2.out rfl (by decide) _ _ _ rfl ((hown2.alloc _).alloc _) ⟨w2.heap.size + 1, 0, none⟩ 1 1 [.int .i64 j, .int .i64 1] rfl rfl ?c1 ?c2 ?c3 ?c4 ?c5 ?_)
      case c1 =>
        intro i u hu
        have B1 := Blk.new (w2.alloc (Obj.cells #[Value.int IntKind.i64 j, Value.int IntKind.i64 1] 48)) #[Value.int IntKind.i64 j, Value.int IntKind.i64 1] 48
        rw [World.size_alloc] at B1
        have e1 : (⟨w2.heap.size + 1, 0, none⟩ : Addr).add i = ⟨w2.heap.size + 1, i, none⟩ := by unfold Addr.add; split <;> simp_all
        rw [e1]
        exact B1.cell hu
      case c2 => simp [Value.oneCell']
      case c3 => unfold maxLen; omega
      case c4 => omega
      case c5 => simp; omega
      intro v' w3 hown' hgrow _
      have Ho' := Lib.hid hown'; clear hown'
      have Hg := Lib.hid hgrow; clear hgrow
      have hlt2 := hown2.lt
      have Hl := Lib.hid hlt2; clear hlt2
      have Ho := Lib.hid hown2; clear hown2
      go_wp2_with fail
      go_roundw
      case rel =>
        have k3 : Keep [w.heap.size + 1, w.heap.size] w1 w3 := ((((HK.out.trans HK2.out).alloc _).alloc _).grown Hg.out (fun g hg => (Hl.out g hg).1))
        refine ⟨j + 1, j, by omega, by omega, by go_num, ?_, k3, by rw [H1_succ]; exact Ho'.out⟩
        have A4 := ((HA2.out.alloc _).alloc _).keep (Keep.of_grown Hg.out) (by intro h; have := (Hl.out _ (Option.mem_toList.1 h)).1; omega) (by intro h; have := (Hl.out _ (Option.mem_toList.1 h)).1; omega)
        rw [show ((j + 1 : Nat) : Int) = (j : Int) + 1 from by omega]
        exact A4
      case measure => simp [intOf]; omega
    · obtain rfl : j = k := by omega
      have hlt' : ¬ ((j : Nat) : Int) < j := by omega
      have hw1 := hK.size
      obtain ⟨hxs, ⟨_, h0⟩ | ⟨bl, cap, cur, rfl, hbl, hcur, hcap, hcapm, hcs, hct⟩⟩ := hown
      · omega
      have hcell : ∀ i, i < j → (wr.cell? ⟨bl, i * 2, none⟩ = some (.int .i64 i) ∧ wr.cell? ⟨bl, i * 2 + 1, none⟩ = some (.int .i64 1)) := by
        intro i hi
        obtain ⟨a, b⟩ := H1_at j i hi
        rw [← hct, List.getElem?_take] at a b
        unfold World.cell?
        rw [hcur]
        constructor
        · split at a
          · simpa using a
          · cases a
        · split at b
          · simpa using b
          · cases b
      have hbs : bl < wr.heap.size := by
        rcases Nat.lt_or_ge bl wr.heap.size with h1 | h1
        · exact h1
        · rw [Array.getElem?_eq_none h1] at hcur; cases hcur
      have Hc := Lib.hid hcell
      have HK := Lib.hid hK; have HA := Lib.hid hA
      clear hxs hcur hct hcs hcell hK hA
      go_wp2_with fail
      refine (ArenaInt.alloc_full _ _ _ _ fr _ 0 HA.out (by rw [slots_len]; exact hfr) (by intro i h1 h2; rw [slots_len] at h2; exact ⟨_, slots_get h2, by simp [F1, h2]⟩)).mono ?_
      rintro e w2 ⟨rfl, A2, k2⟩
      rw [slots_len] at A2
      have hs2 := k2.size
      have HA2 := Lib.hid A2; have HK2 := Lib.hid k2
      clear A2 k2
      have bf := gmod_bd p j (by omega) (by omega)
      have bg := gmod_bd q j (by omega) (by omega)
      go_wp2_with fail
      refine (mod_any p j _ (by omega) (by omega)).mono ?_
      rintro e w' ⟨rfl, rfl⟩
      generalize gmod p j = f0 at *
      obtain ⟨f, rfl⟩ := Int.eq_ofNat_of_zero_le bf.1
      go_wp2_with fail
      refine (mod_any q j _ (by omega) (by omega)).mono ?_
      rintro e w' ⟨rfl, rfl⟩
      generalize gmod q j = g0 at *
      obtain ⟨g, rfl⟩ := Int.eq_ofNat_of_zero_le bg.1
      have hf1 : f < j := by omega
      have hbl2 : bl < w2.heap.size := by omega
      have np : bl ∉ [w.heap.size + 1, w.heap.size] := by simp; omega
      have cw2 : ∀ i, i < j → (w2.cell? ⟨bl, i * 2, none⟩ = some (.int .i64 i) ∧ w2.cell? ⟨bl, i * 2 + 1, none⟩ = some (.int .i64 1)) := fun i hi =>
        ⟨(HK2.out.cell (p := ⟨bl, i * 2, none⟩) hbs np).trans (Hc.out i hi).1, (HK2.out.cell (p := ⟨bl, i * 2 + 1, none⟩) hbs np).trans (Hc.out i hi).2⟩
      have Hc2 := Lib.hid cw2; clear cw2 Hc
      by_cases hfg : f = g
      · subst hfg
        have he : ((f : Int) == f) = true := by simp
        by_cases hl : f + 1 < j
        · have hm : ((f : Int) + 1) % j = ((f + 1 : Nat) : Int) := by rw [Int.emod_eq_of_lt (by omega) (by omega)]; omega
          obtain ⟨g, hg⟩ : ∃ g, g = f + 1 := ⟨_, rfl⟩
          rw [← hg] at hm
          have hl' : f < g ∧ g < j := by omega
          clear hg
          have hgj : g < j := by omega
          have hne : f ≠ g := by omega
          have hlh : f < g := by omega
          obtain ⟨cf0, cf1⟩ := Hc2.out f hf1
          obtain ⟨cg0, cg1⟩ := Hc2.out g hgj
          go_wp2_with fail
          refine (ArenaInt.free_hit _ _ _ _ _ _ (HA2.out.alloc _) (by omega) (by omega) (f : Nat) 1 ⟨1, true, [.int .i64 (f : Nat)]⟩ ⟨by omega, by rw [slots_len]; omega, by rw [Int.toNat_natCast, slots_get hf1]; simp [F1, hf1], rfl, rfl⟩).mono ?_
          rintro e w3 ⟨rfl, A3, k3⟩
          rw [Int.toNat_natCast, slots_set, show min (j : Int) ((f : Nat) : Int) = ((f : Nat) : Int) from by omega] at A3
          have hs3 := k3.size
          rw [World.size_alloc] at hs3
          have cg0' : w3.cell? ⟨bl, g * 2, none⟩ = some (.int .i64 (g : Nat)) := by rw [k3.cell (by show bl < _; rw [World.size_alloc]; omega) np, World.cell?_alloc_lt _ _ _ (by exact hbl2)]; exact cg0
          have cg1' : w3.cell? ⟨bl, g * 2 + 1, none⟩ = some (.int .i64 1) := by rw [k3.cell (by show bl < _; rw [World.size_alloc]; omega) np, World.cell?_alloc_lt _ _ _ (by exact hbl2)]; exact cg1
          have hbl3 : bl < w3.heap.size := by omega
          have HA3 := Lib.hid A3; have HK3 := Lib.hid k3
          clear A3 k3 cf0 cf1 cg0 cg1
          go_wp2_with fail
          refine (ArenaInt.free_hit _ _ _ _ _ _ HA3.out (by omega) (by omega) (g : Nat) 1 ⟨1, true, [.int .i64 (g : Nat)]⟩ ⟨by omega, by rw [slots_len]; omega, by rw [Int.toNat_natCast, slots_get hgj]; simp [F1, hgj, hne.symm], rfl, rfl⟩).mono ?_
          rintro e w4 ⟨rfl, A4, k4⟩
          rw [Int.toNat_natCast, slots_set, show min ((f : Nat) : Int) ((g : Nat) : Int) = ((f : Nat) : Int) from by omega] at A4
          have hs4 := k4.size
          have HA4 := Lib.hid A4; have HK4 := Lib.hid k4
          clear A4 k4 cg0' cg1'
          go_wp2_with fail
          refine (ArenaInt.alloc_hit _ _ _ _ f _ 7 f ⟨1, false, [.int .i64 0]⟩ HA4.out (Nat.le_refl _) (by rw [slots_get (by omega)]; simp) rfl (by decide) (by decide) (by omega) (by omega) (by intro i h1 h2; omega)).mono ?_
          rintro e w5 ⟨rfl, A5, k5⟩
          rw [slots_set] at A5
          have hs5 := k5.size
          have HA5 := Lib.hid A5; have HK5 := Lib.hid k5
          clear A5 k5
          go_wp2_with fail
          have B5 := Blk.new w5 #[.int .i64 (f : Nat), .int .i64 2] 48
          refine (ArenaInt.alloc_hit _ _ _ _ f _ 8 g ⟨1, false, [.int .i64 0]⟩ (HA5.out.alloc _) (by omega) (by rw [slots_get (by omega)]; (try dsimp only); congr 1; (repeat' split) <;> first | rfl | (exfalso; omega)) rfl (by decide) (by decide) (by omega) (by omega) (by
            intro i h1 h2
            refine ⟨_, slots_get (by omega), ?_⟩
            (try dsimp only)
            (repeat' split) <;> first | rfl | (exfalso; omega) | (unfold F1; rw [if_pos (by omega)]))).mono ?_
          rintro e w6 ⟨rfl, A6, k6⟩
          have hs6 := k6.size
          rw [World.size_alloc] at hs6
          have B6 := B5.keep k6 (by simp; omega)
          have HA6 := Lib.hid A6; have HK6 := Lib.hid k6; have HB6 := Lib.hid B6
          clear A6 k6 B6 B5
          go_wp2_with fail
          refine (aawake_any _).mono ?_
          rintro e w7 ⟨rfl, x7⟩
          have B7 := (HB6.out.alloc (Obj.cells #[.int .i64 (g : Nat), .int .i64 2] 48)).ext x7
          have B8 := (Blk.new w6 #[.int .i64 (g : Nat), .int .i64 2] 48).ext x7
          have b70 := B7.cell (i := 0) rfl
          have b71 := B7.cell (i := 1) rfl
          have b80 := B8.cell (i := 0) rfl
          have b81 := B8.cell (i := 1) rfl
          have HX7 := Lib.hid x7; clear x7 B7 B8
          go_wp2_with fail
          refine (ArenaInt.len_any _ _ _ _ _ _ ((HA6.out.alloc _).ext HX7.out)).mono ?_
          rintro e w8 ⟨rfl, rfl⟩
          go_wp2_with fail
          go_ret
          refine ⟨rfl, ?_⟩
          have K : Keep [w.heap.size + 1, w.heap.size] w w7 := by
            refine (x1.keep _).trans (HK.out.trans (HK2.out.trans ?_))
            refine Keep.trans ((Keep.refl _ _).alloc _) (HK3.out.trans (HK4.out.trans (HK5.out.trans ?_)))
            refine Keep.trans ((Keep.refl _ _).alloc _) (HK6.out.trans ?_)
            exact Keep.trans ((Keep.refl _ _).alloc _) (HX7.out.keep _)
          exact K.ext (by intro x hx; simp at hx; omega)
        · have hm : ((f : Int) + 1) % j = ((0 : Nat) : Int) := by
            rw [show (f : Int) + 1 = j from by omega, Int.emod_self]; rfl
          obtain ⟨g, hg⟩ : ∃ g, g = 0 := ⟨_, rfl⟩
          rw [← hg] at hm
          have hl' : g < f ∧ g < j := by omega
          clear hg
          have hgj : g < j := by omega
          have hne : f ≠ g := by omega
          have hlh : g < f := by omega
          obtain ⟨cf0, cf1⟩ := Hc2.out f hf1
          obtain ⟨cg0, cg1⟩ := Hc2.out g hgj
          go_wp2_with fail
          refine (ArenaInt.free_hit _ _ _ _ _ _ (HA2.out.alloc _) (by omega) (by omega) (f : Nat) 1 ⟨1, true, [.int .i64 (f : Nat)]⟩ ⟨by omega, by rw [slots_len]; omega, by rw [Int.toNat_natCast, slots_get hf1]; simp [F1, hf1], rfl, rfl⟩).mono ?_
          rintro e w3 ⟨rfl, A3, k3⟩
          rw [Int.toNat_natCast, slots_set, show min (j : Int) ((f : Nat) : Int) = ((f : Nat) : Int) from by omega] at A3
          have hs3 := k3.size
          rw [World.size_alloc] at hs3
          have cg0' : w3.cell? ⟨bl, g * 2, none⟩ = some (.int .i64 (g : Nat)) := by rw [k3.cell (by show bl < _; rw [World.size_alloc]; omega) np, World.cell?_alloc_lt _ _ _ (by exact hbl2)]; exact cg0
          have cg1' : w3.cell? ⟨bl, g * 2 + 1, none⟩ = some (.int .i64 1) := by rw [k3.cell (by show bl < _; rw [World.size_alloc]; omega) np, World.cell?_alloc_lt _ _ _ (by exact hbl2)]; exact cg1
          have hbl3 : bl < w3.heap.size := by omega
          have HA3 := Lib.hid A3; have HK3 := Lib.hid k3
          clear A3 k3 cf0 cf1 cg0 cg1
          go_wp2_with fail
          refine (ArenaInt.free_hit _ _ _ _ _ _ HA3.out (by omega) (by omega) (g : Nat) 1 ⟨1, true, [.int .i64 (g : Nat)]⟩ ⟨by omega, by rw [slots_len]; omega, by rw [Int.toNat_natCast, slots_get hgj]; simp [F1, hgj, hne.symm], rfl, rfl⟩).mono ?_
          rintro e w4 ⟨rfl, A4, k4⟩
          rw [Int.toNat_natCast, slots_set, show min ((f : Nat) : Int) ((g : Nat) : Int) = ((g : Nat) : Int) from by omega] at A4
          have hs4 := k4.size
          have HA4 := Lib.hid A4; have HK4 := Lib.hid k4
          clear A4 k4 cg0' cg1'
          go_wp2_with fail
          refine (ArenaInt.alloc_hit _ _ _ _ g _ 7 g ⟨1, false, [.int .i64 0]⟩ HA4.out (Nat.le_refl _) (by rw [slots_get (by omega)]; simp) rfl (by decide) (by decide) (by omega) (by omega) (by intro i h1 h2; omega)).mono ?_
          rintro e w5 ⟨rfl, A5, k5⟩
          rw [slots_set] at A5
          have hs5 := k5.size
          have HA5 := Lib.hid A5; have HK5 := Lib.hid k5
          clear A5 k5
          go_wp2_with fail
          have B5 := Blk.new w5 #[.int .i64 (g : Nat), .int .i64 2] 48
          refine (ArenaInt.alloc_hit _ _ _ _ g _ 8 f ⟨1, false, [.int .i64 0]⟩ (HA5.out.alloc _) (by omega) (by rw [slots_get (by omega)]; (try dsimp only); congr 1; (repeat' split) <;> first | rfl | (exfalso; omega)) rfl (by decide) (by decide) (by omega) (by omega) (by
            intro i h1 h2
            refine ⟨_, slots_get (by omega), ?_⟩
            (try dsimp only)
            (repeat' split) <;> first | rfl | (exfalso; omega) | (unfold F1; rw [if_pos (by omega)]))).mono ?_
          rintro e w6 ⟨rfl, A6, k6⟩
          have hs6 := k6.size
          rw [World.size_alloc] at hs6
          have B6 := B5.keep k6 (by simp; omega)
          have HA6 := Lib.hid A6; have HK6 := Lib.hid k6; have HB6 := Lib.hid B6
          clear A6 k6 B6 B5
          go_wp2_with fail
          refine (aawake_any _).mono ?_
          rintro e w7 ⟨rfl, x7⟩
          have B7 := (HB6.out.alloc (Obj.cells #[.int .i64 (f : Nat), .int .i64 2] 48)).ext x7
          have B8 := (Blk.new w6 #[.int .i64 (f : Nat), .int .i64 2] 48).ext x7
          have b70 := B7.cell (i := 0) rfl
          have b71 := B7.cell (i := 1) rfl
          have b80 := B8.cell (i := 0) rfl
          have b81 := B8.cell (i := 1) rfl
          have HX7 := Lib.hid x7; clear x7 B7 B8
          go_wp2_with fail
          refine (ArenaInt.len_any _ _ _ _ _ _ ((HA6.out.alloc _).ext HX7.out)).mono ?_
          rintro e w8 ⟨rfl, rfl⟩
          go_wp2_with fail
          go_ret
          refine ⟨rfl, ?_⟩
          have K : Keep [w.heap.size + 1, w.heap.size] w w7 := by
            refine (x1.keep _).trans (HK.out.trans (HK2.out.trans ?_))
            refine Keep.trans ((Keep.refl _ _).alloc _) (HK3.out.trans (HK4.out.trans (HK5.out.trans ?_)))
            refine Keep.trans ((Keep.refl _ _).alloc _) (HK6.out.trans ?_)
            exact Keep.trans ((Keep.refl _ _).alloc _) (HX7.out.keep _)
          exact K.ext (by intro x hx; simp at hx; omega)
      · have he : ((f : Int) == g) = false := by simp; omega
        have hm : True := trivial
        rcases Nat.lt_or_gt_of_ne hfg with hl | hl
        · skip
          have hgj : g < j := by omega
          have hne : f ≠ g := by omega
          have hlh : f < g := by omega
          obtain ⟨cf0, cf1⟩ := Hc2.out f hf1
          obtain ⟨cg0, cg1⟩ := Hc2.out g hgj
          go_wp2_with fail
          refine (ArenaInt.free_hit _ _ _ _ _ _ (HA2.out.alloc _) (by omega) (by omega) (f : Nat) 1 ⟨1, true, [.int .i64 (f : Nat)]⟩ ⟨by omega, by rw [slots_len]; omega, by rw [Int.toNat_natCast, slots_get hf1]; simp [F1, hf1], rfl, rfl⟩).mono ?_
          rintro e w3 ⟨rfl, A3, k3⟩
          rw [Int.toNat_natCast, slots_set, show min (j : Int) ((f : Nat) : Int) = ((f : Nat) : Int) from by omega] at A3
          have hs3 := k3.size
          rw [World.size_alloc] at hs3
          have cg0' : w3.cell? ⟨bl, g * 2, none⟩ = some (.int .i64 (g : Nat)) := by rw [k3.cell (by show bl < _; rw [World.size_alloc]; omega) np, World.cell?_alloc_lt _ _ _ (by exact hbl2)]; exact cg0
          have cg1' : w3.cell? ⟨bl, g * 2 + 1, none⟩ = some (.int .i64 1) := by rw [k3.cell (by show bl < _; rw [World.size_alloc]; omega) np, World.cell?_alloc_lt _ _ _ (by exact hbl2)]; exact cg1
          have hbl3 : bl < w3.heap.size := by omega
          have HA3 := Lib.hid A3; have HK3 := Lib.hid k3
          clear A3 k3 cf0 cf1 cg0 cg1
          go_wp2_with fail
          refine (ArenaInt.free_hit _ _ _ _ _ _ HA3.out (by omega) (by omega) (g : Nat) 1 ⟨1, true, [.int .i64 (g : Nat)]⟩ ⟨by omega, by rw [slots_len]; omega, by rw [Int.toNat_natCast, slots_get hgj]; simp [F1, hgj, hne.symm], rfl, rfl⟩).mono ?_
          rintro e w4 ⟨rfl, A4, k4⟩
          rw [Int.toNat_natCast, slots_set, show min ((f : Nat) : Int) ((g : Nat) : Int) = ((f : Nat) : Int) from by omega] at A4
          have hs4 := k4.size
          have HA4 := Lib.hid A4; have HK4 := Lib.hid k4
          clear A4 k4 cg0' cg1'
          go_wp2_with fail
          refine (ArenaInt.alloc_hit _ _ _ _ f _ 7 f ⟨1, false, [.int .i64 0]⟩ HA4.out (Nat.le_refl _) (by rw [slots_get (by omega)]; simp) rfl (by decide) (by decide) (by omega) (by omega) (by intro i h1 h2; omega)).mono ?_
          rintro e w5 ⟨rfl, A5, k5⟩
          rw [slots_set] at A5
          have hs5 := k5.size
          have HA5 := Lib.hid A5; have HK5 := Lib.hid k5
          clear A5 k5
          go_wp2_with fail
          have B5 := Blk.new w5 #[.int .i64 (f : Nat), .int .i64 2] 48
          refine (ArenaInt.alloc_hit _ _ _ _ f _ 8 g ⟨1, false, [.int .i64 0]⟩ (HA5.out.alloc _) (by omega) (by rw [slots_get (by omega)]; (try dsimp only); congr 1; (repeat' split) <;> first | rfl | (exfalso; omega)) rfl (by decide) (by decide) (by omega) (by omega) (by
            intro i h1 h2
            refine ⟨_, slots_get (by omega), ?_⟩
            (try dsimp only)
            (repeat' split) <;> first | rfl | (exfalso; omega) | (unfold F1; rw [if_pos (by omega)]))).mono ?_
          rintro e w6 ⟨rfl, A6, k6⟩
          have hs6 := k6.size
          rw [World.size_alloc] at hs6
          have B6 := B5.keep k6 (by simp; omega)
          have HA6 := Lib.hid A6; have HK6 := Lib.hid k6; have HB6 := Lib.hid B6
          clear A6 k6 B6 B5
          go_wp2_with fail
          refine (aawake_any _).mono ?_
          rintro e w7 ⟨rfl, x7⟩
          have B7 := (HB6.out.alloc (Obj.cells #[.int .i64 (g : Nat), .int .i64 2] 48)).ext x7
          have B8 := (Blk.new w6 #[.int .i64 (g : Nat), .int .i64 2] 48).ext x7
          have b70 := B7.cell (i := 0) rfl
          have b71 := B7.cell (i := 1) rfl
          have b80 := B8.cell (i := 0) rfl
          have b81 := B8.cell (i := 1) rfl
          have HX7 := Lib.hid x7; clear x7 B7 B8
          go_wp2_with fail
          refine (ArenaInt.len_any _ _ _ _ _ _ ((HA6.out.alloc _).ext HX7.out)).mono ?_
          rintro e w8 ⟨rfl, rfl⟩
          go_wp2_with fail
          go_ret
          refine ⟨rfl, ?_⟩
          have K : Keep [w.heap.size + 1, w.heap.size] w w7 := by
            refine (x1.keep _).trans (HK.out.trans (HK2.out.trans ?_))
            refine Keep.trans ((Keep.refl _ _).alloc _) (HK3.out.trans (HK4.out.trans (HK5.out.trans ?_)))
            refine Keep.trans ((Keep.refl _ _).alloc _) (HK6.out.trans ?_)
            exact Keep.trans ((Keep.refl _ _).alloc _) (HX7.out.keep _)
          exact K.ext (by intro x hx; simp at hx; omega)
        · skip
          have hgj : g < j := by omega
          have hne : f ≠ g := by omega
          have hlh : g < f := by omega
          obtain ⟨cf0, cf1⟩ := Hc2.out f hf1
          obtain ⟨cg0, cg1⟩ := Hc2.out g hgj
          go_wp2_with fail
          refine (ArenaInt.free_hit _ _ _ _ _ _ (HA2.out.alloc _) (by omega) (by omega) (f : Nat) 1 ⟨1, true, [.int .i64 (f : Nat)]⟩ ⟨by omega, by rw [slots_len]; omega, by rw [Int.toNat_natCast, slots_get hf1]; simp [F1, hf1], rfl, rfl⟩).mono ?_
          rintro e w3 ⟨rfl, A3, k3⟩
          rw [Int.toNat_natCast, slots_set, show min (j : Int) ((f : Nat) : Int) = ((f : Nat) : Int) from by omega] at A3
          have hs3 := k3.size
          rw [World.size_alloc] at hs3
          have cg0' : w3.cell? ⟨bl, g * 2, none⟩ = some (.int .i64 (g : Nat)) := by rw [k3.cell (by show bl < _; rw [World.size_alloc]; omega) np, World.cell?_alloc_lt _ _ _ (by exact hbl2)]; exact cg0
          have cg1' : w3.cell? ⟨bl, g * 2 + 1, none⟩ = some (.int .i64 1) := by rw [k3.cell (by show bl < _; rw [World.size_alloc]; omega) np, World.cell?_alloc_lt _ _ _ (by exact hbl2)]; exact cg1
          have hbl3 : bl < w3.heap.size := by omega
          have HA3 := Lib.hid A3; have HK3 := Lib.hid k3
          clear A3 k3 cf0 cf1 cg0 cg1
          go_wp2_with fail
          refine (ArenaInt.free_hit _ _ _ _ _ _ HA3.out (by omega) (by omega) (g : Nat) 1 ⟨1, true, [.int .i64 (g : Nat)]⟩ ⟨by omega, by rw [slots_len]; omega, by rw [Int.toNat_natCast, slots_get hgj]; simp [F1, hgj, hne.symm], rfl, rfl⟩).mono ?_
          rintro e w4 ⟨rfl, A4, k4⟩
          rw [Int.toNat_natCast, slots_set, show min ((f : Nat) : Int) ((g : Nat) : Int) = ((g : Nat) : Int) from by omega] at A4
          have hs4 := k4.size
          have HA4 := Lib.hid A4; have HK4 := Lib.hid k4
          clear A4 k4 cg0' cg1'
          go_wp2_with fail
          refine (ArenaInt.alloc_hit _ _ _ _ g _ 7 g ⟨1, false, [.int .i64 0]⟩ HA4.out (Nat.le_refl _) (by rw [slots_get (by omega)]; simp) rfl (by decide) (by decide) (by omega) (by omega) (by intro i h1 h2; omega)).mono ?_
          rintro e w5 ⟨rfl, A5, k5⟩
          rw [slots_set] at A5
          have hs5 := k5.size
          have HA5 := Lib.hid A5; have HK5 := Lib.hid k5
          clear A5 k5
          go_wp2_with fail
          have B5 := Blk.new w5 #[.int .i64 (g : Nat), .int .i64 2] 48
          refine (ArenaInt.alloc_hit _ _ _ _ g _ 8 f ⟨1, false, [.int .i64 0]⟩ (HA5.out.alloc _) (by omega) (by rw [slots_get (by omega)]; (try dsimp only); congr 1; (repeat' split) <;> first | rfl | (exfalso; omega)) rfl (by decide) (by decide) (by omega) (by omega) (by
            intro i h1 h2
            refine ⟨_, slots_get (by omega), ?_⟩
            (try dsimp only)
            (repeat' split) <;> first | rfl | (exfalso; omega) | (unfold F1; rw [if_pos (by omega)]))).mono ?_
          rintro e w6 ⟨rfl, A6, k6⟩
          have hs6 := k6.size
          rw [World.size_alloc] at hs6
          have B6 := B5.keep k6 (by simp; omega)
          have HA6 := Lib.hid A6; have HK6 := Lib.hid k6; have HB6 := Lib.hid B6
          clear A6 k6 B6 B5
          go_wp2_with fail
          refine (aawake_any _).mono ?_
          rintro e w7 ⟨rfl, x7⟩
          have B7 := (HB6.out.alloc (Obj.cells #[.int .i64 (f : Nat), .int .i64 2] 48)).ext x7
          have B8 := (Blk.new w6 #[.int .i64 (f : Nat), .int .i64 2] 48).ext x7
          have b70 := B7.cell (i := 0) rfl
          have b71 := B7.cell (i := 1) rfl
          have b80 := B8.cell (i := 0) rfl
          have b81 := B8.cell (i := 1) rfl
          have HX7 := Lib.hid x7; clear x7 B7 B8
          go_wp2_with fail
          refine (ArenaInt.len_any _ _ _ _ _ _ ((HA6.out.alloc _).ext HX7.out)).mono ?_
          rintro e w8 ⟨rfl, rfl⟩
          go_wp2_with fail
          go_ret
          refine ⟨rfl, ?_⟩
          have K : Keep [w.heap.size + 1, w.heap.size] w w7 := by
            refine (x1.keep _).trans (HK.out.trans (HK2.out.trans ?_))
            refine Keep.trans ((Keep.refl _ _).alloc _) (HK3.out.trans (HK4.out.trans (HK5.out.trans ?_)))
            refine Keep.trans ((Keep.refl _ _).alloc _) (HK6.out.trans ?_)
            exact Keep.trans ((Keep.refl _ _).alloc _) (HX7.out.keep _)
          exact K.ext (by intro x hx; simp at hx; omega)
end Go.Proofs.Ytkoinkpolpccbaa
