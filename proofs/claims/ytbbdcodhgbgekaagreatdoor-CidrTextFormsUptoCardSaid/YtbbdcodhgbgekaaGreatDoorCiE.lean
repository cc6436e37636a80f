/-
  Contracts of cidr.Compare and ref.ComparePrefix.
-/
import Derived.Test.YtbbdcodhgbgekaaGreatDoorCiD
set_option linter.unusedSimpArgs false
set_option linter.unusedVariables false
namespace Go.Proofs.YtbbdcodhgbgekaaGreatDoor
open Go.RowKit
theorem cmpA_bd (a b : Adr) : -1 ≤ cmpA a b ∧ cmpA a b ≤ 1 := by
  have h : ∀ f i, -1 ≤ cmpFrom a b f i ∧ cmpFrom a b f i ≤ 1 := by
    intro f
    induction f with
    | zero => intro i; simp [cmpFrom]
    | succ f ih =>
      intro i
      rw [cmpFrom]
      split
      · omega
      · split
        · omega
        · exact ih (i + 1)
  unfold cmpA
  split
  · exact h 16 0
  · split <;> omega
theorem isNaN_any (x : Int) (w : World) : Calls Tryz.prog 52 #[.int .i64 x] w fun e w' => e = .returned (.bool false) ∧ Ext w w' := by
  have hx : (x != x) = false := by simp
  go_enter Tryz.func52, Tryz.ntmps52
  go_wp2
  go_ret
  exact ⟨rfl, Ext.refl _⟩
theorem cmpI_any (x y : Int) (w : World) : Calls Tryz.prog 36 #[.int .i64 x, .int .i64 y] w fun e w' => e = .returned (.int .i64 (cmpI x y)) ∧ Ext w w' := by
  have N := Lib.hid isNaN_any
  go_enter Tryz.func36, Tryz.ntmps36
  rcases Int.lt_trichotomy x y with h | h | h
  · have E : Hid (cmpI x y = -1) := Lib.hid (by unfold cmpI; rw [if_pos h])
    go_wp2_with (first | (go_at_call 52; refine (N.out _ _).mono ?_; rintro e w1 ⟨rfl, hx1⟩; refine Hid.out ?_))
    refine Lib.hid ?_
    go_wp2_with (first | (go_at_call 52; refine (N.out _ _).mono ?_; rintro e w2 ⟨rfl, hx2⟩; have hxx := hx1.trans hx2))
    go_ret
    exact ⟨by rw [E.out]; rfl, hxx⟩
  · have E : Hid (cmpI x y = 0) := Lib.hid (by unfold cmpI; rw [if_neg (by omega), if_neg (by omega)])
    have h1 : ¬ x < y := by omega
    have h2 : ¬ y < x := by omega
    clear h
    go_wp2_with (first | (go_at_call 52; refine (N.out _ _).mono ?_; rintro e w1 ⟨rfl, hx1⟩; refine Hid.out ?_))
    refine Lib.hid ?_
    go_wp2_with (first | (go_at_call 52; refine (N.out _ _).mono ?_; rintro e w2 ⟨rfl, hx2⟩; have hxx := hx1.trans hx2))
    go_ret
    exact ⟨by rw [E.out]; rfl, hxx⟩
  · have E : Hid (cmpI x y = 1) := Lib.hid (by unfold cmpI; rw [if_neg (by omega), if_pos h])
    have h1 : ¬ x < y := by omega
    go_wp2_with (first | (go_at_call 52; refine (N.out _ _).mono ?_; rintro e w1 ⟨rfl, hx1⟩; refine Hid.out ?_))
    refine Lib.hid ?_
    go_wp2_with (first | (go_at_call 52; refine (N.out _ _).mono ?_; rintro e w2 ⟨rfl, hx2⟩; have hxx := hx1.trans hx2))
    go_ret
    exact ⟨by rw [E.out]; rfl, hxx⟩
def orI (x y : Int) : Int := if x = 0 then y else x
theorem or_any (x y : Int) (b : Nat) (w : World) (hb : Blk w b [.int .i64 x, .int .i64 y] 3) : Calls Tryz.prog 34 #[.slice (some ⟨b, 0, none⟩) 2 2] w fun e w' => e = .returned (.int .i64 (orI x y)) ∧ Ext w w' := by
  have c0 := hb.cell (i := 0) rfl
  have c1 := hb.cell (i := 1) rfl
  go_enter Tryz.func34, Tryz.ntmps34
  go_wp2_with fail
  go_loopw [5, 8] (fun _ i wr => ∃ k : Nat, k ≤ 2 ∧ i = .int .i64 k ∧ wr = w ∧ Hid (0 < k → x = 0) ∧ Hid (1 < k → y = 0)) (fun _ i _ => 2 - (intOf i).toNat)
  case atStart => exact ⟨0, by omega, rfl, rfl, Lib.hid (fun h => by omega), Lib.hid (fun h => by omega)⟩
  case round =>
    obtain ⟨k, hk, rfl, rfl, h1, h2⟩ := hrel
    rcases (by omega : k = 0 ∨ k = 1 ∨ k = 2) with rfl | rfl | rfl
    · by_cases hx : x = 0
      · have hb0 : (x != 0) = false := by rw [bne_eq_false_iff_eq]; exact hx
        have HX := Lib.hid hx; clear hx
        go_wp2_with fail
        go_roundw
        case rel => exact ⟨1, by omega, by go_num, by trivial, Lib.hid (fun _ => HX.out), Lib.hid (fun h => by omega)⟩
        case measure => simp [intOf]
      · have hb0 : (x != 0) = true := by rw [bne_iff_ne]; exact hx
        have E : Hid (orI x y = x) := Lib.hid (by unfold orI; rw [if_neg hx])
        clear hx
        go_wp2_with fail
        go_ret
        exact ⟨by rw [E.out]; rfl, Ext.refl _⟩
    · have hx : x = 0 := h1.out (by omega)
      have E : Hid (orI x y = y) := Lib.hid (by unfold orI; rw [if_pos hx])
      have HX := Lib.hid hx; clear hx
      by_cases hy : y = 0
      · have hb0 : (y != 0) = false := by rw [bne_eq_false_iff_eq]; exact hy
        have HY := Lib.hid hy; clear hy
        go_wp2_with fail
        go_roundw
        case rel => exact ⟨2, by omega, by go_num, by trivial, Lib.hid (fun _ => HX.out), Lib.hid (fun _ => HY.out)⟩
        case measure => simp [intOf]
      · have hb0 : (y != 0) = true := by rw [bne_iff_ne]; exact hy
        clear hy
        go_wp2_with fail
        go_ret
        exact ⟨by rw [E.out]; rfl, Ext.refl _⟩
    · have E : Hid (orI x y = 0) := Lib.hid (by unfold orI; rw [if_pos (h1.out (by omega)), h2.out (by omega)])
      go_wp2_with fail
      go_ret
      exact ⟨by rw [E.out]; rfl, Ext.refl _⟩
set_option maxRecDepth 8000 in
set_option maxHeartbeats 4000000 in
theorem ccompare_any (p q : Pfx) (hp : okP p) (hq : okP q) (w : World) :
    Calls Tryz.prog 14 #[pv p, pv q] w fun e w' => e = .returned (.int .i64 (cmpP p q)) ∧ Ext w w' := by
  unfold pv
  go_enter Tryz.func14, Tryz.ntmps14
  go_upto_region 1 with fail
  have hx := ((Ext.refl w).alloc (.cells (pc p) 26)).alloc (.cells (pc q) 26)
  have hb1 := (Blk.new w (pc p) 26).ext ((Ext.refl _).alloc (.cells (pc q) 26))
  have hb2 := Blk.new (w.alloc (.cells (pc p) 26)) (pc q) 26
  rw [World.size_alloc] at hb2
  generalize (w.alloc (.cells (pc p) 26)).alloc (.cells (pc q) 26) = w0 at *
  generalize hbw : w.heap.size = b at *
  replace hbw := Nat.le_of_eq hbw
  have hP : ∀ w', Ext w0 w' → PBlk w' b p := fun w' h => hb1.ext h
  have hQ : ∀ w', Ext w0 w' → PBlk w' (b + 1) q := fun w' h => hb2.ext h
  have F1 := fun (w' : World) (h : Ext w0 w') => PBlk.bits hp (hP w' h)
  have F2 := fun (w' : World) (h : Ext w0 w') => PBlk.bits hq (hQ w' h)
  have C1 := fun (w' : World) (h : Ext w0 w') => compare_any p.1 q.1 hp.1 hq.1 w'
  have C2 := fun (w' : World) (h : Ext w0 w') => cmpI_any p.2 q.2 w'
  have R : Hid (cmpP p q = orI (cmpA p.1 q.1) (cmpI p.2 q.2)) := Lib.hid rfl
  clear hb1 hb2
  generalize p.2 = n at *
  generalize q.2 = m at *
  generalize cmpA p.1 q.1 = x at *
  generalize cmpI n m = y at *
  refine wp_region_rg w0 (by kernel_rfl) (by kernel_rfl) (Ext.refl _) ?_
  first
    | (apply goV_skip (by intro u; rfl))
    | (apply goV_val _ (by intro u; rfl); · (intro u w hSw hF; go_simp; try with_reducible rfl))
  try simp only [Act.put, List.setIfInBounds_toArray, List.set_cons_zero, List.set_cons_succ]
  first
    | (apply goV_skip (by intro u; rfl))
    | (apply goV_loadPA (by intro u; rfl) _ rfl hp hP (by intro u; rfl))
  try simp only [Act.put, List.setIfInBounds_toArray, List.set_cons_zero, List.set_cons_succ]
  first
    | (apply goV_skip (by intro u; rfl))
    | (apply goV_val _ (by intro u; rfl); · (intro u w hSw hF; go_simp; try with_reducible rfl))
  try simp only [Act.put, List.setIfInBounds_toArray, List.set_cons_zero, List.set_cons_succ]
  first
    | (apply goV_skip (by intro u; rfl))
    | (apply goV_loadPA (by intro u; rfl) _ rfl hq hQ (by intro u; rfl))
  try simp only [Act.put, List.setIfInBounds_toArray, List.set_cons_zero, List.set_cons_succ]
  first
    | (apply goV_skip (by intro u; rfl))
    | (apply goV_call (by intro u; rfl) C1; · (intro u w hSw hF; go_simp; try with_reducible rfl))
  try simp only [Act.put, List.setIfInBounds_toArray, List.set_cons_zero, List.set_cons_succ]
  first
    | (apply goV_skip (by intro u; rfl))
    | (apply goV_val _ (by intro u; rfl); · (intro u w hSw hF; go_simp; try with_reducible rfl))
  try simp only [Act.put, List.setIfInBounds_toArray, List.set_cons_zero, List.set_cons_succ]
  first
    | (apply goV_skip (by intro u; rfl))
    | (apply goV_val (.int .i64 n) (by intro u; rfl); · (intro u w hSw hF; have c0 := F1 w hSw; go_simp))
  try simp only [Act.put, List.setIfInBounds_toArray, List.set_cons_zero, List.set_cons_succ]
  first
    | (apply goV_skip (by intro u; rfl))
    | (apply goV_val _ (by intro u; rfl); · (intro u w hSw hF; go_simp; try with_reducible rfl))
  try simp only [Act.put, List.setIfInBounds_toArray, List.set_cons_zero, List.set_cons_succ]
  first
    | (apply goV_skip (by intro u; rfl))
    | (apply goV_val (.int .i64 m) (by intro u; rfl); · (intro u w hSw hF; have c0 := F2 w hSw; go_simp))
  try simp only [Act.put, List.setIfInBounds_toArray, List.set_cons_zero, List.set_cons_succ]
  first
    | (apply goV_skip (by intro u; rfl))
    | (apply goV_call (by intro u; rfl) C2; · (intro u w hSw hF; go_simp; try with_reducible rfl))
  try simp only [Act.put, List.setIfInBounds_toArray, List.set_cons_zero, List.set_cons_succ]
  apply goV_rel (fun u w => ∃ b, u = .slice (some ⟨b, 0, none⟩) 2 2 ∧ Blk w b [.int .i64 x, .int .i64 y] 3) (fun u w w' h k => by obtain ⟨b, h1, h2⟩ := h; exact ⟨b, h1, h2.ext k⟩) (by intro u; rfl)
  · intro u w hSw hF
    go_simp
    exact ⟨(Ext.refl _).alloc _, w.heap.size, rfl, Blk.new _ _ _⟩
  try simp only [Act.put, List.setIfInBounds_toArray, List.set_cons_zero, List.set_cons_succ]
  apply goV_callU (by intro u; rfl) (v := .int .i64 (orI x y))
  · intro u w hSw hF
    obtain ⟨⟨bb, hu, hb⟩, _⟩ := hF
    refine ⟨34, #[.slice (some ⟨bb, 0, none⟩) 2 2], ?_, or_any x y bb w hb⟩
    go_simp
  try simp only [Act.put, List.setIfInBounds_toArray, List.set_cons_zero, List.set_cons_succ]
  first
    | (apply goV_skip (by intro u; rfl))
    | (apply goV_val _ (by intro u; rfl); · (intro u w hSw hF; go_simp; try with_reducible rfl))
  try simp only [Act.put, List.setIfInBounds_toArray, List.set_cons_zero, List.set_cons_succ]
  intro u w1 hx1 _
  go_wp2
  go_ret
  exact ⟨by rw [R.out]; rfl, hx.trans hx1⟩
set_option maxRecDepth 8000 in
set_option maxHeartbeats 4000000 in
theorem rcompareP_any (p q : Pfx) (hp : okP p) (hq : okP q) (w : World) :
    Calls Tryz.prog 15 #[pv p, pv q] w fun e w' => e = .returned (.int .i64 (cmpP p q)) ∧ Ext w w' := by
  unfold pv
  go_enter Tryz.func15, Tryz.ntmps15
  go_upto_region 1 with fail
  have hx := ((Ext.refl w).alloc (.cells (pc p) 26)).alloc (.cells (pc q) 26)
  have hb1 := (Blk.new w (pc p) 26).ext ((Ext.refl _).alloc (.cells (pc q) 26))
  have hb2 := Blk.new (w.alloc (.cells (pc p) 26)) (pc q) 26
  rw [World.size_alloc] at hb2
  generalize (w.alloc (.cells (pc p) 26)).alloc (.cells (pc q) 26) = w0 at *
  generalize hbw : w.heap.size = b at *
  replace hbw := Nat.le_of_eq hbw
  have C1 := Lib.hid (rCompare_any p.1 q.1 hp.1 hq.1 w0)
  have R : Hid (cmpP p q = orI (cmpA p.1 q.1) (cmpI p.2 q.2)) := Lib.hid rfl
  generalize hxq : cmpA p.1 q.1 = x at *
  go_wp2_with (first | refine wpList_load_PA rfl _ rfl hp hb1 rfl ?_ | refine wpList_load_PA rfl _ rfl hq hb2 rfl ?_ | (go_at_call 37; refine C1.out.mono ?_; rintro e w1 ⟨rfl, hx1⟩; refine Hid.out ?_))
  refine Lib.hid ?_
  have f1 := PBlk.bits hp (hb1.ext hx1)
  have f2 := PBlk.bits hq (hb2.ext hx1)
  have hxx := hx.trans hx1
  generalize p.2 = n at *
  generalize q.2 = m at *
  clear hxq hx1 hx hb1 hb2 C1
  by_cases h0 : x = 0
  · have h0b : (x != 0) = false := by rw [bne_eq_false_iff_eq]; exact h0
    have R2 : Hid (cmpP p q = cmpI n m) := Lib.hid (by rw [R.out]; unfold orI; rw [if_pos h0])
    clear R h0
    rcases Int.lt_trichotomy n m with h | h | h
    · have E : Hid (cmpI n m = -1) := Lib.hid (by unfold cmpI; rw [if_pos h])
      go_wp2_with fail
      go_ret
      exact ⟨by rw [R2.out, E.out]; rfl, hxx⟩
    · have E : Hid (cmpI n m = 0) := Lib.hid (by unfold cmpI; rw [if_neg (by omega), if_neg (by omega)])
      have h1 : ¬ n < m := by omega
      have h2 : ¬ m < n := by omega
      clear h
      go_wp2_with fail
      go_ret
      exact ⟨by rw [R2.out, E.out]; rfl, hxx⟩
    · have E : Hid (cmpI n m = 1) := Lib.hid (by unfold cmpI; rw [if_neg (by omega), if_pos h])
      have h1 : ¬ n < m := by omega
      go_wp2_with fail
      go_ret
      exact ⟨by rw [R2.out, E.out]; rfl, hxx⟩
  · have h0b : (x != 0) = true := by rw [bne_iff_ne]; exact h0
    have R2 : Hid (cmpP p q = x) := Lib.hid (by rw [R.out]; unfold orI; rw [if_neg h0])
    clear R h0
    go_wp2_with fail
    go_ret
    exact ⟨by rw [R2.out]; rfl, hxx⟩
end Go.Proofs.YtbbdcodhgbgekaaGreatDoor
