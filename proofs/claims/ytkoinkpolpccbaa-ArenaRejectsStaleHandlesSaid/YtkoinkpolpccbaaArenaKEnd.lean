/-
  Contracts of the package arena at the element type ginnel/api.Endpoint: New, Get, Set, Free, Len, Cap.
-/
import Derived.Test.YtkoinkpolpccbaaArenaIEnd
set_option linter.unusedSimpArgs false
set_option linter.unusedVariables false
namespace Go.Proofs.Ytkoinkpolpccbaa.ArenaEnd
open Go.RowKit

theorem infoS : (Try.prog.info? 100).map (fun i => (i.zero, i.size, i.bytes)) = some (some (.agg (.int .i64 0 :: .bool false :: [.int .i64 0, .int .i64 0]).toArray), 4, 32) := by kernel_rfl

set_option maxHeartbeats 400000 in
theorem new_bad (n : Int) (w : World) (h : n < 1 ∨ 4096 < n) :
    Calls Try.prog 33 #[.int .i64 n] w fun e w' => e = .returned (.tuple #[.pointer none, .int .i64 1]) ∧ w = w' := by
  rcases h with h | h
  · go_enter Try.func33, Try.ntmps33
    go_wp2_with fail
    go_ret2
    exact ⟨rfl, rfl⟩
  · have h' : ¬ n < 1 := by omega
    go_enter Try.func33, Try.ntmps33
    go_wp2_with fail
    go_ret2
    exact ⟨rfl, rfl⟩

set_option maxHeartbeats 400000 in
theorem new_ok (n : Nat) (w : World) (h1 : 1 ≤ n) (h2 : n ≤ 4096) :
    Calls Try.prog 33 #[.int .i64 n] w fun e w' => e = .returned (.tuple #[.pointer (some ⟨w.heap.size + 1, 0, none⟩), .int .i64 0]) ∧ At w' (w.heap.size + 1) w.heap.size (List.replicate n ⟨0, false, [.int .i64 0, .int .i64 0]⟩) 0 0 ∧ Ext w w' := by
  have h1' : ¬ (n : Int) < 1 := by omega
  have h2' : ¬ (4096 : Int) < n := by omega
  obtain ⟨i0, hi, hz0, hz1, hz2⟩ := info_parts infoS
  have hmk := run_make w 96 100 i0 _ Try.underlying96 hi hz0 .i64 .i64 n n (by omega) (Int.le_refl _) (by rw [hz2]; omega) (by omega)
  rw [hz1, Int.toNat_natCast, show (Value.agg (.int .i64 0 :: .bool false :: [.int .i64 0, .int .i64 0]).toArray).cells = (.int .i64 0 :: .bool false :: [.int .i64 0, .int .i64 0]).toArray from rfl, made_rowOf 4 [.int .i64 0, .int .i64 0] rfl] at hmk
  clear hi hz0 hz1 hz2
  go_enter Try.func33, Try.ntmps33
  go_wp2_with fail
  go_ret2
  refine ⟨rfl, ⟨?_, ?_, by omega, by simp; omega, Wd.replicate n _ rfl⟩, by (repeat' (first | exact Ext.refl _ | assumption | refine Ext.alloc ?_ _ | refine Ext.drew ?_ | refine Ext.setCell ?_ (Nat.le_refl _) _ | refine Ext.setCell ?_ (Nat.le_add_right _ _) _ | refine Ext.drewN ?_ _ | refine Ext.trans ?_ (by assumption) | refine Ext.dr ?_ (by assumption)))⟩
  · have := Blk.new (w.alloc (Obj.cells (rowOf (List.replicate n ⟨0, false, [.int .i64 0, .int .i64 0]⟩)).toArray 100)) #[.slice (some ⟨w.heap.size, 0, none⟩) n n, .int .i64 0, .int .i64 0] 98
    have e : (w.alloc (Obj.cells (rowOf (List.replicate n ⟨0, false, [.int .i64 0, .int .i64 0]⟩)).toArray 100)).heap.size = w.heap.size + 1 := World.size_alloc _ _
    rw [e] at this
    rw [List.length_replicate]
    exact this
  · exact (Blk.new w _ _).alloc _

set_option maxHeartbeats 400000 in
theorem len_any (w : World) (p q : Nat) (l : List Sl) (free n : Int) (h : At w p q l free n) :
    Calls Try.prog 38 #[.pointer (some ⟨p, 0, none⟩)] w fun e w' => e = .returned (.int .i64 n) ∧ w = w' := by
  have hp2 := h.top.cell (i := 2) rfl
  clear h
  go_enter Try.func38, Try.ntmps38
  go_wp2_with fail
  go_ret
  exact ⟨rfl, rfl⟩

/- no Cap
set_option maxHeartbeats 400000 in
theorem cap_any (w : World) (p q : Nat) (l : List Sl) (free n : Int) (h : At w p q l free n) :
    Calls Try.prog 81 #[.pointer (some ⟨p, 0, none⟩)] w fun e w' => e = .returned (.int .i64 l.length) ∧ w = w' := by
  have hp0 := h.top.cell (i := 0) rfl
  clear h
  go_enter Try.func81, Try.ntmps81
  go_wp2_with fail
  go_ret
  exact ⟨rfl, rfl⟩

-/
set_option maxHeartbeats 1000000 in
theorem get_miss (w : World) (p q : Nat) (l : List Sl) (free n : Int) (h : At w p q l free n) (i g : Int) (hh : ∀ s, ¬ Hit l i g s) :
    Calls Try.prog 36 #[.pointer (some ⟨p, 0, none⟩), .agg #[.int .i64 i, .int .i64 g]] w fun e w' => e = .returned (.tuple #[.agg #[.int .i64 0, .int .i64 0], .bool false]) ∧ Ext w w' := by
  have k := fun w1 (hx : Ext w w1) => lookup_miss w1 p q l free n (h.ext hx) i g hh
  have K := Lib.hid k; clear k hh
  have hpw := h.top.lt
  have hqw := h.row.lt
  go_enter Try.func36, Try.ntmps36
  go_wp2_with fail
  refine (K.out _ (by (repeat' (first | exact Ext.refl _ | assumption | refine Ext.alloc ?_ _ | refine Ext.drew ?_ | refine Ext.setCell ?_ (Nat.le_refl _) _ | refine Ext.setCell ?_ (Nat.le_add_right _ _) _ | refine Ext.drewN ?_ _ | refine Ext.trans ?_ (by assumption) | refine Ext.dr ?_ (by assumption))))).mono ?_
  rintro e w1 ⟨rfl, hx⟩
  have hB : Blk w1 (w.heap.size + 1) [.int .i64 0, .int .i64 0] 55 := Blk.ext (by have := Blk.new (w.alloc (Obj.cells #[.int .i64 i, .int .i64 g] 48)) #[.int .i64 0, .int .i64 0] 55; rw [World.size_alloc] at this; exact this) hx
  have hb0 := hB.cell (i := 0) rfl
  have hb1 := hB.cell (i := 1) rfl
  have hbf0 := hB.free 0
  have hbf1 := hB.free 1
  have hz : w.heap.size + 1 < w1.heap.size := hB.lt
  clear hB
  go_wp2_with fail
  refine bodyPost_ret (v := .tuple #[.agg #[.int .i64 0, .int .i64 0], .bool false]) (by simp [results, Try.results36, go_sem, hb0, hb1, hz, Nat.ne_of_lt hz]) rfl ⟨rfl, ?_⟩
  (repeat' (first | exact Ext.refl _ | assumption | refine Ext.alloc ?_ _ | refine Ext.drew ?_ | refine Ext.setCell ?_ (Nat.le_refl _) _ | refine Ext.setCell ?_ (Nat.le_add_right _ _) _ | refine Ext.drewN ?_ _ | refine Ext.trans ?_ (by assumption) | refine Ext.dr ?_ (by assumption)))

set_option maxHeartbeats 1000000 in
theorem get_hit (w : World) (p q : Nat) (l : List Sl) (free n : Int) (h : At w p q l free n) (i g : Int) (s : Sl) (hh : Hit l i g s) (x y : Int) (hxx : s.x = [.int .i64 x, .int .i64 y]) :
    Calls Try.prog 36 #[.pointer (some ⟨p, 0, none⟩), .agg #[.int .i64 i, .int .i64 g]] w fun e w' => e = .returned (.tuple #[.agg #[.int .i64 x, .int .i64 y], .bool true]) ∧ Ext w w' := by
  have k := fun w1 (hx : Ext w w1) => lookup_hit w1 p q l free n (h.ext hx) i g s hh
  have K := Lib.hid k; clear k
  have hs := hh.2.2.1
  clear hh
  have hpw := h.top.lt
  have hqw := h.row.lt
  go_enter Try.func36, Try.ntmps36
  go_wp2_with fail
  refine (K.out _ (by (repeat' (first | exact Ext.refl _ | assumption | refine Ext.alloc ?_ _ | refine Ext.drew ?_ | refine Ext.setCell ?_ (Nat.le_refl _) _ | refine Ext.setCell ?_ (Nat.le_add_right _ _) _ | refine Ext.drewN ?_ _ | refine Ext.trans ?_ (by assumption) | refine Ext.dr ?_ (by assumption))))).mono ?_
  rintro e w1 ⟨rfl, hx⟩
  have HV := h.ext (w' := w1) (by (repeat' (first | exact Ext.refl _ | assumption | refine Ext.alloc ?_ _ | refine Ext.drew ?_ | refine Ext.setCell ?_ (Nat.le_refl _) _ | refine Ext.setCell ?_ (Nat.le_add_right _ _) _ | refine Ext.drewN ?_ _ | refine Ext.trans ?_ (by assumption) | refine Ext.dr ?_ (by assumption))))
  have hv0 : w1.cell? ⟨q, i.toNat * 4 + 2, none⟩ = some (.int .i64 x) := HV.val hs 0 (by omega) (by rw [hxx]; rfl)
  have hv1 : w1.cell? ⟨q, i.toNat * 4 + 3, none⟩ = some (.int .i64 y) := HV.val hs 1 (by omega) (by rw [hxx]; rfl)
  have hB : Blk w1 (w.heap.size + 1) [.int .i64 0, .int .i64 0] 55 := Blk.ext (by have := Blk.new (w.alloc (Obj.cells #[.int .i64 i, .int .i64 g] 48)) #[.int .i64 0, .int .i64 0] 55; rw [World.size_alloc] at this; exact this) hx
  have hb0 := hB.cell (i := 0) rfl
  have hb1 := hB.cell (i := 1) rfl
  have hbf0 := hB.free 0
  have hbf1 := hB.free 1
  have hz : w.heap.size + 1 < w1.heap.size := hB.lt
  clear hB
  clear HV hs hxx h
  go_wp2_with fail
  refine bodyPost_ret (v := .tuple #[.agg #[.int .i64 x, .int .i64 y], .bool true]) (by simp [results, Try.results36, go_sem, hb0, hb1]) rfl ⟨rfl, ?_⟩
  (repeat' (first | exact Ext.refl _ | assumption | refine Ext.alloc ?_ _ | refine Ext.drew ?_ | refine Ext.setCell ?_ (Nat.le_refl _) _ | refine Ext.setCell ?_ (Nat.le_add_right _ _) _ | refine Ext.drewN ?_ _ | refine Ext.trans ?_ (by assumption) | refine Ext.dr ?_ (by assumption)))


set_option maxHeartbeats 1000000 in
theorem set_miss (w : World) (p q : Nat) (l : List Sl) (free n : Int) (h : At w p q l free n) (i g : Int) (hh : ∀ s, ¬ Hit l i g s) (x y : Int) :
    Calls Try.prog 37 #[.pointer (some ⟨p, 0, none⟩), .agg #[.int .i64 i, .int .i64 g], .agg #[.int .i64 x, .int .i64 y]] w fun e w' => e = .returned (.bool false) ∧ Ext w w' := by
  have k := fun w1 (hx : Ext w w1) => lookup_miss w1 p q l free n (h.ext hx) i g hh
  have K := Lib.hid k; clear k hh
  go_enter Try.func37, Try.ntmps37
  go_wp2_with fail
  refine (K.out _ (by (repeat' (first | exact Ext.refl _ | assumption | refine Ext.alloc ?_ _ | refine Ext.drew ?_ | refine Ext.setCell ?_ (Nat.le_refl _) _ | refine Ext.setCell ?_ (Nat.le_add_right _ _) _ | refine Ext.drewN ?_ _ | refine Ext.trans ?_ (by assumption) | refine Ext.dr ?_ (by assumption))))).mono ?_
  rintro e w1 ⟨rfl, hx⟩
  go_wp2_with fail
  go_ret
  exact ⟨rfl, by (repeat' (first | exact Ext.refl _ | assumption | refine Ext.alloc ?_ _ | refine Ext.drew ?_ | refine Ext.setCell ?_ (Nat.le_refl _) _ | refine Ext.setCell ?_ (Nat.le_add_right _ _) _ | refine Ext.drewN ?_ _ | refine Ext.trans ?_ (by assumption) | refine Ext.dr ?_ (by assumption)))⟩

set_option maxHeartbeats 1000000 in
theorem set_hit (w : World) (p q : Nat) (l : List Sl) (free n : Int) (h : At w p q l free n) (i g : Int) (s : Sl) (hh : Hit l i g s) (x y : Int) :
    Calls Try.prog 37 #[.pointer (some ⟨p, 0, none⟩), .agg #[.int .i64 i, .int .i64 g], .agg #[.int .i64 x, .int .i64 y]] w fun e w' => e = .returned (.bool true) ∧ At w' p q (l.set i.toNat { s with x := [.int .i64 x, .int .i64 y] }) free n ∧ Keep [q] w w' := by
  have hs := hh.2.2.1
  have k := fun w1 (hx : Ext w w1) => lookup_hit w1 p q l free n (h.ext hx) i g s hh
  have K := Lib.hid k; clear k hh
  go_enter Try.func37, Try.ntmps37
  go_wp2_with fail
  refine (K.out _ (by (repeat' (first | exact Ext.refl _ | assumption | refine Ext.alloc ?_ _ | refine Ext.drew ?_ | refine Ext.setCell ?_ (Nat.le_refl _) _ | refine Ext.setCell ?_ (Nat.le_add_right _ _) _ | refine Ext.drewN ?_ _ | refine Ext.trans ?_ (by assumption) | refine Ext.dr ?_ (by assumption))))).mono ?_
  rintro e w1 ⟨rfl, hx⟩
  have HX : Ext w w1 := by (repeat' (first | exact Ext.refl _ | assumption | refine Ext.alloc ?_ _ | refine Ext.drew ?_ | refine Ext.setCell ?_ (Nat.le_refl _) _ | refine Ext.setCell ?_ (Nat.le_add_right _ _) _ | refine Ext.drewN ?_ _ | refine Ext.trans ?_ (by assumption) | refine Ext.dr ?_ (by assumption)))
  have HV := h.ext HX
  have hl := HV.wd.cells (List.mem_of_getElem? hs)
  obtain ⟨v0, v1, hv⟩ : ∃ v0 v1, s.x = [v0, v1] := by
    match hsx : s.x with
    | [v0, v1] => exact ⟨v0, v1, rfl⟩
    | [] => simp [Sl.cells, hsx] at hl
    | [_] => simp [Sl.cells, hsx] at hl
    | _ :: _ :: _ :: _ => simp [Sl.cells, hsx] at hl
  have hv0 : w1.cell? ⟨q, i.toNat * 4 + 2, none⟩ = some v0 := HV.val hs 0 (by omega) (by rw [hv]; rfl)
  have hv1 : w1.cell? ⟨q, i.toNat * 4 + 3, none⟩ = some v1 := HV.val hs 1 (by omega) (by rw [hv]; rfl)
  have hf2 := HV.row.free (i.toNat * 4 + 2)
  have hf3 := HV.row.free (i.toNat * 4 + 3)
  have Hv := Lib.hid hv; clear hv
  have hB : Blk w1 (w.heap.size + 1) [.int .i64 x, .int .i64 y] 55 := Blk.ext (by have := Blk.new (w.alloc (Obj.cells #[.int .i64 i, .int .i64 g] 48)) #[.int .i64 x, .int .i64 y] 55; rw [World.size_alloc] at this; exact this) hx
  have hb0 := hB.cell (i := 0) rfl
  have hb1 := hB.cell (i := 1) rfl
  have hbf0 := hB.free 0
  have hbf1 := hB.free 1
  have hz : w.heap.size + 1 < w1.heap.size := hB.lt
  clear hB
  have HV' := Lib.hid HV; clear HV
  have HS := Lib.hid hs; clear hs
  have hpw := h.top.lt
  have hqw := h.row.lt
  clear h
  go_wp2_with fail
  go_ret
  refine ⟨rfl, ?_, ?_⟩
  · have A := HV'.out.setAt i.toNat s ⟨s.gen, s.taken, [.int .i64 x, v1]⟩ HS.out 2 (by omega) (.int .i64 x) (by simp [Sl.cells, Hv.out])
    have B := A.setAt i.toNat ⟨s.gen, s.taken, [.int .i64 x, v1]⟩ ⟨s.gen, s.taken, [.int .i64 x, .int .i64 y]⟩ (by rw [List.getElem?_set_self (by rcases Nat.lt_or_ge i.toNat l.length with h | h; exact h; rw [List.getElem?_eq_none h] at HS; cases HS.out)]) 3 (by omega) (.int .i64 y) (by simp [Sl.cells])
    rw [List.set_set] at B
    exact B
  · exact ((HX.keep _).setCell (.inl (by simp)) _).setCell (.inl (by simp)) _


set_option maxHeartbeats 1000000 in
theorem free_miss (w : World) (p q : Nat) (l : List Sl) (free n : Int) (h : At w p q l free n) (i g : Int) (hh : ∀ s, ¬ Hit l i g s) :
    Calls Try.prog 35 #[.pointer (some ⟨p, 0, none⟩), .agg #[.int .i64 i, .int .i64 g]] w fun e w' => e = .returned (.bool false) ∧ Ext w w' := by
  have k := fun w1 (hx : Ext w w1) => lookup_miss w1 p q l free n (h.ext hx) i g hh
  have K := Lib.hid k; clear k hh
  go_enter Try.func35, Try.ntmps35
  go_wp2_with fail
  refine (K.out _ (by (repeat' (first | exact Ext.refl _ | assumption | refine Ext.alloc ?_ _ | refine Ext.drew ?_ | refine Ext.setCell ?_ (Nat.le_refl _) _ | refine Ext.setCell ?_ (Nat.le_add_right _ _) _ | refine Ext.drewN ?_ _ | refine Ext.trans ?_ (by assumption) | refine Ext.dr ?_ (by assumption))))).mono ?_
  rintro e w1 ⟨rfl, hx⟩
  go_wp2_with fail
  go_ret
  exact ⟨rfl, by (repeat' (first | exact Ext.refl _ | assumption | refine Ext.alloc ?_ _ | refine Ext.drew ?_ | refine Ext.setCell ?_ (Nat.le_refl _) _ | refine Ext.setCell ?_ (Nat.le_add_right _ _) _ | refine Ext.drewN ?_ _ | refine Ext.trans ?_ (by assumption) | refine Ext.dr ?_ (by assumption)))⟩

set_option maxHeartbeats 1000000 in
theorem free_hit (w : World) (p q : Nat) (l : List Sl) (free n : Int) (h : At w p q l free n) (hn : -9223372036854775808 < n) (hn2 : n ≤ 9223372036854775807) (i g : Int) (s : Sl) (hh : Hit l i g s) :
    Calls Try.prog 35 #[.pointer (some ⟨p, 0, none⟩), .agg #[.int .i64 i, .int .i64 g]] w fun e w' => e = .returned (.bool true) ∧ At w' p q (l.set i.toNat ⟨s.gen, false, [.int .i64 0, .int .i64 0]⟩) (min free i) (n - 1) ∧ Keep [p, q] w w' := by
  have hs := hh.2.2.1
  have k := fun w1 (hx : Ext w w1) => lookup_hit w1 p q l free n (h.ext hx) i g s hh
  have K := Lib.hid k; clear k hh
  go_enter Try.func35, Try.ntmps35
  go_wp2_with fail
  refine (K.out _ (by (repeat' (first | exact Ext.refl _ | assumption | refine Ext.alloc ?_ _ | refine Ext.drew ?_ | refine Ext.setCell ?_ (Nat.le_refl _) _ | refine Ext.setCell ?_ (Nat.le_add_right _ _) _ | refine Ext.drewN ?_ _ | refine Ext.trans ?_ (by assumption) | refine Ext.dr ?_ (by assumption))))).mono ?_
  rintro e w1 ⟨rfl, hx⟩
  have HX : Ext w w1 := by (repeat' (first | exact Ext.refl _ | assumption | refine Ext.alloc ?_ _ | refine Ext.drew ?_ | refine Ext.setCell ?_ (Nat.le_refl _) _ | refine Ext.setCell ?_ (Nat.le_add_right _ _) _ | refine Ext.drewN ?_ _ | refine Ext.trans ?_ (by assumption) | refine Ext.dr ?_ (by assumption)))
  have HV := h.ext HX
  have hl := HV.wd.cells (List.mem_of_getElem? hs)
  have hs0 := HV.gen hs (by omega)
  have hs1 := HV.taken hs (by omega)
  obtain ⟨v0, v1, hv⟩ : ∃ v0 v1, s.x = [v0, v1] := by
    match hsx : s.x with
    | [v0, v1] => exact ⟨v0, v1, rfl⟩
    | [] => simp [Sl.cells, hsx] at hl
    | [_] => simp [Sl.cells, hsx] at hl
    | _ :: _ :: _ :: _ => simp [Sl.cells, hsx] at hl
  have hv0 : w1.cell? ⟨q, i.toNat * 4 + 2, none⟩ = some v0 := HV.val hs 0 (by omega) (by rw [hv]; rfl)
  have hv1 : w1.cell? ⟨q, i.toNat * 4 + 3, none⟩ = some v1 := HV.val hs 1 (by omega) (by rw [hv]; rfl)
  have hf2 := HV.row.free (i.toNat * 4 + 2)
  have hf3 := HV.row.free (i.toNat * 4 + 3)
  have Hv := Lib.hid hv; clear hv
  have hf0 := HV.row.free (i.toNat * 4)
  have hf1 := HV.row.free (i.toNat * 4 + 1)
  have hp1 := HV.top.cell (i := 1) rfl
  have hp2 := HV.top.cell (i := 2) rfl
  have hpf1 := HV.top.free 1
  have hpf2 := HV.top.free 2
  have HV' := Lib.hid HV; clear HV
  have HS := Lib.hid hs; clear hs
  have hpw := h.top.lt
  have hqw := h.row.lt
  have npq : ¬ p = q := h.ne
  have nqp : ¬ q = p := fun e => h.ne e.symm
  have nwp : ¬ w.heap.size = p := by omega
  have nwq : ¬ w.heap.size = q := by omega
  have npw : ¬ p = w.heap.size := by omega
  have nqw : ¬ q = w.heap.size := by omega
  have hb0 : w1.cell? ⟨w.heap.size, 0, none⟩ = some (.int .i64 i) := by rw [hx.cell (by show w.heap.size < _; rw [World.size_alloc]; omega), World.cell?_alloc_mark]; rfl
  clear h
  go_wp2_with fail
  go_region
  go_wp2_with fail
  all_goals go_ret
  all_goals (refine ⟨rfl, ?_, ?_⟩)
  · rw [show min free i = i from by omega]
    exact (((HV'.out.slot2 HS.out s.gen false (.int .i64 0) (.int .i64 0) v0 v1 Hv.out).setFree i).setN (n - 1)).drew
  · skip
    repeat' (first | with_reducible exact HX.keep _ | with_reducible refine Keep.drewN ?_ _ | with_reducible refine Keep.drew ?_ | with_reducible refine Keep.alloc ?_ _ | with_reducible refine Keep.setCell ?_ ?_ _)
    all_goals first | exact .inr (Nat.le_refl _) | exact .inl (by simp) | exact .inr (by simp)
  · rw [show min free i = free from by omega]
    exact (((HV'.out.slot2 HS.out s.gen false (.int .i64 0) (.int .i64 0) v0 v1 Hv.out).setFree free).setN (n - 1)).drew
  · skip
    repeat' (first | with_reducible exact HX.keep _ | with_reducible refine Keep.drewN ?_ _ | with_reducible refine Keep.drew ?_ | with_reducible refine Keep.alloc ?_ _ | with_reducible refine Keep.setCell ?_ ?_ _)
    all_goals first | exact .inr (Nat.le_refl _) | exact .inl (by simp) | exact .inr (by simp)
end Go.Proofs.Ytkoinkpolpccbaa.ArenaEnd
