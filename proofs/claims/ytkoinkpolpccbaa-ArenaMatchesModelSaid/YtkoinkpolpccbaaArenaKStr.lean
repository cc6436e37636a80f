/-
  Contracts of the package arena at the element type string: New, Get, Set, Free, Len, Cap.
-/
import Derived.Test.YtkoinkpolpccbaaArenaIStr
set_option linter.unusedSimpArgs false
set_option linter.unusedVariables false
namespace Go.Proofs.Ytkoinkpolpccbaa.ArenaStr
open Go.RowKit

theorem infoS : (Try.prog.info? 109).map (fun i => (i.zero, i.size, i.bytes)) = some (some (.agg (.int .i64 0 :: .bool false :: [.string ⟨#[]⟩]).toArray), 3, 32) := by kernel_rfl

set_option maxHeartbeats 400000 in
theorem new_bad (n : Int) (w : World) (h : n < 1 ∨ 4096 < n) :
    Calls Try.prog 54 #[.int .i64 n] w fun e w' => e = .returned (.tuple #[.pointer none, .int .i64 1]) ∧ w = w' := by
  rcases h with h | h
  · go_enter Try.func54, Try.ntmps54
    go_wp2_with fail
    go_ret2
    exact ⟨rfl, rfl⟩
  · have h' : ¬ n < 1 := by omega
    go_enter Try.func54, Try.ntmps54
    go_wp2_with fail
    go_ret2
    exact ⟨rfl, rfl⟩

set_option maxHeartbeats 400000 in
theorem new_ok (n : Nat) (w : World) (h1 : 1 ≤ n) (h2 : n ≤ 4096) :
    Calls Try.prog 54 #[.int .i64 n] w fun e w' => e = .returned (.tuple #[.pointer (some ⟨w.heap.size + 1, 0, none⟩), .int .i64 0]) ∧ At w' (w.heap.size + 1) w.heap.size (List.replicate n ⟨0, false, [.string ⟨#[]⟩]⟩) 0 0 ∧ Ext w w' := by
  have h1' : ¬ (n : Int) < 1 := by omega
  have h2' : ¬ (4096 : Int) < n := by omega
  obtain ⟨i0, hi, hz0, hz1, hz2⟩ := info_parts infoS
  have hmk := run_make w 105 109 i0 _ Try.underlying105 hi hz0 .i64 .i64 n n (by omega) (Int.le_refl _) (by rw [hz2]; omega) (by omega)
  rw [hz1, Int.toNat_natCast, show (Value.agg (.int .i64 0 :: .bool false :: [.string ⟨#[]⟩]).toArray).cells = (.int .i64 0 :: .bool false :: [.string ⟨#[]⟩]).toArray from rfl, made_rowOf 3 [.string ⟨#[]⟩] rfl] at hmk
  clear hi hz0 hz1 hz2
  go_enter Try.func54, Try.ntmps54
  go_wp2_with fail
  go_ret2
  refine ⟨rfl, ⟨?_, ?_, by omega, by simp; omega, Wd.replicate n _ rfl⟩, by (repeat' (first | exact Ext.refl _ | assumption | refine Ext.alloc ?_ _ | refine Ext.drew ?_ | refine Ext.setCell ?_ (Nat.le_refl _) _ | refine Ext.setCell ?_ (Nat.le_add_right _ _) _ | refine Ext.drewN ?_ _ | refine Ext.trans ?_ (by assumption) | refine Ext.dr ?_ (by assumption)))⟩
  · have := Blk.new (w.alloc (Obj.cells (rowOf (List.replicate n ⟨0, false, [.string ⟨#[]⟩]⟩)).toArray 109)) #[.slice (some ⟨w.heap.size, 0, none⟩) n n, .int .i64 0, .int .i64 0] 107
    have e : (w.alloc (Obj.cells (rowOf (List.replicate n ⟨0, false, [.string ⟨#[]⟩]⟩)).toArray 109)).heap.size = w.heap.size + 1 := World.size_alloc _ _
    rw [e] at this
    rw [List.length_replicate]
    exact this
  · exact (Blk.new w _ _).alloc _

set_option maxHeartbeats 400000 in
theorem len_any (w : World) (p q : Nat) (l : List Sl) (free n : Int) (h : At w p q l free n) :
    Calls Try.prog 58 #[.pointer (some ⟨p, 0, none⟩)] w fun e w' => e = .returned (.int .i64 n) ∧ w = w' := by
  have hp2 := h.top.cell (i := 2) rfl
  clear h
  go_enter Try.func58, Try.ntmps58
  go_wp2_with fail
  go_ret
  exact ⟨rfl, rfl⟩


set_option maxHeartbeats 400000 in
theorem cap_any (w : World) (p q : Nat) (l : List Sl) (free n : Int) (h : At w p q l free n) :
    Calls Try.prog 59 #[.pointer (some ⟨p, 0, none⟩)] w fun e w' => e = .returned (.int .i64 l.length) ∧ w = w' := by
  have hp0 := h.top.cell (i := 0) rfl
  clear h
  go_enter Try.func59, Try.ntmps59
  go_wp2_with fail
  go_ret
  exact ⟨rfl, rfl⟩


set_option maxHeartbeats 1000000 in
theorem get_miss (w : World) (p q : Nat) (l : List Sl) (free n : Int) (h : At w p q l free n) (i g : Int) (hh : ∀ s, ¬ Hit l i g s) :
    Calls Try.prog 57 #[.pointer (some ⟨p, 0, none⟩), .agg #[.int .i64 i, .int .i64 g]] w fun e w' => e = .returned (.tuple #[.string ⟨#[]⟩, .bool false]) ∧ Ext w w' := by
  have k := fun w1 (hx : Ext w w1) => lookup_miss w1 p q l free n (h.ext hx) i g hh
  have K := Lib.hid k; clear k hh
  have hpw := h.top.lt
  have hqw := h.row.lt
  go_enter Try.func57, Try.ntmps57
  go_wp2_with fail
  refine (K.out _ (by (repeat' (first | exact Ext.refl _ | assumption | refine Ext.alloc ?_ _ | refine Ext.drew ?_ | refine Ext.setCell ?_ (Nat.le_refl _) _ | refine Ext.setCell ?_ (Nat.le_add_right _ _) _ | refine Ext.drewN ?_ _ | refine Ext.trans ?_ (by assumption) | refine Ext.dr ?_ (by assumption))))).mono ?_
  rintro e w1 ⟨rfl, hx⟩
  skip
  go_wp2_with fail
  go_ret2
  refine ⟨rfl, ?_⟩
  (repeat' (first | exact Ext.refl _ | assumption | refine Ext.alloc ?_ _ | refine Ext.drew ?_ | refine Ext.setCell ?_ (Nat.le_refl _) _ | refine Ext.setCell ?_ (Nat.le_add_right _ _) _ | refine Ext.drewN ?_ _ | refine Ext.trans ?_ (by assumption) | refine Ext.dr ?_ (by assumption)))

set_option maxHeartbeats 1000000 in
theorem get_hit (w : World) (p q : Nat) (l : List Sl) (free n : Int) (h : At w p q l free n) (i g : Int) (s : Sl) (hh : Hit l i g s) (x : ByteArray) (hxx : s.x = [.string x]) :
    Calls Try.prog 57 #[.pointer (some ⟨p, 0, none⟩), .agg #[.int .i64 i, .int .i64 g]] w fun e w' => e = .returned (.tuple #[.string x, .bool true]) ∧ Ext w w' := by
  have k := fun w1 (hx : Ext w w1) => lookup_hit w1 p q l free n (h.ext hx) i g s hh
  have K := Lib.hid k; clear k
  have hs := hh.2.2.1
  clear hh
  have hpw := h.top.lt
  have hqw := h.row.lt
  go_enter Try.func57, Try.ntmps57
  go_wp2_with fail
  refine (K.out _ (by (repeat' (first | exact Ext.refl _ | assumption | refine Ext.alloc ?_ _ | refine Ext.drew ?_ | refine Ext.setCell ?_ (Nat.le_refl _) _ | refine Ext.setCell ?_ (Nat.le_add_right _ _) _ | refine Ext.drewN ?_ _ | refine Ext.trans ?_ (by assumption) | refine Ext.dr ?_ (by assumption))))).mono ?_
  rintro e w1 ⟨rfl, hx⟩
  have HV := h.ext (w' := w1) (by (repeat' (first | exact Ext.refl _ | assumption | refine Ext.alloc ?_ _ | refine Ext.drew ?_ | refine Ext.setCell ?_ (Nat.le_refl _) _ | refine Ext.setCell ?_ (Nat.le_add_right _ _) _ | refine Ext.drewN ?_ _ | refine Ext.trans ?_ (by assumption) | refine Ext.dr ?_ (by assumption))))
  have hv0 : w1.cell? ⟨q, i.toNat * 3 + 2, none⟩ = some (.string x) := HV.val hs 0 (by omega) (by rw [hxx]; rfl)
  skip
  clear HV hs hxx h
  go_wp2_with fail
  go_ret2
  refine ⟨rfl, ?_⟩
  (repeat' (first | exact Ext.refl _ | assumption | refine Ext.alloc ?_ _ | refine Ext.drew ?_ | refine Ext.setCell ?_ (Nat.le_refl _) _ | refine Ext.setCell ?_ (Nat.le_add_right _ _) _ | refine Ext.drewN ?_ _ | refine Ext.trans ?_ (by assumption) | refine Ext.dr ?_ (by assumption)))

/- no Set
set_option maxHeartbeats 1000000 in
theorem set_miss (w : World) (p q : Nat) (l : List Sl) (free n : Int) (h : At w p q l free n) (i g : Int) (hh : ∀ s, ¬ Hit l i g s) (x : ByteArray) :
    Calls Try.prog 84 #[.pointer (some ⟨p, 0, none⟩), .agg #[.int .i64 i, .int .i64 g], .string x] w fun e w' => e = .returned (.bool false) ∧ Ext w w' := by
  have k := fun w1 (hx : Ext w w1) => lookup_miss w1 p q l free n (h.ext hx) i g hh
  have K := Lib.hid k; clear k hh
  go_enter Try.func84, Try.ntmps84
  go_wp2_with fail
  refine (K.out _ (by (repeat' (first | exact Ext.refl _ | assumption | refine Ext.alloc ?_ _ | refine Ext.drew ?_ | refine Ext.setCell ?_ (Nat.le_refl _) _ | refine Ext.setCell ?_ (Nat.le_add_right _ _) _ | refine Ext.drewN ?_ _ | refine Ext.trans ?_ (by assumption) | refine Ext.dr ?_ (by assumption))))).mono ?_
  rintro e w1 ⟨rfl, hx⟩
  go_wp2_with fail
  go_ret
  exact ⟨rfl, by (repeat' (first | exact Ext.refl _ | assumption | refine Ext.alloc ?_ _ | refine Ext.drew ?_ | refine Ext.setCell ?_ (Nat.le_refl _) _ | refine Ext.setCell ?_ (Nat.le_add_right _ _) _ | refine Ext.drewN ?_ _ | refine Ext.trans ?_ (by assumption) | refine Ext.dr ?_ (by assumption)))⟩

set_option maxHeartbeats 1000000 in
theorem set_hit (w : World) (p q : Nat) (l : List Sl) (free n : Int) (h : At w p q l free n) (i g : Int) (s : Sl) (hh : Hit l i g s) (x : ByteArray) :
    Calls Try.prog 84 #[.pointer (some ⟨p, 0, none⟩), .agg #[.int .i64 i, .int .i64 g], .string x] w fun e w' => e = .returned (.bool true) ∧ At w' p q (l.set i.toNat { s with x := [.string x] }) free n ∧ Keep [q] w w' := by
  have hs := hh.2.2.1
  have k := fun w1 (hx : Ext w w1) => lookup_hit w1 p q l free n (h.ext hx) i g s hh
  have K := Lib.hid k; clear k hh
  go_enter Try.func84, Try.ntmps84
  go_wp2_with fail
  refine (K.out _ (by (repeat' (first | exact Ext.refl _ | assumption | refine Ext.alloc ?_ _ | refine Ext.drew ?_ | refine Ext.setCell ?_ (Nat.le_refl _) _ | refine Ext.setCell ?_ (Nat.le_add_right _ _) _ | refine Ext.drewN ?_ _ | refine Ext.trans ?_ (by assumption) | refine Ext.dr ?_ (by assumption))))).mono ?_
  rintro e w1 ⟨rfl, hx⟩
  have HX : Ext w w1 := by (repeat' (first | exact Ext.refl _ | assumption | refine Ext.alloc ?_ _ | refine Ext.drew ?_ | refine Ext.setCell ?_ (Nat.le_refl _) _ | refine Ext.setCell ?_ (Nat.le_add_right _ _) _ | refine Ext.drewN ?_ _ | refine Ext.trans ?_ (by assumption) | refine Ext.dr ?_ (by assumption)))
  have HV := h.ext HX
  have hl := HV.wd.cells (List.mem_of_getElem? hs)
  obtain ⟨v0, hv⟩ : ∃ v0, s.x = [v0] := by
    match hsx : s.x with
    | [v0] => exact ⟨v0, rfl⟩
    | [] => simp [Sl.cells, hsx] at hl
    | _ :: _ :: _ => simp [Sl.cells, hsx] at hl
  have hv0 : w1.cell? ⟨q, i.toNat * 3 + 2, none⟩ = some v0 := HV.val hs 0 (by omega) (by rw [hv]; rfl)
  have hf2 := HV.row.free (i.toNat * 3 + 2)
  have Hv := Lib.hid hv; clear hv
  skip
  have HV' := Lib.hid HV; clear HV
  have HS := Lib.hid hs; clear hs
  have hpw := h.top.lt
  have hqw := h.row.lt
  clear h
  go_wp2_with fail
  go_ret
  refine ⟨rfl, ?_, ?_⟩
  · exact HV'.out.setAt i.toNat s _ HS.out 2 (by omega) _ (by simp [Sl.cells, Hv.out])
  · exact (HX.keep _).setCell (.inl (by simp)) _

-/
set_option maxHeartbeats 1000000 in
theorem free_miss (w : World) (p q : Nat) (l : List Sl) (free n : Int) (h : At w p q l free n) (i g : Int) (hh : ∀ s, ¬ Hit l i g s) :
    Calls Try.prog 56 #[.pointer (some ⟨p, 0, none⟩), .agg #[.int .i64 i, .int .i64 g]] w fun e w' => e = .returned (.bool false) ∧ Ext w w' := by
  have k := fun w1 (hx : Ext w w1) => lookup_miss w1 p q l free n (h.ext hx) i g hh
  have K := Lib.hid k; clear k hh
  go_enter Try.func56, Try.ntmps56
  go_wp2_with fail
  refine (K.out _ (by (repeat' (first | exact Ext.refl _ | assumption | refine Ext.alloc ?_ _ | refine Ext.drew ?_ | refine Ext.setCell ?_ (Nat.le_refl _) _ | refine Ext.setCell ?_ (Nat.le_add_right _ _) _ | refine Ext.drewN ?_ _ | refine Ext.trans ?_ (by assumption) | refine Ext.dr ?_ (by assumption))))).mono ?_
  rintro e w1 ⟨rfl, hx⟩
  go_wp2_with fail
  go_ret
  exact ⟨rfl, by (repeat' (first | exact Ext.refl _ | assumption | refine Ext.alloc ?_ _ | refine Ext.drew ?_ | refine Ext.setCell ?_ (Nat.le_refl _) _ | refine Ext.setCell ?_ (Nat.le_add_right _ _) _ | refine Ext.drewN ?_ _ | refine Ext.trans ?_ (by assumption) | refine Ext.dr ?_ (by assumption)))⟩

set_option maxHeartbeats 1000000 in
theorem free_hit (w : World) (p q : Nat) (l : List Sl) (free n : Int) (h : At w p q l free n) (hn : -9223372036854775808 < n) (hn2 : n ≤ 9223372036854775807) (i g : Int) (s : Sl) (hh : Hit l i g s) :
    Calls Try.prog 56 #[.pointer (some ⟨p, 0, none⟩), .agg #[.int .i64 i, .int .i64 g]] w fun e w' => e = .returned (.bool true) ∧ At w' p q (l.set i.toNat ⟨s.gen, false, [.string ⟨#[]⟩]⟩) (min free i) (n - 1) ∧ Keep [p, q] w w' := by
  have hs := hh.2.2.1
  have k := fun w1 (hx : Ext w w1) => lookup_hit w1 p q l free n (h.ext hx) i g s hh
  have K := Lib.hid k; clear k hh
  go_enter Try.func56, Try.ntmps56
  go_wp2_with fail
  refine (K.out _ (by (repeat' (first | exact Ext.refl _ | assumption | refine Ext.alloc ?_ _ | refine Ext.drew ?_ | refine Ext.setCell ?_ (Nat.le_refl _) _ | refine Ext.setCell ?_ (Nat.le_add_right _ _) _ | refine Ext.drewN ?_ _ | refine Ext.trans ?_ (by assumption) | refine Ext.dr ?_ (by assumption))))).mono ?_
  rintro e w1 ⟨rfl, hx⟩
  have HX : Ext w w1 := by (repeat' (first | exact Ext.refl _ | assumption | refine Ext.alloc ?_ _ | refine Ext.drew ?_ | refine Ext.setCell ?_ (Nat.le_refl _) _ | refine Ext.setCell ?_ (Nat.le_add_right _ _) _ | refine Ext.drewN ?_ _ | refine Ext.trans ?_ (by assumption) | refine Ext.dr ?_ (by assumption)))
  have HV := h.ext HX
  have hl := HV.wd.cells (List.mem_of_getElem? hs)
  have hs0 := HV.gen hs (by omega)
  have hs1 := HV.taken hs (by omega)
  obtain ⟨v0, hv⟩ : ∃ v0, s.x = [v0] := by
    match hsx : s.x with
    | [v0] => exact ⟨v0, rfl⟩
    | [] => simp [Sl.cells, hsx] at hl
    | _ :: _ :: _ => simp [Sl.cells, hsx] at hl
  have hv0 : w1.cell? ⟨q, i.toNat * 3 + 2, none⟩ = some v0 := HV.val hs 0 (by omega) (by rw [hv]; rfl)
  have hf2 := HV.row.free (i.toNat * 3 + 2)
  have Hv := Lib.hid hv; clear hv
  have hf0 := HV.row.free (i.toNat * 3)
  have hf1 := HV.row.free (i.toNat * 3 + 1)
  have hp1 := HV.top.cell (i := 1) rfl
  have hp2 := HV.top.cell (i := 2) rfl
  have hpf1 := HV.top.free 1
  have hpf2 := HV.top.free 2
  have HV' := Lib.hid HV; clear HV
  have HS := Lib.hid hs; clear hs
  have hpw := h.top.lt
  have hqw := h.row.lt
  have npq : ¬ p = q := h.ne
  have nqp : ¬ q = p := fun e => h.ne e.symm
  have nwp : ¬ w.heap.size = p := by omega
  have nwq : ¬ w.heap.size = q := by omega
  have npw : ¬ p = w.heap.size := by omega
  have nqw : ¬ q = w.heap.size := by omega
  have hb0 : w1.cell? ⟨w.heap.size, 0, none⟩ = some (.int .i64 i) := by rw [hx.cell (by show w.heap.size < _; rw [World.size_alloc]; omega), World.cell?_alloc_mark]; rfl
  clear h
  go_wp2_with fail
  go_region
  go_wp2_with fail
  all_goals go_ret
  all_goals (refine ⟨rfl, ?_, ?_⟩)
  · rw [show min free i = i from by omega]
    exact (((HV'.out.slot1 HS.out s.gen false (.string ⟨#[]⟩) v0 Hv.out).setFree i).setN (n - 1)).drew
  · skip
    repeat' (first | with_reducible exact HX.keep _ | with_reducible refine Keep.drewN ?_ _ | with_reducible refine Keep.drew ?_ | with_reducible refine Keep.alloc ?_ _ | with_reducible refine Keep.setCell ?_ ?_ _)
    all_goals first | exact .inr (Nat.le_refl _) | exact .inl (by simp) | exact .inr (by simp)
  · rw [show min free i = free from by omega]
    exact (((HV'.out.slot1 HS.out s.gen false (.string ⟨#[]⟩) v0 Hv.out).setFree free).setN (n - 1)).drew
  · skip
    repeat' (first | with_reducible exact HX.keep _ | with_reducible refine Keep.drewN ?_ _ | with_reducible refine Keep.drew ?_ | with_reducible refine Keep.alloc ?_ _ | with_reducible refine Keep.setCell ?_ ?_ _)
    all_goals first | exact .inr (Nat.le_refl _) | exact .inl (by simp) | exact .inr (by simp)
end Go.Proofs.Ytkoinkpolpccbaa.ArenaStr
