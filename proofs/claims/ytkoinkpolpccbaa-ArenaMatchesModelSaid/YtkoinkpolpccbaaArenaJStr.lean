/-
  Contracts of the package arena at the element type string: Alloc.
-/
import Derived.Test.YtkoinkpolpccbaaArenaIStr
set_option linter.unusedSimpArgs false
set_option linter.unusedVariables false
namespace Go.Proofs.Ytkoinkpolpccbaa.ArenaStr
open Go.RowKit

set_option maxRecDepth 100000 in
set_option maxHeartbeats 1000000 in
theorem alloc_full (w : World) (p q : Nat) (l : List Sl) (free : Nat) (n : Int) (x : ByteArray) (h : At w p q l free n) (hf : free ≤ l.length)
    (hall : ∀ i, free ≤ i → i < l.length → ∃ s, l[i]? = some s ∧ s.taken = true) :
    Calls Try.prog 55 #[.pointer (some ⟨p, 0, none⟩), .string x] w fun e w' => e = .returned (.tuple #[.agg #[.int .i64 0, .int .i64 0], .bool false]) ∧ At w' p q l l.length n ∧ Keep [p, q] w w' := by
  have hlen := h.len
  have hpw := h.top.lt
  have hqw := h.row.lt
  have hpq := h.ne
  have hwd := h.wd
  have HW := h.ext (w' := w.alloc (Obj.cells #[.int .i64 0, .int .i64 0] 48)) (by (repeat' (first | exact Ext.refl _ | assumption | refine Ext.alloc ?_ _ | refine Ext.drew ?_ | refine Ext.setCell ?_ (Nat.le_refl _) _ | refine Ext.setCell ?_ (Nat.le_add_right _ _) _ | refine Ext.drewN ?_ _ | refine Ext.trans ?_ (by assumption) | refine Ext.dr ?_ (by assumption))))
  have HK : Keep [p, q] w (w.alloc (Obj.cells #[.int .i64 0, .int .i64 0] 48)) := Ext.keep (by (repeat' (first | exact Ext.refl _ | assumption | refine Ext.alloc ?_ _ | refine Ext.drew ?_ | refine Ext.setCell ?_ (Nat.le_refl _) _ | refine Ext.setCell ?_ (Nat.le_add_right _ _) _ | refine Ext.drewN ?_ _ | refine Ext.trans ?_ (by assumption) | refine Ext.dr ?_ (by assumption)))) _
  have HR : Blk (w.alloc (Obj.cells #[.int .i64 0, .int .i64 0] 48)) (w.heap.size) [.int .i64 0, .int .i64 0] 48 := Blk.new _ _ _
  have Hall := Lib.hid hall; clear hall
  have Hwd := Lib.hid hwd; clear hwd
  clear h
  go_enter Try.func55, Try.ntmps55
  go_wp2_with fail
  go_loopg [] (l.length - free) (fun g wr => ∃ k : Nat, g = l.length - k ∧ free ≤ k ∧ k ≤ l.length ∧ At wr p q l k n ∧ Keep [p, q] w wr ∧ Blk wr (w.heap.size) [.int .i64 0, .int .i64 0] 48)
  case atStart => exact ⟨free, rfl, Nat.le_refl _, hf, HW, HK, HR⟩
  case round =>
    clear HW HK HR
    obtain ⟨k, hg, hfk, hkl, hA, hk, hr⟩ := hrel
    have hp0 := hA.top.cell (i := 0) rfl
    have hp1 := hA.top.cell (i := 1) rfl
    have hpf := hA.top.free 1
    have Hk := Lib.hid hk; have Hr := Lib.hid hr; have Hg := Lib.hid hg
    clear hk hr hg
    by_cases hlt : k < l.length
    · obtain ⟨s, hs, ht⟩ := Hall.out k hfk hlt
      have hlt' : (k : Int) < l.length := by omega
      have hs1 := hA.taken hs (by omega)
      rw [ht] at hs1
      have HA := Lib.hid hA; clear hA
      clear hs ht
      go_wp2_with fail
      go_quiet (fail)
      go_wp2_with fail
      go_roundg (l.length - (k + 1))
      case measure => rw [Hg.out]; omega
      case rel =>
        refine ⟨k + 1, rfl, by omega, by omega, (HA.out.drewN _).setFree _, (Hk.out.drewN _).setCell (.inl (by simp)) _, (Hr.out.drewN _).set_ne _ ?_ _⟩
        show p ≠ w.heap.size; omega
    · obtain rfl : k = l.length := by omega
      have HA := Lib.hid hA; clear hA
      have hlt' : ¬ ((l.length : Nat) : Int) < l.length := by omega
      have hr0 := Hr.out.cell (i := 0) rfl
      have hr1 := Hr.out.cell (i := 1) rfl
      have hf0 := Hr.out.free 0
      have hf1 := Hr.out.free 1
      go_wp2_with fail
      go_quiet (fail)
      go_wp2_with fail
      go_quiet (fail)
      go_wp2_with fail
      refine bodyPost_ret (v := .tuple #[.agg #[.int .i64 0, .int .i64 0], .bool false]) (by simp [results, Try.results55, go_sem, hr0, hr1]) rfl ⟨rfl, ?_, ?_⟩
      · exact ((HA.out.drewN _).other (a := ⟨w.heap.size, 0, none⟩) (by show w.heap.size ≠ p; omega) (by show w.heap.size ≠ q; omega) _).other (a := ⟨w.heap.size, 1, none⟩) (by show w.heap.size ≠ p; omega) (by show w.heap.size ≠ q; omega) _
      · exact ((Hk.out.drewN _).setCell (.inr (by show w.heap.size ≤ w.heap.size; omega)) _).setCell (.inr (by show w.heap.size ≤ w.heap.size; omega)) _

set_option maxRecDepth 100000 in
set_option maxHeartbeats 2000000 in
theorem alloc_hit (w : World) (p q : Nat) (l : List Sl) (free : Nat) (n : Int) (x : ByteArray) (f : Nat) (s0 : Sl) (h : At w p q l free n) (hf : free ≤ f) (hs0 : l[f]? = some s0) (ht0 : s0.taken = false)
    (hg1 : -9223372036854775808 ≤ s0.gen) (hg2 : s0.gen < 9223372036854775807) (hn1 : 0 ≤ n) (hn2 : n ≤ 4096) (hall : ∀ i, free ≤ i → i < f → ∃ s, l[i]? = some s ∧ s.taken = true) :
    Calls Try.prog 55 #[.pointer (some ⟨p, 0, none⟩), .string x] w fun e w' => e = .returned (.tuple #[.agg #[.int .i64 f, .int .i64 (s0.gen + 1)], .bool true]) ∧ At w' p q (l.set f ⟨s0.gen + 1, true, [.string x]⟩) f (n + 1) ∧ Keep [p, q] w w' := by
  have hlen := h.len
  have hpw := h.top.lt
  have hqw := h.row.lt
  have hpq := h.ne
  have hfl : f < l.length := by
    rcases Nat.lt_or_ge f l.length with h1 | h1
    · exact h1
    · rw [List.getElem?_eq_none h1] at hs0; cases hs0
  have hl := h.wd.cells (List.mem_of_getElem? hs0)
  have HW := h.ext (w' := w.alloc (Obj.cells #[.int .i64 0, .int .i64 0] 48)) (by (repeat' (first | exact Ext.refl _ | assumption | refine Ext.alloc ?_ _ | refine Ext.drew ?_ | refine Ext.setCell ?_ (Nat.le_refl _) _ | refine Ext.setCell ?_ (Nat.le_add_right _ _) _ | refine Ext.drewN ?_ _ | refine Ext.trans ?_ (by assumption) | refine Ext.dr ?_ (by assumption))))
  have HK : Keep [p, q] w (w.alloc (Obj.cells #[.int .i64 0, .int .i64 0] 48)) := Ext.keep (by (repeat' (first | exact Ext.refl _ | assumption | refine Ext.alloc ?_ _ | refine Ext.drew ?_ | refine Ext.setCell ?_ (Nat.le_refl _) _ | refine Ext.setCell ?_ (Nat.le_add_right _ _) _ | refine Ext.drewN ?_ _ | refine Ext.trans ?_ (by assumption) | refine Ext.dr ?_ (by assumption)))) _
  have HR : Blk (w.alloc (Obj.cells #[.int .i64 0, .int .i64 0] 48)) (w.heap.size) [.int .i64 0, .int .i64 0] 48 := Blk.new _ _ _
  skip
  have Hall := Lib.hid hall; clear hall
  have Hs0 := Lib.hid hs0; have Ht0 := Lib.hid ht0
  clear h hs0 ht0
  go_enter Try.func55, Try.ntmps55
  go_wp2_with fail
  go_loopg [] (f - free) (fun g wr => ∃ k : Nat, g = f - k ∧ free ≤ k ∧ k ≤ f ∧ At wr p q l k n ∧ Keep [p, q] w wr ∧ Blk wr (w.heap.size) [.int .i64 0, .int .i64 0] 48 )
  case atStart => exact ⟨free, rfl, Nat.le_refl _, hf, HW, HK, HR ⟩
  case round =>
    clear HW HK HR 
    obtain ⟨k, hg, hfk, hkf, hA, hk, hr ⟩ := hrel
    have hp0 := hA.top.cell (i := 0) rfl
    have hp1 := hA.top.cell (i := 1) rfl
    have hpf := hA.top.free 1
    have Hk := Lib.hid hk; have Hr := Lib.hid hr; have Hg := Lib.hid hg
    clear hk hr hg
    by_cases hlt : k < f
    · obtain ⟨s, hs, ht⟩ := Hall.out k hfk hlt
      have hlt' : (k : Int) < l.length := by omega
      have hs1 := hA.taken hs (by omega)
      rw [ht] at hs1
      have HA := Lib.hid hA; clear hA
      clear hs ht
      go_wp2_with fail
      go_quiet (fail)
      go_wp2_with fail
      go_roundg (f - (k + 1))
      case measure => rw [Hg.out]; omega
      case rel =>
        refine ⟨k + 1, rfl, by omega, by omega, (HA.out.drewN _).setFree _, (Hk.out.drewN _).setCell (.inl (by simp)) _, (Hr.out.drewN _).set_ne _ ?_ _ ⟩
        all_goals (show p ≠ _; omega)
    · obtain rfl : k = f := by omega
      have hlt' : (k : Int) < l.length := by omega
      have hne : ((k : Int) == l.length) = false := by simp; omega
      have hs1 := hA.taken Hs0.out (by omega)
      have hs2 := hA.gen Hs0.out (by omega)
      have hq0 := hA.row.free (k * 3)
      have hq1 := hA.row.free (k * 3 + 1)
      obtain ⟨v0, hv⟩ : ∃ v0, s0.x = [v0] := by
        match hsx : s0.x with
        | [v0] => exact ⟨v0, rfl⟩
        | [] => simp [Sl.cells, hsx] at hl
        | _ :: _ :: _ => simp [Sl.cells, hsx] at hl
      have hv0 : wr.cell? ⟨q, k * 3 + 2, none⟩ = some v0 := hA.val Hs0.out 0 (by omega) (by rw [hv]; rfl)
      have hf2 := hA.row.free (k * 3 + 2)
      have Hv := Lib.hid hv; clear hv
      rw [Ht0.out] at hs1
      have hp2 := hA.top.cell (i := 2) rfl
      have hpf2 := hA.top.free 2
      have HA := Lib.hid hA; clear hA
      have hr0 := Hr.out.cell (i := 0) rfl
      have hr1 := Hr.out.cell (i := 1) rfl
      have hf0 := Hr.out.free 0
      have hf1 := Hr.out.free 1
      have npq : ¬ p = q := hpq
      have nqp : ¬ q = p := fun e => hpq e.symm
      go_wp2_with fail
      go_quiet (fail)
      go_wp2_with fail
      go_quiet (fail)
      go_wp2_with fail
      go_quiet (fail)
      go_wp2_with fail
      skip
      go_region
      go_wp2_with fail
      refine bodyPost_ret (v := .tuple #[.agg #[.int .i64 k, .int .i64 (s0.gen + 1)], .bool true]) (by simp [results, Try.results55, go_sem, hr0, hr1]) rfl ⟨rfl, ?_, ?_⟩
      · have A := fun m => (((HA.out.drewN m).slot1 Hs0.out (s0.gen + 1) true (.string x) v0 Hv.out).setN (n + 1))
        exact (((A _).other (a := ⟨w.heap.size, 0, none⟩) (by show w.heap.size ≠ p; omega) (by show w.heap.size ≠ q; omega) _).other (a := ⟨w.heap.size, 1, none⟩) (by show w.heap.size ≠ p; omega) (by show w.heap.size ≠ q; omega) _).drew
      · skip
        repeat' (first | with_reducible exact Hk.out | with_reducible refine Keep.drewN ?_ _ | with_reducible refine Keep.drew ?_ | with_reducible refine Keep.setCell ?_ ?_ _)
        all_goals first | (left; simp; done) | (right; show w.heap.size ≤ w.heap.size; omega)
end Go.Proofs.Ytkoinkpolpccbaa.ArenaStr
