/-
  Contracts of the package arena at the element type string: Alloc.
-/
import Derived.Test.YtkoinkpolpccbaaProg
import Derived.Test.YtkoinkpolpccbaaArenaBase
set_option linter.unusedSimpArgs false
set_option linter.unusedVariables false
namespace Go.Proofs.Ytkoinkpolpccbaa.ArenaStr
open Go.RowKit

def TA : Nat := 107
def TS : Nat := 109
abbrev At (w : World) (p q : Nat) (l : List Sl) (free n : Int) : Prop := IsArena 107 109 3 w p q l free n

set_option maxRecDepth 100000 in
set_option maxHeartbeats 1000000 in
theorem lookup_hit (w : World) (p q : Nat) (l : List Sl) (free n : Int) (h : At w p q l free n) (i g : Int) (s : Sl) (hh : Hit l i g s) :
    Calls Try.prog 64 #[.pointer (some ⟨p, 0, none⟩), .agg #[.int .i64 i, .int .i64 g]] w fun e w' => e = .returned (.pointer (some ⟨q, i.toNat * 3, none⟩)) ∧ Ext w w' := by
  obtain ⟨h0, h1, hs, ht, hg⟩ := hh
  obtain ⟨k, rfl⟩ := Int.eq_ofNat_of_zero_le h0
  rw [Int.toNat_natCast] at *
  have hlen := h.len
  have hp0 := h.top.cell (i := 0) rfl
  have hs0 := h.gen hs (by omega)
  have hs1 := h.taken hs (by omega)
  rw [ht] at hs1
  rw [hg] at hs0
  have hpw := h.top.lt
  have hqw := h.row.lt
  clear hs ht hg h
  go_enter Try.func64, Try.ntmps64
  go_wp2_with fail
  go_quiet (fail)
  go_wp2_with fail
  go_quiet (fail)
  go_wp2_with fail
  go_quiet (fail)
  go_wp2_with fail
  go_ret
  exact ⟨rfl, by (repeat' (first | exact Ext.refl _ | assumption | refine Ext.alloc ?_ _ | refine Ext.drew ?_ | refine Ext.setCell ?_ (Nat.le_refl _) _ | refine Ext.setCell ?_ (Nat.le_add_right _ _) _ | refine Ext.drewN ?_ _ | refine Ext.trans ?_ (by assumption) | refine Ext.dr ?_ (by assumption)))⟩

set_option maxRecDepth 100000 in
set_option maxHeartbeats 1000000 in
theorem lookup_miss (w : World) (p q : Nat) (l : List Sl) (free n : Int) (h : At w p q l free n) (i g : Int) (hh : ∀ s, ¬ Hit l i g s) :
    Calls Try.prog 64 #[.pointer (some ⟨p, 0, none⟩), .agg #[.int .i64 i, .int .i64 g]] w fun e w' => e = .returned (.pointer none) ∧ Ext w w' := by
  have hlen := h.len
  have hp0 := h.top.cell (i := 0) rfl
  have hpw := h.top.lt
  have hqw := h.row.lt
  by_cases h0 : i < 0
  · have hd : decide (i < 0) = true := by simpa using h0
    clear h hh
    go_enter Try.func64, Try.ntmps64
    go_wp2_with fail
    go_quiet (fail)
    go_wp2_with fail
    go_ret
    exact ⟨rfl, by (repeat' (first | exact Ext.refl _ | assumption | refine Ext.alloc ?_ _ | refine Ext.drew ?_ | refine Ext.setCell ?_ (Nat.le_refl _) _ | refine Ext.setCell ?_ (Nat.le_add_right _ _) _ | refine Ext.drewN ?_ _ | refine Ext.trans ?_ (by assumption) | refine Ext.dr ?_ (by assumption)))⟩
  have hd : decide (i < 0) = false := by simpa using h0
  have h0' : 0 ≤ i := by omega
  obtain ⟨k, rfl⟩ := Int.eq_ofNat_of_zero_le h0'
  by_cases h1 : k < l.length
  · have h1' : (k : Int) < l.length := by omega
    obtain ⟨s, hs⟩ : ∃ s, l[k]? = some s := ⟨l[k], List.getElem?_eq_getElem h1⟩
    have hs0 := h.gen hs (by omega)
    have hs1 := h.taken hs (by omega)
    by_cases ht : s.taken = true
    · have hg : (s.gen == g) = false := by
        rw [beq_eq_false_iff_ne]; intro e; exact hh s ⟨h0', h1', by rw [Int.toNat_natCast]; exact hs, ht, e⟩
      rw [ht] at hs1
      clear h hh hs ht
      go_enter Try.func64, Try.ntmps64
      go_wp2_with fail
      go_quiet (fail)
      go_wp2_with fail
      go_quiet (fail)
      go_wp2_with fail
      go_quiet (fail)
      go_wp2_with fail
      go_ret
      exact ⟨rfl, by (repeat' (first | exact Ext.refl _ | assumption | refine Ext.alloc ?_ _ | refine Ext.drew ?_ | refine Ext.setCell ?_ (Nat.le_refl _) _ | refine Ext.setCell ?_ (Nat.le_add_right _ _) _ | refine Ext.drewN ?_ _ | refine Ext.trans ?_ (by assumption) | refine Ext.dr ?_ (by assumption)))⟩
    · have ht : s.taken = false := by simpa using ht
      rw [ht] at hs1
      clear h hh hs ht
      go_enter Try.func64, Try.ntmps64
      go_wp2_with fail
      go_quiet (fail)
      go_wp2_with fail
      go_quiet (fail)
      go_wp2_with fail
      go_quiet (fail)
      go_wp2_with fail
      go_ret
      exact ⟨rfl, by (repeat' (first | exact Ext.refl _ | assumption | refine Ext.alloc ?_ _ | refine Ext.drew ?_ | refine Ext.setCell ?_ (Nat.le_refl _) _ | refine Ext.setCell ?_ (Nat.le_add_right _ _) _ | refine Ext.drewN ?_ _ | refine Ext.trans ?_ (by assumption) | refine Ext.dr ?_ (by assumption)))⟩
  · have h1' : ¬ (k : Int) < l.length := by omega
    clear h hh
    go_enter Try.func64, Try.ntmps64
    go_wp2_with fail
    go_quiet (fail)
    go_wp2_with fail
    go_ret
    exact ⟨rfl, by (repeat' (first | exact Ext.refl _ | assumption | refine Ext.alloc ?_ _ | refine Ext.drew ?_ | refine Ext.setCell ?_ (Nat.le_refl _) _ | refine Ext.setCell ?_ (Nat.le_add_right _ _) _ | refine Ext.drewN ?_ _ | refine Ext.trans ?_ (by assumption) | refine Ext.dr ?_ (by assumption)))⟩
end Go.Proofs.Ytkoinkpolpccbaa.ArenaStr
