/-
  Several texts joined: RgA, IpFn, IpR, IpRt, IpRf, IpN, IpS, IpQ.
-/
import Derived.Test.YtmdlgfnibjcgmaaGreatDoorK16
import Derived.Test.YtmdlgfnibjcgmaaGreatDoorK05
import Derived.Test.YtmdlgfnibjcgmaaGreatDoorK09
import Derived.Test.YtmdlgfnibjcgmaaGreatDoorK07
import Derived.Test.YtmdlgfnibjcgmaaGreatDoorProg
import Derived.Handy
import Derived.Test.YtmdlgfnibjcgmaaGreatDoorK02
import Derived.Laws.AppendOwn
import Derived.Laws.OwnMore
import Derived.WalkSmall
import Derived.Test.YtmdlgfnibjcgmaaGreatDoorK01
import Derived.Lib.SmallJoins
set_option maxHeartbeats 4000000
set_option maxRecDepth 4000
set_option linter.unusedVariables false
set_option linter.unusedSimpArgs false
namespace Go.Proofs.YtmdlgfnibjcgmaaGreatDoor
open Go.RowKit
open Go.RowKit Go.Joins
open Go.RowKit
theorem validA_iff {a : Adr} (ha : okA a) (hf : a.1 = false) : validA a = true ↔ ∀ j, 4 <= j -> j < 16 -> X a j = 0 := by
 unfold validA; rw [hf, Bool.false_or, List.all_eq_true]
 constructor
 ·intro h j h4 hj
  have := h (X a j) (by
   unfold X
   rw [List.getD_eq_getElem?_getD, List.getElem?_eq_getElem (by rw [ha.1]; exact hj), Option.getD_some]
   exact List.mem_of_getElem? (i := j - 4) (by rw [List.getElem?_drop, show 4 + (j - 4) = j by omega, List.getElem?_eq_getElem (by rw [ha.1]; exact hj)]))
  simpa using this
 ·intro h x hx
  obtain ⟨i, hi, e⟩ := List.mem_iff_getElem.1 hx
  have hl : 4 + i < 16 := by have := ha.1; simp at hi; omega
  have := h (4 + i) (by omega) hl
  unfold X at this
  rw [List.getD_eq_getElem?_getD, List.getElem?_eq_getElem (by rw [ha.1]; exact hl), Option.getD_some] at this
  rw [List.getElem_drop] at e
  rw [← e]; exact decide_eq_true this
theorem rValid_any (a : Adr) (ha : okA a) (w : World) :
  Calls Tryz.prog 49 #[av a] w fun e w' => e = .returned (.bool (validA a)) /\ Ext w w' := by
 unfold av
 go_enter Tryz.func49, Tryz.ntmps49
 go_upto_region 1 with fail
 have hx := (Ext.refl w).alloc (.cells (ac a) 72)
 have hb := ABox.new ha w
 generalize w.alloc (.cells (ac a) 72) = w1 at *
 have c1 := hb.fam
 generalize w.heap.size = p at *
 cases hf : a.1 with
 | true =>
  have E : Hid (validA a = true) := Lib.hid (by unfold validA; rw [hf]; rfl)
  have HF := Lib.hid hf; clear hf
  clear c1
  go_wp2_with fail
  go_loopw [3] (fun i wr => i = .int .i64 4 /\ ABox wr p a /\ Ext w wr) (fun i _ => 0)
  case atStart => exact ⟨rfl, hb, hx⟩
  case round =>
   obtain ⟨rfl, hb, hx⟩ := hrel
   have c1 := hb.fam
   rw [HF.out] at c1
   go_wp2_with fail
   go_ret
   exact ⟨by rw [E.out]; rfl, by (repeat' (first | exact Ext.refl _ | assumption | refine Ext.alloc ?_ _ | refine Ext.drew ?_ | refine Ext.setCell ?_ (Nat.le_refl _) _ | refine Ext.setCell ?_ (Nat.le_add_right _ _) _ | refine Ext.drewN ?_ _ | refine Ext.trans ?_ (by assumption) | refine Ext.dr ?_ (by assumption)))⟩
 | false =>
  have V := Lib.hid (validA_iff ha hf)
  have HF := Lib.hid hf; clear hf
  rw [HF.out] at c1
  clear c1
  go_wp2_with fail
  go_loopw [3] (fun i wr => ∃ k : Nat, 4 <= k /\ k <= 16 /\ i = .int .i64 k /\ ABox wr p a /\ Ext w wr /\ Hid (∀ j, 4 <= j -> j < k -> X a j = 0)) (fun i _ => 16 - (intOf i).toNat)
  case atStart => exact ⟨4, by omega, by omega, rfl, hb, hx, Lib.hid (fun j h1 h2 => by omega)⟩
  case round =>
   obtain ⟨k, hk4, hk, rfl, hb, hx, hz⟩ := hrel
   have c1 := hb.fam
   rw [HF.out] at c1
   by_cases hlt : k < 16
   ·have hlt' : (k : Int) < 16 := by omega
    have d1 := hb.at' k hlt
    have xb := X_bd ha k
    by_cases h0 : X a k = 0
    ·have HZ : Hid (∀ j, 4 <= j -> j < k + 1 -> X a j = 0) := Lib.hid (fun j h1 h2 => by
      rcases Nat.lt_or_ge j k with h | h
      ·exact hz.out j h1 h
      ·obtain rfl : j = k := by omega
       exact h0)
     rw [h0] at d1
     clear h0
     go_wp2_with fail
     go_roundw
     case rel => exact ⟨k + 1, by omega, by omega, by go_num, hb, by (repeat' (first | exact Ext.refl _ | assumption | refine Ext.alloc ?_ _ | refine Ext.drew ?_ | refine Ext.setCell ?_ (Nat.le_refl _) _ | refine Ext.setCell ?_ (Nat.le_add_right _ _) _ | refine Ext.drewN ?_ _ | refine Ext.trans ?_ (by assumption) | refine Ext.dr ?_ (by assumption))), HZ⟩
     case measure => simp [intOf]; omega
    ·have E : Hid (validA a = false) := Lib.hid (by
      cases h : validA a with
      | false => rfl
      | true => exact absurd (V.out.1 h k hk4 hlt) h0)
     have hne : (X a k != 0) = true := by rw [bne_iff_ne]; exact h0
     generalize X a k = x at *
     go_wp2_with fail
     go_ret
     exact ⟨by rw [E.out]; rfl, by (repeat' (first | exact Ext.refl _ | assumption | refine Ext.alloc ?_ _ | refine Ext.drew ?_ | refine Ext.setCell ?_ (Nat.le_refl _) _ | refine Ext.setCell ?_ (Nat.le_add_right _ _) _ | refine Ext.drewN ?_ _ | refine Ext.trans ?_ (by assumption) | refine Ext.dr ?_ (by assumption)))⟩
   ·obtain rfl : k = 16 := by omega
    have E : Hid (validA a = true) := Lib.hid (V.out.2 fun j h1 h2 => hz.out j h1 h2)
    go_wp2_with fail
    go_ret
    exact ⟨by rw [E.out]; rfl, by (repeat' (first | exact Ext.refl _ | assumption | refine Ext.alloc ?_ _ | refine Ext.drew ?_ | refine Ext.setCell ?_ (Nat.le_refl _) _ | refine Ext.setCell ?_ (Nat.le_add_right _ _) _ | refine Ext.drewN ?_ _ | refine Ext.trans ?_ (by assumption) | refine Ext.dr ?_ (by assumption)))⟩
open Go.RowKit
open Go.RowKit
open Go.RowKit
open Go.RowKit
open Go.RowKit Go.Joins
def StrCells (w : World) (b : Nat) (ps : List ByteArray) : Prop := b < w.heap.size /\ ∀ j x, ps[j]? = some x -> w.cell? ⟨b, j, none⟩ = some (.string x)
theorem StrCells.ext {w w' : World} {b : Nat} {ps : List ByteArray} (h : StrCells w b ps) (k : Ext w w') : StrCells w' b ps :=
 ⟨Nat.lt_of_lt_of_le h.1 k.size, fun j x hj => by rw [k.cell h.1]; exact h.2 j x hj⟩
theorem StrCells.set {w : World} {b : Nat} {ps : List ByteArray} (h : StrCells w b ps) {p : Addr} (hp : p.block ≠ b) (u : Value) : StrCells (w.setCell p u) b ps :=
 ⟨by simpa [World.setCell] using h.1, fun j x hj => by rw [World.cell?_of_block (w := w) (Below.heap_setCell w p u b (fun e => hp e.symm))]; exact h.2 j x hj⟩
def Env (w : World) : Prop := ∃ m : Int, w.cell? ⟨2, 0, none⟩ = some (.int .i64 m)
theorem Env.ext {w w' : World} (h : Env w) (k : Ext w w') : Env w' := by
 obtain ⟨m, hm⟩ := h
 exact ⟨m, by rw [k.cell (World.block_lt_of_cell? _ _ hm)]; exact hm⟩
def c4 (l : List Int) : Array Value := (l.map (Value.int .u8)).toArray
end Go.Proofs.YtmdlgfnibjcgmaaGreatDoor
