/-
  The law GreetingIsIncremental: the walk and its plain law.
-/
import Derived.Test.YtkoinkpolpccbaaGreet
import Derived.Outline
set_option linter.unusedSimpArgs false
set_option linter.unusedVariables false
namespace Go.Proofs.Ytkoinkpolpccbaa
open Go.RowKit

theorem B_take (s : ByteArray) (k j : Nat) (h : j < k) : B (s.extract 0 k) j = B s j := by
  unfold B
  have e : (s.extract 0 k).data.toList = s.data.toList.take k := by
    rw [ByteArray.data_extract]; simp
  rw [e, List.getD_eq_getElem?_getD, List.getElem?_take, if_pos h, ← List.getD_eq_getElem?_getD]
theorem size_take (s : ByteArray) (k : Nat) (h : k ≤ s.size) : (s.extract 0 k).size = k := by
  rw [ByteArray.size_extract]; omega

/-- what Parse says of the first k bytes: the number of bytes and the state -/
def gpre (s : ByteArray) (k : Nat) : Int × Int :=
  if k = 0 then (0, 0)
  else if B s 0 ≠ 5 then (0, 2)
  else if k < 2 then (0, 0)
  else if B s 1 = 0 then (0, 2)
  else if (k : Int) < 2 + B s 1 then (0, 0)
  else (2 + B s 1, 1)

theorem gpre_eq (s : ByteArray) (k : Nat) (h : k ≤ s.size) : (gparse (s.extract 0 k)).2 = gpre s k := by
  have z := size_take s k h
  unfold gparse gpre
  rw [z]
  by_cases h0 : k = 0
  · rw [if_pos h0, if_pos h0]
  · rw [if_neg h0, if_neg h0, B_take s k 0 (by omega)]
    by_cases h1 : k < 2
    · rw [if_pos h1, if_pos h1]; split <;> rfl
    · rw [if_neg h1, if_neg h1, B_take s k 1 (by omega)]
      (repeat' split) <;> rfl

theorem ginc (s : ByteArray) (k : Nat) :
    ((gpre s (k - 1)).2 = 0 ∨ ((gpre s k).2 = (gpre s (k - 1)).2 ∧ (gpre s k).1 = (gpre s (k - 1)).1)) ∧
    ((gpre s k).2 ≠ 1 ∨ (gpre s (k - 1)).2 ≠ 0 ∨ (gpre s k).1 = k) ∧
    ((gpre s k).2 = 1 ∨ (gpre s k).1 = 0) := by
  have b1 := B_bd s 1
  unfold gpre
  (repeat' split) <;> dsimp only <;> omega

set_option maxRecDepth 100000 in
set_option maxHeartbeats 2000000 in
theorem GreetingIsIncremental_walk (a : Option Addr) (n c : Nat) (x : ByteArray) (count : Int) (right : Bool) (w : World) (hxn : x.size = n) (hs : x.size ≤ 140737488351232)
    {G : Prop} (_ : G) (hcv0 : ∀ w', Ext w w' → (convert 22 9 (.slice a n c)).run Try.prog w' = .ok (.string x) w') {G1 : Prop} (_ : G1) :
    Calls Try.prog 4 #[.slice a n c, .int .u8 count, .bool right] w fun e w' => e = .returned (.bool true) ∧ Ext w w' := by
  have hcv : (convert 22 9 (.slice a n c)).run Try.prog w = .ok (.string x) w := hcv0 _ (Ext.refl w)
  clear hcv0 hxn
  cases right
  · go_enter Try.func4, Try.ntmps4
    go_wp2_with fail
    have hX : x.size ≤ 140737488351235 := by omega
    have hW : Ext w w := Ext.refl w
    clear hs
    go_loop [8, 9, 10] (fun was many i => ∃ k : Nat, k ≤ 40 ∧ i = .int .i64 k ∧ (k ≤ x.size + 1) ∧ was = .int .i64 (gpre x (k - 1)).2 ∧ many = .int .i64 (gpre x (k - 1)).1) (fun _ _ i => 40 - (intOf i).toNat)
    case atStart => exact ⟨0, by omega, rfl, by omega, rfl, rfl⟩
    case round =>
      obtain ⟨k, hk, rfl, hk2, rfl, rfl⟩ := hrel
      by_cases hlt : k ≤ x.size ∧ k < 40
      · obtain ⟨h1, h2⟩ := hlt
        have h1' : (k : Int) ≤ x.size := by omega
        have h2' : (k : Int) < 40 := by omega
        have hg := gpre_eq x k h1
        have hi := ginc x k
        have hz := size_take x k h1
        have Hz := Lib.hid hz; clear hz
        have Hg := Lib.hid hg; clear hg
        generalize (gpre x (k - 1)).2 = was at *
        generalize (gpre x (k - 1)).1 = many at *
        have Hi := Lib.hid hi; clear hi
        go_wp2_with fail
        refine (gparse_any _ _ (by rw [Hz.out]; unfold maxLen; omega)).mono ?_
        rintro e w' ⟨rfl, rfl⟩
        rw [Hg.out]
        have Hi2 := Hi.out; clear Hi
        generalize hm : (gpre x k).1 = m2 at *
        generalize hst : (gpre x k).2 = st at *
        have Hm := Lib.hid hm; clear hm
        have Hst := Lib.hid hst; clear hst
        have Hi := Lib.hid Hi2; clear Hi2
        go_wp2_with fail
        all_goals (have Hi2 := Hi.out; clear Hi)
        all_goals first | (exfalso; go_light; (try (simp only [Bool.and_eq_true, Bool.or_eq_true, Bool.and_eq_false_iff, Bool.or_eq_false_iff, decide_eq_true_eq, decide_eq_false_iff_not, bne_iff_ne, beq_iff_eq, ne_eq, bne_eq_false_iff_eq, beq_eq_false_iff_ne, Decidable.not_not, Bool.not_eq_true', Bool.not_eq_false'] at *)); omega) | skip
        all_goals
          go_round
          case rel =>
            go_light
            exact ⟨k + 1, by omega, by go_num, by omega, vint (by rw [show k + 1 - 1 = k from rfl, Hst.out]; try omega), vint (by rw [show k + 1 - 1 = k from rfl, Hm.out]; try omega)⟩
          case measure => (go_light; simp [intOf]; omega)
      · by_cases h1 : k ≤ x.size
        · have h2' : ¬ (k : Int) < 40 := by omega
          have h1' : (k : Int) ≤ x.size := by omega
          go_wp2_with fail
          refine (gawake_any _).mono ?_
          rintro e w1 ⟨rfl, hx1⟩
          go_wp2_with fail
          go_ret
          exact ⟨rfl, by (repeat' (first | exact Ext.refl _ | assumption | refine Ext.alloc ?_ _ | refine Ext.drew ?_ | refine Ext.drewN ?_ _ | refine Ext.trans ?_ (by assumption) | refine Ext.dr ?_ (by assumption)))⟩
        · have h1' : ¬ (k : Int) ≤ x.size := by omega
          go_wp2_with fail
          refine (gawake_any _).mono ?_
          rintro e w1 ⟨rfl, hx1⟩
          go_wp2_with fail
          go_ret
          exact ⟨rfl, by (repeat' (first | exact Ext.refl _ | assumption | refine Ext.alloc ?_ _ | refine Ext.drew ?_ | refine Ext.drewN ?_ _ | refine Ext.trans ?_ (by assumption) | refine Ext.dr ?_ (by assumption)))⟩
  · go_enter Try.func4, Try.ntmps4
    go_wp2_with fail
    have hX : (({ data := #[5] } : ByteArray) ++ str1 (count.tmod 9) ++ x).size ≤ 140737488351235 := by
      simp only [ByteArray.size_append', size_str1, ByteArray.size_mk']; simp; omega
    have hW : Ext w (w.alloc (Obj.cells #[Value.int IntKind.u8 (count.tmod 9)] 5)) := (Ext.refl w).alloc _
    generalize ({ data := #[5] } : ByteArray) ++ str1 (count.tmod 9) ++ x = y at *
    generalize w.alloc (Obj.cells #[Value.int IntKind.u8 (count.tmod 9)] 5) = w0 at *
    clear hs
    go_loop [8, 9, 10] (fun was many i => ∃ k : Nat, k ≤ 40 ∧ i = .int .i64 k ∧ (k ≤ y.size + 1) ∧ was = .int .i64 (gpre y (k - 1)).2 ∧ many = .int .i64 (gpre y (k - 1)).1) (fun _ _ i => 40 - (intOf i).toNat)
    case atStart => exact ⟨0, by omega, rfl, by omega, rfl, rfl⟩
    case round =>
      obtain ⟨k, hk, rfl, hk2, rfl, rfl⟩ := hrel
      by_cases hlt : k ≤ y.size ∧ k < 40
      · obtain ⟨h1, h2⟩ := hlt
        have h1' : (k : Int) ≤ y.size := by omega
        have h2' : (k : Int) < 40 := by omega
        have hg := gpre_eq y k h1
        have hi := ginc y k
        have hz := size_take y k h1
        have Hz := Lib.hid hz; clear hz
        have Hg := Lib.hid hg; clear hg
        generalize (gpre y (k - 1)).2 = was at *
        generalize (gpre y (k - 1)).1 = many at *
        have Hi := Lib.hid hi; clear hi
        go_wp2_with fail
        refine (gparse_any _ _ (by rw [Hz.out]; unfold maxLen; omega)).mono ?_
        rintro e w' ⟨rfl, rfl⟩
        rw [Hg.out]
        have Hi2 := Hi.out; clear Hi
        generalize hm : (gpre y k).1 = m2 at *
        generalize hst : (gpre y k).2 = st at *
        have Hm := Lib.hid hm; clear hm
        have Hst := Lib.hid hst; clear hst
        have Hi := Lib.hid Hi2; clear Hi2
        go_wp2_with fail
        all_goals (have Hi2 := Hi.out; clear Hi)
        all_goals first | (exfalso; go_light; (try (simp only [Bool.and_eq_true, Bool.or_eq_true, Bool.and_eq_false_iff, Bool.or_eq_false_iff, decide_eq_true_eq, decide_eq_false_iff_not, bne_iff_ne, beq_iff_eq, ne_eq, bne_eq_false_iff_eq, beq_eq_false_iff_ne, Decidable.not_not, Bool.not_eq_true', Bool.not_eq_false'] at *)); omega) | skip
        all_goals
          go_round
          case rel =>
            go_light
            exact ⟨k + 1, by omega, by go_num, by omega, vint (by rw [show k + 1 - 1 = k from rfl, Hst.out]; try omega), vint (by rw [show k + 1 - 1 = k from rfl, Hm.out]; try omega)⟩
          case measure => (go_light; simp [intOf]; omega)
      · by_cases h1 : k ≤ y.size
        · have h2' : ¬ (k : Int) < 40 := by omega
          have h1' : (k : Int) ≤ y.size := by omega
          go_wp2_with fail
          refine (gawake_any _).mono ?_
          rintro e w1 ⟨rfl, hx1⟩
          go_wp2_with fail
          go_ret
          exact ⟨rfl, by (repeat' (first | exact Ext.refl _ | assumption | refine Ext.alloc ?_ _ | refine Ext.drew ?_ | refine Ext.drewN ?_ _ | refine Ext.trans ?_ (by assumption) | refine Ext.dr ?_ (by assumption)))⟩
        · have h1' : ¬ (k : Int) ≤ y.size := by omega
          go_wp2_with fail
          refine (gawake_any _).mono ?_
          rintro e w1 ⟨rfl, hx1⟩
          go_wp2_with fail
          go_ret
          exact ⟨rfl, by (repeat' (first | exact Ext.refl _ | assumption | refine Ext.alloc ?_ _ | refine Ext.drew ?_ | refine Ext.drewN ?_ _ | refine Ext.trans ?_ (by assumption) | refine Ext.dr ?_ (by assumption)))⟩
end Go.Proofs.Ytkoinkpolpccbaa
