/-
  The laws on userpass: contracts of Encode, of awake and agrees, and the walks.
-/
import Derived.Test.YtkoinkpolpccbaaUser
set_option linter.unusedSimpArgs false
set_option linter.unusedVariables false
namespace Go.Proofs.Ytkoinkpolpccbaa
open Go.RowKit

def uencode (u p : ByteArray) : ByteArray × Bool :=
  if u.size < 1 ∨ 255 < u.size ∨ p.size < 1 ∨ 255 < p.size then (⟨#[]⟩, false) else (str2 1 u.size ++ u ++ str1 p.size ++ p, true)

theorem uencode_size (u p : ByteArray) : (uencode u p).1.size ≤ 513 := by
  unfold uencode
  split
  · exact Nat.zero_le _
  · dsimp only; rw [size_app, size_app, size_app, size_str2, size_str1]; omega

set_option maxHeartbeats 400000 in
theorem uvalid_any (s : ByteArray) (w : World) (hs : s.size ≤ maxLen) :
    Calls Try.prog 52 #[.string s] w fun e w' => e = .returned (.bool (decide (1 ≤ s.size ∧ s.size ≤ 255))) ∧ w = w' := by
  replace hs := size_max hs
  by_cases h1 : 1 ≤ s.size
  · have h1' : (1 : Int) ≤ s.size := by omega
    by_cases h2 : s.size ≤ 255
    · have h2' : (s.size : Int) ≤ 255 := by omega
      rw [decide_eq_true ⟨h1, h2⟩]
      go_enter Try.func52, Try.ntmps52
      go_wp2_with fail
      go_ret
      exact ⟨rfl, rfl⟩
    · have h2' : ¬ (s.size : Int) ≤ 255 := by omega
      rw [decide_eq_false (by omega)]
      go_enter Try.func52, Try.ntmps52
      go_wp2_with fail
      go_ret
      exact ⟨rfl, rfl⟩
  · have h1' : ¬ (1 : Int) ≤ s.size := by omega
    rw [decide_eq_false (by omega)]
    go_enter Try.func52, Try.ntmps52
    go_wp2_with fail
    go_ret
    exact ⟨rfl, rfl⟩

set_option maxHeartbeats 400000 in
theorem uencode_any (u p : ByteArray) (w : World) (hu : u.size ≤ maxLen) (hp : p.size ≤ maxLen) :
    Calls Try.prog 26 #[.string u, .string p] w fun e w' => e = .returned (.tuple #[.string (uencode u p).1, .bool (uencode u p).2]) ∧ Ext w w' := by
  have ku := fun w => uvalid_any u w hu
  have kp := fun w => uvalid_any p w hp
  replace hu := size_max hu
  replace hp := size_max hp
  by_cases h1 : 1 ≤ u.size ∧ u.size ≤ 255
  · by_cases h2 : 1 ≤ p.size ∧ p.size ≤ 255
    · have hr : uencode u p = (str2 1 u.size ++ u ++ str1 p.size ++ p, true) := by unfold uencode; rw [if_neg (by omega)]
      rw [hr]
      rw [decide_eq_true h1] at ku
      rw [decide_eq_true h2] at kp
      have Ku := Lib.hid ku; have Kp := Lib.hid kp
      have wu : IntKind.u8.wrap (u.size : Int) = u.size := IntWalk.u8_in _ (by omega)
      have wp : IntKind.u8.wrap (p.size : Int) = p.size := IntWalk.u8_in _ (by omega)
      clear ku kp hr
      obtain ⟨a1, a2⟩ := h1
      obtain ⟨b1, b2⟩ := h2
      go_enter Try.func26, Try.ntmps26
      go_wp2_with fail
      refine (Ku.out _).mono ?_
      rintro e w' ⟨rfl, rfl⟩
      go_wp2_with fail
      refine (Kp.out _).mono ?_
      rintro e w' ⟨rfl, rfl⟩
      go_wp2_with fail
      go_ret2
      exact ⟨rfl, by (repeat' (first | exact Ext.refl _ | assumption | refine Ext.alloc ?_ _ | refine Ext.drew ?_ | refine Ext.drewN ?_ _ | refine Ext.trans ?_ (by assumption) | refine Ext.dr ?_ (by assumption)))⟩
    · have hr : uencode u p = (⟨#[]⟩, false) := by unfold uencode; rw [if_pos (by omega)]
      rw [hr]
      rw [decide_eq_true h1] at ku
      rw [decide_eq_false h2] at kp
      have Ku := Lib.hid ku; have Kp := Lib.hid kp
      clear ku kp hr
      go_enter Try.func26, Try.ntmps26
      go_wp2_with fail
      refine (Ku.out _).mono ?_
      rintro e w' ⟨rfl, rfl⟩
      go_wp2_with fail
      refine (Kp.out _).mono ?_
      rintro e w' ⟨rfl, rfl⟩
      go_wp2_with fail
      go_ret2
      exact ⟨rfl, Ext.refl _⟩
  · have hr : uencode u p = (⟨#[]⟩, false) := by unfold uencode; rw [if_pos (by omega)]
    rw [hr]
    rw [decide_eq_false h1] at ku
    have Ku := Lib.hid ku
    clear ku kp hr
    go_enter Try.func26, Try.ntmps26
    go_wp2_with fail
    refine (Ku.out _).mono ?_
    rintro e w' ⟨rfl, rfl⟩
    go_wp2_with fail
    go_ret2
    exact ⟨rfl, Ext.refl _⟩

set_option maxHeartbeats 400000 in
theorem uencodeR_any (u p : ByteArray) (w : World) (hu : u.size ≤ maxLen) (hp : p.size ≤ maxLen) :
    Calls Try.prog 16 #[.string u, .string p] w fun e w' => e = .returned (.tuple #[.string (uencode u p).1, .bool (uencode u p).2]) ∧ Ext w w' := by
  replace hu := size_max hu
  replace hp := size_max hp
  go_enter Try.func16, Try.ntmps16
  go_wp2_with fail
  all_goals go_light
  all_goals go_ret2
  all_goals (refine ⟨?_, by (repeat' (first | exact Ext.refl _ | assumption | refine Ext.alloc ?_ _ | refine Ext.drew ?_ | refine Ext.drewN ?_ _ | refine Ext.trans ?_ (by assumption) | refine Ext.dr ?_ (by assumption)))⟩; unfold uencode; first | (rw [if_pos (by omega)]; rfl) | (rw [if_neg (by omega)]; rfl))

set_option maxHeartbeats 400000 in
theorem ureply_any (b : Bool) (w : World) :
    Calls Try.prog 48 #[.bool b] w fun e w' => e = .returned (.string (if b then ⟨#[1, 0]⟩ else ⟨#[1, 1]⟩)) ∧ w = w' := by
  cases b
  all_goals
    go_enter Try.func48, Try.ntmps48
    go_wp2_with fail
    go_ret
    exact ⟨rfl, rfl⟩

theorem up1 : uparse ⟨#[1, 1, 97, 1, 98]⟩ = (⟨#[97]⟩, ⟨#[98]⟩, 5, 1) := by decide +kernel
theorem up2 : uparse ⟨#[1, 1, 97]⟩ = (⟨#[]⟩, ⟨#[]⟩, 0, 0) := by decide +kernel
theorem up3 : uparse ⟨#[1, 1, 97, 0]⟩ = (⟨#[]⟩, ⟨#[]⟩, 0, 2) := by decide +kernel

set_option maxHeartbeats 400000 in
theorem uawake_any (w : World) :
    Calls Try.prog 17 #[] w fun e w' => e = .returned (.bool true) ∧ Ext w w' := by
  go_enter Try.func17, Try.ntmps17
  go_wp2_with fail
  refine (uparse_any _ _ (by decide)).mono ?_
  rintro e w' ⟨rfl, n1, rfl⟩
  rw [up1]
  go_wp2_with fail
  refine (uparse_any _ _ (by decide)).mono ?_
  rintro e w' ⟨rfl, n2, rfl⟩
  rw [up2]
  go_wp2_with fail
  refine (uparse_any _ _ (by decide)).mono ?_
  rintro e w' ⟨rfl, n3, rfl⟩
  rw [up3]
  go_wp2_with fail
  refine (ureply_any _ _).mono ?_
  rintro e w' ⟨rfl, rfl⟩
  go_wp2_with fail
  refine (ureply_any _ _).mono ?_
  rintro e w' ⟨rfl, rfl⟩
  go_wp2_with fail
  go_ret
  exact ⟨rfl, by (repeat' (first | exact Ext.refl _ | assumption | refine Ext.alloc ?_ _ | refine Ext.drew ?_ | refine Ext.drewN ?_ _ | refine Ext.trans ?_ (by assumption) | refine Ext.dr ?_ (by assumption)))⟩

set_option maxHeartbeats 400000 in
theorem uagrees_any (s : ByteArray) (w : World) (hs : s.size ≤ maxLen) :
    Calls Try.prog 18 #[.string s] w fun e w' => e = .returned (.bool true) ∧ Ext w w' := by
  go_enter Try.func18, Try.ntmps18
  go_wp2_with fail
  refine (uparse_any _ _ hs).mono ?_
  rintro e w' ⟨rfl, n, rfl⟩
  go_wp2_with fail
  refine (uparseR_any _ _ hs).mono ?_
  rintro e w' ⟨rfl, m, rfl⟩
  go_wp2_with fail
  go_ret
  exact ⟨rfl, by (repeat' (first | exact Ext.refl _ | assumption | refine Ext.alloc ?_ _ | refine Ext.drew ?_ | refine Ext.drewN ?_ _ | refine Ext.trans ?_ (by assumption) | refine Ext.dr ?_ (by assumption)))⟩

theorem cut_to (c k : Int) (h1 : 0 ≤ k) (h2 : k ≤ 9223372036854775806) : 0 ≤ wrap64 ((IntKind.u64.wrap c).tmod (k + 1)) ∧ wrap64 ((IntKind.u64.wrap c).tmod (k + 1)) ≤ k := by
  have := cut_bd c (k + 1) (by omega) (by omega); omega

set_option maxRecDepth 100000 in
set_option maxHeartbeats 1000000 in
theorem UserpassParses_walk (s : ByteArray) (a : Option Addr) (an ac : Nat) (x : ByteArray) (b : Option Addr) (bn bc : Nat) (y : ByteArray) (n m cut : Int) (w : World) (hs : s.size ≤ 140737488351232)
    (hxn : x.size = an) (hx : x.size ≤ 140737488351232) {G : Prop} (_ : G) (hcx : ∀ w', Ext w w' → (convert 22 9 (.slice a an ac)).run Try.prog w' = .ok (.string x) w')
    (hyn : y.size = bn) (hy : y.size ≤ 140737488351232) {G' : Prop} (_ : G') (hcy : ∀ w', Ext w w' → (convert 22 9 (.slice b bn bc)).run Try.prog w' = .ok (.string y) w') {G1 G2 G3 : Prop} (_ : G1) (_ : G2) (_ : G3) :
    Calls Try.prog 5 #[.string s, .slice a an ac, .slice b bn bc, .int .u8 n, .int .u8 m, .int .i64 cut] w fun e w' => e = .returned (.bool true) ∧ Ext w w' := by
  have hz := uencode_size x y
  have kcx := fun o => hcx (w.alloc o) ((Ext.refl w).alloc _)
  have kcx2 := fun o o' => hcx ((w.alloc o).alloc o') (((Ext.refl w).alloc _).alloc _)
  have kcy2 := fun o o' => hcy ((w.alloc o).alloc o') (((Ext.refl w).alloc _).alloc _)
  clear hcx hcy hxn hyn
  obtain ⟨m1, m2⟩ := cut_to cut (2 + x.size + 1 + y.size + s.size) (by omega) (by omega)
  go_enter Try.func5, Try.ntmps5
  go_wp2_with fail
  refine (uencodeR_any _ _ _ (by unfold maxLen; omega) (by unfold maxLen; omega)).mono ?_
  rintro e w1 ⟨rfl, hx1⟩
  generalize (uencode x y).2 = ok at *
  generalize (uencode x y).1 = u at *
  obtain ⟨m3, m4⟩ := cut_to cut (u.size + s.size) (by omega) (by omega)
  go_wp2_with fail
  refine (uawake_any _).mono ?_
  rintro e w2 ⟨rfl, hx2⟩
  go_wp2_with fail
  refine (uagrees_any _ _ (by unfold maxLen; omega)).mono ?_
  rintro e w3 ⟨rfl, hx3⟩
  go_wp2_with fail
  refine (uagrees_any _ _ (by simp only [maxLen, size_app, size_str1, ByteArray.size_mk']; simp; omega)).mono ?_
  rintro e w4 ⟨rfl, hx4⟩
  go_wp2_with fail
  refine (uagrees_any _ _ ?_).mono ?_
  · refine Nat.le_trans (extract_le _ _ _) ?_
    simp only [maxLen, size_app, size_str1, ByteArray.size_mk']; simp; omega
  rintro e w5 ⟨rfl, hx5⟩
  cases ok
  · go_wp2_with fail
    go_ret
    exact ⟨rfl, by (repeat' (first | exact Ext.refl _ | assumption | refine Ext.alloc ?_ _ | refine Ext.drew ?_ | refine Ext.drewN ?_ _ | refine Ext.trans ?_ (by assumption) | refine Ext.dr ?_ (by assumption)))⟩
  · go_wp2_with fail
    refine (uagrees_any _ _ (by simp only [maxLen, size_app]; omega)).mono ?_
    rintro e w6 ⟨rfl, hx6⟩
    go_wp2_with fail
    refine (uagrees_any _ _ ?_).mono ?_
    · refine Nat.le_trans (extract_le _ _ _) ?_
      simp only [maxLen, size_app]; omega
    rintro e w7 ⟨rfl, hx7⟩
    go_wp2_with fail
    go_ret
    exact ⟨rfl, by (repeat' (first | exact Ext.refl _ | assumption | refine Ext.alloc ?_ _ | refine Ext.drew ?_ | refine Ext.drewN ?_ _ | refine Ext.trans ?_ (by assumption) | refine Ext.dr ?_ (by assumption)))⟩
end Go.Proofs.Ytkoinkpolpccbaa
