/-
  The law UserpassRoundTrip: the walk and its plain law.
-/
import Derived.Test.YtkoinkpolpccbaaUserL
import Derived.Outline
import Derived.RegionTactic
import Derived.BigRegion
set_option linter.unusedSimpArgs false
set_option linter.unusedVariables false
namespace Go.Proofs.Ytkoinkpolpccbaa
open Go.RowKit

def strLen : Value → Nat
  | .string s => s.size
  | _ => 0
theorem extract_mid (a b c : ByteArray) (i j : Nat) (hi : i = a.size) (hj : j = a.size + b.size) : (a ++ b ++ c).extract i j = b := by
  apply BA_ext
  rw [data_extract, data_append, data_append, hi, hj, size_list, size_list, List.append_assoc, List.take_append, List.drop_append]
  simp

theorem urt (u p b : ByteArray) (h1 : 1 ≤ u.size) (h2 : u.size ≤ 255) (h3 : 1 ≤ p.size) (h4 : p.size ≤ 255) :
    uparse (str2 1 u.size ++ u ++ str1 p.size ++ p ++ b) = (u, p, 3 + (u.size : Int) + (p.size : Int), 1) := by
  have z : (str2 1 u.size ++ u ++ str1 p.size ++ p ++ b).size = 3 + u.size + p.size + b.size := by simp only [size_app, size_str1, size_str2]; omega
  have b0 : B (str2 1 u.size ++ u ++ str1 p.size ++ p ++ b) 0 = 1 := by
    rw [B_append_left, B_append_left, B_append_left, B_append_left, B_str2_0 _ (by omega) (by omega)] <;> simp only [size_app, size_str1, size_str2] <;> omega
  have b1 : B (str2 1 u.size ++ u ++ str1 p.size ++ p ++ b) 1 = u.size := by
    rw [B_append_left, B_append_left, B_append_left, B_append_left, B_str2_1 _ (by omega) (by omega)] <;> simp only [size_app, size_str1, size_str2] <;> omega
  have b2 : B (str2 1 u.size ++ u ++ str1 p.size ++ p ++ b) (2 + (u.size : Int)).toNat = p.size := by
    rw [B_append_left, B_append_left, B_append_right] <;> simp only [size_app, size_str1, size_str2]
    · rw [show (2 + (u.size : Int)).toNat - (2 + u.size) = 0 from by omega, B_str1 (by omega) (by omega)]
    all_goals omega
  unfold uparse
  rw [z, b0, b1, b2, if_neg (by omega), if_neg (by omega), if_neg (by omega), if_neg (by omega), if_neg (by omega), if_neg (by omega), if_neg (by omega)]
  have e1 : (str2 1 u.size ++ u ++ str1 p.size ++ p ++ b).extract 2 (2 + (u.size : Int)).toNat = u := by
    rw [show str2 1 u.size ++ u ++ str1 p.size ++ p ++ b = str2 1 u.size ++ u ++ (str1 p.size ++ p ++ b) from by simp only [ByteArray.append_assoc]]
    exact extract_mid _ _ _ _ _ (by rw [size_str2]) (by rw [size_str2]; omega)
  have e2 : (str2 1 u.size ++ u ++ str1 p.size ++ p ++ b).extract (3 + (u.size : Int)).toNat (3 + (u.size : Int) + (p.size : Int)).toNat = p :=
    extract_mid _ _ _ _ _ (by simp only [size_app, size_str1, size_str2]; omega) (by simp only [size_app, size_str1, size_str2]; omega)
  rw [e1, e2]

theorem urt_enc (u p b : ByteArray) : (uencode u p).2 = false ∨ ((uparse ((uencode u p).1 ++ b)).1 = u ∧ (uparse ((uencode u p).1 ++ b)).2.1 = p ∧ (uparse ((uencode u p).1 ++ b)).2.2.1 = (uencode u p).1.size ∧ (uparse ((uencode u p).1 ++ b)).2.2.2 = 1) := by
  unfold uencode
  split
  · exact .inl rfl
  · rename_i h
    right
    dsimp only
    rw [urt u p b (by omega) (by omega) (by omega) (by omega)]
    refine ⟨rfl, rfl, ?_, rfl⟩
    simp only [size_app, size_str1, size_str2]; omega

set_option maxRecDepth 100000 in
set_option maxHeartbeats 2000000 in
theorem UserpassRoundTrip_walk (a : Option Addr) (an ac : Nat) (x : ByteArray) (b : Option Addr) (bn bc : Nat) (y : ByteArray) (s : ByteArray) (long : Bool) (w : World)
    (hxn : x.size = an) (hx : x.size ≤ 140737488351232) {G : Prop} (_ : G) (hcx : ∀ w', Ext w w' → (convert 22 9 (.slice a an ac)).run Try.prog w' = .ok (.string x) w')
    (hyn : y.size = bn) (hy : y.size ≤ 140737488351232) {G' : Prop} (_ : G') (hcy : ∀ w', Ext w w' → (convert 22 9 (.slice b bn bc)).run Try.prog w' = .ok (.string y) w') (hs : s.size ≤ 140737488351232) :
    Calls Try.prog 8 #[.slice a an ac, .slice b bn bc, .string s, .bool long] w fun e w' => e = .returned (.bool true) ∧ Ext w w' := by
  have kcx := hcx w (Ext.refl w)
  have kcy := hcy w (Ext.refl w)
  have kcx1 := hcx w.drew (Ext.refl w).drew
  have kcy1 := hcy w.drew (Ext.refl w).drew
  clear hcx hcy hxn hyn
  cases long
  · go_enter Try.func8, Try.ntmps8
    go_wp2_with fail
    go_region
    go_wp2_with fail
    have hX : x.size ≤ 140737488351242 := by omega
    clear hx
    have hrt := urt_enc x y s
    have hz := uencode_size x y
    have Hrt := Lib.hid hrt; clear hrt
    refine (uencode_any _ _ _ (by unfold maxLen; omega) (by unfold maxLen; omega)).mono ?_
    rintro e w1 ⟨rfl, hx1⟩
    go_wp2_with fail
    refine (uencodeR_any _ _ _ (by unfold maxLen; omega) (by unfold maxLen; omega)).mono ?_
    rintro e w2 ⟨rfl, hx2⟩
    go_wp2_with fail
    refine (uparse_any _ _ (by unfold maxLen; rw [size_app]; omega)).mono ?_
    rintro e w' ⟨rfl, nd, rfl⟩
    generalize uparse ((uencode x y).1 ++ s) = r at *
    obtain ⟨r1, r2, r3, r4⟩ := r
    generalize (uencode x y).2 = ok at *
    generalize (uencode x y).1 = en at *
    dsimp only at *
    go_wp2_with fail
    refine (uawake_any _).mono ?_
    rintro e w4 ⟨rfl, hx4⟩
    cases ok
    · go_wp2_with fail
      go_ret
      exact ⟨rfl, by (repeat' (first | exact Ext.refl _ | assumption | refine Ext.alloc ?_ _ | refine Ext.drew ?_ | refine Ext.drewN ?_ _ | refine Ext.trans ?_ (by assumption) | refine Ext.dr ?_ (by assumption)))⟩
    · rcases Hrt.out with h | ⟨h1, h2, h3, h4⟩
      · cases h
      · subst h1 h2 h3 h4
        go_wp2_with fail
        go_ret
        exact ⟨rfl, by (repeat' (first | exact Ext.refl _ | assumption | refine Ext.alloc ?_ _ | refine Ext.drew ?_ | refine Ext.drewN ?_ _ | refine Ext.trans ?_ (by assumption) | refine Ext.dr ?_ (by assumption)))⟩
  · go_enter Try.func8, Try.ntmps8
    go_wp2_with fail
    go_region
    go_wp2_with fail
    go_loop [9] (fun v => ∃ u : ByteArray, v = .string u ∧ u.size ≤ 140737488351242) (fun v => 250 - strLen v)
    case atStart => exact ⟨x, rfl, by omega⟩
    case round =>
      obtain ⟨u, rfl, hX⟩ := hrel
      by_cases hlt : u.size < 250
      · have hlt' : (u.size : Int) < 250 := by omega
        have h6 : ¬ 9223372036854775807 < u.size + 6 := by omega
        go_wp2_with fail
        go_round
        case rel => exact ⟨_, rfl, by rw [size_app]; show u.size + 6 ≤ _; omega⟩
        case measure => simp only [strLen]; rw [size_app]; show 250 - (u.size + 6) < _; omega
      · have hlt' : ¬ (u.size : Int) < 250 := by omega
        go_wp2_with fail
        have hrt := urt_enc u y s
        have hz := uencode_size u y
        have Hrt := Lib.hid hrt; clear hrt
        refine (uencode_any _ _ _ (by unfold maxLen; omega) (by unfold maxLen; omega)).mono ?_
        rintro e w1 ⟨rfl, hx1⟩
        go_wp2_with fail
        refine (uencodeR_any _ _ _ (by unfold maxLen; omega) (by unfold maxLen; omega)).mono ?_
        rintro e w2 ⟨rfl, hx2⟩
        go_wp2_with fail
        refine (uparse_any _ _ (by unfold maxLen; rw [size_app]; omega)).mono ?_
        rintro e w' ⟨rfl, nd, rfl⟩
        generalize uparse ((uencode u y).1 ++ s) = r at *
        obtain ⟨r1, r2, r3, r4⟩ := r
        generalize (uencode u y).2 = ok at *
        generalize (uencode u y).1 = en at *
        dsimp only at *
        go_wp2_with fail
        refine (uawake_any _).mono ?_
        rintro e w4 ⟨rfl, hx4⟩
        cases ok
        · go_wp2_with fail
          go_ret
          exact ⟨rfl, by (repeat' (first | exact Ext.refl _ | assumption | refine Ext.alloc ?_ _ | refine Ext.drew ?_ | refine Ext.drewN ?_ _ | refine Ext.trans ?_ (by assumption) | refine Ext.dr ?_ (by assumption)))⟩
        · rcases Hrt.out with h | ⟨h1, h2, h3, h4⟩
          · cases h
          · subst h1 h2 h3 h4
            go_wp2_with fail
            go_ret
            exact ⟨rfl, by (repeat' (first | exact Ext.refl _ | assumption | refine Ext.alloc ?_ _ | refine Ext.drew ?_ | refine Ext.drewN ?_ _ | refine Ext.trans ?_ (by assumption) | refine Ext.dr ?_ (by assumption)))⟩
end Go.Proofs.Ytkoinkpolpccbaa
