/-
  The law GreetingRoundTrip: the walk and its plain law.
-/
import Derived.Test.YtkoinkpolpccbaaGreet
import Derived.Test.YtkoinkpolpccbaaLaw
set_option linter.unusedSimpArgs false
set_option linter.unusedVariables false
namespace Go.Proofs.Ytkoinkpolpccbaa
open Go.RowKit

theorem grt (m b : ByteArray) (h1 : 1 ≤ m.size) (h2 : m.size ≤ 255) : gparse (str2 5 m.size ++ m ++ b) = (m, 2 + (m.size : Int), 1) := by
  have z : (str2 5 m.size ++ m ++ b).size = 2 + m.size + b.size := by rw [size_app, size_app]; rfl
  have b0 : B (str2 5 m.size ++ m ++ b) 0 = 5 := by
    rw [B_append_left _ _ _ (by rw [size_app, size_str2]; omega), B_append_left _ _ _ (by rw [size_str2]; omega), B_str2_0 _ (by omega) (by omega)]
  have b1 : B (str2 5 m.size ++ m ++ b) 1 = m.size := by
    rw [B_append_left _ _ _ (by rw [size_app, size_str2]; omega), B_append_left _ _ _ (by rw [size_str2]; omega), B_str2_1 _ (by omega) (by omega)]
  unfold gparse
  rw [z, b0, b1, if_neg (by omega), if_neg (by omega), if_neg (by omega), if_neg (by omega), if_neg (by omega)]
  congr 1
  apply BA_ext
  rw [data_extract, data_append, data_append]
  have e : (str2 5 (m.size : Int)).data.toList.length = 2 := rfl
  have e2 : (2 + (m.size : Int)).toNat = 2 + m.data.toList.length := by rw [size_list]; omega
  rw [e2, List.append_assoc, ← e, List.take_append, List.drop_append]
  simp

/-- Encode, then Parse with something behind: what is known. -/
theorem grt_enc (m b : ByteArray) : (gencode m).2 = false ∨ ((gparse ((gencode m).1 ++ b)).1 = m ∧ (gparse ((gencode m).1 ++ b)).2.1 = (gencode m).1.size ∧ (gparse ((gencode m).1 ++ b)).2.2 = 1) := by
  unfold gencode
  split
  · exact .inl rfl
  · rename_i h
    right
    dsimp only
    rw [grt m b (by omega) (by omega)]
    refine ⟨rfl, ?_, rfl⟩
    rw [size_app, size_str2]; dsimp only; omega
theorem gencode_size (m : ByteArray) : (gencode m).1.size ≤ 257 := by
  unfold gencode
  split
  · show 0 ≤ 257; omega
  · dsimp only; rw [size_app, size_str2]; omega

set_option maxHeartbeats 1000000 in
theorem GreetingRoundTrip_walk (a : Option Addr) (n c : Nat) (x : ByteArray) (want : Int) (behind : ByteArray) (w : World) (hxn : x.size = n) (hs : x.size ≤ 140737488351232)
    {G : Prop} (_ : G) (hcv0 : ∀ w', Ext w w' → (convert 22 9 (.slice a n c)).run Try.prog w' = .ok (.string x) w') (hwant : (Lit.int .u8 want).wf = true) (hb : behind.size ≤ 140737488351232) :
    Calls Try.prog 7 #[.slice a n c, .int .u8 want, .string behind] w fun e w' => e = .returned (.bool true) ∧ Ext w w' := by
  have hcv : (convert 22 9 (.slice a n c)).run Try.prog w = .ok (.string x) w := hcv0 _ (Ext.refl w)
  have hw2 := toNat_wf hwant
  have hx : x.size ≤ maxLen := by unfold maxLen; omega
  have hrt := grt_enc x behind
  have hz := gencode_size x
  have Hrt := Lib.hid hrt
  clear hcv0 hxn hwant hrt
  go_enter Try.func7, Try.ntmps7
  go_wp2_with fail
  refine (gencode_any _ _ hx).mono ?_
  rintro e w1 ⟨rfl, hx1⟩
  go_wp2_with fail
  refine (gencodeR_any _ _ hx).mono ?_
  rintro e w2 ⟨rfl, hx2⟩
  go_wp2_with fail
  refine (gsel_any _ _ _ hw2.1 hw2.2).mono ?_
  rintro e w3 ⟨rfl, rfl⟩
  go_wp2_with fail
  refine (gselR_any _ _ _ hx).mono ?_
  rintro e w3 ⟨rfl, rfl⟩
  go_wp2_with fail
  refine (gmeth_any _ _).mono ?_
  rintro e w3 ⟨rfl, hx3⟩
  go_wp2_with fail
  refine (gmethR_any _ _).mono ?_
  rintro e w4 ⟨rfl, hx4⟩
  go_wp2_with fail
  refine (gparse_any _ _ (by unfold maxLen; rw [size_app]; omega)).mono ?_
  rintro e w5 ⟨rfl, rfl⟩
  go_wp2_with fail
  refine (gawake_any _).mono ?_
  rintro e w5 ⟨rfl, hx5⟩
  rcases Hrt.out with h | ⟨h1, h2, h3⟩
  · go_wp2_with fail
    go_ret
    exact ⟨rfl, by (repeat' (first | exact Ext.refl _ | assumption | refine Ext.alloc ?_ _ | refine Ext.drew ?_ | refine Ext.drewN ?_ _ | refine Ext.trans ?_ (by assumption) | refine Ext.dr ?_ (by assumption)))⟩
  · by_cases hk : (gencode x).2 = true
    · go_wp2_with fail
      go_ways
      all_goals go_ret
      exact ⟨rfl, by (repeat' (first | exact Ext.refl _ | assumption | refine Ext.alloc ?_ _ | refine Ext.drew ?_ | refine Ext.drewN ?_ _ | refine Ext.trans ?_ (by assumption) | refine Ext.dr ?_ (by assumption)))⟩
    · have hk : (gencode x).2 = false := by simpa using hk
      go_wp2_with fail
      go_ret
      exact ⟨rfl, by (repeat' (first | exact Ext.refl _ | assumption | refine Ext.alloc ?_ _ | refine Ext.drew ?_ | refine Ext.drewN ?_ _ | refine Ext.trans ?_ (by assumption) | refine Ext.dr ?_ (by assumption)))⟩
end Go.Proofs.Ytkoinkpolpccbaa
