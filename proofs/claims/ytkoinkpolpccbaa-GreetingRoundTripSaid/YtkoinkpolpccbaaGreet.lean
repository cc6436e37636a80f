/-
  Contracts of the package greeting and of its reference.
-/
import Derived.Test.YtkoinkpolpccbaaProg
import Derived.Test.YtkoinkpolpccbaaBase
import Derived.Outline
import Derived.Test.YtkoinkpolpccbaaShelf
set_option linter.unusedSimpArgs false
set_option linter.unusedVariables false
namespace Go.Proofs.Ytkoinkpolpccbaa
open Go.RowKit

def gparse (s : ByteArray) : ByteArray × Int × Int :=
  if s.size = 0 then (⟨#[]⟩, 0, 0)
  else if B s 0 ≠ 5 then (⟨#[]⟩,0,2)
  else if s.size < 2 then (⟨#[]⟩,0,0)
  else if B s 1 = 0 then (⟨#[]⟩,0,2)
  else if (s.size : Int) < 2 + B s 1 then (⟨#[]⟩,0,0)
  else (s.extract 2 (2 + B s 1).toNat, 2 + B s 1, 1)

set_option maxHeartbeats 400000 in
theorem gparse_any (s : ByteArray) (w : World) (hs : s.size ≤ maxLen) :
    Calls Try.prog 15 #[.string s] w fun e w' => e = .returned (.tuple #[.string (gparse s).1, .int .i64 (gparse s).2.1, .int .i64 (gparse s).2.2]) ∧ w = w' := by
  replace hs := size_max hs
  have b1 := B_bd s 1
  go_enter Try.func15, Try.ntmps15
  go_wp2
  all_goals first | go_ret3 | skip
  all_goals go_light
  all_goals (simp only [decide_eq_true_eq, decide_eq_false_iff_not, bne_iff_ne, beq_iff_eq, ne_eq, bne_eq_false_iff_eq, beq_eq_false_iff_ne, Decidable.not_not, Bool.not_eq_true', Bool.not_eq_false'] at *)
  all_goals first | (exfalso; omega) | skip
  all_goals (refine ⟨?_, ?_⟩ <;> first | trivial | rfl | exact Dr.refl _ | exact Dr.mk _ _ | (unfold gparse; (repeat' split) <;> first | (exfalso; omega) | rfl))
  
set_option maxHeartbeats 400000 in
theorem gparseR_any (s : ByteArray) (w : World) (hs : s.size ≤ maxLen) :
    Calls Try.prog 47 #[.string s] w fun e w' => e = .returned (.tuple #[.string (gparse s).1, .int .i64 (gparse s).2.1, .int .i64 (gparse s).2.2]) ∧ Dr w w' := by
  replace hs := size_max hs
  have b1 := B_bd s 1
  go_enter Try.func47, Try.ntmps47
  go_wp2
  all_goals first | go_ret3 | (go_quiet (fail); go_wp2; go_ret3) | skip
  all_goals go_light
  all_goals (simp only [decide_eq_true_eq, decide_eq_false_iff_not, bne_iff_ne, beq_iff_eq, ne_eq, bne_eq_false_iff_eq, beq_eq_false_iff_ne, Decidable.not_not, Bool.not_eq_true', Bool.not_eq_false'] at *)
  all_goals first | (exfalso; omega) | skip
  all_goals (refine ⟨?_, ?_⟩ <;> first | trivial | rfl | exact Dr.refl _ | exact Dr.mk _ _ | (unfold gparse; (repeat' split) <;> first | (exfalso; omega) | rfl))


/-- the method that is selected -/
def gsel (s : ByteArray) (c : Int) : Int := if ∃ j, j < s.size ∧ B s j = c then c else 255
instance (s : ByteArray) (c : Int) : Decidable (∃ j, j < s.size ∧ B s j = c) := inferInstance

theorem indexByte_lt_iff : ∀ (l : List UInt8) (c : UInt8), Lib.indexByte l c < 0 ↔ ∀ j, j < l.length → l.getD j 0 ≠ c := by
  intro l
  induction l with
  | nil => intro c; simp [Lib.indexByte]
  | cons b l ih =>
    intro c
    have hge := Lib.indexByte_ge l c
    unfold Lib.indexByte
    by_cases hb : b == c
    · simp only [hb, if_true]
      constructor
      · intro h; omega
      · intro h; exact absurd (by simpa using hb) (h 0 (by simp))
    · simp only [hb]
      have hb' : b ≠ c := by simpa using hb
      have : (if false = true then (0 : Int) else if Lib.indexByte l c == -1 then -1 else Lib.indexByte l c + 1) < 0 ↔ Lib.indexByte l c < 0 := by
        by_cases h1 : Lib.indexByte l c = -1
        · simp [h1]
        · have : ¬ (Lib.indexByte l c == -1) = true := by simpa using h1
          simp [h1]; omega
      rw [this, ih c]
      constructor
      · intro h j hj
        rcases j with _ | j
        · simpa using hb'
        · simpa using h j (by simpa using hj)
      · intro h j hj
        simpa using h (j + 1) (by simpa using hj)

theorem gsel_lt {s : ByteArray} {c : Int} (h0 : 0 ≤ c) (h1 : c < 256) : Lib.indexByte s.data.toList (UInt8.ofNat c.toNat) < 0 ↔ ¬ ∃ j, j < s.size ∧ B s j = c := by
  rw [indexByte_lt_iff]
  have hl : s.size = s.data.toList.length := by cases s; rfl
  constructor
  · rintro h ⟨j, hj, e⟩
    refine h j (by omega) ?_
    unfold B at e
    apply UInt8.toNat_inj.1
    rw [UInt8.toNat_ofNat_of_lt' (by show _ < 256; omega)]
    omega
  · intro h j hj e
    refine h ⟨j, by omega, ?_⟩
    unfold B
    rw [e, UInt8.toNat_ofNat_of_lt' (by show _ < 256; omega)]
    omega

set_option maxHeartbeats 400000 in
theorem gsel_any (s : ByteArray) (c : Int) (w : World) (h0 : 0 ≤ c) (h1 : c < 256) :
    Calls Try.prog 22 #[.string s, .int .u8 c] w fun e w' => e = .returned (.int .u8 (gsel s c)) ∧ w = w' := by
  have hg := gsel_lt (s := s) h0 h1
  have Hg := Lib.hid hg; clear hg
  go_enter Try.func22, Try.ntmps22
  go_wp2_with fail
  refine (Try.strings_IndexByte _ _ _).mono ?_
  rintro e w' ⟨rfl, rfl⟩
  go_wp2_with fail
  all_goals go_ret
  · refine ⟨?_, rfl⟩
    unfold gsel; rw [if_neg (Hg.out.1 (by assumption))]; rfl
  · refine ⟨?_, rfl⟩
    unfold gsel
    by_cases h : ∃ j, j < s.size ∧ B s j = c
    · rw [if_pos h]; rfl
    · have := Hg.out.2 h; exfalso; omega

set_option maxHeartbeats 400000 in
theorem gselR_any (s : ByteArray) (c : Int) (w : World) (hs : s.size ≤ maxLen) :
    Calls Try.prog 23 #[.string s, .int .u8 c] w fun e w' => e = .returned (.int .u8 (gsel s c)) ∧ w = w' := by
  replace hs := size_max hs
  go_enter Try.func23, Try.ntmps23
  go_wp2_with fail
  go_loop [5] (fun i => ∃ k : Nat, k ≤ s.size ∧ i = .int .i64 k ∧ ∀ j, j < k → B s j ≠ c) (fun i => s.size - (intOf i).toNat)
  case atStart => exact ⟨0, Nat.zero_le _, rfl, fun j hj => by omega⟩
  case round =>
    obtain ⟨k, hk, rfl, hn⟩ := hrel
    have Hn := Lib.hid hn; clear hn
    by_cases hlt : k < s.size
    · by_cases he : B s k = c
      · have he' : (B s k == c) = true := by simpa using he
        have hgs : gsel s c = c := by unfold gsel; rw [if_pos ⟨k, hlt, he⟩]
        clear he
        go_wp2_with fail
        go_ret
        exact ⟨rfl, rfl⟩
      · have he' : (B s k == c) = false := by simpa using he
        go_wp2_with fail
        go_round
        case rel => exact ⟨k + 1, by omega, by go_num, fun j hj => by
          by_cases h : j = k
          · rw [h]; exact he
          · exact Hn.out j (by omega)⟩
        case measure => simp [intOf]; omega
    · have hgs : gsel s c = 255 := by
        unfold gsel; rw [if_neg]; rintro ⟨j, hj, e⟩; exact Hn.out j (by omega) e
      go_wp2_with fail
      go_ret
      exact ⟨rfl, rfl⟩

set_option maxHeartbeats 400000 in
theorem gmeth_any (c : Int) (w : World) :
    Calls Try.prog 24 #[.int .u8 c] w fun e w' => e = .returned (.string (str2 5 c)) ∧ Ext w w' := by
  go_enter Try.func24, Try.ntmps24
  go_wp2_with fail
  go_ret
  exact ⟨rfl, (Ext.refl _).alloc _⟩

set_option maxHeartbeats 400000 in
theorem gmethR_any (c : Int) (w : World) :
    Calls Try.prog 25 #[.int .u8 c] w fun e w' => e = .returned (.string (str2 5 c)) ∧ Ext w w' := by
  go_enter Try.func25, Try.ntmps25
  go_wp2_with fail
  go_ret
  exact ⟨rfl, (Ext.refl _).alloc _⟩

/-- the encoded greeting -/
def gencode (s : ByteArray) : ByteArray × Bool :=
  if s.size < 1 ∨ 255 < s.size then (⟨#[]⟩, false) else (str2 5 s.size ++ s, true)

set_option maxHeartbeats 400000 in
theorem gencode_any (s : ByteArray) (w : World) (hs : s.size ≤ maxLen) :
    Calls Try.prog 20 #[.string s] w fun e w' => e = .returned (.tuple #[.string (gencode s).1, .bool (gencode s).2]) ∧ Ext w w' := by
  replace hs := size_max hs
  go_enter Try.func20, Try.ntmps20
  go_wp2_with fail
  all_goals go_light
  all_goals first | (exfalso; omega) | skip
  all_goals go_ret2
  all_goals (refine ⟨?_, by (repeat' (first | exact Ext.refl _ | assumption | refine Ext.alloc ?_ _ | refine Ext.drew ?_ | refine Ext.drewN ?_ _ | refine Ext.trans ?_ (by assumption) | refine Ext.dr ?_ (by assumption)))⟩; unfold gencode; first | (rw [if_pos (by omega)]; rfl) | (rw [if_neg (by omega)]; rfl))

set_option maxHeartbeats 400000 in
theorem gencodeR_any (s : ByteArray) (w : World) (hs : s.size ≤ maxLen) :
    Calls Try.prog 21 #[.string s] w fun e w' => e = .returned (.tuple #[.string (gencode s).1, .bool (gencode s).2]) ∧ Ext w w' := by
  replace hs := size_max hs
  go_enter Try.func21, Try.ntmps21
  go_wp2_with fail
  all_goals go_light
  all_goals first | (exfalso; omega) | skip
  all_goals go_ret2
  all_goals (refine ⟨?_, by (repeat' (first | exact Ext.refl _ | assumption | refine Ext.alloc ?_ _ | refine Ext.drew ?_ | refine Ext.drewN ?_ _ | refine Ext.trans ?_ (by assumption) | refine Ext.dr ?_ (by assumption)))⟩; unfold gencode; first | (rw [if_pos (by omega)]; rfl) | (rw [if_neg (by omega)]; rfl))

theorem gp1 : gparse ⟨#[5,1,2,255]⟩ = (⟨#[2]⟩, 3, 1) := by decide +kernel
theorem gp2 : gparse ⟨#[5]⟩ = (⟨#[]⟩, 0, 0) := by decide +kernel
theorem gp3 : gparse ⟨#[5,0]⟩ = (⟨#[]⟩, 0, 2) := by decide +kernel
theorem gs1 : gsel ⟨#[0,2]⟩ 2 = 2 := by decide +kernel
theorem gm1 : str2 5 255 = ⟨#[5, 255]⟩ := by decide +kernel

set_option maxHeartbeats 400000 in
theorem gawake_any (w : World) :
    Calls Try.prog 13 #[] w fun e w' => e = .returned (.bool true) ∧ Ext w w' := by
  go_enter Try.func13, Try.ntmps13
  go_wp2_with fail
  refine (gparse_any _ _ (by decide)).mono ?_
  rintro e w' ⟨rfl, rfl⟩
  rw [gp1]
  go_wp2_with fail
  refine (gparse_any _ _ (by decide)).mono ?_
  rintro e w' ⟨rfl, rfl⟩
  rw [gp2]
  go_wp2_with fail
  refine (gparse_any _ _ (by decide)).mono ?_
  rintro e w' ⟨rfl, rfl⟩
  rw [gp3]
  go_wp2_with fail
  refine (gsel_any _ _ _ (by decide) (by decide)).mono ?_
  rintro e w' ⟨rfl, rfl⟩
  rw [gs1]
  go_wp2_with fail
  refine (gmeth_any _ _).mono ?_
  rintro e w1 ⟨rfl, hx⟩
  rw [gm1]
  go_wp2_with fail
  go_ret
  exact ⟨rfl, hx⟩

set_option maxHeartbeats 400000 in
theorem gagrees_any (s : ByteArray) (w : World) (hs : s.size ≤ maxLen) :
    Calls Try.prog 14 #[.string s] w fun e w' => e = .returned (.bool true) ∧ Ext w w' := by
  go_enter Try.func14, Try.ntmps14
  go_wp2_with fail
  refine (gparse_any _ _ hs).mono ?_
  rintro e w' ⟨rfl, rfl⟩
  go_wp2_with fail
  refine (gparseR_any _ _ hs).mono ?_
  rintro e w' ⟨rfl, n, rfl⟩
  go_wp2_with fail
  go_ret
  exact ⟨rfl, (Ext.refl _).drewN _⟩

set_option maxHeartbeats 400000 in
theorem GreetingParses_walk (s : ByteArray) (a : Option Addr) (n c : Nat) (x : ByteArray) (count cut : Int) (w : World) (hs : s.size ≤ 140737488351232) (hxn : x.size = n) (hx : x.size ≤ 140737488351232)
    {G : Prop} (_ : G) (hcv0 : ∀ w', Ext w w' → (convert 22 9 (.slice a n c)).run Try.prog w' = .ok (.string x) w') {G1 G2 : Prop} (_ : G1) (_ : G2) :
    Calls Try.prog 3 #[.string s, .slice a n c, .int .u8 count, .int .i64 cut] w fun e w' => e = .returned (.bool true) ∧ Ext w w' := by
  have hcv : ∀ o, (convert 22 9 (.slice a n c)).run Try.prog (w.alloc o) = .ok (.string x) (w.alloc o) := fun o => hcv0 _ ((Ext.refl w).alloc o)
  clear hcv0 hxn
  have hm := cut_bd cut (2 + x.size + s.size + 1) (by omega) (by omega)
  have hm1 : 0 ≤ wrap64 ((IntKind.u64.wrap cut).tmod (2 + x.size + s.size + 1)) := hm.1
  have hm2 : wrap64 ((IntKind.u64.wrap cut).tmod (2 + x.size + s.size + 1)) ≤ 2 + x.size + s.size := by omega
  clear hm
  go_enter Try.func3, Try.ntmps3
  go_wp2_with fail
  refine (gawake_any _).mono ?_
  rintro e w1 ⟨rfl, hx1⟩
  go_wp2_with fail
  refine (gagrees_any _ _ (by unfold maxLen; omega)).mono ?_
  rintro e w2 ⟨rfl, hx2⟩
  go_wp2_with fail
  refine (gagrees_any _ _ (by simp only [maxLen, ByteArray.size_append', size_str1, ByteArray.size_mk']; simp; omega)).mono ?_
  rintro e w3 ⟨rfl, hx3⟩
  go_wp2_with fail
  refine (gagrees_any _ _ ?_).mono ?_
  · refine Nat.le_trans (extract_le _ _ _) ?_
    simp only [maxLen, ByteArray.size_append', size_str1, ByteArray.size_mk']; simp; omega
  rintro e w4 ⟨rfl, hx4⟩
  go_wp2_with fail
  go_ret
  exact ⟨rfl, by (repeat' (first | exact Ext.refl _ | assumption | refine Ext.alloc ?_ _ | refine Ext.drew ?_ | refine Ext.drewN ?_ _ | refine Ext.trans ?_ (by assumption) | refine Ext.dr ?_ (by assumption)))⟩
end Go.Proofs.Ytkoinkpolpccbaa
