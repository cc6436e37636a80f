/-
  Several texts joined: HcC.
-/
import Derived.Test.YtpdoddelnahlnaaGreatDoorK07
/-
  The trimming of values, the two ways.
-/
set_option linter.unusedSimpArgs false
set_option linter.unusedVariables false
namespace Go.Proofs.YtpdoddelnahlnaaGreatDoor
open Go.RowKit
def wsL : List UInt8 := [32, 9]
def wsp (c : UInt8) : Bool := wsL.contains c
def trimB (s : ByteArray) : ByteArray := ⟨(Lib.trimS s.data.toList wsL).toArray⟩
theorem trimR_cons (p : UInt8 → Bool) (x : UInt8) (l : List UInt8) : ((x :: l).reverse.dropWhile p).reverse = if (l.reverse.dropWhile p).reverse = [] then (if p x = true then [] else [x]) else x :: (l.reverse.dropWhile p).reverse := by
  rw [List.reverse_cons, List.dropWhile_append]
  by_cases h : (l.reverse.dropWhile p) = []
  · rw [h]
    simp only [List.isEmpty_nil, if_true, List.reverse_nil]
    rw [List.dropWhile_cons, List.dropWhile_nil]
    split <;> rfl
  · have h2 : ¬ (l.reverse.dropWhile p).reverse = [] := fun e => h (by simpa using e)
    rw [if_neg h2, if_neg (by simpa using h), List.reverse_append]; rfl
theorem trim_swap (p : UInt8 → Bool) : ∀ l : List UInt8, ((l.dropWhile p).reverse.dropWhile p).reverse = ((l.reverse.dropWhile p).reverse).dropWhile p
  | [] => rfl
  | x :: l => by
    have ih := trim_swap p l
    rw [trimR_cons]
    cases hx : p x
    · rw [List.dropWhile_cons, if_neg (by rw [hx]; simp), trimR_cons, hx]
      simp only [Bool.false_eq_true, if_false]
      split
      · rw [List.dropWhile_cons, if_neg (by rw [hx]; simp)]
      · rw [List.dropWhile_cons, if_neg (by rw [hx]; simp)]
    · rw [List.dropWhile_cons, if_pos hx, ih]
      simp only [if_true]
      split
      · rename_i h; rw [h]
      · rw [List.dropWhile_cons, if_pos hx]
theorem trimB_two (s : ByteArray) : (trimB s).data.toList = Lib.trimRightS (Lib.trimLeftS s.data.toList wsL) wsL := by
  show Lib.trimS s.data.toList wsL = _
  unfold Lib.trimS Lib.trimLeftS Lib.trimRightS
  exact (trim_swap (wsL.contains ·) _).symm
theorem wsp_B {c : UInt8} : wsL.contains c = true ↔ ((c.toNat : Int) = 32 ∨ (c.toNat : Int) = 9) := by
  unfold wsL
  simp only [List.contains_eq_mem, List.mem_cons, List.not_mem_nil, or_false, decide_eq_true_eq]
  constructor
  · rintro (h | h) <;> subst h <;> decide
  · rintro (h | h)
    · exact .inl (UInt8.toNat_inj.1 (by show _ = 32; omega))
    · exact .inr (UInt8.toNat_inj.1 (by show _ = 9; omega))
theorem first_B {z : ByteArray} (h : 1 ≤ z.size) : ∃ c l, z.data.toList = c :: l ∧ B z 0 = (c.toNat : Int) ∧ (z.extract 1 z.size).data.toList = l := by
  have hl := size_list z
  cases hz : z.data.toList with
  | nil => rw [hz] at hl; have : z.size = 0 := hl; omega
  | cons c l =>
    refine ⟨c, l, rfl, by unfold B; rw [hz]; rfl, ?_⟩
    rw [data_extract, List.take_of_length_le (by omega), hz]; rfl
theorem tl_step {z : ByteArray} (h : 1 ≤ z.size) (hw : B z 0 = 32 ∨ B z 0 = 9) : Lib.trimLeftS z.data.toList wsL = Lib.trimLeftS (z.extract 1 z.size).data.toList wsL := by
  obtain ⟨c, l, h1, h2, h3⟩ := first_B h
  rw [h1, h3]
  unfold Lib.trimLeftS
  rw [List.dropWhile_cons, if_pos (wsp_B.2 (by rw [← h2]; exact hw))]
theorem tl_stop {z : ByteArray} (h : z.size = 0 ∨ ¬ (B z 0 = 32 ∨ B z 0 = 9)) : Lib.trimLeftS z.data.toList wsL = z.data.toList := by
  rcases Nat.eq_zero_or_pos z.size with h0 | h0
  · have e : z.data.toList = [] := List.eq_nil_of_length_eq_zero (by rw [← size_list]; exact h0)
    rw [e]; rfl
  · obtain ⟨c, l, h1, h2, h3⟩ := first_B h0
    rw [h1]
    unfold Lib.trimLeftS
    rw [List.dropWhile_cons, if_neg (fun q => ?_)]
    have := wsp_B.1 q
    rw [← h2] at this
    rcases h with h | h
    · omega
    · exact h this
theorem last_B {z : ByteArray} (h : 1 ≤ z.size) : ∃ c, z.data.toList = (z.extract 0 (z.size - 1)).data.toList ++ [c] ∧ B z (z.size - 1) = (c.toNat : Int) := by
  have hl := size_list z
  have hk : z.size - 1 < z.data.toList.length := by omega
  refine ⟨z.data.toList[z.size - 1], ?_, by unfold B; rw [List.getD_eq_getElem?_getD, List.getElem?_eq_getElem hk]; rfl⟩
  rw [data_extract, List.drop_zero]
  have h3 := List.take_append_drop (z.size - 1) z.data.toList
  rw [List.drop_eq_getElem_cons hk, List.drop_of_length_le (by omega)] at h3
  exact h3.symm
theorem tr_step {z : ByteArray} (h : 1 ≤ z.size) (hw : B z (z.size - 1) = 32 ∨ B z (z.size - 1) = 9) : Lib.trimRightS z.data.toList wsL = Lib.trimRightS (z.extract 0 (z.size - 1)).data.toList wsL := by
  obtain ⟨c, h1, h2⟩ := last_B h
  rw [h1]
  unfold Lib.trimRightS
  rw [List.reverse_append, List.reverse_singleton, List.singleton_append]
  rw [List.dropWhile_cons, if_pos (wsp_B.2 (by rw [← h2]; exact hw))]
theorem tr_stop {z : ByteArray} (h : z.size = 0 ∨ ¬ (B z (z.size - 1) = 32 ∨ B z (z.size - 1) = 9)) : Lib.trimRightS z.data.toList wsL = z.data.toList := by
  rcases Nat.eq_zero_or_pos z.size with h0 | h0
  · have e : z.data.toList = [] := List.eq_nil_of_length_eq_zero (by rw [← size_list]; exact h0)
    rw [e]; rfl
  · obtain ⟨c, h1, h2⟩ := last_B h0
    rw [h1]
    unfold Lib.trimRightS
    rw [List.reverse_append, List.reverse_singleton, List.singleton_append]
    rw [List.dropWhile_cons, if_neg (fun q => ?_), List.reverse_cons, List.reverse_reverse]
    have := wsp_B.1 q
    rw [← h2] at this
    rcases h with h | h
    · omega
    · exact h this
theorem trim_ws_any (s : ByteArray) (hs : s.size ≤ maxLen) (w : World) : Calls Tryz.prog 65 #[.string s, .string ⟨#[32, 9]⟩] w fun e w' => e = .returned (.string (trimB s)) ∧ Ext w w' :=
  trim_cs s ⟨#[32, 9]⟩ hs (by decide) (by decide) w
def strLen8 : Value → Nat
  | .string z => z.size
  | _ => 0
theorem trimB_size (s : ByteArray) : (trimB s).size ≤ s.size := by
  rw [size_list, trimB_two, size_list]
  unfold Lib.trimRightS Lib.trimLeftS
  rw [List.length_reverse]
  refine Nat.le_trans (List.dropWhile_sublist _).length_le ?_
  rw [List.length_reverse]
  exact (List.dropWhile_sublist _).length_le
set_option maxRecDepth 4000 in
set_option maxHeartbeats 1000000 in
theorem rtrim_any (s : ByteArray) (hs : s.size ≤ maxLen) (w : World) : Calls Tryz.prog 130 #[.string s] w fun e w' => e = .returned (.string (trimB s)) ∧ w = w' := by
  have H2 := Lib.hid (trimB_two s)
  replace hs := size_max hs
  go_enter Tryz.func130, Tryz.ntmps130
  go_wp2_with fail
  go_loop [0] (fun zs => ∃ z : ByteArray, z.size ≤ s.size ∧ zs = .string z ∧ Lib.trimLeftS s.data.toList wsL = Lib.trimLeftS z.data.toList wsL) (fun zs => strLen8 zs)
  case atStart => exact ⟨s, Nat.le_refl _, rfl, rfl⟩
  case round =>
    obtain ⟨z, hz, rfl, hr⟩ := hrel
    have HR := Lib.hid hr
    clear hr
    have b0 := B_bd z 0
    by_cases h0 : (z.size : Int) < 1
    · have HL : Hid (Lib.trimLeftS s.data.toList wsL = z.data.toList) := Lib.hid (by rw [HR.out, tl_stop (.inl (by omega))])
      have h0' : ¬ (0 : Int) < z.size := by omega
      have hd0 : decide ((0 : Int) < z.size) = false := decide_eq_false h0'
      clear h0
      go_wp2_with fail
      go_loop [0] (fun zs => ∃ y : ByteArray, y.size ≤ z.size ∧ zs = .string y ∧ Lib.trimRightS z.data.toList wsL = Lib.trimRightS y.data.toList wsL) (fun zs => strLen8 zs)
      case atStart => exact ⟨z, Nat.le_refl _, rfl, rfl⟩
      clear b0 hd0 h0'
      case round =>
        obtain ⟨y, hy, rfl, hr⟩ := hrel
        have HRY := Lib.hid hr
        clear hr
        have b0 := B_bd y (y.size - 1)
        have hj : ((y.size : Int) - 1).toNat = y.size - 1 := by omega
        have hez : (y.extract 0 (y.size - 1)).size = y.size - 1 := by rw [ByteArray.size_extract]; omega
        by_cases h0 : (y.size : Int) < 1
        · have E : Hid (trimB s = y) := Lib.hid (BA_ext (by rw [H2.out, HL.out, HRY.out, tr_stop (.inl (by omega))]))
          have h0' : ¬ (0 : Int) < y.size := by omega
          have hd0 : decide ((0 : Int) < y.size) = false := decide_eq_false h0'
          clear h0
          go_wp2_with fail
          all_goals (go_ret; exact ⟨by rw [E.out]; rfl, rfl⟩)
        · have h0' : (0 : Int) < y.size := by omega
          have hd0 : decide ((0 : Int) < y.size) = true := decide_eq_true h0'
          have hz1 : (1 : Int) ≤ y.size := by omega
          have hz2 : (0 : Int) ≤ (y.size : Int) - 1 := by omega
          have hz3 : (y.size : Int) - 1 ≤ y.size := by omega
          by_cases h32 : B y (y.size - 1) = 32
          · have HS : Hid (Lib.trimRightS z.data.toList wsL = Lib.trimRightS (y.extract 0 (y.size - 1)).data.toList wsL) := Lib.hid (by rw [HRY.out, tr_step (by omega) (.inl h32)])
            have hb : (B y (y.size - 1) == 32) = true := by rw [beq_iff_eq]; exact h32
            clear h0 h32
            go_wp2_with fail
            all_goals (
              go_round
              case rel => exact ⟨_, by rw [hez]; omega, rfl, HS.out⟩
              case measure => simp [strLen8, hez] <;> omega)
          · have hb : (B y (y.size - 1) == 32) = false := by rw [beq_eq_false_iff_ne]; exact h32
            by_cases h9 : B y (y.size - 1) = 9
            · have HS : Hid (Lib.trimRightS z.data.toList wsL = Lib.trimRightS (y.extract 0 (y.size - 1)).data.toList wsL) := Lib.hid (by rw [HRY.out, tr_step (by omega) (.inr h9)])
              have hb2 : (B y (y.size - 1) == 9) = true := by rw [beq_iff_eq]; exact h9
              clear h0 h32 h9
              go_wp2_with fail
              all_goals (
                go_round
                case rel => exact ⟨_, by rw [hez]; omega, rfl, HS.out⟩
                case measure => simp [strLen8, hez] <;> omega)
            · have hb2 : (B y (y.size - 1) == 9) = false := by rw [beq_eq_false_iff_ne]; exact h9
              have E : Hid (trimB s = y) := Lib.hid (BA_ext (by rw [H2.out, HL.out, HRY.out, tr_stop (.inr (by omega))]))
              clear h0 h32 h9
              go_wp2_with fail
              all_goals (go_ret; exact ⟨by rw [E.out]; rfl, rfl⟩)
    · have h0' : (0 : Int) < z.size := by omega
      have hd0 : decide ((0 : Int) < z.size) = true := decide_eq_true h0'
      by_cases h32 : B z 0 = 32
      · have HS : Hid (Lib.trimLeftS s.data.toList wsL = Lib.trimLeftS (z.extract 1 z.size).data.toList wsL) := Lib.hid (by rw [HR.out, tl_step (by omega) (.inl h32)])
        have hb : (B z 0 == 32) = true := by rw [beq_iff_eq]; exact h32
        have hez : (z.extract 1 z.size).size = z.size - 1 := by rw [ByteArray.size_extract]; omega
        have hz1 : (1 : Int) ≤ z.size := by omega
        clear h0 h32
        go_wp2_with fail
        go_round
        case rel => exact ⟨_, by rw [hez]; omega, rfl, HS.out⟩
        case measure => simp [strLen8, hez] <;> omega
      · have hb : (B z 0 == 32) = false := by rw [beq_eq_false_iff_ne]; exact h32
        by_cases h9 : B z 0 = 9
        · have HS : Hid (Lib.trimLeftS s.data.toList wsL = Lib.trimLeftS (z.extract 1 z.size).data.toList wsL) := Lib.hid (by rw [HR.out, tl_step (by omega) (.inr h9)])
          have hb2 : (B z 0 == 9) = true := by rw [beq_iff_eq]; exact h9
          have hez : (z.extract 1 z.size).size = z.size - 1 := by rw [ByteArray.size_extract]; omega
          have hz1 : (1 : Int) ≤ z.size := by omega
          clear h0 h32 h9
          go_wp2_with fail
          go_round
          case rel => exact ⟨_, by rw [hez]; omega, rfl, HS.out⟩
          case measure => simp [strLen8, hez] <;> omega
        · have hb2 : (B z 0 == 9) = false := by rw [beq_eq_false_iff_ne]; exact h9
          have HL : Hid (Lib.trimLeftS s.data.toList wsL = z.data.toList) := Lib.hid (by rw [HR.out, tl_stop (.inr (by omega))])
          clear h0 h32 h9
          go_wp2_with fail
          go_loop [0] (fun zs => ∃ y : ByteArray, y.size ≤ z.size ∧ zs = .string y ∧ Lib.trimRightS z.data.toList wsL = Lib.trimRightS y.data.toList wsL) (fun zs => strLen8 zs)
          case atStart => exact ⟨z, Nat.le_refl _, rfl, rfl⟩
          clear b0 hd0 h0'
          case round =>
            obtain ⟨y, hy, rfl, hr⟩ := hrel
            have HRY := Lib.hid hr
            clear hr
            have b0 := B_bd y (y.size - 1)
            have hj : ((y.size : Int) - 1).toNat = y.size - 1 := by omega
            have hez : (y.extract 0 (y.size - 1)).size = y.size - 1 := by rw [ByteArray.size_extract]; omega
            by_cases h0 : (y.size : Int) < 1
            · have E : Hid (trimB s = y) := Lib.hid (BA_ext (by rw [H2.out, HL.out, HRY.out, tr_stop (.inl (by omega))]))
              have h0' : ¬ (0 : Int) < y.size := by omega
              have hd0 : decide ((0 : Int) < y.size) = false := decide_eq_false h0'
              clear h0
              go_wp2_with fail
              all_goals (go_ret; exact ⟨by rw [E.out]; rfl, rfl⟩)
            · have h0' : (0 : Int) < y.size := by omega
              have hd0 : decide ((0 : Int) < y.size) = true := decide_eq_true h0'
              have hz1 : (1 : Int) ≤ y.size := by omega
              have hz2 : (0 : Int) ≤ (y.size : Int) - 1 := by omega
              have hz3 : (y.size : Int) - 1 ≤ y.size := by omega
              by_cases h32 : B y (y.size - 1) = 32
              · have HS : Hid (Lib.trimRightS z.data.toList wsL = Lib.trimRightS (y.extract 0 (y.size - 1)).data.toList wsL) := Lib.hid (by rw [HRY.out, tr_step (by omega) (.inl h32)])
                have hb : (B y (y.size - 1) == 32) = true := by rw [beq_iff_eq]; exact h32
                clear h0 h32
                go_wp2_with fail
                all_goals (
                  go_round
                  case rel => exact ⟨_, by rw [hez]; omega, rfl, HS.out⟩
                  case measure => simp [strLen8, hez] <;> omega)
              · have hb : (B y (y.size - 1) == 32) = false := by rw [beq_eq_false_iff_ne]; exact h32
                by_cases h9 : B y (y.size - 1) = 9
                · have HS : Hid (Lib.trimRightS z.data.toList wsL = Lib.trimRightS (y.extract 0 (y.size - 1)).data.toList wsL) := Lib.hid (by rw [HRY.out, tr_step (by omega) (.inr h9)])
                  have hb2 : (B y (y.size - 1) == 9) = true := by rw [beq_iff_eq]; exact h9
                  clear h0 h32 h9
                  go_wp2_with fail
                  all_goals (
                    go_round
                    case rel => exact ⟨_, by rw [hez]; omega, rfl, HS.out⟩
                    case measure => simp [strLen8, hez] <;> omega)
                · have hb2 : (B y (y.size - 1) == 9) = false := by rw [beq_eq_false_iff_ne]; exact h9
                  have E : Hid (trimB s = y) := Lib.hid (BA_ext (by rw [H2.out, HL.out, HRY.out, tr_stop (.inr (by omega))]))
                  clear h0 h32 h9
                  go_wp2_with fail
                  all_goals (go_ret; exact ⟨by rw [E.out]; rfl, rfl⟩)
end Go.Proofs.YtpdoddelnahlnaaGreatDoor
