/-
  Several texts joined: IpN, IpS.
-/
import Derived.Test.YtpdoddelnahlnaaGreatDoorProg
import Derived.Handy
import Derived.Test.YtpdoddelnahlnaaGreatDoorK02
import Derived.Laws.AppendOwn
import Derived.Laws.OwnMore
import Derived.WalkSmall
import Derived.Test.YtpdoddelnahlnaaGreatDoorK01
/-
  Contracts of the parsers of numbers: num.Parse, and the reference's ParseDecimal and parseGroup.
-/
set_option linter.unusedSimpArgs false
set_option linter.unusedVariables false
namespace Go.Proofs.YtpdoddelnahlnaaGreatDoor
open Go.RowKit

theorem pow9 {k : Nat} (h : k ≤ 9) : (10 : Int) ^ k ≤ 1000000000 := by
  obtain ⟨j, hj⟩ : ∃ j, 9 = k + j := ⟨9 - k, by omega⟩
  have e : (10 : Int) ^ 9 = 10 ^ k * 10 ^ j := by rw [hj, Int.pow_add]
  have e2 : (1 : Int) ≤ 10 ^ j := Int.pow_pos (by decide)
  have e3 : (0 : Int) ≤ 10 ^ k := Int.le_of_lt (Int.pow_pos (by decide))
  have e4 : (10 : Int) ^ k * 1 ≤ 10 ^ k * 10 ^ j := Int.mul_le_mul_of_nonneg_left e2 e3
  have e5 : (10 : Int) ^ 9 = 1000000000 := by decide
  omega
theorem u8_sub {x c : Int} (h0 : 0 ≤ x) (h1 : x < 256) (hc : c ≤ x) (c0 : 0 ≤ c) : IntKind.u8.wrap (x - c) = x - c := by
  have : ∀ n : Int, IntKind.u8.wrap n = n % 256 := fun n => by simp [IntKind.wrap, IntKind.bits, IntKind.signed]
  rw [this]; omega

theorem pow4 {k : Nat} (h : k ≤ 4) : (16 : Int) ^ k ≤ 65536 := by
  match k, h with
  | 0, _ => decide
  | 1, _ => decide
  | 2, _ => decide
  | 3, _ => decide
  | 4, _ => decide
theorem allHex_mono (s : ByteArray) : ∀ k j, j ≤ k → allHex s k = true → allHex s j = true
  | 0, j, hj, h => by obtain rfl : j = 0 := by omega
                      exact h
  | k + 1, j, hj, h => by
    by_cases e : j = k + 1
    · subst e; exact h
    · simp only [allHex, Bool.and_eq_true] at h
      exact allHex_mono s k j (by omega) h.1
set_option maxRecDepth 4000 in
set_option maxHeartbeats 1000000 in
theorem num_any (s : ByteArray) (lo hi : Int) (w : World) (hs : s.size ≤ maxLen) :
    Calls Tryz.prog 62 #[.string s, .int .i64 lo, .int .i64 hi] w fun e w' => e = .returned (.tuple #[.int .i64 (numP s lo hi).1, .bool (numP s lo hi).2]) ∧ w = w' := by
  replace hs := size_max hs
  have b0 := B_bd s 0
  go_enter Tryz.func62, Tryz.ntmps62
  by_cases h1 : (s.size : Int) < 1
  · have e : numP s lo hi = (0, false) := by unfold numP; rw [if_pos (by omega)]
    rw [e]; go_wp2; go_ret2; exact ⟨rfl, rfl⟩
  by_cases h2 : (9 : Int) < s.size
  · have e : numP s lo hi = (0, false) := by unfold numP; rw [if_pos (by omega)]
    rw [e]; go_wp2; go_ret2; exact ⟨rfl, rfl⟩
  by_cases h3 : 1 < s.size ∧ B s 0 = 48
  · have e : numP s lo hi = (0, false) := by unfold numP; rw [if_pos (by omega)]
    have h4 : (B s 0 == 48) = true := by simpa using h3.2
    have h5 := h3.1
    rw [e]; clear h3; go_wp2; go_ret2; exact ⟨rfl, rfl⟩
  have en : numP s lo hi = if allDig s s.size = false then (0, false) else if dval s s.size < lo ∨ hi < dval s s.size then (0, false) else (dval s s.size, true) := by unfold numP; rw [if_neg (by omega)]
  have EN := Lib.hid en; clear en
  by_cases h5 : (1 : Int) < s.size
  all_goals first | have h4 : (B s 0 == 48) = false := by (rw [beq_eq_false_iff_ne]; intro h; exact h3 ⟨by omega, h⟩) | skip
  all_goals clear h3
  all_goals go_wp2_with fail
  all_goals go_loop [8, 9, 29] (fun n i c => ∃ k : Nat, k ≤ s.size ∧ c = .int .i64 k ∧ n = .int .i64 (dval s k) ∧ allDig s k = true) (fun _ _ c => s.size - (intOf c).toNat)
  all_goals first | (case atStart => exact ⟨0, Nat.zero_le _, rfl, rfl, rfl⟩) | skip
  all_goals (
    case round =>
      obtain ⟨k, hk, rfl, rfl, hd⟩ := hrel
      have HD := Lib.hid hd; clear hd
      have hv := dval_bd s k HD.out
      have hp : (10 : Int) ^ k ≤ 1000000000 := pow9 (by omega)
      have hv1 : 0 ≤ dval s k := hv.1
      have hv2 : dval s k < 1000000000 := by omega
      clear hv hp
      have bk := B_bd s k
      by_cases hlt : k < s.size
      · by_cases hdg : 48 ≤ B s k ∧ B s k ≤ 57
        · have e8 := u8_sub bk.1 bk.2 hdg.1 (by decide)
          have hg1 := hdg.1
          have hg2 := hdg.2
          have HDG : Hid (dig (B s k) = true) := Lib.hid (by unfold dig; exact decide_eq_true hdg)
          clear hdg
          go_wp2_with fail
          go_round
          case rel => exact ⟨k + 1, by omega, by go_num, by rw [dval], by rw [allDig, HD.out, HDG.out]; rfl⟩
          case measure => simp [intOf]; omega
        · have e : numP s lo hi = (0, false) := by
            rw [EN.out, if_pos]
            cases h : allDig s s.size with
            | false => rfl
            | true =>
              have := allDig_mono s s.size (k + 1) (by omega) h
              simp only [allDig, dig, Bool.and_eq_true, decide_eq_true_eq] at this
              exact absurd this.2 hdg
          have E := Lib.hid e; clear e
          by_cases hg : B s k < 48
          · clear hdg; go_wp2_with fail; go_ret2; exact ⟨by rw [E.out]; rfl, rfl⟩
          · have hg2 : 57 < B s k := by omega
            clear hdg; go_wp2_with fail; go_ret2; exact ⟨by rw [E.out]; rfl, rfl⟩
      · obtain rfl : k = s.size := by omega
        have e : numP s lo hi = if dval s s.size < lo ∨ hi < dval s s.size then (0, false) else (dval s s.size, true) := by rw [EN.out, HD.out]; rfl
        by_cases hr : dval s s.size < lo ∨ hi < dval s s.size
        · rw [if_pos hr] at e; have E := Lib.hid e; clear e
          rcases hr with hr | hr
          · go_wp2_with fail; go_ret2; exact ⟨by rw [E.out]; rfl, rfl⟩
          · by_cases hr2 : dval s s.size < lo
            · go_wp2_with fail; go_ret2; exact ⟨by rw [E.out]; rfl, rfl⟩
            · go_wp2_with fail; go_ret2; exact ⟨by rw [E.out]; rfl, rfl⟩
        · rw [if_neg hr] at e; have E := Lib.hid e; clear e
          have hr1 : lo ≤ dval s s.size := by omega
          have hr2 : dval s s.size ≤ hi := by omega
          clear hr
          go_wp2_with fail; go_ret2; exact ⟨by rw [E.out]; rfl, rfl⟩)
set_option maxRecDepth 4000 in
set_option maxHeartbeats 1000000 in
theorem decP_any (s : ByteArray) (hi : Int) (w : World) (hs : s.size ≤ maxLen) :
    Calls Tryz.prog 63 #[.string s, .int .i64 hi] w fun e w' => e = .returned (.int .i64 (decP s hi)) ∧ w = w' := by
  replace hs := size_max hs
  have b0 := B_bd s 0
  go_enter Tryz.func63, Tryz.ntmps63
  by_cases h1 : (s.size : Int) < 1
  · have e : decP s hi = -1 := by unfold decP; rw [if_pos (by omega)]
    rw [e]; go_wp2; go_ret; exact ⟨rfl, rfl⟩
  by_cases h2 : (6 : Int) < s.size
  · have e : decP s hi = -1 := by unfold decP; rw [if_pos (by omega)]
    rw [e]; go_wp2; go_ret; exact ⟨rfl, rfl⟩
  by_cases h3 : 1 < s.size ∧ B s 0 = 48
  · have e : decP s hi = -1 := by unfold decP; rw [if_pos (by omega)]
    have h4 : (B s 0 == 48) = true := by simpa using h3.2
    have h5 := h3.1
    rw [e]; clear h3; go_wp2; go_ret; exact ⟨rfl, rfl⟩
  have en : decP s hi = if allDig s s.size = false then -1 else if hi < dval s s.size then -1 else dval s s.size := by unfold decP; rw [if_neg (by omega)]
  have EN := Lib.hid en; clear en
  by_cases h5 : (1 : Int) < s.size
  all_goals first | have h4 : (B s 0 == 48) = false := by (rw [beq_eq_false_iff_ne]; intro h; exact h3 ⟨by omega, h⟩) | skip
  all_goals clear h3
  all_goals go_wp2_with fail
  all_goals go_loop [5, 6] (fun n c => ∃ k : Nat, k ≤ s.size ∧ c = .int .i64 k ∧ n = .int .i64 (dval s k) ∧ allDig s k = true) (fun _ c => s.size - (intOf c).toNat)
  all_goals first | (case atStart => exact ⟨0, Nat.zero_le _, rfl, rfl, rfl⟩) | skip
  all_goals (
    case round =>
      obtain ⟨k, hk, rfl, rfl, hd⟩ := hrel
      have HD := Lib.hid hd; clear hd
      have hv := dval_bd s k HD.out
      have hp : (10 : Int) ^ k ≤ 1000000000 := pow9 (by omega)
      have hv1 : 0 ≤ dval s k := hv.1
      have hv2 : dval s k < 1000000000 := by omega
      clear hv hp
      have bk := B_bd s k
      by_cases hlt : k < s.size
      · by_cases hdg : 48 ≤ B s k ∧ B s k ≤ 57
        · have e8 := u8_sub bk.1 bk.2 hdg.1 (by decide)
          have hg1 := hdg.1
          have hg2 := hdg.2
          have HDG : Hid (dig (B s k) = true) := Lib.hid (by unfold dig; exact decide_eq_true hdg)
          clear hdg
          go_wp2_with fail
          go_round
          case rel => exact ⟨k + 1, by omega, by go_num, by rw [dval], by rw [allDig, HD.out, HDG.out]; rfl⟩
          case measure => simp [intOf]; omega
        · have e : decP s hi = -1 := by
            rw [EN.out, if_pos]
            cases h : allDig s s.size with
            | false => rfl
            | true =>
              have := allDig_mono s s.size (k + 1) (by omega) h
              simp only [allDig, dig, Bool.and_eq_true, decide_eq_true_eq] at this
              exact absurd this.2 hdg
          have E := Lib.hid e; clear e
          by_cases hg : B s k < 48
          · clear hdg; go_wp2_with fail; go_ret; exact ⟨by rw [E.out]; rfl, rfl⟩
          · have hg2 : 57 < B s k := by omega
            clear hdg; go_wp2_with fail; go_ret; exact ⟨by rw [E.out]; rfl, rfl⟩
      · obtain rfl : k = s.size := by omega
        have e : decP s hi = if hi < dval s s.size then -1 else dval s s.size := by rw [EN.out, HD.out]; rfl
        by_cases hr : hi < dval s s.size
        · rw [if_pos hr] at e; have E := Lib.hid e; clear e
          go_wp2_with fail; go_ret; exact ⟨by rw [E.out]; rfl, rfl⟩
        · rw [if_neg hr] at e; have E := Lib.hid e; clear e
          have hr2 : dval s s.size ≤ hi := by omega
          clear hr
          go_wp2_with fail; go_ret; exact ⟨by rw [E.out]; rfl, rfl⟩)
set_option maxRecDepth 4000 in
set_option maxHeartbeats 1000000 in
theorem hexg_any (s : ByteArray) (w : World) (hs : s.size ≤ maxLen) :
    Calls Tryz.prog 117 #[.string s] w fun e w' => e = .returned (.int .i64 (hexg s)) ∧ w = w' := by
  replace hs := size_max hs
  go_enter Tryz.func117, Tryz.ntmps117
  by_cases h1 : (s.size : Int) < 1
  · have e : hexg s = -1 := by unfold hexg; rw [if_pos (by omega)]
    rw [e]; go_wp2; go_ret; exact ⟨rfl, rfl⟩
  by_cases h2 : (4 : Int) < s.size
  · have e : hexg s = -1 := by unfold hexg; rw [if_pos (by omega)]
    rw [e]; go_wp2; go_ret; exact ⟨rfl, rfl⟩
  have en : hexg s = if allHex s s.size = false then -1 else hval s s.size := by unfold hexg; rw [if_neg (by omega)]
  have EN := Lib.hid en; clear en
  go_wp2_with fail
  go_loop [3, 4, 5] (fun n c x => ∃ k : Nat, k ≤ s.size ∧ c = .int .i64 k ∧ n = .int .i64 (hval s k) ∧ allHex s k = true) (fun _ c _ => s.size - (intOf c).toNat)
  case atStart => exact ⟨0, Nat.zero_le _, rfl, rfl, rfl⟩
  case round =>
    obtain ⟨k, hk, rfl, rfl, hd⟩ := hrel
    have HD := Lib.hid hd; clear hd
    have hv := hval_bd s k HD.out
    have hp : (16 : Int) ^ k ≤ 65536 := pow4 (by omega)
    have hv1 : 0 ≤ hval s k := hv.1
    have hv2 : hval s k < 65536 := by omega
    clear hv hp
    have bk := B_bd s k
    by_cases hlt : k < s.size
    · by_cases hd1 : 48 ≤ B s k ∧ B s k ≤ 57
      · have e8 := u8_sub bk.1 bk.2 hd1.1 (by decide)
        have hg1 := hd1.1
        have hg2 := hd1.2
        have HX : Hid (hexd (B s k) = B s k - 48) := Lib.hid (by unfold hexd; rw [if_pos hd1])
        clear hd1
        go_wp2_with fail
        go_round
        case rel => exact ⟨k + 1, by omega, by go_num, by rw [hval, HX.out], by rw [allHex, HD.out, HX.out]; simp; omega⟩
        case measure => simp [intOf]; omega
      by_cases hd2 : 97 ≤ B s k ∧ B s k ≤ 102
      · have e8 := u8_sub bk.1 bk.2 hd2.1 (by decide)
        have hg1 := hd2.1
        have hg2 := hd2.2
        have HX : Hid (hexd (B s k) = B s k - 87) := Lib.hid (by unfold hexd; rw [if_neg hd1, if_pos hd2])
        clear hd1 hd2
        go_wp2_with fail
        go_round
        case rel => exact ⟨k + 1, by omega, by go_num, by rw [hval, HX.out]; congr 1; omega, by rw [allHex, HD.out, HX.out]; simp; omega⟩
        case measure => simp [intOf]; omega
      by_cases hd3 : 65 ≤ B s k ∧ B s k ≤ 70
      · have e8 := u8_sub bk.1 bk.2 hd3.1 (by decide)
        have hg1 := hd3.1
        have hg2 := hd3.2
        have HX : Hid (hexd (B s k) = B s k - 55) := Lib.hid (by unfold hexd; rw [if_neg hd1, if_neg hd2, if_pos hd3])
        clear hd1 hd2 hd3
        go_wp2_with fail
        all_goals go_round
        case rel => exact ⟨k + 1, by omega, by go_num, by rw [hval, HX.out]; congr 1; omega, by rw [allHex, HD.out, HX.out]; simp; omega⟩
        case measure => simp [intOf]; omega
      have e : hexg s = -1 := by
        rw [EN.out, if_pos]
        cases h : allHex s s.size with
        | false => rfl
        | true =>
          have := allHex_mono s s.size (k + 1) (by omega) h
          simp only [allHex, Bool.and_eq_true, decide_eq_true_eq] at this
          have h4 : hexd (B s k) = -1 := by unfold hexd; rw [if_neg hd1, if_neg hd2, if_neg hd3]
          omega
      have E := Lib.hid e; clear e
      by_cases q1 : B s k < 48
      · clear hd1 hd2 hd3; go_wp2_with fail; go_ret; exact ⟨by rw [E.out]; rfl, rfl⟩
      by_cases q2 : B s k < 65
      · have q3 : 57 < B s k := by omega
        clear hd1 hd2 hd3; go_wp2_with fail; go_ret; exact ⟨by rw [E.out]; rfl, rfl⟩
      by_cases q4 : B s k < 97
      · have q5 : 70 < B s k := by omega
        clear hd1 hd2 hd3; go_wp2_with fail; go_ret; exact ⟨by rw [E.out]; rfl, rfl⟩
      · have q5 : 102 < B s k := by omega
        clear hd1 hd2 hd3; go_wp2_with fail; go_ret; exact ⟨by rw [E.out]; rfl, rfl⟩
    · obtain rfl : k = s.size := by omega
      have e : hexg s = hval s s.size := by rw [EN.out, HD.out]; rfl
      have E := Lib.hid e; clear e
      go_wp2_with fail; go_ret; exact ⟨by rw [E.out]; rfl, rfl⟩
end Go.Proofs.YtpdoddelnahlnaaGreatDoor
/-
  Contract of the reference's Split.
-/
set_option linter.unusedSimpArgs false
set_option linter.unusedVariables false
namespace Go.Proofs.YtpdoddelnahlnaaGreatDoor
open Go.RowKit

theorem splitc_at (c : UInt8) (l : List UInt8) (f k : Nat) (hf : f ≤ k) (hk : k < l.length) (hn : ∀ j, f ≤ j → j < k → l.getD j 0 ≠ c) (hc : l.getD k 0 = c) :
    splitc c (l.drop f) = (l.drop f).take (k - f) :: splitc c (l.drop (k + 1)) := by
  have e : l.drop f = (l.drop f).take (k - f) ++ c :: l.drop (k + 1) := by
    rw [List.getD_eq_getElem?_getD, List.getElem?_eq_getElem hk, Option.getD_some] at hc
    rw [← hc, ← List.drop_eq_getElem_cons hk]
    have : l.drop k = (l.drop f).drop (k - f) := by rw [List.drop_drop]; congr 1; omega
    rw [this, List.take_append_drop]
  conv => lhs; rw [e]
  refine splitc_hit _ fun x hx e => ?_
  obtain ⟨j, hj, e2⟩ := List.mem_iff_getElem.1 hx
  rw [List.getElem_take, List.getElem_drop] at e2
  simp at hj
  refine hn (f + j) (by omega) (by omega) ?_
  rw [List.getD_eq_getElem?_getD, List.getElem?_eq_getElem (by omega), Option.getD_some, e2, e]
theorem splitc_end (c : UInt8) (l : List UInt8) (f : Nat) (hn : ∀ j, f ≤ j → j < l.length → l.getD j 0 ≠ c) : splitc c (l.drop f) = [l.drop f] := by
  refine splitc_none fun x hx e => ?_
  obtain ⟨j, hj, e2⟩ := List.mem_iff_getElem.1 hx
  rw [List.getElem_drop] at e2
  simp at hj
  refine hn (f + j) (by omega) (by omega) ?_
  rw [List.getD_eq_getElem?_getD, List.getElem?_eq_getElem (by omega), Option.getD_some, e2, e]
theorem B_is {s : ByteArray} {k : Nat} {c : UInt8} : B s k = (c.toNat : Int) ↔ s.data.toList.getD k 0 = c := by
  unfold B
  constructor
  · intro h; exact UInt8.toNat_inj.1 (by omega)
  · intro h; rw [h]
theorem infoS : (Tryz.prog.info? 9).map (fun i => (i.zero, i.size, i.bytes)) = some (some (.string ByteArray.empty), 1, 16) := by kernel_rfl

set_option maxRecDepth 4000 in
set_option maxHeartbeats 1000000 in
theorem rSplit_any (s : ByteArray) (c : UInt8) (w : World) (hs : s.size < 4294967281) :
    Calls Tryz.prog 64 #[.string s, .int .u8 c.toNat] w fun e w' => ∃ v, e = .returned v ∧ w'.ownsRow w.heap.size 9 1 v (parts c s).length ((parts c s).map Value.string) ∧ Ext w w' := by
  obtain ⟨i0, hi, hz0, hz1, hz2⟩ := info_parts infoS
  have HI := Lib.hid hi; have HZ0 := Lib.hid hz0; have HZ1 := Lib.hid hz1; have HZ2 := Lib.hid hz2
  clear hi hz0 hz1 hz2
  go_enter Tryz.func64, Tryz.ntmps64
  go_wp2_with fail
  go_loopw [5, 6, 7] (fun v f i wr => ∃ (k m : Nat) (ps : List ByteArray), k ≤ s.size ∧ m ≤ k ∧ ps.length ≤ m ∧ i = .int .i64 k ∧ f = .int .i64 m ∧ wr.ownsRow w.heap.size 9 1 v ps.length (ps.map Value.string) ∧ Ext w wr ∧
    parts c s = ps ++ parts c (s.extract m s.size) ∧ ∀ j, m ≤ j → j < k → B s j ≠ (c.toNat : Int)) (fun _ _ i _ => s.size - (intOf i).toNat)
  case atStart => exact ⟨0, 0, [], Nat.zero_le _, Nat.le_refl _, Nat.le_refl _, rfl, rfl, World.ownsRow_nil _ _ _ _, Ext.refl _, by rw [List.nil_append]; congr 1; exact BA_ext (by rw [data_extract, List.drop_zero, List.take_of_length_le (by rw [size_list]; exact Nat.le_refl _)]), fun j h1 h2 => by omega⟩
  case round =>
    obtain ⟨k, m, ps, hk, hm, hpl, rfl, rfl, hown, hx, hp, hn⟩ := hrel
    have hsz := hx.size
    have Hp := Lib.hid hp; have Hn := Lib.hid hn; clear hp hn
    have hml : (m : Int) ≤ s.size := by omega
    by_cases hlt : k < s.size
    · have hlt' : (k : Int) < s.size := by omega
      by_cases he : B s k = (c.toNat : Int)
      · have he' : (B s k == (c.toNat : Int)) = true := by rw [beq_iff_eq]; exact he
        have HE := Lib.hid he; clear he
        have Hx := Lib.hid hx; clear hx
        go_wp2_with (at_builtin; refine wpList_append_own _ rfl _ _ 39 rfl w.heap.size 9 i0 (.string ByteArray.empty) 1 16 Tryz.underlying39 HI.out HZ0.out HZ1.out HZ2.out rfl (by decide) _ _ _ rfl (hown.alloc _) ⟨wr.heap.size, 0, none⟩ 1 1 [.string (s.extract m k)] rfl rfl ?c1 ?c2 ?c3 ?c4 ?c5 ?_)
        first
          | (case c1 =>
              intro j u hj
              have B1 := Blk.new wr #[Value.string (s.extract m k)] 9
              have e1 : (⟨wr.heap.size, 0, none⟩ : Addr).add j = ⟨wr.heap.size, j, none⟩ := by unfold Addr.add; split <;> simp_all
              rw [e1]
              exact B1.cell hj)
          | skip
        case c2 => simp [Value.oneCell']
        case c3 => unfold maxLen; omega
        case c4 => omega
        case c5 => first | omega | (rw [World.size_alloc]; omega) | (simp; omega)
        intro v' w1 hown' hgrow _
        have Ho' := Lib.hid hown'; clear hown'
        have Hg := Lib.hid hgrow; clear hgrow
        have hlt2 := hown.lt
        have Hl := Lib.hid hlt2; clear hlt2
        have Ho := Lib.hid hown; clear hown
        go_wp2_with fail
        go_roundw
        case rel =>
          refine ⟨k + 1, k + 1, ps ++ [s.extract m k], by omega, by omega, by simp; omega, by go_num, by go_num, ?_, ?_, ?_, fun j h1 h2 => by omega⟩
          · rw [List.length_append, List.map_append]; exact Ho'.out
          · exact Ext.grown (Hx.out.alloc _) Hg.out (fun g hg => (Hl.out g hg).1)
          · rw [Hp.out, List.append_assoc]; congr 1
            have hl := size_list s
            have := splitc_at c s.data.toList m k hm (by omega) (fun j h1 h2 e => Hn.out j h1 h2 (B_is.2 e)) (B_is.1 HE.out)
            unfold parts
            rw [data_extract, data_extract, List.take_of_length_le (by omega), this]
            simp only [List.map_cons, List.singleton_append]
            congr 1
            exact BA_ext (by rw [data_extract, List.drop_take])
        case measure => simp [intOf]; omega
      · have he' : (B s k == (c.toNat : Int)) = false := by rw [beq_eq_false_iff_ne]; exact he
        have HE := Lib.hid he; clear he
        have Hx := Lib.hid hx; clear hx
        have Ho := Lib.hid hown; clear hown
        go_wp2_with fail
        go_roundw
        case rel => exact ⟨k + 1, m, ps, by omega, by omega, hpl, by go_num, rfl, Ho.out, Hx.out, Hp.out, fun j h1 h2 => by
          by_cases h : j = k
          · subst h; exact HE.out
          · exact Hn.out j h1 (by omega)⟩
        case measure => simp [intOf]; omega
    · obtain rfl : k = s.size := by omega
      have hlt' : ¬ ((s.size : Nat) : Int) < s.size := by omega
      have Hx := Lib.hid hx; clear hx
      go_wp2_with (at_builtin; refine wpList_append_own _ rfl _ _ 39 rfl w.heap.size 9 i0 (.string ByteArray.empty) 1 16 Tryz.underlying39 HI.out HZ0.out HZ1.out HZ2.out rfl (by decide) _ _ _ rfl (hown.alloc _) ⟨wr.heap.size, 0, none⟩ 1 1 [.string (s.extract m s.size)] rfl rfl ?c1 ?c2 ?c3 ?c4 ?c5 ?_)
      first
        | (case c1 =>
            intro j u hj
            have B1 := Blk.new wr #[Value.string (s.extract m s.size)] 9
            have e1 : (⟨wr.heap.size, 0, none⟩ : Addr).add j = ⟨wr.heap.size, j, none⟩ := by unfold Addr.add; split <;> simp_all
            rw [e1]
            exact B1.cell hj)
        | skip
      case c2 => simp [Value.oneCell']
      case c3 => unfold maxLen; omega
      case c4 => omega
      case c5 => first | omega | (rw [World.size_alloc]; omega) | (simp; omega)
      intro v' w1 hown' hgrow _
      have Ho' := Lib.hid hown'; clear hown'
      have Hg := Lib.hid hgrow; clear hgrow
      have hlt2 := hown.lt
      have Hl := Lib.hid hlt2; clear hlt2
      have Ho := Lib.hid hown; clear hown
      go_wp2_with fail
      go_ret
      have e : parts c s = ps ++ [s.extract m s.size] := by
        rw [Hp.out]; congr 1
        have hl := size_list s
        have := splitc_end c s.data.toList m (fun j h1 h2 e => Hn.out j h1 (by omega) (B_is.2 e))
        unfold parts
        rw [data_extract, List.take_of_length_le (by omega), this]
        simp only [List.map_cons, List.map_nil]
        congr 1
        exact BA_ext (by rw [data_extract, List.take_of_length_le (by omega)])
      refine ⟨_, rfl, ?_, Ext.grown (Hx.out.alloc _) Hg.out (fun g hg => (Hl.out g hg).1)⟩
      rw [e, List.length_append, List.map_append]; exact Ho'.out
end Go.Proofs.YtpdoddelnahlnaaGreatDoor
