/-
  Several texts joined: IpN, IpS, IpQ.
-/
import Derived.Test.YtnohnnjeabehjaaGreatDoorProg
import Derived.Handy
import Derived.Test.YtnohnnjeabehjaaGreatDoorK02
import Derived.Laws.AppendOwn
import Derived.Laws.OwnMore
import Derived.WalkSmall
import Derived.Test.YtnohnnjeabehjaaGreatDoorK01
import Derived.Lib.SmallJoins
import Derived.Test.YtnohnnjeabehjaaGreatDoorK03
set_option maxHeartbeats 1000000
set_option maxRecDepth 4000
set_option linter.unusedVariables false
set_option linter.unusedSimpArgs false
namespace Go.Proofs.YtnohnnjeabehjaaGreatDoor
open Go.RowKit
theorem pow9 {k : Nat} (h : k <= 9) : (10 : Int) ^ k <= 1000000000 := by
 obtain ⟨j, hj⟩ : ∃ j, 9 = k + j := ⟨9 - k, by omega⟩
 have e : (10 : Int) ^ 9 = 10 ^ k * 10 ^ j := by rw [hj, Int.pow_add]
 have e2 : (1 : Int) <= 10 ^ j := Int.pow_pos (by decide)
 have e3 : (0 : Int) <= 10 ^ k := Int.le_of_lt (Int.pow_pos (by decide))
 have e4 : (10 : Int) ^ k * 1 <= 10 ^ k * 10 ^ j := Int.mul_le_mul_of_nonneg_left e2 e3
 have e5 : (10 : Int) ^ 9 = 1000000000 := by decide
 omega
theorem u8_sub {x c : Int} (h0 : 0 <= x) (h1 : x < 256) (hc : c <= x) (c0 : 0 <= c) : IntKind.u8.wrap (x - c) = x - c := by
 have : ∀ n : Int, IntKind.u8.wrap n = n % 256 := fun n => by simp [IntKind.wrap, IntKind.bits, IntKind.signed]
 rw [this]; omega
theorem pow4 {k : Nat} (h : k <= 4) : (16 : Int) ^ k <= 65536 := by
 match k, h with
 | 0, _ => decide
 | 1, _ => decide
 | 2, _ => decide
 | 3, _ => decide
 | 4, _ => decide
theorem allHex_mono (s : ByteArray) : ∀ k j, j <= k -> allHex s k = true -> allHex s j = true
 | 0, j, hj, h => by obtain rfl : j = 0 := by omega
                     exact h
 | k + 1, j, hj, h => by
  by_cases e : j = k + 1
  ·subst e; exact h
  ·simp only [allHex, Bool.and_eq_true] at h
   exact allHex_mono s k j (by omega) h.1
theorem num_any (s : ByteArray) (lo hi : Int) (w : World) (hs : s.size <= maxLen) :
  Calls Tryz.prog 214 #[.string s, .int .i64 lo, .int .i64 hi] w fun e w' => e = .returned (.tuple #[.int .i64 (numP s lo hi).1, .bool (numP s lo hi).2]) /\ w = w' := by
 replace hs := size_max hs
 have b0 := B_bd s 0
 go_enter Tryz.func214, Tryz.ntmps214
 by_cases h1 : (s.size : Int) < 1
 ·have e : numP s lo hi = (0, false) := by unfold numP; rw [if_pos (by omega)]
  rw [e]; go_wp2; go_ret2; exact ⟨rfl, rfl⟩
 by_cases h2 : (9 : Int) < s.size
 ·have e : numP s lo hi = (0, false) := by unfold numP; rw [if_pos (by omega)]
  rw [e]; go_wp2; go_ret2; exact ⟨rfl, rfl⟩
 by_cases h3 : 1 < s.size /\ B s 0 = 48
 ·have e : numP s lo hi = (0, false) := by unfold numP; rw [if_pos (by omega)]
  have h4 : (B s 0 == 48) = true := by simpa using h3.2
  have h5 := h3.1
  rw [e]; clear h3; go_wp2; go_ret2; exact ⟨rfl, rfl⟩
 have en : numP s lo hi = if allDig s s.size = false then (0, false) else if dval s s.size < lo ∨ hi < dval s s.size then (0, false) else (dval s s.size, true) := by unfold numP; rw [if_neg (by omega)]
 have EN := Lib.hid en; clear en
 by_cases h5 : (1 : Int) < s.size
 all_goals first | have h4 : (B s 0 == 48) = false := by (rw [beq_eq_false_iff_ne]; intro h; exact h3 ⟨by omega, h⟩) | skip
 all_goals clear h3
 all_goals go_wp2_with fail
 all_goals go_loop [8, 9, 29] (fun n i c => ∃ k : Nat, k <= s.size /\ c = .int .i64 k /\ n = .int .i64 (dval s k) /\ allDig s k = true) (fun _ _ c => s.size - (intOf c).toNat)
 all_goals first | (case atStart => exact ⟨0, Nat.zero_le _, rfl, rfl, rfl⟩) | skip
 all_goals (
  case round =>
   obtain ⟨k, hk, rfl, rfl, hd⟩ := hrel
   have HD := Lib.hid hd; clear hd
   have hv := dval_bd s k HD.out
   have hp : (10 : Int) ^ k <= 1000000000 := pow9 (by omega)
   have hv1 : 0 <= dval s k := hv.1
   have hv2 : dval s k < 1000000000 := by omega
   clear hv hp
   have bk := B_bd s k
   by_cases hlt : k < s.size
   ·by_cases hdg : 48 <= B s k /\ B s k <= 57
    ·have e8 := u8_sub bk.1 bk.2 hdg.1 (by decide)
     have hg1 := hdg.1
     have hg2 := hdg.2
     have HDG : Hid (dig (B s k) = true) := Lib.hid (by unfold dig; exact decide_eq_true hdg)
     clear hdg
     go_wp2_with fail
     go_round
     case rel => exact ⟨k + 1, by omega, by go_num, by rw [dval], by rw [allDig, HD.out, HDG.out]; rfl⟩
     case measure => simp [intOf]; omega
    ·have e : numP s lo hi = (0, false) := by
      rw [EN.out, if_pos]
      cases h : allDig s s.size with
      | false => rfl
      | true =>
       have := allDig_mono s s.size (k + 1) (by omega) h
       simp only [allDig, dig, Bool.and_eq_true, decide_eq_true_eq] at this
       exact absurd this.2 hdg
     have E := Lib.hid e; clear e
     by_cases hg : B s k < 48
     ·clear hdg; go_wp2_with fail; go_ret2; exact ⟨by rw [E.out]; rfl, rfl⟩
     ·have hg2 : 57 < B s k := by omega
      clear hdg; go_wp2_with fail; go_ret2; exact ⟨by rw [E.out]; rfl, rfl⟩
   ·obtain rfl : k = s.size := by omega
    have e : numP s lo hi = if dval s s.size < lo ∨ hi < dval s s.size then (0, false) else (dval s s.size, true) := by rw [EN.out, HD.out]; rfl
    by_cases hr : dval s s.size < lo ∨ hi < dval s s.size
    ·rw [if_pos hr] at e; have E := Lib.hid e; clear e
     rcases hr with hr | hr
     ·go_wp2_with fail; go_ret2; exact ⟨by rw [E.out]; rfl, rfl⟩
     ·by_cases hr2 : dval s s.size < lo
      ·go_wp2_with fail; go_ret2; exact ⟨by rw [E.out]; rfl, rfl⟩
      ·go_wp2_with fail; go_ret2; exact ⟨by rw [E.out]; rfl, rfl⟩
    ·rw [if_neg hr] at e; have E := Lib.hid e; clear e
     have hr1 : lo <= dval s s.size := by omega
     have hr2 : dval s s.size <= hi := by omega
     clear hr
     go_wp2_with fail; go_ret2; exact ⟨by rw [E.out]; rfl, rfl⟩)
theorem decP_any (s : ByteArray) (hi : Int) (w : World) (hs : s.size <= maxLen) :
  Calls Tryz.prog 221 #[.string s, .int .i64 hi] w fun e w' => e = .returned (.int .i64 (decP s hi)) /\ w = w' := by
 replace hs := size_max hs
 have b0 := B_bd s 0
 go_enter Tryz.func221, Tryz.ntmps221
 by_cases h1 : (s.size : Int) < 1
 ·have e : decP s hi = -1 := by unfold decP; rw [if_pos (by omega)]
  rw [e]; go_wp2; go_ret; exact ⟨rfl, rfl⟩
 by_cases h2 : (6 : Int) < s.size
 ·have e : decP s hi = -1 := by unfold decP; rw [if_pos (by omega)]
  rw [e]; go_wp2; go_ret; exact ⟨rfl, rfl⟩
 by_cases h3 : 1 < s.size /\ B s 0 = 48
 ·have e : decP s hi = -1 := by unfold decP; rw [if_pos (by omega)]
  have h4 : (B s 0 == 48) = true := by simpa using h3.2
  have h5 := h3.1
  rw [e]; clear h3; go_wp2; go_ret; exact ⟨rfl, rfl⟩
 have en : decP s hi = if allDig s s.size = false then -1 else if hi < dval s s.size then -1 else dval s s.size := by unfold decP; rw [if_neg (by omega)]
 have EN := Lib.hid en; clear en
 by_cases h5 : (1 : Int) < s.size
 all_goals first | have h4 : (B s 0 == 48) = false := by (rw [beq_eq_false_iff_ne]; intro h; exact h3 ⟨by omega, h⟩) | skip
 all_goals clear h3
 all_goals go_wp2_with fail
 all_goals go_loop [5, 6] (fun n c => ∃ k : Nat, k <= s.size /\ c = .int .i64 k /\ n = .int .i64 (dval s k) /\ allDig s k = true) (fun _ c => s.size - (intOf c).toNat)
 all_goals first | (case atStart => exact ⟨0, Nat.zero_le _, rfl, rfl, rfl⟩) | skip
 all_goals (
  case round =>
   obtain ⟨k, hk, rfl, rfl, hd⟩ := hrel
   have HD := Lib.hid hd; clear hd
   have hv := dval_bd s k HD.out
   have hp : (10 : Int) ^ k <= 1000000000 := pow9 (by omega)
   have hv1 : 0 <= dval s k := hv.1
   have hv2 : dval s k < 1000000000 := by omega
   clear hv hp
   have bk := B_bd s k
   by_cases hlt : k < s.size
   ·by_cases hdg : 48 <= B s k /\ B s k <= 57
    ·have e8 := u8_sub bk.1 bk.2 hdg.1 (by decide)
     have hg1 := hdg.1
     have hg2 := hdg.2
     have HDG : Hid (dig (B s k) = true) := Lib.hid (by unfold dig; exact decide_eq_true hdg)
     clear hdg
     go_wp2_with fail
     go_round
     case rel => exact ⟨k + 1, by omega, by go_num, by rw [dval], by rw [allDig, HD.out, HDG.out]; rfl⟩
     case measure => simp [intOf]; omega
    ·have e : decP s hi = -1 := by
      rw [EN.out, if_pos]
      cases h : allDig s s.size with
      | false => rfl
      | true =>
       have := allDig_mono s s.size (k + 1) (by omega) h
       simp only [allDig, dig, Bool.and_eq_true, decide_eq_true_eq] at this
       exact absurd this.2 hdg
     have E := Lib.hid e; clear e
     by_cases hg : B s k < 48
     ·clear hdg; go_wp2_with fail; go_ret; exact ⟨by rw [E.out]; rfl, rfl⟩
     ·have hg2 : 57 < B s k := by omega
      clear hdg; go_wp2_with fail; go_ret; exact ⟨by rw [E.out]; rfl, rfl⟩
   ·obtain rfl : k = s.size := by omega
    have e : decP s hi = if hi < dval s s.size then -1 else dval s s.size := by rw [EN.out, HD.out]; rfl
    by_cases hr : hi < dval s s.size
    ·rw [if_pos hr] at e; have E := Lib.hid e; clear e
     go_wp2_with fail; go_ret; exact ⟨by rw [E.out]; rfl, rfl⟩
    ·rw [if_neg hr] at e; have E := Lib.hid e; clear e
     have hr2 : dval s s.size <= hi := by omega
     clear hr
     go_wp2_with fail; go_ret; exact ⟨by rw [E.out]; rfl, rfl⟩)
theorem hexg_any (s : ByteArray) (w : World) (hs : s.size <= maxLen) :
  Calls Tryz.prog 226 #[.string s] w fun e w' => e = .returned (.int .i64 (hexg s)) /\ w = w' := by
 replace hs := size_max hs
 go_enter Tryz.func226, Tryz.ntmps226
 by_cases h1 : (s.size : Int) < 1
 ·have e : hexg s = -1 := by unfold hexg; rw [if_pos (by omega)]
  rw [e]; go_wp2; go_ret; exact ⟨rfl, rfl⟩
 by_cases h2 : (4 : Int) < s.size
 ·have e : hexg s = -1 := by unfold hexg; rw [if_pos (by omega)]
  rw [e]; go_wp2; go_ret; exact ⟨rfl, rfl⟩
 have en : hexg s = if allHex s s.size = false then -1 else hval s s.size := by unfold hexg; rw [if_neg (by omega)]
 have EN := Lib.hid en; clear en
 go_wp2_with fail
 go_loop [3, 4, 5] (fun n c x => ∃ k : Nat, k <= s.size /\ c = .int .i64 k /\ n = .int .i64 (hval s k) /\ allHex s k = true) (fun _ c _ => s.size - (intOf c).toNat)
 case atStart => exact ⟨0, Nat.zero_le _, rfl, rfl, rfl⟩
 case round =>
  obtain ⟨k, hk, rfl, rfl, hd⟩ := hrel
  have HD := Lib.hid hd; clear hd
  have hv := hval_bd s k HD.out
  have hp : (16 : Int) ^ k <= 65536 := pow4 (by omega)
  have hv1 : 0 <= hval s k := hv.1
  have hv2 : hval s k < 65536 := by omega
  clear hv hp
  have bk := B_bd s k
  by_cases hlt : k < s.size
  ·by_cases hd1 : 48 <= B s k /\ B s k <= 57
   ·have e8 := u8_sub bk.1 bk.2 hd1.1 (by decide)
    have hg1 := hd1.1
    have hg2 := hd1.2
    have HX : Hid (hexd (B s k) = B s k - 48) := Lib.hid (by unfold hexd; rw [if_pos hd1])
    clear hd1
    go_wp2_with fail
    go_round
    case rel => exact ⟨k + 1, by omega, by go_num, by rw [hval, HX.out], by rw [allHex, HD.out, HX.out]; simp; omega⟩
    case measure => simp [intOf]; omega
   by_cases hd2 : 97 <= B s k /\ B s k <= 102
   ·have e8 := u8_sub bk.1 bk.2 hd2.1 (by decide)
    have hg1 := hd2.1
    have hg2 := hd2.2
    have HX : Hid (hexd (B s k) = B s k - 87) := Lib.hid (by unfold hexd; rw [if_neg hd1, if_pos hd2])
    clear hd1 hd2
    go_wp2_with fail
    go_round
    case rel => exact ⟨k + 1, by omega, by go_num, by rw [hval, HX.out]; congr 1; omega, by rw [allHex, HD.out, HX.out]; simp; omega⟩
    case measure => simp [intOf]; omega
   by_cases hd3 : 65 <= B s k /\ B s k <= 70
   ·have e8 := u8_sub bk.1 bk.2 hd3.1 (by decide)
    have hg1 := hd3.1
    have hg2 := hd3.2
    have HX : Hid (hexd (B s k) = B s k - 55) := Lib.hid (by unfold hexd; rw [if_neg hd1, if_neg hd2, if_pos hd3])
    clear hd1 hd2 hd3
    go_wp2_with fail
    all_goals go_round
    case rel => exact ⟨k + 1, by omega, by go_num, by rw [hval, HX.out]; congr 1; omega, by rw [allHex, HD.out, HX.out]; simp; omega⟩
    case measure => simp [intOf]; omega
   have e : hexg s = -1 := by
    rw [EN.out, if_pos]
    cases h : allHex s s.size with
    | false => rfl
    | true =>
     have := allHex_mono s s.size (k + 1) (by omega) h
     simp only [allHex, Bool.and_eq_true, decide_eq_true_eq] at this
     have h4 : hexd (B s k) = -1 := by unfold hexd; rw [if_neg hd1, if_neg hd2, if_neg hd3]
     omega
   have E := Lib.hid e; clear e
   by_cases q1 : B s k < 48
   ·clear hd1 hd2 hd3; go_wp2_with fail; go_ret; exact ⟨by rw [E.out]; rfl, rfl⟩
   by_cases q2 : B s k < 65
   ·have q3 : 57 < B s k := by omega
    clear hd1 hd2 hd3; go_wp2_with fail; go_ret; exact ⟨by rw [E.out]; rfl, rfl⟩
   by_cases q4 : B s k < 97
   ·have q5 : 70 < B s k := by omega
    clear hd1 hd2 hd3; go_wp2_with fail; go_ret; exact ⟨by rw [E.out]; rfl, rfl⟩
   ·have q5 : 102 < B s k := by omega
    clear hd1 hd2 hd3; go_wp2_with fail; go_ret; exact ⟨by rw [E.out]; rfl, rfl⟩
  ·obtain rfl : k = s.size := by omega
   have e : hexg s = hval s s.size := by rw [EN.out, HD.out]; rfl
   have E := Lib.hid e; clear e
   go_wp2_with fail; go_ret; exact ⟨by rw [E.out]; rfl, rfl⟩
open Go.RowKit
theorem splitc_at (c : UInt8) (l : List UInt8) (f k : Nat) (hf : f <= k) (hk : k < l.length) (hn : ∀ j, f <= j -> j < k -> l.getD j 0 ≠ c) (hc : l.getD k 0 = c) :
  splitc c (l.drop f) = (l.drop f).take (k - f) :: splitc c (l.drop (k + 1)) := by
 have e : l.drop f = (l.drop f).take (k - f) ++ c :: l.drop (k + 1) := by
  rw [List.getD_eq_getElem?_getD, List.getElem?_eq_getElem hk, Option.getD_some] at hc
  rw [← hc, ← List.drop_eq_getElem_cons hk]
  have : l.drop k = (l.drop f).drop (k - f) := by rw [List.drop_drop]; congr 1; omega
  rw [this, List.take_append_drop]
 conv => lhs; rw [e]
 refine splitc_hit _ fun x hx e => ?_
 obtain ⟨j, hj, e2⟩ := List.mem_iff_getElem.1 hx
 rw [List.getElem_take, List.getElem_drop] at e2
 simp at hj
 refine hn (f + j) (by omega) (by omega) ?_
 rw [List.getD_eq_getElem?_getD, List.getElem?_eq_getElem (by omega), Option.getD_some, e2, e]
theorem splitc_end (c : UInt8) (l : List UInt8) (f : Nat) (hn : ∀ j, f <= j -> j < l.length -> l.getD j 0 ≠ c) : splitc c (l.drop f) = [l.drop f] := by
 refine splitc_none fun x hx e => ?_
 obtain ⟨j, hj, e2⟩ := List.mem_iff_getElem.1 hx
 rw [List.getElem_drop] at e2
 simp at hj
 refine hn (f + j) (by omega) (by omega) ?_
 rw [List.getD_eq_getElem?_getD, List.getElem?_eq_getElem (by omega), Option.getD_some, e2, e]
theorem B_is {s : ByteArray} {k : Nat} {c : UInt8} : B s k = (c.toNat : Int) ↔ s.data.toList.getD k 0 = c := by
 unfold B
 constructor
 ·intro h; exact UInt8.toNat_inj.1 (by omega)
 ·intro h; rw [h]
theorem infoS : (Tryz.prog.info? 9).map (fun i => (i.zero, i.size, i.bytes)) = some (some (.string ByteArray.empty), 1, 16) := by kernel_rfl
theorem rSplit_any (s : ByteArray) (c : UInt8) (w : World) (hs : s.size < 4294967281) :
  Calls Tryz.prog 80 #[.string s, .int .u8 c.toNat] w fun e w' => ∃ v, e = .returned v /\ w'.ownsRow w.heap.size 9 1 v (parts c s).length ((parts c s).map Value.string) /\ Ext w w' := by
 obtain ⟨i0, hi, hz0, hz1, hz2⟩ := info_parts infoS
 have HI := Lib.hid hi; have HZ0 := Lib.hid hz0; have HZ1 := Lib.hid hz1; have HZ2 := Lib.hid hz2
 clear hi hz0 hz1 hz2
 go_enter Tryz.func80, Tryz.ntmps80
 go_wp2_with fail
 go_loopw [5, 6, 7] (fun v f i wr => ∃ (k m : Nat) (ps : List ByteArray), k <= s.size /\ m <= k /\ ps.length <= m /\ i = .int .i64 k /\ f = .int .i64 m /\ wr.ownsRow w.heap.size 9 1 v ps.length (ps.map Value.string) /\ Ext w wr /\
  parts c s = ps ++ parts c (s.extract m s.size) /\ ∀ j, m <= j -> j < k -> B s j ≠ (c.toNat : Int)) (fun _ _ i _ => s.size - (intOf i).toNat)
 case atStart => exact ⟨0, 0, [], Nat.zero_le _, Nat.le_refl _, Nat.le_refl _, rfl, rfl, World.ownsRow_nil _ _ _ _, Ext.refl _, by rw [List.nil_append]; congr 1; exact BA_ext (by rw [data_extract, List.drop_zero, List.take_of_length_le (by rw [size_list]; exact Nat.le_refl _)]), fun j h1 h2 => by omega⟩
 case round =>
  obtain ⟨k, m, ps, hk, hm, hpl, rfl, rfl, hown, hx, hp, hn⟩ := hrel
  have hsz := hx.size
  have Hp := Lib.hid hp; have Hn := Lib.hid hn; clear hp hn
  have hml : (m : Int) <= s.size := by omega
  by_cases hlt : k < s.size
  ·have hlt' : (k : Int) < s.size := by omega
   by_cases he : B s k = (c.toNat : Int)
   ·have he' : (B s k == (c.toNat : Int)) = true := by rw [beq_iff_eq]; exact he
    have HE := Lib.hid he; clear he
    have Hx := Lib.hid hx; clear hx
    go_wp2_with (at_builtin; refine wpList_append_own _ rfl _ _ 124 rfl w.heap.size 9 i0 (.string ByteArray.empty) 1 16 Tryz.underlying124 HI.out HZ0.out HZ1.out HZ2.out rfl (by decide) _ _ _ rfl (hown.alloc _) ⟨wr.heap.size, 0, none⟩ 1 1 [.string (s.extract m k)] rfl rfl ?c1 ?c2 ?c3 ?c4 ?c5 ?_)
    first
     | (case c1 =>
       intro j u hj
       have B1 := Blk.new wr #[Value.string (s.extract m k)] 9
       have e1 : (⟨wr.heap.size, 0, none⟩ : Addr).add j = ⟨wr.heap.size, j, none⟩ := by unfold Addr.add; split <;> simp_all
       rw [e1]
       exact B1.cell hj)
     | skip
    case c2 => simp [Value.oneCell']
    case c3 => unfold maxLen; omega
    case c4 => omega
    case c5 => first | omega | (rw [World.size_alloc]; omega) | (simp; omega)
    intro v' w1 hown' hgrow _
    have Ho' := Lib.hid hown'; clear hown'
    have Hg := Lib.hid hgrow; clear hgrow
    have hlt2 := hown.lt
    have Hl := Lib.hid hlt2; clear hlt2
    have Ho := Lib.hid hown; clear hown
    go_wp2_with fail
    go_roundw
    case rel =>
     refine ⟨k + 1, k + 1, ps ++ [s.extract m k], by omega, by omega, by simp; omega, by go_num, by go_num, ?_, ?_, ?_, fun j h1 h2 => by omega⟩
     ·rw [List.length_append, List.map_append]; exact Ho'.out
     ·exact Ext.grown (Hx.out.alloc _) Hg.out (fun g hg => (Hl.out g hg).1)
     ·rw [Hp.out, List.append_assoc]; congr 1
      have hl := size_list s
      have := splitc_at c s.data.toList m k hm (by omega) (fun j h1 h2 e => Hn.out j h1 h2 (B_is.2 e)) (B_is.1 HE.out)
      unfold parts
      rw [data_extract, data_extract, List.take_of_length_le (by omega), this]
      simp only [List.map_cons, List.singleton_append]
      congr 1
      exact BA_ext (by rw [data_extract, List.drop_take])
    case measure => simp [intOf]; omega
   ·have he' : (B s k == (c.toNat : Int)) = false := by rw [beq_eq_false_iff_ne]; exact he
    have HE := Lib.hid he; clear he
    have Hx := Lib.hid hx; clear hx
    have Ho := Lib.hid hown; clear hown
    go_wp2_with fail
    go_roundw
    case rel => exact ⟨k + 1, m, ps, by omega, by omega, hpl, by go_num, rfl, Ho.out, Hx.out, Hp.out, fun j h1 h2 => by
     by_cases h : j = k
     ·subst h; exact HE.out
     ·exact Hn.out j h1 (by omega)⟩
    case measure => simp [intOf]; omega
  ·obtain rfl : k = s.size := by omega
   have hlt' : ¬ ((s.size : Nat) : Int) < s.size := by omega
   have Hx := Lib.hid hx; clear hx
   go_wp2_with (at_builtin; refine wpList_append_own _ rfl _ _ 124 rfl w.heap.size 9 i0 (.string ByteArray.empty) 1 16 Tryz.underlying124 HI.out HZ0.out HZ1.out HZ2.out rfl (by decide) _ _ _ rfl (hown.alloc _) ⟨wr.heap.size, 0, none⟩ 1 1 [.string (s.extract m s.size)] rfl rfl ?c1 ?c2 ?c3 ?c4 ?c5 ?_)
   first
    | (case c1 =>
      intro j u hj
      have B1 := Blk.new wr #[Value.string (s.extract m s.size)] 9
      have e1 : (⟨wr.heap.size, 0, none⟩ : Addr).add j = ⟨wr.heap.size, j, none⟩ := by unfold Addr.add; split <;> simp_all
      rw [e1]
      exact B1.cell hj)
    | skip
   case c2 => simp [Value.oneCell']
   case c3 => unfold maxLen; omega
   case c4 => omega
   case c5 => first | omega | (rw [World.size_alloc]; omega) | (simp; omega)
   intro v' w1 hown' hgrow _
   have Ho' := Lib.hid hown'; clear hown'
   have Hg := Lib.hid hgrow; clear hgrow
   have hlt2 := hown.lt
   have Hl := Lib.hid hlt2; clear hlt2
   have Ho := Lib.hid hown; clear hown
   go_wp2_with fail
   go_ret
   have e : parts c s = ps ++ [s.extract m s.size] := by
    rw [Hp.out]; congr 1
    have hl := size_list s
    have := splitc_end c s.data.toList m (fun j h1 h2 e => Hn.out j h1 (by omega) (B_is.2 e))
    unfold parts
    rw [data_extract, List.take_of_length_le (by omega), this]
    simp only [List.map_cons, List.map_nil]
    congr 1
    exact BA_ext (by rw [data_extract, List.take_of_length_le (by omega)])
   refine ⟨_, rfl, ?_, Ext.grown (Hx.out.alloc _) Hg.out (fun g hg => (Hl.out g hg).1)⟩
   rw [e, List.length_append, List.map_append]; exact Ho'.out
open Go.RowKit Go.Joins
def StrCells (w : World) (b : Nat) (ps : List ByteArray) : Prop := b < w.heap.size /\ ∀ j x, ps[j]? = some x -> w.cell? ⟨b, j, none⟩ = some (.string x)
theorem StrCells.ext {w w' : World} {b : Nat} {ps : List ByteArray} (h : StrCells w b ps) (k : Ext w w') : StrCells w' b ps :=
 ⟨Nat.lt_of_lt_of_le h.1 k.size, fun j x hj => by rw [k.cell h.1]; exact h.2 j x hj⟩
theorem StrCells.set {w : World} {b : Nat} {ps : List ByteArray} (h : StrCells w b ps) {p : Addr} (hp : p.block ≠ b) (u : Value) : StrCells (w.setCell p u) b ps :=
 ⟨by simpa [World.setCell] using h.1, fun j x hj => by rw [World.cell?_of_block (w := w) (Below.heap_setCell w p u b (fun e => hp e.symm))]; exact h.2 j x hj⟩
def Env (w : World) : Prop := ∃ m : Int, w.cell? ⟨0, 0, none⟩ = some (.int .i64 m)
theorem Env.ext {w w' : World} (h : Env w) (k : Ext w w') : Env w' := by
 obtain ⟨m, hm⟩ := h
 exact ⟨m, by rw [k.cell (World.block_lt_of_cell? _ _ hm)]; exact hm⟩
theorem split_any (s : ByteArray) (c : UInt8) (w : World) (he : Env w) (hs : s.size < 4294967281) :
  Calls Tryz.prog 169 #[.string s, .string ⟨#[c]⟩] w fun e w' => ∃ b cap, e = .returned (.slice (some ⟨b, 0, none⟩) (parts c s).length cap) /\ w.heap.size <= b /\ StrCells w' b (parts c s) /\ (parts c s).length <= cap /\ Ext w w' := by
 obtain ⟨m, hm⟩ := he
 refine (Tryz.strings_Split s ⟨#[c]⟩ m w hs hm (Nat.le_refl 1)).mono fun e w' ⟨h1, h2⟩ => ?_
 subst h1 h2
 rw [splitB_parts]
 have hb := Blk.new w ((parts c s).map Value.string).toArray 9
 refine ⟨w.heap.size, _, by rw [parts_length], Nat.le_refl _, ⟨hb.lt, fun j x hj => hb.cell (by simp [hj])⟩, by rw [parts_length]; exact Nat.le_refl _, (Ext.refl w).alloc _⟩
theorem parts_pos (c : UInt8) (s : ByteArray) : 0 < (parts c s).length := by rw [parts_length]; omega
theorem rsplit_any (s : ByteArray) (c : UInt8) (w : World) (hs : s.size < 4294967281) :
  Calls Tryz.prog 80 #[.string s, .int .u8 c.toNat] w fun e w' => ∃ b cap, e = .returned (.slice (some ⟨b, 0, none⟩) (parts c s).length cap) /\ w.heap.size <= b /\ StrCells w' b (parts c s) /\ (parts c s).length <= cap /\ Ext w w' := by
 refine (rSplit_any s c w hs).mono fun e w' ⟨v, h1, h2, h3⟩ => ?_
 obtain ⟨g, cap, hv⟩ := ownsRow_form h2 (parts_pos c s)
 subst hv
 have hl := h2.lt g rfl
 have hc := h2.cells (g := g) rfl
 obtain ⟨_, h4⟩ := h2
 refine ⟨g, cap, h1, hl.1, ⟨hl.2, fun j x hj => ?_⟩, ?_, h3⟩
 ·have := hc j (.string x) (by simp [hj])
  rw [show (⟨g, 0, none⟩ : Addr).add j = ⟨g, j, none⟩ from by unfold Addr.add; split <;> simp_all] at this
  exact this
 ·rcases h4 with ⟨h5, _⟩ | ⟨g', cap', cur, h5, _, _, h6⟩
  ·cases h5
  ·cases h5; omega
def arr4 (ps : List ByteArray) (k : Nat) : List Int := (ps.take k).map dec ++ List.replicate (4 - k) 0
theorem arr4_len {ps : List ByteArray} (h : ps.length = 4) {k : Nat} (hk : k <= 4) : (arr4 ps k).length = 4 := by simp [arr4]; omega
theorem arr4_set {ps : List ByteArray} (h : ps.length = 4) {k : Nat} (hk : k < 4) {x : ByteArray} (hx : ps[k]? = some x) : (arr4 ps k).set k (dec x) = arr4 ps (k + 1) := by
 unfold arr4
 rw [List.set_append_right _ _ (by simp; omega), show k - ((ps.take k).map dec).length = 0 from by simp; omega, show 4 - k = (4 - (k + 1)) + 1 by omega, List.replicate_succ, List.set_cons_zero, List.take_add_one, hx]
 simp
theorem arr4_all {ps : List ByteArray} (h : ps.length = 4) : arr4 ps 4 = ps.map dec := by unfold arr4; rw [List.take_of_length_le (by omega)]; simp
theorem arr4_bd {ps : List ByteArray} {k : Nat} (h : okDec (ps.take k) = true) : ∀ x ∈ arr4 ps k, 0 <= x /\ x < 256 := by
 intro x hx
 unfold arr4 at hx
 rcases List.mem_append.1 hx with hx | hx
 ·obtain ⟨y, hy, rfl⟩ := List.mem_map.1 hx
  unfold okDec at h
  rw [List.all_eq_true] at h
  have := dec_bd y
  have := h y hy
  simp at this; omega
 ·have := List.eq_of_mem_replicate hx; omega
theorem arr4_at {ps : List ByteArray} (h : ps.length = 4) {k : Nat} (hk : k < 4) : (arr4 ps k)[k]? = some 0 := by
 unfold arr4
 rw [List.getElem?_append_right (by simp; omega), show k - ((ps.take k).map dec).length = 0 from by simp; omega, List.getElem?_replicate, if_pos (by omega)]
theorem parse4_eq {s : ByteArray} : parse4 s = if (parts 46 s).length = 4 /\ okDec (parts 46 s) = true then some ((parts 46 s).map dec) else none := rfl
theorem okDec_take {ps : List ByteArray} {k : Nat} {x : ByteArray} (h : okDec (ps.take k) = true) (hx : ps[k]? = some x) (hd : 0 <= dec x) : okDec (ps.take (k + 1)) = true := by
 unfold okDec at *; rw [List.take_add_one, hx, List.all_append, h]; simpa using hd
theorem okDec_not {ps : List ByteArray} {k : Nat} {x : ByteArray} (hx : ps[k]? = some x) (hd : dec x < 0) : okDec ps = false := by
 cases h : okDec ps with
 | false => rfl
 | true =>
  unfold okDec at h; rw [List.all_eq_true] at h
  have := h x (List.mem_of_getElem? hx); simp at this; omega
theorem okDec_all {ps : List ByteArray} (h : ps.length = 4) (ho : okDec (ps.take 4) = true) : okDec ps = true := by rwa [List.take_of_length_le (by omega)] at ho
theorem info_4 : (Tryz.prog.info? 230).map (·.size) = some 4 := by kernel_rfl
def c4 (l : List Int) : Array Value := (l.map (Value.int .u8)).toArray
theorem c4_size {l : List Int} (h : l.length = 4) : (c4 l).size = 4 := by simp [c4, h]
theorem c4_one (l : List Int) : (c4 l).all (·.oneCell') = true := by
 rw [Array.all_eq_true_iff_forall_mem]
 intro v hv
 simp only [c4, List.mem_toArray, List.mem_map] at hv
 obtain ⟨x, _, rfl⟩ := hv; rfl
theorem wpList_load_4 {ops : Array Oper} {rest : List Oper} {o : Oper} {f : Act} {w : World} {Q : Exit -> Act -> World -> Prop} (hgd : o.guard = none) (x : Operand) (ho : o.op = .load 230 x)
  {b : Nat} {l : List Int} (hl : l.length = 4) (hb : Blk w b (c4 l).toList 230) (hx : f.eval x = .pointer (some ⟨b, 0, none⟩)) (h : wpList Tryz.prog ops Q rest (f.put o.dst (.agg (c4 l))) w) : wpList Tryz.prog ops Q (o :: rest) f w :=
 wpList_load_mid hgd 230 x ho b 0 hx (c4 l).toList _ (fun j v hj => by rw [Nat.zero_add]; exact hb.cell hj) Tryz.underlying230 rfl (by rw [info_4, Array.length_toList, c4_size hl]) h
theorem wpList_store_4 {ops : Array Oper} {rest : List Oper} {o : Oper} {f : Act} {w : World} {Q : Exit -> Act -> World -> Prop} (hgd : o.guard = none) (x y : Operand) (ho : o.op = .store 230 x y)
  {c : Nat} {l0 l : List Int} (h0 : l0.length = 4) (hl : l.length = 4) (hb : Blk w c (c4 l0).toList 230) (hx : f.eval x = .pointer (some ⟨c, 0, none⟩)) (hy : f.eval y = .agg (c4 l)) (h : wpList Tryz.prog ops Q rest (f.put o.dst undef) (w.setRow c (c4 l))) : wpList Tryz.prog ops Q (o :: rest) f w :=
 wpList_plain hgd fun _ hK => wp_store_row 230 x y ho c (c4 l) hx hy 230 (c4 l0) hb (by rw [info_4, c4_size hl]) (by rw [c4_size hl, c4_size h0]) (c4_one l) (hK _ _ h)
theorem res_42 {fn : Func} {t u : Tmp} (h : fn.results = #[.cell t 230, .tmp u]) {tmps : Array Value} {c : Nat} (hp : tmps.getD t undef = .pointer (some ⟨c, 0, none⟩)) {w : World} {l : List Int} (hl : l.length = 4) (hb : Blk w c (c4 l).toList 230) :
  (results fn tmps).run Tryz.prog w = .ok (.tuple #[.agg (c4 l), tmps.getD u undef]) w := by
 have := run_loadVar_mid (P := Tryz.prog) w c 0 230 (c4 l).toList _ (fun j v hj => by rw [Nat.zero_add]; exact hb.cell hj) Tryz.underlying230 rfl (by rw [info_4, Array.length_toList, c4_size hl])
 rw [Array.toArray_toList] at this
 have hp' : tmps[t]?.getD undef = .pointer (some ⟨c, 0, none⟩) := by simpa using hp
 simp [results, h, hp', this, Sem.run_bind, asAddr]
theorem c4_zero : c4 [0, 0, 0, 0] = #[.int .u8 0, .int .u8 0, .int .u8 0, .int .u8 0] := rfl
theorem parse4_any (s : ByteArray) (w : World) (henv : Env w) (hs : s.size < 4294967281) :
  Calls Tryz.prog 215 #[.string s] w fun e w' => ∃ l : List Int, l.length = 4 /\ (∀ x ∈ l, 0 <= x /\ x < 256) /\ e = .returned (.tuple #[.agg (c4 l), .bool (parse4 s).isSome]) /\ (∀ b, parse4 s = some b -> b = l) /\ Ext w w' := by
 have hpz : ∀ x ∈ parts 46 s, x.size <= maxLen := fun x hx => Nat.le_trans (parts_size hx) (by unfold maxLen; omega)
 have hsplit := fun w he => split_any s 46 w he hs
 have hpe := @parse4_eq s
 generalize parts 46 s = ps at *
 have HPE := Lib.hid hpe; have HS := Lib.hid hsplit; have HPZ := Lib.hid hpz
 clear hpe hsplit hpz
 go_enter Tryz.func215, Tryz.ntmps215
 go_upto_region 2 with fail
 rw [← c4_zero]
 have hx := ((Ext.refl w).alloc (.cells (c4 [0, 0, 0, 0]) 230)).alloc (.cells (c4 [0, 0, 0, 0]) 230)
 have hr := (Blk.new w (c4 [0, 0, 0, 0]) 230).ext ((Ext.refl _).alloc (.cells (c4 [0, 0, 0, 0]) 230))
 have hb := Blk.new (w.alloc (.cells (c4 [0, 0, 0, 0]) 230)) (c4 [0, 0, 0, 0]) 230
 rw [World.size_alloc] at hb
 generalize (w.alloc (.cells (c4 [0, 0, 0, 0]) 230)).alloc (.cells (c4 [0, 0, 0, 0]) 230) = w2 at *
 go_wp2_with (go_at_call 169; refine (HS.out _ (henv.ext hx)).mono ?_; rintro e w3 ⟨b, cap, rfl, hbl, hsc, hcap, hx3⟩; refine Hid.out ?_)
 have hr3 := hr.ext hx3
 have hb3 := hb.ext hx3
 have hw2 := hb.lt
 have hx33 := hx.trans hx3
 clear hr hb hx hx3
 refine Lib.hid ?_
 by_cases h4 : ps.length = 4
 ·have hn4 : ((ps.length : Int) != 4) = false := by rw [bne_eq_false_iff_eq]; omega
  have hn5 : (ps.length : Int) = 4 := by omega
  have HN5 := Lib.hid hn5; clear hn5
  have H4 := Lib.hid h4; clear h4
  have hcp : ps.length <= cap := hcap
  have hlen4 : (ps.length : Int) <= 4 := by have := H4.out; omega
  have hlen4' : (4 : Int) <= ps.length := by have := H4.out; omega
  have hrs : w.heap.size + 1 < w3.heap.size := hb3.lt
  go_wp2_with fail
  go_loopw [3, 6, 7, 8, 9, 18] (fun _ _ _ _ _ c wr => ∃ k : Nat, k <= 4 /\ c = .int .i64 k /\ okDec (ps.take k) = true /\ Blk wr w.heap.size (c4 [0, 0, 0, 0]).toList 230 /\ Blk wr (w.heap.size + 1) (c4 (arr4 ps k)).toList 230 /\ StrCells wr b ps /\ Ext w wr) (fun _ _ _ _ _ c _ => 4 - (intOf c).toNat)
  case atStart => exact ⟨0, Nat.zero_le _, rfl, rfl, hr3, hb3, hsc, hx33⟩
  case round =>
   obtain ⟨k, hk, rfl, hok, hr, hb, hsc, hx⟩ := hrel
   have HOK := Lib.hid hok; clear hok
   by_cases hlt : k < 4
   ·have hlt' : (k : Int) < ps.length := by omega
    obtain ⟨x, hxk⟩ : ∃ x, ps[k]? = some x := ⟨ps[k]'(by have := H4.out; omega), List.getElem?_eq_getElem _⟩
    have hcell := hsc.2 k x hxk
    have HX := Lib.hid hxk; clear hxk
    have hxz := HPZ.out x (List.mem_of_getElem? HX.out)
    have hcell2 : wr.cell? ⟨w.heap.size + 1, k, none⟩ = some (.int .u8 0) := hb.cell (by have := arr4_at H4.out hlt; simp [c4, this])
    have hfr2 := hb.free k
    by_cases hd : dec x < 0
    ·have hcall : Calls Tryz.prog 214 #[.string x, .int .i64 0, .int .i64 255] wr fun e w' => e = .returned (.tuple #[.int .i64 0, .bool false]) /\ wr = w' := by
      have := num_any x 0 255 wr hxz
      rw [num_dec, if_pos hd] at this; exact this
     have e : parse4 s = none := by rw [HPE.out, if_neg (fun h => by rw [okDec_not HX.out hd] at h; simp at h)]
     have E := Lib.hid e; clear e
     have HC := Lib.hid hcall; clear hcall
     go_wp2_with (first | (go_at_call 214; refine HC.out.mono ?_; rintro e w' ⟨rfl, rfl⟩) | refine wpList_load_4 rfl _ rfl (l := arr4 ps k) (arr4_len H4.out hk) hb rfl ?_ | refine wpList_store_4 rfl _ _ rfl (l0 := [0, 0, 0, 0]) rfl (l := arr4 ps k) (arr4_len H4.out hk) hr rfl rfl ?_)
     refine bodyPost_ret (res_42 rfl rfl (l := arr4 ps k) (arr4_len H4.out hk) (hr.row _)) rfl ⟨arr4 ps k, arr4_len H4.out hk, arr4_bd HOK.out, by rw [E.out]; rfl, fun b hb => ?_, hx.setRow (Nat.le_refl _) _⟩
     rw [E.out] at hb; cases hb
    ·have hcall : Calls Tryz.prog 214 #[.string x, .int .i64 0, .int .i64 255] wr fun e w' => e = .returned (.tuple #[.int .i64 (dec x), .bool true]) /\ wr = w' := by
      have := num_any x 0 255 wr hxz
      rw [num_dec, if_neg hd] at this; exact this
     have HC := Lib.hid hcall; clear hcall
     have hdb := dec_bd x
     have e8 : IntKind.u8.wrap (dec x) = dec x := by
      have : ∀ n : Int, IntKind.u8.wrap n = n % 256 := fun n => by simp [IntKind.wrap, IntKind.bits, IntKind.signed]
      rw [this]; omega
     go_wp2_with (first | (go_at_call 214; refine HC.out.mono ?_; rintro e w' ⟨rfl, rfl⟩))
     go_roundw
     case rel =>
      have hne : w.heap.size ≠ w.heap.size + 1 := by omega
      refine ⟨k + 1, by omega, by go_num, okDec_take HOK.out HX.out (by omega), hr.set_ne ⟨w.heap.size + 1, k, none⟩ (fun e => hne e.symm) _, ?_, hsc.set (p := ⟨w.heap.size + 1, k, none⟩) ?_ _, hx.setCell (p := ⟨w.heap.size + 1, k, none⟩) (Nat.le_add_right _ _) _⟩
      ·have := hb.set k (.int .u8 (dec x))
       rw [← arr4_set H4.out hlt HX.out]
       simpa [c4] using this
      ·show w.heap.size + 1 ≠ b
       omega
     case measure => simp [intOf]; omega
   ·obtain rfl : k = 4 := by omega
    have e : parse4 s = some (ps.map dec) := by rw [HPE.out, if_pos ⟨H4.out, okDec_all H4.out HOK.out⟩]
    have E := Lib.hid e; clear e
    have hbd := arr4_bd HOK.out
    rw [arr4_all H4.out] at hb hbd
    have hml : (ps.map dec).length = 4 := by simp [H4.out]
    have HB := Lib.hid hbd; have HML := Lib.hid hml; clear hbd hml
    go_wp2_with (first | refine wpList_load_4 rfl _ rfl (l := ps.map dec) HML.out hb rfl ?_ | refine wpList_store_4 rfl _ _ rfl (l0 := [0, 0, 0, 0]) rfl (l := ps.map dec) HML.out hr rfl rfl ?_)
    refine bodyPost_ret (res_42 rfl rfl (l := ps.map dec) HML.out (hr.row _)) rfl ⟨ps.map dec, HML.out, HB.out, by rw [E.out]; rfl, fun b hb => ?_, hx.setRow (Nat.le_refl _) _⟩
    rw [E.out] at hb; exact (Option.some.inj hb).symm
 ·have hn4 : ((ps.length : Int) != 4) = true := by rw [bne_iff_ne]; omega
  have e : parse4 s = none := by rw [HPE.out, if_neg (fun h => h4 h.1)]
  have E := Lib.hid e; clear e
  go_wp2_with (first | refine wpList_load_4 rfl _ rfl (l := [0, 0, 0, 0]) rfl hb3 rfl ?_ | refine wpList_store_4 rfl _ _ rfl (l0 := [0, 0, 0, 0]) rfl (l := [0, 0, 0, 0]) rfl hr3 rfl rfl ?_)
  refine bodyPost_ret (res_42 rfl rfl (l := [0, 0, 0, 0]) rfl (hr3.row _)) rfl ⟨[0, 0, 0, 0], rfl, by decide, by rw [E.out]; rfl, fun b hb => ?_, hx33.setRow (Nat.le_refl _) _⟩
  rw [E.out] at hb; cases hb
def p4A (s : ByteArray) : Adr × Bool := match parse4 s with
 | some b => (v4 (b.getD 0 0) (b.getD 1 0) (b.getD 2 0) (b.getD 3 0), true)
 | none => (zadr, false)
def adr4 (ps : List ByteArray) (k : Nat) : Adr := (false, arr4 ps k ++ [0, 0, 0, 0, 0, 0, 0, 0, 0, 0, 0, 0])
theorem okA_adr4 {ps : List ByteArray} (h : ps.length = 4) {k : Nat} (hk : k <= 4) (ho : okDec (ps.take k) = true) : okA (adr4 ps k) := by
 refine ⟨by simp [adr4, arr4_len h hk], fun x hx => ?_⟩
 rcases List.mem_append.1 hx with hx | hx
 ·exact arr4_bd ho x hx
 ·simp at hx; omega
theorem adr4_set {ps : List ByteArray} (h : ps.length = 4) {k : Nat} (hk : k < 4) {x : ByteArray} (hx : ps[k]? = some x) : (ac (adr4 ps k)).toList.set (1 + k) (.int .u8 (dec x)) = (ac (adr4 ps (k + 1))).toList := by
 have hl := arr4_len h (Nat.le_of_lt hk)
 unfold ac adr4
 rw [← arr4_set h hk hx]
 simp only [Nat.add_comm 1 k, List.set_cons_succ, List.map_append]
 rw [List.set_append_left _ _ (by simp [hl]; omega), List.map_set]
theorem v4_getD {l : List Int} (h : l.length = 4) : v4 (l.getD 0 0) (l.getD 1 0) (l.getD 2 0) (l.getD 3 0) = (false, l ++ [0, 0, 0, 0, 0, 0, 0, 0, 0, 0, 0, 0]) := by
 match l, h with
 | [a, b, c, d], _ => rfl
theorem adr4_zero {ps : List ByteArray} : adr4 ps 0 = zadr := rfl
theorem rparse4_any (s : ByteArray) (w : World) (hs : s.size < 4294967281) :
  Calls Tryz.prog 204 #[.string s] w fun e w' => e = .returned (.tuple #[av (p4A s).1, .bool (p4A s).2]) /\ Ext w w' := by
 have hpz : ∀ x ∈ parts 46 s, x.size <= maxLen := fun x hx => Nat.le_trans (parts_size hx) (by unfold maxLen; omega)
 have hsplit := fun w => rsplit_any s 46 w hs
 have hpe := @parse4_eq s
 generalize parts 46 s = ps at *
 have HPE := Lib.hid hpe; have HS := Lib.hid hsplit; have HPZ := Lib.hid hpz
 clear hpe hsplit hpz
 go_enter Tryz.func204, Tryz.ntmps204
 go_upto_region 1 with fail
 rw [← ac_zadr]
 have hx := (Ext.refl w).alloc (.cells (ac zadr) 41)
 have hr := Blk.new w (ac zadr) 41
 generalize w.alloc (.cells (ac zadr) 41) = w2 at *
 go_wp2_with (go_at_call 80; refine (HS.out _).mono ?_; rintro e w3 ⟨b, cap, rfl, hbl, hsc, hcap, hx3⟩; refine Hid.out ?_)
 have hr3 := hr.ext hx3
 have hw2 := hr.lt
 have hx33 := hx.trans hx3
 have hx4 := hx33.alloc (.cells (ac zadr) 41)
 have hr4 := hr3.ext ((Ext.refl w3).alloc (.cells (ac zadr) 41))
 have hsc4 := hsc.ext ((Ext.refl w3).alloc (.cells (ac zadr) 41))
 have hb4 := Blk.new w3 (ac zadr) 41
 have hbl3 : b < w3.heap.size := hsc.1
 have hrl3 := hr3.lt
 clear hr hx hx3 hr3 hsc
 refine Lib.hid ?_
 go_upto_region 3 with (refine wpList_store_A rfl _ _ rfl okA_zadr okA_zadr hb4 rfl rfl ?_)
 change Code.wp _ _ _ _ ((w3.alloc (.cells (ac zadr) 41)).setRow w3.heap.size (ac zadr))
 have hb5 := hb4.row (ac zadr)
 have hr5 := hr4.row_ne (show w.heap.size ≠ w3.heap.size by omega) (ac zadr)
 have hx5 := hx4.setRow (show w.heap.size <= w3.heap.size by omega) (ac zadr)
 have hsc5 : StrCells ((w3.alloc (.cells (ac zadr) 41)).setRow w3.heap.size (ac zadr)) b ps :=
  ⟨by rw [setRow_size]; exact hsc4.1, fun j x hj => by rw [cell_setRow_other _ _ _ _ (show b ≠ w3.heap.size by omega)]; exact hsc4.2 j x hj⟩
 clear hb4 hr4 hx4 hsc4
 generalize (w3.alloc (.cells (ac zadr) 41)).setRow w3.heap.size (ac zadr) = w5 at *
 generalize w3.heap.size = c at *
 rw [← @adr4_zero ps] at hb5
 by_cases h4 : ps.length = 4
 ·have hn4 : ((ps.length : Int) != 4) = false := by rw [bne_eq_false_iff_eq]; omega
  have H4 := Lib.hid h4; clear h4
  have hcp : ps.length <= cap := hcap
  have hlen4 : (ps.length : Int) <= 4 := by have := H4.out; omega
  have hlen4' : (4 : Int) <= ps.length := by have := H4.out; omega
  go_wp2_with fail
  go_loopw [6, 7] (fun i _ wr => ∃ k : Nat, k <= 4 /\ i = .int .i64 k /\ okDec (ps.take k) = true /\ Blk wr w.heap.size (ac zadr).toList 41 /\ Blk wr c (ac (adr4 ps k)).toList 41 /\ StrCells wr b ps /\ Ext w wr) (fun i _ _ => 4 - (intOf i).toNat)
  case atStart => exact ⟨0, Nat.zero_le _, rfl, rfl, hr5, hb5, hsc5, hx5⟩
  case round =>
   obtain ⟨k, hk, rfl, hok, hr, hb, hsc, hx⟩ := hrel
   have hA := okA_adr4 H4.out hk hok
   have HOK := Lib.hid hok; clear hok
   by_cases hlt : k < 4
   ·have hlt' : (k : Int) < ps.length := by omega
    obtain ⟨x, hxk⟩ : ∃ x, ps[k]? = some x := ⟨ps[k]'(by have := H4.out; omega), List.getElem?_eq_getElem _⟩
    have hcell := hsc.2 k x hxk
    have HX := Lib.hid hxk; clear hxk
    have hxz := HPZ.out x (List.mem_of_getElem? HX.out)
    have hcell2 := hb.cell (i := 1 + k) (by rw [Array.getElem?_toList]; exact ac_at hA (by omega))
    have hfr2 := hb.free (1 + k)
    have hcall := decP_any x 255 wr hxz
    rw [show decP x 255 = dec x from rfl] at hcall
    have HC := Lib.hid hcall; clear hcall
    have hdb := dec_bd x
    by_cases hd : dec x < 0
    ·have e : p4A s = (zadr, false) := by unfold p4A; rw [HPE.out, if_neg (fun h => by rw [okDec_not HX.out hd] at h; simp at h)]
     have E := Lib.hid e; clear e
     go_wp2_with (first | (go_at_call 221; refine HC.out.mono ?_; rintro e w' ⟨rfl, rfl⟩) | refine wpList_store_A rfl _ _ rfl okA_zadr okA_zadr hr rfl rfl ?_)
     refine bodyPost_ret (res_A2 rfl rfl okA_zadr (hr.row _)) rfl ⟨by rw [E.out]; rfl, hx.setRow (Nat.le_refl _) _⟩
    ·have e8 : IntKind.u8.wrap (dec x) = dec x := by
      have : ∀ n : Int, IntKind.u8.wrap n = n % 256 := fun n => by simp [IntKind.wrap, IntKind.bits, IntKind.signed]
      rw [this]; omega
     go_wp2_with (first | (go_at_call 221; refine HC.out.mono ?_; rintro e w' ⟨rfl, rfl⟩))
     go_roundw
     case rel =>
      refine ⟨k + 1, by omega, by go_num, okDec_take HOK.out HX.out (by omega), hr.set_ne ⟨c, 1 + k, none⟩ (show c ≠ w.heap.size by omega) _, ?_, hsc.set (p := ⟨c, 1 + k, none⟩) (show c ≠ b by omega) _, hx.setCell (p := ⟨c, 1 + k, none⟩) (show w.heap.size <= c by omega) _⟩
      rw [← adr4_set H4.out hlt HX.out]; exact hb.set (1 + k) (.int .u8 (dec x))
     case measure => simp [intOf]; omega
   ·obtain rfl : k = 4 := by omega
    have e : p4A s = (adr4 ps 4, true) := by
     unfold p4A; rw [HPE.out, if_pos ⟨H4.out, okDec_all H4.out HOK.out⟩]
     show (v4 _ _ _ _, true) = _
     rw [v4_getD (by simp [H4.out]), adr4, arr4_all H4.out]
    have E := Lib.hid e; clear e
    go_wp2_with (first | refine wpList_load_A rfl _ rfl hA hb rfl ?_ | refine wpList_store_A rfl _ _ rfl okA_zadr hA hr rfl rfl ?_)
    refine bodyPost_ret (res_A2 rfl rfl hA (hr.row _)) rfl ⟨by rw [E.out]; rfl, hx.setRow (Nat.le_refl _) _⟩
 ·have hn4 : ((ps.length : Int) != 4) = true := by rw [bne_iff_ne]; omega
  have e : p4A s = (zadr, false) := by unfold p4A; rw [HPE.out, if_neg (fun h => h4 h.1)]
  have E := Lib.hid e; clear e
  rw [adr4_zero] at hb5
  go_wp2_with (first | refine wpList_load_A rfl _ rfl okA_zadr hb5 rfl ?_ | refine wpList_store_A rfl _ _ rfl okA_zadr okA_zadr hr5 rfl rfl ?_)
  refine bodyPost_ret (res_A2 rfl rfl okA_zadr (hr5.row _)) rfl ⟨by rw [E.out]; rfl, hx5.setRow (Nat.le_refl _) _⟩
end Go.Proofs.YtnohnnjeabehjaaGreatDoor
