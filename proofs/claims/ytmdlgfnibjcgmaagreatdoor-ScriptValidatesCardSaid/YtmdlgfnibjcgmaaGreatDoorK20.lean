/-
  Several texts joined: ScX.
-/
import Derived.Test.YtmdlgfnibjcgmaaGreatDoorK12
set_option maxHeartbeats 8000000
set_option maxRecDepth 10000
set_option linter.unusedVariables false
set_option linter.unusedSimpArgs false
namespace Go.Proofs.YtmdlgfnibjcgmaaGreatDoor
open Go.RowKit
theorem and_127 {c : Int} (h0 : 0 <= c) (h1 : c < 256) : bits BinOp.and IntKind.u8 c 127 = c % 128 := by
 have := bits_mask .u8 8 (by decide) wraps_u8 7 (by decide) c h0 h1
 simpa using this
theorem rerr {T : TypeId} {w : World} {b : Nat} {s : ByteArray} (h : Blk w b [.string s, .int .i64 0] T) (c : Int) (hc : c ≠ 0) : Rb T (w.setCell ⟨b, 1, none⟩ (.int .i64 c)) b (.error c) := ⟨hc, s, Blk.set h 1 _⟩
theorem runum_any (low most : Nat) (hl : low < 1000) (hm : most < 18446744073709551616) {b : Nat} {x : St} {w : World} (h : Rb 114 w b x) :
  Calls Tryz.prog 55 #[.pointer (some ⟨b, 0, none⟩), .int .u64 low, .int .u64 most] w fun e w' => e = .returned (.int .u64 (rn low most x).1) /\ Rb 114 w' b (rn low most x).2 /\ Keep [b] w w' := by
 cases x with
 | error c =>
  obtain ⟨h0, s, hb⟩ := h
  have c1 := hb.cell (i := 1) rfl
  have q1 : (c == 0) = false := by simp [h0]
  have HB := Lib.hid hb
  have H0 := Lib.hid h0
  clear hb
  go_enter Tryz.func55, Tryz.ntmps55
  go_wp2_with fail
  go_ret
  exact ⟨rfl, ⟨H0.out, s, HB.out⟩, Keep.refl _ _⟩
 | ok s =>
  have hb : Blk w b [.string s, .int .i64 0] 114 := h
  have c0 := hb.cell (i := 0) rfl
  have c1 := hb.cell (i := 1) rfl
  have g0 := hb.free 0
  have g1 := hb.free 1
  have HBK := Lib.hid hb
  clear h hb
  go_enter Tryz.func55, Tryz.ntmps55
  go_wp2_with fail
  go_loopw [7, 8, 9] (fun n sh c' wr => wr = w /\ ∃ (i : Nat) (acc : Int), n = .int .u64 acc /\ sh = .int .i64 i /\ i <= 9 /\ 0 <= acc /\ Hid (acc < 128 ^ i) /\ Hid (uvd s 10 0 0 = uvd s (9 - i + 1) i acc)) (fun _ sh _ _ => 10 - (intOf sh).toNat)
  case atStart => exact ⟨rfl, 0, 0, rfl, rfl, by decide, by decide, Lib.hid (by decide), Lib.hid rfl⟩
  case round =>
   obtain ⟨rfl, i, acc, rfl, rfl, hi, ha0, HA1, HU⟩ := hrel
   have hi10 : (i : Int) < 10 := by omega
   by_cases his : i < s.size
   ·have his' : ¬ (s.size : Int) <= (i : Int) := by omega
    have his2 : (i : Int) < s.size := by omega
    have hB := B_bd s i
    generalize hc : B s i = c at *
    have HC := Lib.hid hc
    obtain ⟨l9, hl9⟩ : ∃ l9 : Bool, l9 = decide (i = 9) := ⟨_, rfl⟩
    have hq9 : ((i : Int) == 9) = l9 := by rw [hl9, Bool.eq_iff_iff, beq_iff_eq, decide_eq_true_eq]; omega
    have HL9 := Lib.hid hl9
    clear hl9
    obtain ⟨b9, hb9⟩ : ∃ b9 : Bool, b9 = decide (i = 9 /\ 1 < c) := ⟨_, rfl⟩
    have HB9 := Lib.hid hb9
    clear hb9
    go_upto_region 11 with fail
    go_cut [40] from 35 to 39 (fun v wc => v = .bool b9 /\ wc = wr)
    case first =>
     cases l9 with
     | true =>
      have HI9 : Hid (i = 9) := Lib.hid (by have := HL9.out; simpa using this.symm)
      by_cases h1 : 1 < c
      ·go_wp2_with fail
       go_meet
       exact ⟨by rw [HB9.out]; simp [HI9.out, h1], rfl⟩
      ·go_wp2_with fail
       go_meet
       exact ⟨by rw [HB9.out]; simp [h1], rfl⟩
     | false =>
      have hi9 : i ≠ 9 := by have := HL9.out; simpa using this.symm
      have HI9 := Lib.hid hi9
      clear hi9
      go_wp2_with fail
      go_meet
      exact ⟨by rw [HB9.out]; simp [HI9.out], rfl⟩
    obtain ⟨rfl, hwe⟩ := hcut
    replace hwe := hwe.symm
    subst hwe
    clear hq9 HL9
    cases b9 with
    | true =>
     have hb9 : i = 9 /\ 1 < c := of_decide_eq_true HB9.out.symm
     have HRN : Hid (rn low most (.ok s) = (0, .error 2)) := Lib.hid (rn_bad (by rw [HU.out]; exact uvd_bad his (by rw [HC.out]; unfold badc; rw [decide_eq_true_eq]; exact .inl hb9)))
     clear hb9
     go_wp2_with fail
     go_ret
     exact ⟨by rw [HRN.out]; rfl, by rw [HRN.out]; exact rerr HBK.out _ (by decide), kset wr b 1 _⟩
    | false =>
     have hb9 : ¬ (i = 9 /\ 1 < c) := of_decide_eq_false HB9.out.symm
     have ho := or_hi hi ha0 HA1.out (Int.emod_nonneg c (by decide)) (Int.emod_lt_of_pos c (by decide)) (m := c % 128) (fun e => by omega)
     rw [← pow128] at ho
     have hW : IntKind.u64.wrap (c % 128 * 2 ^ (7 * i)) = c % 128 * 2 ^ (7 * i) := ho.1
     obtain ⟨acc2, ha2⟩ : ∃ acc2, acc2 = acc + c % 128 * 2 ^ (7 * i) := ⟨_, rfl⟩
     have hO : bits BinOp.or IntKind.u64 acc (c % 128 * 2 ^ (7 * i)) = acc2 := by rw [ha2]; exact ho.2.1
     have HLT : Hid (acc2 < 18446744073709551616) := Lib.hid (by rw [ha2]; exact ho.2.2.1)
     have HA2 : Hid (i < 9 -> acc2 < 128 ^ (i + 1)) := Lib.hid (by rw [ha2]; exact ho.2.2.2)
     have hnn : 0 <= acc2 := by
      have : 0 <= c % 128 * 2 ^ (7 * i) := Int.mul_nonneg (Int.emod_nonneg c (by decide)) (Int.pow_nonneg (by decide))
      omega
     have HE2 : Hid (acc2 = acc + c % 128 * 128 ^ i) := Lib.hid (by rw [ha2, pow128])
     have hand := and_127 hB.1 hB.2
     have hw1 : IntKind.u64.wrap (c % 128) = c % 128 := w64 (by omega) (by omega)
     have hw2 : wrap64 (7 * (i : Int)) = 7 * (i : Int) := IntWalk.wrap64_in _ (by omega)
     have hw3 : IntKind.u64.wrap (7 * (i : Int)) = 7 * (i : Int) := w64 (by omega) (by omega)
     have HBN := Lib.hid hb9
     clear ha2 ho hb9
     go_upto_region 13 with fail
     clear hW hO hand hw1 hw2 hw3
     by_cases hc1 : c < 128
     ·obtain ⟨bb, hbb⟩ : ∃ bb : Bool, bb = decide ((0 < i /\ c = 0) ∨ acc2 < low ∨ (most : Int) < acc2) := ⟨_, rfl⟩
      have HBB := Lib.hid hbb
      clear hbb
      go_upto_region 14 with fail
      go_cut [67] from 52 to 66 (fun v wc => v = .bool bb /\ wc = wr)
      case first =>
       by_cases h0 : 0 < i
       ·have h0' : (0 : Int) < (i : Int) := by omega
        by_cases h1 : c = 0
        ·have q1 : (c == 0) = true := by simp [h1]
         have H1 := Lib.hid h1
         clear h1
         go_wp2_with fail
         go_meet
         exact ⟨by rw [HBB.out]; simp [H1.out, h0], rfl⟩
        ·have q1 : (c == 0) = false := by simp [h1]
         have H1 := Lib.hid h1
         clear h1
         by_cases h2 : acc2 < low
         ·go_wp2_with fail
          go_meet
          exact ⟨by rw [HBB.out]; simp [h2], rfl⟩
         ·by_cases h3 : (most : Int) < acc2
          ·go_wp2_with fail
           go_meet
           exact ⟨by rw [HBB.out]; simp [h3], rfl⟩
          ·go_wp2_with fail
           go_meet
           exact ⟨by rw [HBB.out]; have := H1.out; simp [h2, h3, this], rfl⟩
       ·have h0' : ¬ (0 : Int) < (i : Int) := by omega
        by_cases h2 : acc2 < low
        ·go_wp2_with fail
         go_meet
         exact ⟨by rw [HBB.out]; simp [h2], rfl⟩
        ·by_cases h3 : (most : Int) < acc2
         ·go_wp2_with fail
          go_meet
          exact ⟨by rw [HBB.out]; simp [h3], rfl⟩
         ·go_wp2_with fail
          go_meet
          exact ⟨by rw [HBB.out]; simp [h2, h3, h0], rfl⟩
      obtain ⟨rfl, hwe⟩ := hcut
      replace hwe := hwe.symm
      subst hwe
      cases bb with
      | true =>
       have hbb := of_decide_eq_true HBB.out.symm
       have HRN : Hid (rn low most (.ok s) = (0, .error 2)) := Lib.hid (by
        by_cases hz : 0 < i /\ c = 0
        ·exact rn_bad (by rw [HU.out]; exact uvd_bad his (by rw [HC.out]; unfold badc; rw [decide_eq_true_eq]; exact .inr hz))
        ·refine rn_out (n := acc2) (k := i + 1) ?_ (hbb.resolve_left hz)
         rw [HU.out, uvd_fin his (by rw [HC.out]; unfold badc; rw [decide_eq_false_iff_not]; have := HBN.out; omega) (by rw [HC.out]; exact hc1), HC.out, HE2.out, Int.emod_eq_of_lt hB.1 hc1])
       clear hbb
       go_wp2_with fail
       go_ret
       exact ⟨by rw [HRN.out]; rfl, by rw [HRN.out]; exact rerr HBK.out _ (by decide), kset wr b 1 _⟩
      | false =>
       have hbb := of_decide_eq_false HBB.out.symm
       have HRN : Hid (rn low most (.ok s) = (acc2, .ok (s.extract (i + 1) s.size))) := Lib.hid (by
        refine rn_fine (n := acc2) (k := i + 1) ?_ (by omega)
        rw [HU.out, uvd_fin his (by rw [HC.out]; unfold badc; rw [decide_eq_false_iff_not]; have := HBN.out; omega) (by rw [HC.out]; exact hc1), HC.out, HE2.out, Int.emod_eq_of_lt hB.1 hc1])
       clear hbb
       have hj1 : IntKind.i64.wrap ((i : Int) + 1) = ((i + 1 : Nat) : Int) := by rw [IntWalk.i64_in _ (by omega)]; omega
       have hj2 : ((i + 1 : Nat) : Int) <= s.size := by omega
       have hj3 : (i : Int) + 1 <= s.size := by omega
       go_wp2_with fail
       go_ret
       exact ⟨by rw [HRN.out]; rfl, by rw [HRN.out]; exact Blk.set HBK.out 0 _, kset wr b 0 _⟩
     ·have hi8 : i < 9 := by
       rcases Nat.lt_or_ge i 9 with q | q
       ·exact q
       ·have := HBN.out; omega
      have hj1 : IntKind.i64.wrap ((i : Int) + 1) = ((i + 1 : Nat) : Int) := by rw [IntWalk.i64_in _ (by omega)]; omega
      have HBAD : Hid (badc i c = false) := Lib.hid (by unfold badc; rw [decide_eq_false_iff_not]; have := HBN.out; omega)
      go_wp2_with fail
      refine ⟨⟨trivial, i + 1, acc2, rfl, by go_num, by omega, hnn, Lib.hid (HA2.out hi8), Lib.hid ?_⟩, ?_⟩
      ·rw [HU.out, uvd_go his (by rw [HC.out]; exact HBAD.out) (by rw [HC.out]; exact hc1), HC.out, HE2.out, show c % 128 = c - 128 by omega, show 9 - (i + 1) + 1 = 9 - i by omega]
      ·simp [intOf]; omega
   ·have his' : (s.size : Int) <= (i : Int) := by omega
    have HRN : Hid (rn low most (.ok s) = (0, .error 3)) := Lib.hid (rn_none (by rw [HU.out]; exact uvd_end his))
    go_wp2_with fail
    go_ret
    exact ⟨by rw [HRN.out]; rfl, by rw [HRN.out]; exact rerr HBK.out _ (by decide), kset wr b 1 _⟩
theorem runum_i (low most : Int) (l0 : 0 <= low) (hl : low < 1000) (h0 : 0 <= most) (hm : most < 18446744073709551616) {b : Nat} {x : St} {w : World} (h : Rb 114 w b x) :
  Calls Tryz.prog 55 #[.pointer (some ⟨b, 0, none⟩), .int .u64 low, .int .u64 most] w fun e w' => e = .returned (.int .u64 (rn low most x).1) /\ Rb 114 w' b (rn low most x).2 /\ Keep [b] w w' := by
 obtain ⟨n, rfl⟩ : ∃ n : Nat, most = n := ⟨most.toNat, by omega⟩
 obtain ⟨l, rfl⟩ : ∃ n : Nat, low = n := ⟨low.toNat, by omega⟩
 exact runum_any l n (by omega) (by omega) h
theorem rtxt_any (n : Nat) (hn : n <= 1000000) {b : Nat} {x : St} {w : World} (h : Rb 114 w b x) :
  Calls Tryz.prog 70 #[.pointer (some ⟨b, 0, none⟩), .int .i64 n] w fun e w' => e = .returned (.string (rt n x).1) /\ Rb 114 w' b (rt n x).2 /\ Keep [b] w w' := by
 cases x with
 | ok s =>
  have hb : Blk w b [.string s, .int .i64 0] 114 := h
  have c0 := hb.cell (i := 0) rfl
  have c1 := hb.cell (i := 1) rfl
  have g0 := hb.free 0
  have g1 := hb.free 1
  have HB := Lib.hid hb
  clear h hb
  by_cases hs : s.size < n
  ·have hs' : (s.size : Int) < n := by omega
   have HR : Hid (rt n (.ok s) = (⟨#[]⟩, .error 3)) := Lib.hid (by unfold rt rdt; simp only; rw [if_pos hs])
   go_enter Tryz.func70, Tryz.ntmps70
   go_wp2_with fail
   go_ret
   exact ⟨by rw [HR.out]; rfl, by rw [HR.out]; exact rerr HB.out _ (by decide), kset w b 1 _⟩
  ·have hs' : ¬ (s.size : Int) < n := by omega
   have hs2 : (n : Int) <= s.size := by omega
   have HR : Hid (rt n (.ok s) = (s.extract 0 n, .ok (s.extract n s.size))) := Lib.hid (by unfold rt rdt; simp only; rw [if_neg hs])
   go_enter Tryz.func70, Tryz.ntmps70
   go_wp2_with fail
   go_ret
   exact ⟨by rw [HR.out]; rfl, by rw [HR.out]; exact Blk.set HB.out 0 _, kset w b 0 _⟩
 | error c =>
  obtain ⟨h0, s, hb⟩ := h
  have c1 := hb.cell (i := 1) rfl
  have q1 : (c == 0) = false := by simp [h0]
  have HB := Lib.hid hb
  have H0 := Lib.hid h0
  clear hb
  go_enter Tryz.func70, Tryz.ntmps70
  go_wp2_with fail
  go_ret
  exact ⟨rfl, ⟨H0.out, s, HB.out⟩, Keep.refl _ _⟩
def octk (t : ByteArray) (i : Nat) : List Int := (List.range 16).map fun j => if j < i then B t j else 0
theorem octk_zero (t : ByteArray) : octk t 0 = zeros := by
 unfold octk
 simp only [Nat.not_lt_zero, if_false]
 rfl
theorem octk_all (t : ByteArray) : octk t t.size = octs t := rfl
theorem octk_len (t : ByteArray) (i : Nat) : (octk t i).length = 16 := by unfold octk; simp
theorem okA_octk (f : Bool) (t : ByteArray) (i : Nat) : okA (f, octk t i) := by
 refine ⟨octk_len t i, fun x hx => ?_⟩
 unfold octk at hx
 obtain ⟨j, _, rfl⟩ := List.mem_map.1 hx
 have := B_bd t j
 split <;> omega
theorem octk_set (f : Bool) (t : ByteArray) (i : Nat) (h : i < 16) : (ac (f, octk t i)).toList.set (1 + i) (.int .u8 (B t i)) = (ac (f, octk t (i + 1))).toList := by
 unfold ac
 rw [Nat.add_comm 1 i]
 show (Value.bool f :: (octk t i).map (Value.int .u8)).set (i + 1) _ = Value.bool f :: (octk t (i + 1)).map (Value.int .u8)
 rw [List.set_cons_succ]
 congr 1
 unfold octk
 rw [List.map_map, List.map_map]
 refine List.ext_getElem (by simp) fun j h1 h2 => ?_
 rw [List.getElem_set]
 simp only [List.getElem_map, List.getElem_range, Function.comp]
 split
 ·rename_i e; subst e; rw [if_pos (by omega)]
 ·rename_i e
  by_cases q : j < i
  ·rw [if_pos q, if_pos (by omega)]
  ·rw [if_neg q, if_neg (by omega)]
def rra1 (n : Int) : St -> St
 | .error c => .error c
 | .ok s => if n = 5 then .error 2 else .ok s
def rra2 (n : Int) (p : ByteArray × St) : Adr × St :=
 match p.2 with
 | .error c => (zadr, .error c)
 | .ok s => ((decide (n = 6), octs p.1), .ok s)
theorem rra_eq {x : St} {n : Int} {x1 : St} (h : rn 4 6 x = (n, x1)) : rra x = rra2 n (rt (if n = 6 then 16 else 4) (rra1 n x1)) := by
 unfold rra rra0
 rw [h]
 cases x1 <;> rfl
theorem rn_e {lo hi : Int} {x : St} {n c : Int} (h : rn lo hi x = (n, .error c)) : n = 0 := by
 cases x with
 | error d => cases h; rfl
 | ok s =>
  have hn : rn lo hi (.ok s) = (match rdn lo hi s with | .ok (n, s') => (n, .ok s') | .error c => (0, .error c)) := rfl
  rcases hq : rdn lo hi s with c | ⟨m, s1⟩
  ·rw [hq] at hn; simp only at hn; rw [hn] at h; cases h; rfl
  ·rw [hq] at hn; simp only at hn; rw [hn] at h; cases h
theorem rn_o {lo hi : Int} {x : St} {n : Int} {s : ByteArray} (h : rn lo hi x = (n, .ok s)) : lo <= n /\ n <= hi := by
 cases x with
 | error d => cases h
 | ok s =>
  have hn : rn lo hi (.ok s) = (match rdn lo hi s with | .ok (n, s') => (n, .ok s') | .error c => (0, .error c)) := rfl
  rcases hq : rdn lo hi s with c | ⟨m, s1⟩
  ·rw [hq] at hn; simp only at hn; rw [hn] at h; cases h
  ·rw [hq] at hn; simp only at hn; rw [hn] at h; cases h; have := rdn_bd hq; exact ⟨this.2.1, this.2.2.1⟩
theorem rt_ok {n : Nat} {x : St} {t s : ByteArray} (h : rt n x = (t, .ok s)) : t.size = n := by
 cases x with
 | error c => cases h
 | ok s =>
  by_cases hs : s.size < n
  ·have e : rt n (.ok s) = (⟨#[]⟩, .error 3) := by unfold rt rdt; simp only; rw [if_pos hs]
   rw [e] at h; cases h
  ·have e : rt n (.ok s) = (s.extract 0 n, .ok (s.extract n s.size)) := by unfold rt rdt; simp only; rw [if_neg hs]
   rw [e] at h; cases h
   rw [ByteArray.size_extract]; omega
theorem rt_err {n : Nat} {x : St} {t : ByteArray} {c : Int} (h : rt n x = (t, .error c)) : t = ⟨#[]⟩ := by
 cases x with
 | error c => cases h; rfl
 | ok s =>
  by_cases hs : s.size < n
  ·have e : rt n (.ok s) = (⟨#[]⟩, .error 3) := by unfold rt rdt; simp only; rw [if_pos hs]
   rw [e] at h; cases h; rfl
  ·have e : rt n (.ok s) = (s.extract 0 n, .ok (s.extract n s.size)) := by unfold rt rdt; simp only; rw [if_neg hs]
   rw [e] at h; cases h
end Go.Proofs.YtmdlgfnibjcgmaaGreatDoor
