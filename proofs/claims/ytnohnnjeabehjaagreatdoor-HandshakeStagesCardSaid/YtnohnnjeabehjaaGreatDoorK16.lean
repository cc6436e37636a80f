/-
  Several texts joined: HcB, HcC.
-/
import Derived.Test.YtnohnnjeabehjaaGreatDoorK15
import Derived.Test.YtnohnnjeabehjaaGreatDoorK14
import Derived.Test.YtnohnnjeabehjaaGreatDoorK01
import Derived.Test.YtnohnnjeabehjaaGreatDoorK10
set_option maxHeartbeats 2000000
set_option maxRecDepth 4000
set_option linter.unusedVariables false
set_option linter.unusedSimpArgs false
namespace Go.Proofs.YtnohnnjeabehjaaGreatDoor
open Go.RowKit Go.Joins
theorem BA_B {a b : ByteArray} (h : a.size = b.size) (hb : ∀ j, j < a.size -> B a j = B b j) : a = b := by
 refine BA_ext (List.ext_getElem (by rw [← size_list, ← size_list]; exact h) fun j h1 h2 => ?_)
 have := hb j (by rw [size_list]; exact h1)
 unfold B at this
 rw [List.getD_eq_getElem?_getD, List.getD_eq_getElem?_getD, List.getElem?_eq_getElem h1, List.getElem?_eq_getElem h2, Option.getD_some, Option.getD_some] at this
 exact UInt8.toNat_inj.1 (by omega)
theorem lowB_is {s t : ByteArray} : lowB s = t ↔ s.size = t.size /\ ∀ j, j < s.size -> lowI (B s j) = B t j := by
 constructor
 ·intro h
  refine ⟨by rw [← h, lowB_size], fun j hj => by rw [← h, B_low s hj]⟩
 ·intro ⟨h1, h2⟩
  exact BA_B (by rw [lowB_size]; exact h1) (fun j hj => by rw [lowB_size] at hj; rw [B_low s hj, h2 j hj])
theorem efold_any (s t : ByteArray) (hs : s.size <= maxLen) (w : World) : Calls Tryz.prog 154 #[.string s, .string t] w fun e w' => e = .returned (.bool (decide (lowB s = t))) /\ w = w' := by
 have HI := Lib.hid (@lowB_is s t)
 replace hs := size_max hs
 go_enter Tryz.func154, Tryz.ntmps154
 by_cases hz : s.size = t.size
 ·have hzb : ((s.size : Int) != t.size) = false := by rw [bne_eq_false_iff_eq]; omega
  have HZ := Lib.hid hz
  have hz1 : (s.size : Int) <= t.size := by omega
  clear hz
  go_wp2_with fail
  go_loop [5, 6] (fun i _ => ∃ k : Nat, k <= s.size /\ i = .int .i64 k /\ ∀ j, j < k -> lowI (B s j) = B t j) (fun i _ => s.size - (intOf i).toNat)
  case atStart => exact ⟨0, Nat.zero_le _, rfl, fun j hj => by omega⟩
  case round =>
   obtain ⟨k, hk, rfl, hj⟩ := hrel
   have HJ := Lib.hid hj
   clear hj
   by_cases hlt : k < s.size
   ·have hlt' : (k : Int) < s.size := by omega
    have hlt2 : (k : Int) < t.size := by omega
    have bk := B_bd s k
    have bt := B_bd t k
    have u8w : ∀ n : Int, IntKind.u8.wrap n = n % 256 := fun n => by simp [IntKind.wrap, IntKind.bits, IntKind.signed]
    have HBAD : Hid (lowI (B s k) ≠ B t k -> decide (lowB s = t) = false) := Lib.hid (fun h => decide_eq_false (fun q => h ((HI.out.1 q).2 k hlt)))
    have HGO : Hid (lowI (B s k) = B t k -> ∀ j, j < k + 1 -> lowI (B s j) = B t j) := Lib.hid (fun h j hj => by
     by_cases q : j = k
     ·subst q; exact h
     ·exact HJ.out j (by omega))
    by_cases hu : 65 <= B s k /\ B s k <= 90
    ·have e9 : IntKind.u8.wrap (B s k + 32) = B s k + 32 := by rw [u8w]; omega
     have hg1 := hu.1
     have hg2 := hu.2
     have hL : lowI (B s k) = B s k + 32 := by unfold lowI; rw [if_pos hu]
     rw [hL] at HBAD HGO
     clear hu u8w hL
     by_cases he : B s k + 32 = B t k
     ·have hb : (B s k + 32 != B t k) = false := by rw [bne_eq_false_iff_eq]; exact he
      have HG := Lib.hid (HGO.out he)
      clear he HGO HBAD
      go_wp2_with fail
      go_round
      case rel => exact ⟨k + 1, by omega, by go_num, HG.out⟩
      case measure => simp [intOf]; omega
     ·have hb : (B s k + 32 != B t k) = true := by rw [bne_iff_ne]; exact he
      have HG := Lib.hid (HBAD.out he)
      clear he HGO HBAD
      go_wp2_with fail
      go_ret; exact ⟨by rw [HG.out]; rfl, rfl⟩
    ·have hL : lowI (B s k) = B s k := by unfold lowI; rw [if_neg hu]
     rw [hL] at HBAD HGO
     clear hL u8w
     by_cases hg : B s k < 65
     ·clear hu
      by_cases he : B s k = B t k
      ·have hb : (B s k != B t k) = false := by rw [bne_eq_false_iff_eq]; exact he
       have HG := Lib.hid (HGO.out he)
       clear he HGO HBAD
       go_wp2_with fail
       go_round
       case rel => exact ⟨k + 1, by omega, by go_num, HG.out⟩
       case measure => simp [intOf]; omega
      ·have hb : (B s k != B t k) = true := by rw [bne_iff_ne]; exact he
       have HG := Lib.hid (HBAD.out he)
       clear he HGO HBAD
       go_wp2_with fail
       go_ret; exact ⟨by rw [HG.out]; rfl, rfl⟩
     ·have hg2 : ¬ B s k <= 90 := by omega
      have hg3 : 65 <= B s k := by omega
      clear hu hg
      by_cases he : B s k = B t k
      ·have hb : (B s k != B t k) = false := by rw [bne_eq_false_iff_eq]; exact he
       have HG := Lib.hid (HGO.out he)
       clear he HGO HBAD
       go_wp2_with fail
       go_round
       case rel => exact ⟨k + 1, by omega, by go_num, HG.out⟩
       case measure => simp [intOf]; omega
      ·have hb : (B s k != B t k) = true := by rw [bne_iff_ne]; exact he
       have HG := Lib.hid (HBAD.out he)
       clear he HGO HBAD
       go_wp2_with fail
       go_ret; exact ⟨by rw [HG.out]; rfl, rfl⟩
   ·obtain rfl : k = s.size := by omega
    have E : Hid (decide (lowB s = t) = true) := Lib.hid (decide_eq_true (HI.out.2 ⟨HZ.out, HJ.out⟩))
    have hnl : ¬ ((s.size : Nat) : Int) < s.size := by omega
    go_wp2_with fail
    go_ret; exact ⟨by rw [E.out]; rfl, rfl⟩
 ·have hzb : ((s.size : Int) != t.size) = true := by rw [bne_iff_ne]; omega
  have E : Hid (decide (lowB s = t) = false) := Lib.hid (decide_eq_false (fun q => hz (HI.out.1 q).1))
  clear hz
  go_wp2_with fail
  go_ret; exact ⟨by rw [E.out]; rfl, rfl⟩
theorem auth_head (s : ByteArray) : (6 <= s.size /\ lowB (s.extract 0 5) = basicS /\ B s 5 = 32) ↔ ((cutB s 32).2.2 = true /\ lowB (cutB s 32).1 = basicS) := by
 constructor
 ·intro ⟨h1, h2, h3⟩
  have hz : (s.extract 0 5).size = 5 := by rw [ByteArray.size_extract]; omega
  have hb := (lowB_is.1 h2).2
  have hi : idxB s 32 = 5 := idxB_is (by omega) h3 (fun j hj e => by
   have := hb j (by rw [hz]; exact hj)
   rw [B_extract _ _ _ _ (by omega), Nat.zero_add, e] at this
   have q : j = 0 ∨ j = 1 ∨ j = 2 ∨ j = 3 ∨ j = 4 := by omega
   rcases q with q | q | q | q | q <;> subst q <;> exact absurd this (by decide))
  unfold cutB
  rw [hi, if_pos (by omega)]
  exact ⟨rfl, h2⟩
 ·intro ⟨h1, h2⟩
  unfold cutB at h1 h2
  by_cases hi : idxB s 32 < s.size
  ·rw [if_pos hi] at h2
   have hz := (lowB_is.1 h2).1
   rw [ByteArray.size_extract] at hz
   have hz5 : basicS.size = 5 := rfl
   have hi5 : idxB s 32 = 5 := by omega
   have ha := idxB_at hi
   rw [hi5] at h2 ha hi
   exact ⟨by omega, h2, ha⟩
  ·rw [if_neg hi] at h1; cases h1
theorem cutB_no {s : ByteArray} (hn : ∀ j, j < s.size -> B s j ≠ 58) : (cutB s 58).2.2 = false := by
 unfold cutB; rw [idxB_none hn, if_neg (by omega)]
theorem cutB_hit {s : ByteArray} {k : Nat} (hk : k < s.size) (h : B s k = 58) (hn : ∀ j, j < k -> B s j ≠ 58) : cutB s 58 = (s.extract 0 k, s.extract (k + 1) s.size, true) := by
 have := idxB_is (c := 58) hk h hn
 unfold cutB; rw [this, if_pos hk]
theorem authP_bad {s : ByteArray} (h : ¬ (6 <= s.size /\ lowB (s.extract 0 5) = basicS /\ B s 5 = 32)) : authP s = (⟨#[]⟩, ⟨#[]⟩, false) := by
 unfold authP; rw [if_neg (fun q => h ((auth_head s).2 q))]
theorem authP_good {s : ByteArray} (h : 6 <= s.size /\ lowB (s.extract 0 5) = basicS /\ B s 5 = 32) : authP s = if (pdec (s.extract 6 s.size)).2 = true then (if (cutB (pdec (s.extract 6 s.size)).1 58).2.2 = true then ((cutB (pdec (s.extract 6 s.size)).1 58).1, (cutB (pdec (s.extract 6 s.size)).1 58).2.1, true) else (⟨#[]⟩, ⟨#[]⟩, false)) else (⟨#[]⟩, ⟨#[]⟩, false) := by
 have h2 := (auth_head s).1 h
 have hi : idxB s 32 = 5 := by
  have hb := (lowB_is.1 h.2.1).2
  have hz : (s.extract 0 5).size = 5 := by rw [ByteArray.size_extract]; omega
  exact idxB_is (by omega) h.2.2 (fun j hj e => by
   have := hb j (by rw [hz]; exact hj)
   rw [B_extract _ _ _ _ (by omega), Nat.zero_add, e] at this
   have q : j = 0 ∨ j = 1 ∨ j = 2 ∨ j = 3 ∨ j = 4 := by omega
   rcases q with q | q | q | q | q <;> subst q <;> exact absurd this (by decide))
 have e : (cutB s 32).2.1 = s.extract 6 s.size := by unfold cutB; rw [hi, if_pos (by omega)]
 unfold authP
 rw [if_pos h2, e]
theorem rauth_any (s : ByteArray) (w : World) (hs : s.size <= 1099511627776) : Calls Tryz.prog 155 #[.string s] w fun e w' => e = .returned (.tuple #[.string (authP s).1, .string (authP s).2.1, .bool (authP s).2.2]) /\ Ext w w' := by
 have hbad := @authP_bad s
 have hgood := @authP_good s
 have b5 := B_bd s 5
 have hez := extract_le s 0 5
 have hez6 := extract_le s 6 s.size
 have KF := Lib.hid (fun w => efold_any (s.extract 0 5) basicS (by unfold maxLen; omega) w)
 rw [show Value.string basicS = Value.string ⟨#[98, 97, 115, 105, 99]⟩ from rfl] at KF
 go_enter Tryz.func155, Tryz.ntmps155
 by_cases h1 : (s.size : Int) < 6
 ·have R : Hid (authP s = (⟨#[]⟩, ⟨#[]⟩, false)) := Lib.hid (hbad (by omega))
  clear hbad hgood
  go_wp2_with fail
  refine bodyPost_ret (res3 rfl) rfl ⟨by rw [R.out]; rfl, Ext.refl _⟩
 have h5 : (5 : Int) <= s.size := by omega
 have h5b : (5 : Int) < s.size := by omega
 have h6 : (6 : Int) <= s.size := by omega
 cases hd : decide (lowB (s.extract 0 5) = basicS)
 ·have R : Hid (authP s = (⟨#[]⟩, ⟨#[]⟩, false)) := Lib.hid (hbad (fun h => of_decide_eq_false hd h.2.1))
  rw [hd] at KF
  clear hbad hgood hd
  go_wp2_with (first | (go_at_call 154; refine (KF.out _).mono ?_; rintro e w1 ⟨rfl, rfl⟩))
  refine bodyPost_ret (res3 rfl) rfl ⟨by rw [R.out]; rfl, Ext.refl _⟩
 have hlow := of_decide_eq_true hd
 rw [hd] at KF
 have HLow := Lib.hid hlow
 clear hd hlow
 by_cases h32 : B s 5 = 32
 ·have hb32 : (B s 5 != 32) = false := by rw [bne_eq_false_iff_eq]; exact h32
  have R0 := Lib.hid (hgood ⟨by omega, HLow.out, h32⟩)
  clear hbad hgood h32
  have KD := Lib.hid (fun w => rdec_any (s.extract 6 s.size) (by omega) w)
  have hdz := pdec_size (s.extract 6 s.size)
  generalize (pdec (s.extract 6 s.size)).1 = t at *
  generalize (pdec (s.extract 6 s.size)).2 = dok at *
  have htz : t.size <= 1099511627776 := by omega
  clear hdz hez hez6
  cases dok
  ·have R : Hid (authP s = (⟨#[]⟩, ⟨#[]⟩, false)) := Lib.hid (by rw [R0.out]; rfl)
   clear R0
   go_wp2_with (first | (go_at_call 154; refine (KF.out _).mono ?_; rintro e w1 ⟨rfl, rfl⟩) | (go_at_call 182; refine (KD.out _).mono ?_; rintro e w2 ⟨rfl, hx2⟩))
   refine bodyPost_ret (res3 rfl) rfl ⟨by rw [R.out]; rfl, hx2⟩
  ·have R1 : Hid (authP s = if (cutB t 58).2.2 = true then ((cutB t 58).1, (cutB t 58).2.1, true) else (⟨#[]⟩, ⟨#[]⟩, false)) := Lib.hid (by rw [R0.out, if_pos rfl])
   clear R0
   go_wp2_with (first | (go_at_call 154; refine (KF.out _).mono ?_; rintro e w1 ⟨rfl, rfl⟩) | (go_at_call 182; refine (KD.out _).mono ?_; rintro e w2 ⟨rfl, hx2⟩))
   go_loop [7] (fun i => ∃ k : Nat, k <= t.size /\ i = .int .i64 k /\ ∀ j, j < k -> B t j ≠ 58) (fun i => t.size - (intOf i).toNat)
   case atStart => exact ⟨0, Nat.zero_le _, rfl, fun j hj => by omega⟩
   case round =>
    obtain ⟨k, hk, rfl, hj⟩ := hrel
    have HJ := Lib.hid hj
    clear hj
    by_cases hlt : k < t.size
    ·have hlt' : (k : Int) < t.size := by omega
     have bk := B_bd t k
     by_cases he : B t k = 58
     ·have R : Hid (authP s = (t.extract 0 k, t.extract (k + 1) t.size, true)) := Lib.hid (by rw [R1.out, cutB_hit hlt he HJ.out]; rfl)
      have hb : (B t k == 58) = true := by rw [beq_iff_eq]; exact he
      have hk1 : (k : Int) <= t.size := by omega
      have hk2 : (k : Int) + 1 <= t.size := by omega
      have hk0 : (0 : Int) <= (k : Int) + 1 := by omega
      have hwk : IntKind.i64.wrap ((k : Int) + 1) = (k : Int) + 1 := IntWalk.i64_in _ (by omega)
      have htn : ((k : Int) + 1).toNat = k + 1 := by omega
      clear he
      go_upto_region 10 with fail
      refine wp_region_rg w2 (by kernel_rfl) (by kernel_rfl) (Ext.refl _) ?_
      iterate 10
       first
        | (apply goV_skip (by intro u; rfl))
        | (apply goV_val _ (by intro u; rfl); · (intro u w hSw hF; go_simp; try with_reducible rfl))
       try simp only [aput, List.set]
      intro u w5 hx5 _
      go_wp2
      refine bodyPost_ret (res3 rfl) rfl ⟨by rw [R.out]; rfl, hx2.trans hx5⟩
     ·have hb : (B t k == 58) = false := by rw [beq_eq_false_iff_ne]; exact he
      have HE := Lib.hid he
      clear he
      go_wp2_with fail
      go_round
      case rel => exact ⟨k + 1, by omega, by go_num, fun j hj => by
       by_cases q : j = k
       ·subst q; exact HE.out
       ·exact HJ.out j (by omega)⟩
      case measure => simp [intOf]; omega
    ·obtain rfl : k = t.size := by omega
     have R : Hid (authP s = (⟨#[]⟩, ⟨#[]⟩, false)) := Lib.hid (by rw [R1.out, cutB_no HJ.out]; rfl)
     have hnl : ¬ ((t.size : Nat) : Int) < t.size := by omega
     go_wp2_with fail
     refine bodyPost_ret (res3 rfl) rfl ⟨by rw [R.out]; rfl, hx2⟩
 ·have hb32 : (B s 5 != 32) = true := by rw [bne_iff_ne]; exact h32
  have R : Hid (authP s = (⟨#[]⟩, ⟨#[]⟩, false)) := Lib.hid (hbad (fun h => h32 h.2.2))
  clear hbad hgood h32
  go_wp2_with (first | (go_at_call 154; refine (KF.out _).mono ?_; rintro e w1 ⟨rfl, rfl⟩))
  refine bodyPost_ret (res3 rfl) rfl ⟨by rw [R.out]; rfl, Ext.refl _⟩
open Go.RowKit
def wsL : List UInt8 := [32, 9]
def trimB (s : ByteArray) : ByteArray := ⟨(Lib.trimS s.data.toList wsL).toArray⟩
theorem trimR_cons (p : UInt8 -> Bool) (x : UInt8) (l : List UInt8) : ((x :: l).reverse.dropWhile p).reverse = if (l.reverse.dropWhile p).reverse = [] then (if p x = true then [] else [x]) else x :: (l.reverse.dropWhile p).reverse := by
 rw [List.reverse_cons, List.dropWhile_append]
 by_cases h : (l.reverse.dropWhile p) = []
 ·rw [h]
  simp only [List.isEmpty_nil, if_true, List.reverse_nil]
  rw [List.dropWhile_cons, List.dropWhile_nil]
  split <;> rfl
 ·have h2 : ¬ (l.reverse.dropWhile p).reverse = [] := fun e => h (by simpa using e)
  rw [if_neg h2, if_neg (by simpa using h), List.reverse_append]; rfl
theorem trim_swap (p : UInt8 -> Bool) : ∀ l : List UInt8, ((l.dropWhile p).reverse.dropWhile p).reverse = ((l.reverse.dropWhile p).reverse).dropWhile p
 | [] => rfl
 | x :: l => by
  have ih := trim_swap p l
  rw [trimR_cons]
  cases hx : p x
  ·rw [List.dropWhile_cons, if_neg (by rw [hx]; simp), trimR_cons, hx]
   simp only [Bool.false_eq_true, if_false]
   split
   ·rw [List.dropWhile_cons, if_neg (by rw [hx]; simp)]
   ·rw [List.dropWhile_cons, if_neg (by rw [hx]; simp)]
  ·rw [List.dropWhile_cons, if_pos hx, ih]
   simp only [if_true]
   split
   ·rename_i h; rw [h]
   ·rw [List.dropWhile_cons, if_pos hx]
theorem trimB_two (s : ByteArray) : (trimB s).data.toList = Lib.trimRightS (Lib.trimLeftS s.data.toList wsL) wsL := by
 show Lib.trimS s.data.toList wsL = _
 unfold Lib.trimS Lib.trimLeftS Lib.trimRightS
 exact (trim_swap (wsL.contains ·) _).symm
theorem wsp_B {c : UInt8} : wsL.contains c = true ↔ ((c.toNat : Int) = 32 ∨ (c.toNat : Int) = 9) := by
 unfold wsL
 simp only [List.contains_eq_mem, List.mem_cons, List.not_mem_nil, or_false, decide_eq_true_eq]
 constructor
 ·rintro (h | h) <;> subst h <;> decide
 ·rintro (h | h)
  ·exact .inl (UInt8.toNat_inj.1 (by show _ = 32; omega))
  ·exact .inr (UInt8.toNat_inj.1 (by show _ = 9; omega))
theorem first_B {z : ByteArray} (h : 1 <= z.size) : ∃ c l, z.data.toList = c :: l /\ B z 0 = (c.toNat : Int) /\ (z.extract 1 z.size).data.toList = l := by
 have hl := size_list z
 cases hz : z.data.toList with
 | nil => rw [hz] at hl; have : z.size = 0 := hl; omega
 | cons c l =>
  refine ⟨c, l, rfl, by unfold B; rw [hz]; rfl, ?_⟩
  rw [data_extract, List.take_of_length_le (by omega), hz]; rfl
theorem tl_step {z : ByteArray} (h : 1 <= z.size) (hw : B z 0 = 32 ∨ B z 0 = 9) : Lib.trimLeftS z.data.toList wsL = Lib.trimLeftS (z.extract 1 z.size).data.toList wsL := by
 obtain ⟨c, l, h1, h2, h3⟩ := first_B h
 rw [h1, h3]
 unfold Lib.trimLeftS
 rw [List.dropWhile_cons, if_pos (wsp_B.2 (by rw [← h2]; exact hw))]
theorem tl_stop {z : ByteArray} (h : z.size = 0 ∨ ¬ (B z 0 = 32 ∨ B z 0 = 9)) : Lib.trimLeftS z.data.toList wsL = z.data.toList := by
 rcases Nat.eq_zero_or_pos z.size with h0 | h0
 ·have e : z.data.toList = [] := List.eq_nil_of_length_eq_zero (by rw [← size_list]; exact h0)
  rw [e]; rfl
 ·obtain ⟨c, l, h1, h2, h3⟩ := first_B h0
  rw [h1]
  unfold Lib.trimLeftS
  rw [List.dropWhile_cons, if_neg (fun q => ?_)]
  have := wsp_B.1 q
  rw [← h2] at this
  rcases h with h | h
  ·omega
  ·exact h this
theorem last_B {z : ByteArray} (h : 1 <= z.size) : ∃ c, z.data.toList = (z.extract 0 (z.size - 1)).data.toList ++ [c] /\ B z (z.size - 1) = (c.toNat : Int) := by
 have hl := size_list z
 have hk : z.size - 1 < z.data.toList.length := by omega
 refine ⟨z.data.toList[z.size - 1], ?_, by unfold B; rw [List.getD_eq_getElem?_getD, List.getElem?_eq_getElem hk]; rfl⟩
 rw [data_extract, List.drop_zero]
 have h3 := List.take_append_drop (z.size - 1) z.data.toList
 rw [List.drop_eq_getElem_cons hk, List.drop_of_length_le (by omega)] at h3
 exact h3.symm
theorem tr_step {z : ByteArray} (h : 1 <= z.size) (hw : B z (z.size - 1) = 32 ∨ B z (z.size - 1) = 9) : Lib.trimRightS z.data.toList wsL = Lib.trimRightS (z.extract 0 (z.size - 1)).data.toList wsL := by
 obtain ⟨c, h1, h2⟩ := last_B h
 rw [h1]
 unfold Lib.trimRightS
 rw [List.reverse_append, List.reverse_singleton, List.singleton_append]
 rw [List.dropWhile_cons, if_pos (wsp_B.2 (by rw [← h2]; exact hw))]
theorem tr_stop {z : ByteArray} (h : z.size = 0 ∨ ¬ (B z (z.size - 1) = 32 ∨ B z (z.size - 1) = 9)) : Lib.trimRightS z.data.toList wsL = z.data.toList := by
 rcases Nat.eq_zero_or_pos z.size with h0 | h0
 ·have e : z.data.toList = [] := List.eq_nil_of_length_eq_zero (by rw [← size_list]; exact h0)
  rw [e]; rfl
 ·obtain ⟨c, h1, h2⟩ := last_B h0
  rw [h1]
  unfold Lib.trimRightS
  rw [List.reverse_append, List.reverse_singleton, List.singleton_append]
  rw [List.dropWhile_cons, if_neg (fun q => ?_), List.reverse_cons, List.reverse_reverse]
  have := wsp_B.1 q
  rw [← h2] at this
  rcases h with h | h
  ·omega
  ·exact h this
theorem trim_ws_any (s : ByteArray) (hs : s.size <= maxLen) (w : World) : Calls Tryz.prog 138 #[.string s, .string ⟨#[32, 9]⟩] w fun e w' => e = .returned (.string (trimB s)) /\ Ext w w' :=
 trim_cs s ⟨#[32, 9]⟩ hs (by decide) (by decide) w
def strLen8 : Value -> Nat
 | .string z => z.size
 | _ => 0
theorem trimB_size (s : ByteArray) : (trimB s).size <= s.size := by
 rw [size_list, trimB_two, size_list]
 unfold Lib.trimRightS Lib.trimLeftS
 rw [List.length_reverse]
 refine Nat.le_trans (List.dropWhile_sublist _).length_le ?_
 rw [List.length_reverse]
 exact (List.dropWhile_sublist _).length_le
theorem rtrim_any (s : ByteArray) (hs : s.size <= maxLen) (w : World) : Calls Tryz.prog 181 #[.string s] w fun e w' => e = .returned (.string (trimB s)) /\ w = w' := by
 have H2 := Lib.hid (trimB_two s)
 replace hs := size_max hs
 go_enter Tryz.func181, Tryz.ntmps181
 go_wp2_with fail
 go_loop [0] (fun zs => ∃ z : ByteArray, z.size <= s.size /\ zs = .string z /\ Lib.trimLeftS s.data.toList wsL = Lib.trimLeftS z.data.toList wsL) (fun zs => strLen8 zs)
 case atStart => exact ⟨s, Nat.le_refl _, rfl, rfl⟩
 case round =>
  obtain ⟨z, hz, rfl, hr⟩ := hrel
  have HR := Lib.hid hr
  clear hr
  have b0 := B_bd z 0
  by_cases h0 : (z.size : Int) < 1
  ·have HL : Hid (Lib.trimLeftS s.data.toList wsL = z.data.toList) := Lib.hid (by rw [HR.out, tl_stop (.inl (by omega))])
   have h0' : ¬ (0 : Int) < z.size := by omega
   have hd0 : decide ((0 : Int) < z.size) = false := decide_eq_false h0'
   clear h0
   go_wp2_with fail
   go_loop [0] (fun zs => ∃ y : ByteArray, y.size <= z.size /\ zs = .string y /\ Lib.trimRightS z.data.toList wsL = Lib.trimRightS y.data.toList wsL) (fun zs => strLen8 zs)
   case atStart => exact ⟨z, Nat.le_refl _, rfl, rfl⟩
   clear b0 hd0 h0'
   case round =>
    obtain ⟨y, hy, rfl, hr⟩ := hrel
    have HRY := Lib.hid hr
    clear hr
    have b0 := B_bd y (y.size - 1)
    have hj : ((y.size : Int) - 1).toNat = y.size - 1 := by omega
    have hez : (y.extract 0 (y.size - 1)).size = y.size - 1 := by rw [ByteArray.size_extract]; omega
    by_cases h0 : (y.size : Int) < 1
    ·have E : Hid (trimB s = y) := Lib.hid (BA_ext (by rw [H2.out, HL.out, HRY.out, tr_stop (.inl (by omega))]))
     have h0' : ¬ (0 : Int) < y.size := by omega
     have hd0 : decide ((0 : Int) < y.size) = false := decide_eq_false h0'
     clear h0
     go_wp2_with fail
     all_goals (go_ret; exact ⟨by rw [E.out]; rfl, rfl⟩)
    ·have h0' : (0 : Int) < y.size := by omega
     have hd0 : decide ((0 : Int) < y.size) = true := decide_eq_true h0'
     have hz1 : (1 : Int) <= y.size := by omega
     have hz2 : (0 : Int) <= (y.size : Int) - 1 := by omega
     have hz3 : (y.size : Int) - 1 <= y.size := by omega
     by_cases h32 : B y (y.size - 1) = 32
     ·have HS : Hid (Lib.trimRightS z.data.toList wsL = Lib.trimRightS (y.extract 0 (y.size - 1)).data.toList wsL) := Lib.hid (by rw [HRY.out, tr_step (by omega) (.inl h32)])
      have hb : (B y (y.size - 1) == 32) = true := by rw [beq_iff_eq]; exact h32
      clear h0 h32
      go_wp2_with fail
      all_goals (
       go_round
       case rel => exact ⟨_, by rw [hez]; omega, rfl, HS.out⟩
       case measure => simp [strLen8, hez] <;> omega)
     ·have hb : (B y (y.size - 1) == 32) = false := by rw [beq_eq_false_iff_ne]; exact h32
      by_cases h9 : B y (y.size - 1) = 9
      ·have HS : Hid (Lib.trimRightS z.data.toList wsL = Lib.trimRightS (y.extract 0 (y.size - 1)).data.toList wsL) := Lib.hid (by rw [HRY.out, tr_step (by omega) (.inr h9)])
       have hb2 : (B y (y.size - 1) == 9) = true := by rw [beq_iff_eq]; exact h9
       clear h0 h32 h9
       go_wp2_with fail
       all_goals (
        go_round
        case rel => exact ⟨_, by rw [hez]; omega, rfl, HS.out⟩
        case measure => simp [strLen8, hez] <;> omega)
      ·have hb2 : (B y (y.size - 1) == 9) = false := by rw [beq_eq_false_iff_ne]; exact h9
       have E : Hid (trimB s = y) := Lib.hid (BA_ext (by rw [H2.out, HL.out, HRY.out, tr_stop (.inr (by omega))]))
       clear h0 h32 h9
       go_wp2_with fail
       all_goals (go_ret; exact ⟨by rw [E.out]; rfl, rfl⟩)
  ·have h0' : (0 : Int) < z.size := by omega
   have hd0 : decide ((0 : Int) < z.size) = true := decide_eq_true h0'
   by_cases h32 : B z 0 = 32
   ·have HS : Hid (Lib.trimLeftS s.data.toList wsL = Lib.trimLeftS (z.extract 1 z.size).data.toList wsL) := Lib.hid (by rw [HR.out, tl_step (by omega) (.inl h32)])
    have hb : (B z 0 == 32) = true := by rw [beq_iff_eq]; exact h32
    have hez : (z.extract 1 z.size).size = z.size - 1 := by rw [ByteArray.size_extract]; omega
    have hz1 : (1 : Int) <= z.size := by omega
    clear h0 h32
    go_wp2_with fail
    go_round
    case rel => exact ⟨_, by rw [hez]; omega, rfl, HS.out⟩
    case measure => simp [strLen8, hez] <;> omega
   ·have hb : (B z 0 == 32) = false := by rw [beq_eq_false_iff_ne]; exact h32
    by_cases h9 : B z 0 = 9
    ·have HS : Hid (Lib.trimLeftS s.data.toList wsL = Lib.trimLeftS (z.extract 1 z.size).data.toList wsL) := Lib.hid (by rw [HR.out, tl_step (by omega) (.inr h9)])
     have hb2 : (B z 0 == 9) = true := by rw [beq_iff_eq]; exact h9
     have hez : (z.extract 1 z.size).size = z.size - 1 := by rw [ByteArray.size_extract]; omega
     have hz1 : (1 : Int) <= z.size := by omega
     clear h0 h32 h9
     go_wp2_with fail
     go_round
     case rel => exact ⟨_, by rw [hez]; omega, rfl, HS.out⟩
     case measure => simp [strLen8, hez] <;> omega
    ·have hb2 : (B z 0 == 9) = false := by rw [beq_eq_false_iff_ne]; exact h9
     have HL : Hid (Lib.trimLeftS s.data.toList wsL = z.data.toList) := Lib.hid (by rw [HR.out, tl_stop (.inr (by omega))])
     clear h0 h32 h9
     go_wp2_with fail
     go_loop [0] (fun zs => ∃ y : ByteArray, y.size <= z.size /\ zs = .string y /\ Lib.trimRightS z.data.toList wsL = Lib.trimRightS y.data.toList wsL) (fun zs => strLen8 zs)
     case atStart => exact ⟨z, Nat.le_refl _, rfl, rfl⟩
     clear b0 hd0 h0'
     case round =>
      obtain ⟨y, hy, rfl, hr⟩ := hrel
      have HRY := Lib.hid hr
      clear hr
      have b0 := B_bd y (y.size - 1)
      have hj : ((y.size : Int) - 1).toNat = y.size - 1 := by omega
      have hez : (y.extract 0 (y.size - 1)).size = y.size - 1 := by rw [ByteArray.size_extract]; omega
      by_cases h0 : (y.size : Int) < 1
      ·have E : Hid (trimB s = y) := Lib.hid (BA_ext (by rw [H2.out, HL.out, HRY.out, tr_stop (.inl (by omega))]))
       have h0' : ¬ (0 : Int) < y.size := by omega
       have hd0 : decide ((0 : Int) < y.size) = false := decide_eq_false h0'
       clear h0
       go_wp2_with fail
       all_goals (go_ret; exact ⟨by rw [E.out]; rfl, rfl⟩)
      ·have h0' : (0 : Int) < y.size := by omega
       have hd0 : decide ((0 : Int) < y.size) = true := decide_eq_true h0'
       have hz1 : (1 : Int) <= y.size := by omega
       have hz2 : (0 : Int) <= (y.size : Int) - 1 := by omega
       have hz3 : (y.size : Int) - 1 <= y.size := by omega
       by_cases h32 : B y (y.size - 1) = 32
       ·have HS : Hid (Lib.trimRightS z.data.toList wsL = Lib.trimRightS (y.extract 0 (y.size - 1)).data.toList wsL) := Lib.hid (by rw [HRY.out, tr_step (by omega) (.inl h32)])
        have hb : (B y (y.size - 1) == 32) = true := by rw [beq_iff_eq]; exact h32
        clear h0 h32
        go_wp2_with fail
        all_goals (
         go_round
         case rel => exact ⟨_, by rw [hez]; omega, rfl, HS.out⟩
         case measure => simp [strLen8, hez] <;> omega)
       ·have hb : (B y (y.size - 1) == 32) = false := by rw [beq_eq_false_iff_ne]; exact h32
        by_cases h9 : B y (y.size - 1) = 9
        ·have HS : Hid (Lib.trimRightS z.data.toList wsL = Lib.trimRightS (y.extract 0 (y.size - 1)).data.toList wsL) := Lib.hid (by rw [HRY.out, tr_step (by omega) (.inr h9)])
         have hb2 : (B y (y.size - 1) == 9) = true := by rw [beq_iff_eq]; exact h9
         clear h0 h32 h9
         go_wp2_with fail
         all_goals (
          go_round
          case rel => exact ⟨_, by rw [hez]; omega, rfl, HS.out⟩
          case measure => simp [strLen8, hez] <;> omega)
        ·have hb2 : (B y (y.size - 1) == 9) = false := by rw [beq_eq_false_iff_ne]; exact h9
         have E : Hid (trimB s = y) := Lib.hid (BA_ext (by rw [H2.out, HL.out, HRY.out, tr_stop (.inr (by omega))]))
         clear h0 h32 h9
         go_wp2_with fail
         all_goals (go_ret; exact ⟨by rw [E.out]; rfl, rfl⟩)
end Go.Proofs.YtnohnnjeabehjaaGreatDoor
