/-
  Several texts joined: HbP, HcA.
-/
import Derived.Test.YtnohnnjeabehjaaGreatDoorK13
import Derived.Test.YtnohnnjeabehjaaGreatDoorK12
set_option maxHeartbeats 4000000
set_option maxRecDepth 20000
set_option linter.unusedVariables false
set_option linter.unusedSimpArgs false
namespace Go.Proofs.YtnohnnjeabehjaaGreatDoor
open Go.RowKit Go.Joins
theorem idx_val6 : ∀ c : UInt8, Lib.indexByte alpha c = val6 c.toNat := by
 intro x
 have h : ((List.range 256).all fun n => Lib.indexByte alpha (UInt8.ofNat n) == val6 ((UInt8.ofNat n).toNat : Int)) = true := by decide
 have h1 := List.all_eq_true.1 h x.toNat (List.mem_range.2 x.toNat_lt)
 rw [UInt8.ofNat_toNat] at h1
 simpa using h1
theorem idx_any (c : UInt8) (w : World) : Calls Tryz.prog 127 #[.string ⟨#[65, 66, 67, 68, 69, 70, 71, 72, 73, 74, 75, 76, 77, 78, 79, 80, 81, 82, 83, 84, 85, 86, 87, 88, 89, 90, 97, 98, 99, 100, 101, 102, 103, 104, 105, 106, 107, 108, 109, 110, 111, 112, 113, 114, 115, 116, 117, 118, 119, 120, 121, 122, 48, 49, 50, 51, 52, 53, 54, 55, 56, 57, 43, 47]⟩, .int .u8 c.toNat] w fun e w' => e = .returned (.int .i64 (val6 c.toNat)) /\ w = w' := by
 refine (Tryz.strings_IndexByte ⟨alpha.toArray⟩ c.toNat w).mono fun e w' ⟨h1, h2⟩ => ⟨?_, h2.symm⟩
 rw [h1, ← idx_val6]
 rw [show ((c.toNat : Int)).toNat.toUInt8 = c from byte_back c]
theorem or_64 {v x : Int} (h0 : 0 <= v) (h1 : v < 64) (x0 : 0 <= x) (x1 : x < 64) : bits BinOp.or IntKind.i64 (v * 64) x = v * 64 + x :=
 bits_join .i64 24 (by decide) (fun n a b => IntWalk.i64_in _ (by omega)) 6 _ _ (by omega) (by omega) (by omega) x0 x1 (by omega)
theorem and_m3 {v : Int} (h0 : 0 <= v) (h1 : v < 4096) : bits BinOp.and IntKind.i64 v 3 = v % 4 := by
 have := bits_mask .i64 24 (by decide) (fun n a b => IntWalk.i64_in _ (by omega)) 2 (by decide) v h0 (by omega)
 simpa using this
theorem and_m15 {v : Int} (h0 : 0 <= v) (h1 : v < 4096) : bits BinOp.and IntKind.i64 v 15 = v % 16 := by
 have := bits_mask .i64 24 (by decide) (fun n a b => IntWalk.i64_in _ (by omega)) 4 (by decide) v h0 (by omega)
 simpa using this
theorem and_m0 {v : Int} (h0 : 0 <= v) (h1 : v < 4096) : bits BinOp.and IntKind.i64 v 0 = 0 := by
 have := bits_mask .i64 24 (by decide) (fun n a b => IntWalk.i64_in _ (by omega)) 0 (by decide) v h0 (by omega)
 have e : v % 2 ^ 0 = 0 := by omega
 rw [e] at this
 simpa using this
theorem dec_any (s : ByteArray) (hs : s.size <= 1099511627776) (w : World) : Calls Tryz.prog 201 #[.string s] w fun e w' => e = .returned (.tuple #[.string (pdec s).1, .bool (pdec s).2]) /\ Ext w w' := by
 obtain ⟨t, ht⟩ : ∃ t : ByteArray, t = txt (trimPad s.data.toList) := ⟨_, rfl⟩
 have htz : t.size <= s.size := by
  rw [ht, size_list (txt _), size_list]
  show (trimPad s.data.toList).length <= _
  unfold trimPad
  rw [List.length_reverse]
  have := (List.dropWhile_sublist (· == 61) (l := s.data.toList.reverse)).length_le
  simpa using this
 have KT := Lib.hid (Tryz.strings_TrimRight_one s 61 (by decide) w (by omega))
 rw [show (⟨(Lib.trimRightB s.data.toList 61).toArray⟩ : ByteArray) = t from ht.symm] at KT
 have R0 : Hid (pdec s = match drun 0 0 [] t.data.toList with
  | none => (⟨#[]⟩, false)
  | some o => if encB (txt o) = s then (txt o, true) else (⟨#[]⟩, false)) := Lib.hid (by rw [ht]; rfl)
 clear ht
 obtain ⟨w1, cap, hcv, hcap, hrow, hx0⟩ := conv_str t w
 generalize hbs : w.heap.size = b at *
 have hbw := hrow.lt
 go_enter Tryz.func201, Tryz.ntmps201
 go_wp2_with (first | (go_at_call 219; refine KT.out.mono ?_; rintro e w2 ⟨rfl, rfl⟩))
 clear hcv
 have HROW := Lib.hid hrow
 clear hrow KT
 go_loopw [4, 5, 6, 14] (fun ov vv bv c wr => ∃ (j : Nat) (o : List UInt8) (V : Int) (bb : Nat), j <= t.size /\ c = .int .i64 j /\ vv = .int .i64 V /\ bv = .int .i64 bb /\ (bb = 0 ∨ bb = 2 ∨ bb = 4 ∨ bb = 6) /\ 0 <= V /\ V < 2 ^ bb /\ wr.ownsRow w1.heap.size 5 1 ov o.length (bcells o) /\ Ext w1 wr /\ o.length <= j /\ drun 0 0 [] t.data.toList = drun V bb o (t.data.toList.drop j)) (fun _ _ _ c _ => t.size - (intOf c).toNat)
 case atStart => exact ⟨0, [], 0, 0, Nat.zero_le _, rfl, rfl, rfl, .inl rfl, by decide, by decide, World.ownsRow_nil _ _ _ _, Ext.refl _, Nat.zero_le _, rfl⟩
 case round =>
  obtain ⟨j, o, V, bb, hj, rfl, rfl, rfl, hbb, hv0, hv1, hown, hx, hol, hr⟩ := hrel
  have HR := Lib.hid hr
  clear hr
  have hwb := hx.size
  obtain ⟨va, vc, rfl⟩ := own_sliceX hown
  by_cases hlt : j < t.size
  ·have hlt' : (j : Int) < t.size := by omega
   have hrow := HROW.out.ext hx
   obtain ⟨cb, hcb⟩ : ∃ cb : UInt8, cb = t.data.toList.getD j 0 := ⟨_, rfl⟩
   have hBj : B t j = (cb.toNat : Int) := by rw [hcb]; rfl
   have hcell := hrow.cell j _ (numsB_get t j hlt)
   rw [hBj] at hcell
   have hdrop : t.data.toList.drop j = cb :: t.data.toList.drop (j + 1) := by
    have hl := size_list t
    rw [List.drop_eq_getElem_cons (by omega), hcb, List.getD_eq_getElem?_getD, List.getElem?_eq_getElem (by omega)]; rfl
   have HI := Lib.hid (idx_any cb)
   have hkb := val6_bd cb.toNat
   have hdr : drun V bb o (t.data.toList.drop j) = if val6 cb.toNat < 0 then none else drun (dstep V bb o (val6 cb.toNat)).1 (dstep V bb o (val6 cb.toNat)).2.1 (dstep V bb o (val6 cb.toNat)).2.2 (t.data.toList.drop (j + 1)) := by rw [hdrop, drun]
   have HDR := Lib.hid hdr
   clear hrow hcb hBj hdrop hdr
   generalize val6 cb.toNat = k at *
   by_cases hk : k < 0
   ·have E : Hid (pdec s = (⟨#[]⟩, false)) := Lib.hid (by rw [R0.out, HR.out, HDR.out, if_pos hk])
    clear hown
    go_wp2_with (first | (go_at_call 127; refine (HI.out _).mono ?_; rintro e w' ⟨rfl, rfl⟩))
    go_ret2; exact ⟨by rw [E.out]; rfl, hx0.trans hx⟩
   ·have hk0 : 0 <= k := by omega
    have hk1 : k < 64 := by omega
    have HC : Hid (drun V bb o (t.data.toList.drop j) = drun (dstep V bb o k).1 (dstep V bb o k).2.1 (dstep V bb o k).2.2 (t.data.toList.drop (j + 1))) := Lib.hid (by rw [HDR.out, if_neg hk])
    clear HDR hkb
    have hV64 : V < 64 := by
     rcases hbb with h | h | h | h <;> subst h
     ·rw [show (2 : Int) ^ 0 = 1 by decide] at hv1; omega
     ·rw [show (2 : Int) ^ 2 = 4 by decide] at hv1; omega
     ·rw [show (2 : Int) ^ 4 = 16 by decide] at hv1; omega
     ·rw [show (2 : Int) ^ 6 = 64 by decide] at hv1; omega
    have hor := or_64 hv0 hV64 hk0 hk1
    rcases hbb with h | h | h | h
    ·subst h
     rw [show (2 : Int) ^ 0 = 1 by decide] at hv1
     have HD : Hid (drun 0 0 [] t.data.toList = drun (V * 64 + k) 6 o (t.data.toList.drop (j + 1))) := Lib.hid (by rw [HR.out, HC.out]; rfl)
     have HOW := Lib.hid hown
     clear hown HR HC
     go_wp2_with (first | (go_at_call 127; refine (HI.out _).mono ?_; rintro e w' ⟨rfl, rfl⟩))
     go_roundw
     case rel => exact ⟨j + 1, o, V * 64 + k, 6, by omega, by go_num, rfl, rfl, by omega, by omega, by rw [show (2 : Int) ^ 6 = 64 by decide]; omega, HOW.out, hx, by omega, HD.out⟩
     case measure => simp [intOf]; omega
    ·subst h
     rw [show (2 : Int) ^ 2 = 4 by decide] at hv1
     have HD : Hid (drun 0 0 [] t.data.toList = drun ((V * 64 + k) % 1) 0 (o ++ [UInt8.ofNat ((V * 64 + k) / 1).toNat]) (t.data.toList.drop (j + 1))) := Lib.hid (by rw [HR.out, HC.out]; rfl)
     have hand := and_m0 (v := V * 64 + k) (by omega) (by omega)
     obtain ⟨q, hq⟩ : ∃ q : UInt8, (V * 64 + k) / 1 = (q.toNat : Int) := ⟨UInt8.ofNat ((V * 64 + k) / 1).toNat, (u8_back (by omega) (by omega)).symm⟩
     have hq8 : IntKind.u8.wrap (q.toNat : Int) = q.toNat := by
      have : ∀ n : Int, IntKind.u8.wrap n = n % 256 := fun n => by simp [IntKind.wrap, IntKind.bits, IntKind.signed]
      have := q.toNat_lt
      rw [‹∀ n : Int, IntKind.u8.wrap n = n % 256›]; omega
     have HD : Hid (drun 0 0 [] t.data.toList = drun (0 : Int) 0 (o ++ [q]) (t.data.toList.drop (j + 1))) := Lib.hid (by rw [HD.out, hq, byte_back, show (V * 64 + k) % 1 = (0 : Int) by omega])
     have hm0 : 0 <= (0 : Int) /\ (0 : Int) < 1 := by omega
     have HM := Lib.hid hm0
     clear hm0
     have hlv := hown.lt
     go_wp2_with (first | (go_at_call 127; refine (HI.out _).mono ?_; rintro e w' ⟨rfl, rfl⟩) | refine wpList_app1 (m := 1) (out := o) (ns := [q]) rfl _ _ rfl (hown.alloc _) rfl (Blk.new _ #[.int .u8 (q.toNat : Int)] 5) rfl rfl (by omega) (by rw [World.size_alloc]; omega) ?_)
     intro ve vf w7 hn0 hgrow
     have hx7 : Ext w1 w7 := Ext.grown (hx.alloc _) hgrow (fun g hg => (hlv g hg).1)
     have HO7 : Hid (w7.ownsRow w1.heap.size 5 1 (.slice ve (o.length + 1) vf) (o ++ [q]).length (bcells (o ++ [q]))) := Lib.hid (by first | exact hn0 | (rw [List.length_append]; exact hn0))
     clear hn0 hgrow hlv hown
     go_wp2_with fail
     go_roundw
     case rel => exact ⟨j + 1, o ++ [q], (0 : Int), 0, by omega, by go_num, rfl, rfl, by omega, HM.out.1, HM.out.2, HO7.out, hx7, by rw [List.length_append]; show o.length + 1 <= _; omega, HD.out⟩
     case measure => simp [intOf]; omega
    ·subst h
     rw [show (2 : Int) ^ 4 = 16 by decide] at hv1
     have HD : Hid (drun 0 0 [] t.data.toList = drun ((V * 64 + k) % 4) 2 (o ++ [UInt8.ofNat ((V * 64 + k) / 4).toNat]) (t.data.toList.drop (j + 1))) := Lib.hid (by rw [HR.out, HC.out]; rfl)
     have hand := and_m3 (v := V * 64 + k) (by omega) (by omega)
     obtain ⟨q, hq⟩ : ∃ q : UInt8, (V * 64 + k) / 4 = (q.toNat : Int) := ⟨UInt8.ofNat ((V * 64 + k) / 4).toNat, (u8_back (by omega) (by omega)).symm⟩
     have hq8 : IntKind.u8.wrap (q.toNat : Int) = q.toNat := by
      have : ∀ n : Int, IntKind.u8.wrap n = n % 256 := fun n => by simp [IntKind.wrap, IntKind.bits, IntKind.signed]
      have := q.toNat_lt
      rw [‹∀ n : Int, IntKind.u8.wrap n = n % 256›]; omega
     have HD : Hid (drun 0 0 [] t.data.toList = drun ((V * 64 + k) % 4) 2 (o ++ [q]) (t.data.toList.drop (j + 1))) := Lib.hid (by rw [HD.out, hq, byte_back, show (V * 64 + k) % 4 = ((V * 64 + k) % 4) by omega])
     have hm0 : 0 <= ((V * 64 + k) % 4) /\ ((V * 64 + k) % 4) < 4 := by omega
     have HM := Lib.hid hm0
     clear hm0
     have hlv := hown.lt
     go_wp2_with (first | (go_at_call 127; refine (HI.out _).mono ?_; rintro e w' ⟨rfl, rfl⟩) | refine wpList_app1 (m := 1) (out := o) (ns := [q]) rfl _ _ rfl (hown.alloc _) rfl (Blk.new _ #[.int .u8 (q.toNat : Int)] 5) rfl rfl (by omega) (by rw [World.size_alloc]; omega) ?_)
     intro ve vf w7 hn0 hgrow
     have hx7 : Ext w1 w7 := Ext.grown (hx.alloc _) hgrow (fun g hg => (hlv g hg).1)
     have HO7 : Hid (w7.ownsRow w1.heap.size 5 1 (.slice ve (o.length + 1) vf) (o ++ [q]).length (bcells (o ++ [q]))) := Lib.hid (by first | exact hn0 | (rw [List.length_append]; exact hn0))
     clear hn0 hgrow hlv hown
     go_wp2_with fail
     go_roundw
     case rel => exact ⟨j + 1, o ++ [q], ((V * 64 + k) % 4), 2, by omega, by go_num, rfl, rfl, by omega, HM.out.1, HM.out.2, HO7.out, hx7, by rw [List.length_append]; show o.length + 1 <= _; omega, HD.out⟩
     case measure => simp [intOf]; omega
    ·subst h
     rw [show (2 : Int) ^ 6 = 64 by decide] at hv1
     have HD : Hid (drun 0 0 [] t.data.toList = drun ((V * 64 + k) % 16) 4 (o ++ [UInt8.ofNat ((V * 64 + k) / 16).toNat]) (t.data.toList.drop (j + 1))) := Lib.hid (by rw [HR.out, HC.out]; rfl)
     have hand := and_m15 (v := V * 64 + k) (by omega) (by omega)
     obtain ⟨q, hq⟩ : ∃ q : UInt8, (V * 64 + k) / 16 = (q.toNat : Int) := ⟨UInt8.ofNat ((V * 64 + k) / 16).toNat, (u8_back (by omega) (by omega)).symm⟩
     have hq8 : IntKind.u8.wrap (q.toNat : Int) = q.toNat := by
      have : ∀ n : Int, IntKind.u8.wrap n = n % 256 := fun n => by simp [IntKind.wrap, IntKind.bits, IntKind.signed]
      have := q.toNat_lt
      rw [‹∀ n : Int, IntKind.u8.wrap n = n % 256›]; omega
     have HD : Hid (drun 0 0 [] t.data.toList = drun ((V * 64 + k) % 16) 4 (o ++ [q]) (t.data.toList.drop (j + 1))) := Lib.hid (by rw [HD.out, hq, byte_back, show (V * 64 + k) % 16 = ((V * 64 + k) % 16) by omega])
     have hm0 : 0 <= ((V * 64 + k) % 16) /\ ((V * 64 + k) % 16) < 16 := by omega
     have HM := Lib.hid hm0
     clear hm0
     have hlv := hown.lt
     go_wp2_with (first | (go_at_call 127; refine (HI.out _).mono ?_; rintro e w' ⟨rfl, rfl⟩) | refine wpList_app1 (m := 1) (out := o) (ns := [q]) rfl _ _ rfl (hown.alloc _) rfl (Blk.new _ #[.int .u8 (q.toNat : Int)] 5) rfl rfl (by omega) (by rw [World.size_alloc]; omega) ?_)
     intro ve vf w7 hn0 hgrow
     have hx7 : Ext w1 w7 := Ext.grown (hx.alloc _) hgrow (fun g hg => (hlv g hg).1)
     have HO7 : Hid (w7.ownsRow w1.heap.size 5 1 (.slice ve (o.length + 1) vf) (o ++ [q]).length (bcells (o ++ [q]))) := Lib.hid (by first | exact hn0 | (rw [List.length_append]; exact hn0))
     clear hn0 hgrow hlv hown
     go_wp2_with fail
     go_roundw
     case rel => exact ⟨j + 1, o ++ [q], ((V * 64 + k) % 16), 4, by omega, by go_num, rfl, rfl, by omega, HM.out.1, HM.out.2, HO7.out, hx7, by rw [List.length_append]; show o.length + 1 <= _; omega, HD.out⟩
     case measure => simp [intOf]; omega
  ·obtain rfl : j = t.size := by omega
   have hlt' : ¬ ((t.size : Nat) : Int) < t.size := by omega
   have R : Hid (pdec s = if encB (txt o) = s then (txt o, true) else (⟨#[]⟩, false)) := Lib.hid (by
    have e : t.data.toList.drop t.size = [] := List.drop_of_length_le (by rw [size_list]; exact Nat.le_refl _)
    rw [R0.out, HR.out, e, drun])
   have hcv0 := fun (w' : World) (h : Ext wr w') => own_str (P := Tryz.prog) (own_ext hown h) Tryz.underlying33 Tryz.underlying5 Tryz.underlying9
   have hcv := hcv0 wr (Ext.refl _)
   have HC0 := Lib.hid hcv0
   have KE := Lib.hid (enc_any (txt o) (by rw [size_list]; show o.length <= _; omega))
   have hbe := @toList_beq (encB (txt o)) s
   clear hcv0 hown
   cases hd : decide (encB (txt o) = s)
   ·have E : Hid (pdec s = (⟨#[]⟩, false)) := Lib.hid (by rw [R.out, if_neg (of_decide_eq_false hd)])
    rw [hd] at hbe
    clear hd R
    generalize encB (txt o) = eo at *
    go_wp2_with (first | (go_at_call 220; refine (KE.out _).mono ?_; rintro e w3 ⟨rfl, hx3⟩; have hcv3 := HC0.out w3 hx3))
    go_ret2; exact ⟨by rw [E.out]; rfl, (hx0.trans hx).trans hx3⟩
   ·have E : Hid (pdec s = (txt o, true)) := Lib.hid (by rw [R.out, if_pos (of_decide_eq_true hd)])
    rw [hd] at hbe
    clear hd R
    generalize encB (txt o) = eo at *
    go_wp2_with (first | (go_at_call 220; refine (KE.out _).mono ?_; rintro e w3 ⟨rfl, hx3⟩; have hcv3 := HC0.out w3 hx3))
    go_ret2; exact ⟨by rw [E.out]; rfl, (hx0.trans hx).trans hx3⟩
open Go.RowKit Go.Joins
def idxL (c : UInt8) : List UInt8 -> Nat
 | [] => 0
 | x :: l => if x = c then 0 else idxL c l + 1
theorem idxL_le (c : UInt8) : ∀ l, idxL c l <= l.length
 | [] => Nat.le_refl _
 | x :: l => by
  have := idxL_le c l
  rw [idxL, List.length_cons]; split <;> omega
theorem idxL_index (c : UInt8) : ∀ l : List UInt8, Lib.index l [c] = if idxL c l < l.length then (idxL c l : Int) else -1
 | [] => rfl
 | x :: l => by
  have ih := idxL_index c l
  have hle := idxL_le c l
  unfold Lib.index
  rw [idxL, List.length_cons]
  by_cases h : x = c
  ·subst h
   rw [if_pos (by simp [List.isPrefixOf]), if_pos rfl, if_pos (by omega)]; rfl
  ·rw [if_neg (by simp [List.isPrefixOf]; exact fun e => h e.symm), if_neg h, ih]
   by_cases q : idxL c l < l.length
   ·rw [if_pos q, if_neg (by first | (simp; done) | (simp; omega)), if_pos (show idxL c l + 1 < l.length + 1 by omega)]; omega
   ·rw [if_neg q, if_neg (show ¬ idxL c l + 1 < l.length + 1 by omega)]; rfl
def idxB (s : ByteArray) (c : UInt8) : Nat := idxL c s.data.toList
theorem idxB_le (s : ByteArray) (c : UInt8) : idxB s c <= s.size := by rw [size_list]; exact idxL_le c _
theorem idxL_no (c : UInt8) : ∀ (l : List UInt8) (k : Nat), k < idxL c l -> l.getD k 0 ≠ c
 | [], k, h => by simp [idxL] at h
 | x :: l, k, h => by
  rw [idxL] at h
  by_cases e : x = c
  ·rw [if_pos e] at h; omega
  ·rw [if_neg e] at h
   cases k with
   | zero => simpa using e
   | succ k => have := idxL_no c l k (by omega); simpa using this
theorem idxL_at (c : UInt8) : ∀ (l : List UInt8), idxL c l < l.length -> l.getD (idxL c l) 0 = c
 | [], h => by simp at h
 | x :: l, h => by
  rw [idxL] at h ⊢
  by_cases e : x = c
  ·rw [if_pos e]; simpa using e
  ·rw [if_neg e] at h ⊢
   have := idxL_at c l (by simpa using h)
   simpa using this
theorem idxB_no {s : ByteArray} {c : UInt8} {k : Nat} (h : k < idxB s c) : B s k ≠ c.toNat := by
 intro e
 exact idxL_no c s.data.toList k h (UInt8.toNat_inj.1 (by unfold B at e; omega))
theorem idxB_at {s : ByteArray} {c : UInt8} (h : idxB s c < s.size) : B s (idxB s c) = c.toNat := by
 rw [size_list] at h
 unfold B idxB
 rw [idxL_at c _ h]
theorem idxB_is {s : ByteArray} {c : UInt8} {k : Nat} (hk : k < s.size) (h : B s k = c.toNat) (hn : ∀ j, j < k -> B s j ≠ c.toNat) : idxB s c = k := by
 have hle := idxB_le s c
 rcases Nat.lt_trichotomy (idxB s c) k with q | q | q
 ·exact absurd (idxB_at (by omega)) (hn _ q)
 ·exact q
 ·exact absurd h (idxB_no q)
theorem idxB_none {s : ByteArray} {c : UInt8} (hn : ∀ j, j < s.size -> B s j ≠ c.toNat) : idxB s c = s.size := by
 have hle := idxB_le s c
 rcases Nat.lt_or_ge (idxB s c) s.size with q | q
 ·exact absurd (idxB_at q) (hn _ q)
 ·omega
def cutB (s : ByteArray) (c : UInt8) : ByteArray × ByteArray × Bool := if idxB s c < s.size then (s.extract 0 (idxB s c), s.extract (idxB s c + 1) s.size, true) else (s, ⟨#[]⟩, false)
theorem cutB_eq (s : ByteArray) (c : UInt8) : ((⟨(Lib.cut s.data.toList [c]).1.toArray⟩ : ByteArray), (⟨(Lib.cut s.data.toList [c]).2.1.toArray⟩ : ByteArray), (Lib.cut s.data.toList [c]).2.2) = cutB s c := by
 have hi := idxL_index c s.data.toList
 have hl := size_list s
 unfold cutB Lib.cut
 rw [hi]
 unfold idxB
 by_cases h : idxL c s.data.toList < s.data.toList.length
 ·rw [if_pos h, if_pos (by omega), if_pos (by omega)]
  simp only [Prod.mk.injEq, and_true, Int.toNat_natCast, List.length_singleton]
  refine ⟨BA_ext ?_, BA_ext ?_⟩
  ·rw [data_extract, List.drop_zero]
  ·rw [data_extract, List.take_of_length_le (by omega)]
 ·rw [if_neg h, if_neg (by omega), if_neg (by omega)]
theorem cutB_size (s : ByteArray) (c : UInt8) : (cutB s c).1.size <= s.size /\ (cutB s c).2.1.size <= s.size := by
 unfold cutB
 split
 ·exact ⟨extract_le _ _ _, extract_le _ _ _⟩
 ·exact ⟨Nat.le_refl _, Nat.zero_le _⟩
theorem cutc_any (s : ByteArray) (c : UInt8) (w : World) (he : Env w) (hs : s.size < 4294967281) :
  Calls Tryz.prog 175 #[.string s, .string ⟨#[c]⟩] w fun e w' => e = .returned (.tuple #[.string (cutB s c).1, .string (cutB s c).2.1, .bool (cutB s c).2.2]) /\ Ext w w' := by
 obtain ⟨m, hm⟩ := he
 refine (Tryz.strings_Cut s ⟨#[c]⟩ m w hs hm).mono fun e w' ⟨h1, n, h2⟩ => ?_
 subst h1 h2
 have := cutB_eq s c
 rw [← this]
 exact ⟨rfl, (Ext.refl w).drewN n⟩
theorem blower_any (s : ByteArray) (hs : s.size <= maxLen) (w : World) : Calls Tryz.prog 200 #[.string s] w fun e w' => e = .returned (.string (lowB s)) /\ Ext w w' := by
 replace hs := size_max hs
 obtain ⟨w1, cap, hcv, hcap, hrow, hx⟩ := conv_str s w
 rw [← lowTo_zero] at hrow
 generalize hbs : w.heap.size = b at *
 replace hbs := Nat.le_of_eq hbs
 have hbw := hrow.lt
 go_enter Tryz.func200, Tryz.ntmps200
 go_wp2_with fail
 clear hcv
 go_loopw [4, 5, 10] (fun _ _ c wr => ∃ k : Nat, k <= s.size /\ c = .int .i64 k /\ BRow wr b (lowTo s k) /\ Ext w wr) (fun _ _ c _ => s.size - (intOf c).toNat)
 case atStart => exact ⟨0, Nat.zero_le _, rfl, hrow, hx⟩
 case round =>
  obtain ⟨k, hk, rfl, hrow, hx⟩ := hrel
  by_cases hlt : k < s.size
  ·have hlt' : (k : Int) < s.size := by omega
   have hcell := hrow.cell k _ (lowTo_at s hlt)
   have hfree := hrow.free k (by rw [lowTo_len]; exact hlt)
   have bk := B_bd s k
   by_cases hu : 65 <= B s k /\ B s k <= 90
   ·have e8 : IntKind.u8.wrap (B s k - 65) = B s k - 65 := by
     have : ∀ n : Int, IntKind.u8.wrap n = n % 256 := fun n => by simp [IntKind.wrap, IntKind.bits, IntKind.signed]
     rw [this]; omega
    have e9 : IntKind.u8.wrap (B s k - 65 + 97) = B s k + 32 := by
     have : ∀ n : Int, IntKind.u8.wrap n = n % 256 := fun n => by simp [IntKind.wrap, IntKind.bits, IntKind.signed]
     rw [this]; omega
    have hg1 := hu.1
    have hg2 := hu.2
    have HR := Lib.hid (hrow.set (i := k) (by rw [lowTo_len]; exact hlt) (B s k + 32))
    have HLW : Hid (lowI (B s k) = B s k + 32) := Lib.hid (by unfold lowI; rw [if_pos hu])
    clear hu
    go_wp2_with fail
    go_roundw
    case rel => exact ⟨k + 1, by omega, by go_num, by rw [← lowTo_set s hlt, HLW.out]; exact HR.out, hx.setCell (p := ⟨b, k, none⟩) hbs _⟩
    case measure => simp [intOf]; omega
   ·have HLW : Hid (lowI (B s k) = B s k) := Lib.hid (by unfold lowI; rw [if_neg hu])
    by_cases hg : B s k < 65
    ·clear hu
     go_wp2_with fail
     go_roundw
     case rel => exact ⟨k + 1, by omega, by go_num, by rw [← lowTo_keep s hlt HLW.out]; exact hrow, hx⟩
     case measure => simp [intOf]; omega
    ·have hg2 : 90 < B s k := by omega
     clear hu
     go_wp2_with fail
     go_roundw
     case rel => exact ⟨k + 1, by omega, by go_num, by rw [← lowTo_keep s hlt HLW.out]; exact hrow, hx⟩
     case measure => simp [intOf]; omega
  ·obtain rfl : k = s.size := by omega
   rw [lowTo_all] at hrow
   have hcv := conv_back hrow cap
   have hln : (lowNums s).length = s.size := by rw [← lowTo_all, lowTo_len]
   rw [hln] at hcv
   clear hln
   go_wp2_with fail
   go_ret; exact ⟨rfl, hx⟩
def basicS : ByteArray := ⟨#[98, 97, 115, 105, 99]⟩
def authP (s : ByteArray) : ByteArray × ByteArray × Bool :=
 if (cutB s 32).2.2 = true /\ lowB (cutB s 32).1 = basicS then
  if (pdec (cutB s 32).2.1).2 = true then
   if (cutB (pdec (cutB s 32).2.1).1 58).2.2 = true then ((cutB (pdec (cutB s 32).2.1).1 58).1, (cutB (pdec (cutB s 32).2.1).1 58).2.1, true) else (⟨#[]⟩, ⟨#[]⟩, false)
  else (⟨#[]⟩, ⟨#[]⟩, false)
 else (⟨#[]⟩, ⟨#[]⟩, false)
theorem pdec_size (s : ByteArray) : (pdec s).1.size <= s.size := by
 unfold pdec
 split
 ·exact Nat.zero_le _
 ·rename_i o _
  split
  ·rename_i h
   have hl : (encB (txt o)).size = (encL o).length := size_list _
   rw [h, encL_len] at hl
   show (txt o).size <= _
   rw [size_list (txt o)]
   show o.length <= _
   omega
  ·exact Nat.zero_le _
theorem res3 {fn : Func} {t u v : Tmp} (h : fn.results = #[.tmp t, .tmp u, .tmp v]) {tmps : Array Value} {w : World} : (results fn tmps).run Tryz.prog w = .ok (.tuple #[tmps.getD t undef, tmps.getD u undef, tmps.getD v undef]) w := by
 simp [results, h, Sem.run_bind]
theorem auth_any (s : ByteArray) (w : World) (henv : Env w) (hs : s.size < 4294967281) : Calls Tryz.prog 179 #[.string s] w fun e w' => e = .returned (.tuple #[.string (authP s).1, .string (authP s).2.1, .bool (authP s).2.2]) /\ Ext w w' := by
 have K1 := Lib.hid (cutc_any s 32 w henv hs)
 have hz := cutB_size s 32
 have R0 : authP s = if (cutB s 32).2.2 = true /\ lowB (cutB s 32).1 = basicS then
  (if (pdec (cutB s 32).2.1).2 = true then
   (if (cutB (pdec (cutB s 32).2.1).1 58).2.2 = true then ((cutB (pdec (cutB s 32).2.1).1 58).1, (cutB (pdec (cutB s 32).2.1).1 58).2.1, true) else (⟨#[]⟩, ⟨#[]⟩, false))
  else (⟨#[]⟩, ⟨#[]⟩, false))
 else (⟨#[]⟩, ⟨#[]⟩, false) := rfl
 generalize (cutB s 32).1 = hd at *
 generalize (cutB s 32).2.1 = tl at *
 generalize (cutB s 32).2.2 = ok at *
 have L1 := Lib.hid (fun w => blower_any hd (by unfold maxLen; omega) w)
 have L2 := Lib.hid (fun w => blower_any ⟨#[66, 97, 115, 105, 99]⟩ (by decide) w)
 rw [show lowB ⟨#[66, 97, 115, 105, 99]⟩ = basicS by decide] at L2
 have D1 := Lib.hid (fun w => dec_any tl (by omega) w)
 have hdz := pdec_size tl
 generalize hbo : (pdec tl).1 = both at *
 generalize (pdec tl).2 = dok at *
 have K2 := Lib.hid (fun w h => cutc_any both 58 w h (by omega))
 generalize (cutB both 58).1 = us at *
 generalize (cutB both 58).2.1 = ps at *
 generalize (cutB both 58).2.2 = cok at *
 have hq := @toList_beq (lowB hd) basicS
 generalize lowB hd = lh at *
 clear hbo hz hdz hs
 go_enter Tryz.func179, Tryz.ntmps179
 cases ok
 ·have R : Hid (authP s = (⟨#[]⟩, ⟨#[]⟩, false)) := Lib.hid (by rw [R0, if_neg (by simp)])
  clear R0 hq
  go_wp2_with (first | (go_at_call 175; refine K1.out.mono ?_; rintro e w1 ⟨rfl, hx1⟩))
  refine bodyPost_ret (res3 rfl) rfl ⟨by rw [R.out]; rfl, hx1⟩
 cases hd2 : decide (lh = basicS)
 ·have R : Hid (authP s = (⟨#[]⟩, ⟨#[]⟩, false)) := Lib.hid (by rw [R0, if_neg (fun h => of_decide_eq_false hd2 h.2)])
  rw [hd2] at hq
  clear R0 hd2
  generalize basicS = bs at *
  go_wp2_with (first | (go_at_call 175; refine K1.out.mono ?_; rintro e w1 ⟨rfl, hx1⟩) | (go_at_call 200; first | (with_reducible refine (L1.out _).mono ?_; rintro e w2 ⟨rfl, hx2⟩; clear L1) | (with_reducible refine (L2.out _).mono ?_; rintro e w3 ⟨rfl, hx3⟩)))
  refine bodyPost_ret (res3 rfl) rfl ⟨by rw [R.out]; rfl, (hx1.trans hx2).trans hx3⟩
 have R1 : authP s = if dok = true then (if cok = true then (us, ps, true) else (⟨#[]⟩, ⟨#[]⟩, false)) else (⟨#[]⟩, ⟨#[]⟩, false) := by rw [R0, if_pos ⟨rfl, of_decide_eq_true hd2⟩]
 rw [hd2] at hq
 clear R0 hd2
 generalize basicS = bs at *
 cases dok
 ·have R : Hid (authP s = (⟨#[]⟩, ⟨#[]⟩, false)) := Lib.hid (by rw [R1]; rfl)
  clear R1
  go_wp2_with (first | (go_at_call 175; refine K1.out.mono ?_; rintro e w1 ⟨rfl, hx1⟩) | (go_at_call 200; first | (with_reducible refine (L1.out _).mono ?_; rintro e w2 ⟨rfl, hx2⟩; clear L1) | (with_reducible refine (L2.out _).mono ?_; rintro e w3 ⟨rfl, hx3⟩)) | (go_at_call 201; refine (D1.out _).mono ?_; rintro e w4 ⟨rfl, hx4⟩))
  refine bodyPost_ret (res3 rfl) rfl ⟨by rw [R.out]; rfl, ((hx1.trans hx2).trans hx3).trans hx4⟩
 cases cok
 ·have R : Hid (authP s = (⟨#[]⟩, ⟨#[]⟩, false)) := Lib.hid (by rw [R1]; rfl)
  clear R1
  go_wp2_with (first | (go_at_call 175; first | (with_reducible refine K1.out.mono ?_; rintro e w1 ⟨rfl, hx1⟩; clear K1) | (with_reducible refine KK.mono ?_; rintro e w5 ⟨rfl, hx5⟩)) | (go_at_call 200; first | (with_reducible refine (L1.out _).mono ?_; rintro e w2 ⟨rfl, hx2⟩; clear L1) | (with_reducible refine (L2.out _).mono ?_; rintro e w3 ⟨rfl, hx3⟩)) | (go_at_call 201; refine (D1.out _).mono ?_; rintro e w4 ⟨rfl, hx4⟩; have KK := K2.out w4 (henv.ext (((hx1.trans hx2).trans hx3).trans hx4))))
  refine bodyPost_ret (res3 rfl) rfl ⟨by rw [R.out]; rfl, (((hx1.trans hx2).trans hx3).trans hx4).trans hx5⟩
 ·have R : Hid (authP s = (us, ps, true)) := Lib.hid (by rw [R1]; rfl)
  clear R1
  go_wp2_with (first | (go_at_call 175; first | (with_reducible refine K1.out.mono ?_; rintro e w1 ⟨rfl, hx1⟩; clear K1) | (with_reducible refine KK.mono ?_; rintro e w5 ⟨rfl, hx5⟩)) | (go_at_call 200; first | (with_reducible refine (L1.out _).mono ?_; rintro e w2 ⟨rfl, hx2⟩; clear L1) | (with_reducible refine (L2.out _).mono ?_; rintro e w3 ⟨rfl, hx3⟩)) | (go_at_call 201; refine (D1.out _).mono ?_; rintro e w4 ⟨rfl, hx4⟩; have KK := K2.out w4 (henv.ext (((hx1.trans hx2).trans hx3).trans hx4))))
  refine bodyPost_ret (res3 rfl) rfl ⟨by rw [R.out]; rfl, (((hx1.trans hx2).trans hx3).trans hx4).trans hx5⟩
end Go.Proofs.YtnohnnjeabehjaaGreatDoor
