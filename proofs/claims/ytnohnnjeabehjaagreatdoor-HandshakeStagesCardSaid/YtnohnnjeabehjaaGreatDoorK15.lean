/-
  Several texts joined: HbQ, HoR, HoS.
-/
import Derived.Test.YtnohnnjeabehjaaGreatDoorK14
import Derived.Test.YtnohnnjeabehjaaGreatDoorK13
set_option maxHeartbeats 8000000
set_option maxRecDepth 20000
set_option linter.unusedVariables false
set_option linter.unusedSimpArgs false
namespace Go.Proofs.YtnohnnjeabehjaaGreatDoor
open Go.RowKit Go.Joins
theorem L6_val : ∀ c : UInt8, 0 <= val6 c.toNat -> L6 (val6 c.toNat) = c := by
 intro x h0
 have h : ((List.range 256).all fun n => decide (val6 ((UInt8.ofNat n).toNat : Int) < 0) || (L6 (val6 ((UInt8.ofNat n).toNat : Int)) == UInt8.ofNat n)) = true := by decide
 have h1 := List.all_eq_true.1 h x.toNat (List.mem_range.2 x.toNat_lt)
 rw [UInt8.ofNat_toNat] at h1
 rw [Bool.or_eq_true, decide_eq_true_eq, beq_iff_eq] at h1
 rcases h1 with h1 | h1
 ·omega
 ·exact h1
theorem val_any (c : UInt8) (w : World) : Calls Tryz.prog 205 #[.int .u8 c.toNat] w fun e w' => e = .returned (.int .i64 (val6 c.toNat)) /\ w = w' := by
 go_enter Tryz.func205, Tryz.ntmps205
 go_wp2_with fail
 go_loop [3] (fun n => ∃ k : Nat, k <= 64 /\ n = .int .i64 k /\ ∀ m : Nat, m < k -> L6 m ≠ c) (fun n => 64 - (intOf n).toNat)
 case atStart => exact ⟨0, Nat.zero_le _, rfl, fun m hm => by omega⟩
 case round =>
  obtain ⟨k, hk, rfl, hm⟩ := hrel
  have HM := Lib.hid hm
  clear hm
  by_cases hlt : k < 64
  ·have hlt' : (k : Int) < 64 := by omega
   have KL := Lib.hid (letter_any (k : Int) (by omega) (by omega) w)
   have hv := val6_L (n := (k : Int)) (by omega) (by omega)
   have HV := Lib.hid hv
   clear hv
   generalize hL : L6 (k : Int) = l at *
   have HL := Lib.hid hL
   clear hL
   by_cases he : l = c
   ·subst he
    have hb : ((l.toNat : Int) == (l.toNat : Int)) = true := by simp
    go_wp2_with (first | (go_at_call 83; refine KL.out.mono ?_; rintro e w' ⟨rfl, rfl⟩))
    go_ret; exact ⟨by rw [HV.out]; rfl, rfl⟩
   ·have hb : ((l.toNat : Int) == (c.toNat : Int)) = false := by
     rw [beq_eq_false_iff_ne]; intro h; exact he (UInt8.toNat_inj.1 (by omega))
    have HE := Lib.hid he
    clear he
    go_wp2_with (first | (go_at_call 83; refine KL.out.mono ?_; rintro e w' ⟨rfl, rfl⟩))
    go_round
    case rel => exact ⟨k + 1, by omega, by go_num, fun m hm => by
     by_cases q : m = k
     ·subst q; rw [HL.out]; exact HE.out
     ·exact HM.out m (by omega)⟩
    case measure => simp [intOf]; omega
  ·obtain rfl : k = 64 := by omega
   have E : Hid (val6 c.toNat = -1) := Lib.hid (by
    have hb := val6_bd c.toNat
    by_cases h : 0 <= val6 c.toNat
    ·have := L6_val c h
     exact absurd (by rw [show ((val6 c.toNat).toNat : Int) = val6 c.toNat by omega]; exact this) (HM.out (val6 c.toNat).toNat (by omega))
    ·omega)
   go_wp2_with fail
   go_ret; exact ⟨by rw [E.out]; rfl, rfl⟩
def w4 (z : ByteArray) (k j : Nat) : Int := if j < k then cl0 (val6 (B z j)) else 0
def cnt4 (z : ByteArray) : Nat -> Nat
 | 0 => 0
 | k + 1 => cnt4 z k + if val6 (B z k) < 0 then 0 else 1
theorem cl0_bd (x : Int) : 0 <= cl0 (val6 x) /\ cl0 (val6 x) < 64 := by
 have := val6_bd x
 unfold cl0; split <;> omega
theorem w4_bd (z : ByteArray) (k j : Nat) : 0 <= w4 z k j /\ w4 z k j < 64 := by
 have := cl0_bd (B z j)
 unfold w4; split <;> omega
theorem cnt4_le (z : ByteArray) : ∀ k, cnt4 z k <= k
 | 0 => Nat.le_refl _
 | k + 1 => by have := cnt4_le z k; rw [cnt4]; split <;> omega
def arr4w (z : ByteArray) (k : Nat) : List Value := [.int .i64 (w4 z k 0), .int .i64 (w4 z k 1), .int .i64 (w4 z k 2), .int .i64 (w4 z k 3)]
theorem arr4w_set (z : ByteArray) {k : Nat} (h : k < 4) : (arr4w z k).set k (.int .i64 (cl0 (val6 (B z k)))) = arr4w z (k + 1) := by
 have : k = 0 ∨ k = 1 ∨ k = 2 ∨ k = 3 := by omega
 rcases this with h | h | h | h <;> subst h <;> simp [arr4w, w4]
theorem arr4w_at (z : ByteArray) {k : Nat} (h : k < 4) : (arr4w z k)[k]? = some (.int .i64 0) := by
 have : k = 0 ∨ k = 1 ∨ k = 2 ∨ k = 3 := by omega
 rcases this with h | h | h | h <;> subst h <;> simp [arr4w, w4]
theorem or_4w {v x : Int} (h0 : 0 <= v) (h1 : v < 64) (x0 : 0 <= x) (x1 : x < 4) : bits BinOp.or IntKind.i64 (v * 4) x = v * 4 + x :=
 bits_join .i64 24 (by decide) (fun n a b => IntWalk.i64_in _ (by omega)) 2 _ _ (by omega) (by omega) (by omega) x0 x1 (by omega)
theorem or_16w {v x : Int} (h0 : 0 <= v) (h1 : v < 64) (x0 : 0 <= x) (x1 : x < 16) : bits BinOp.or IntKind.i64 (v * 16) x = v * 16 + x :=
 bits_join .i64 24 (by decide) (fun n a b => IntWalk.i64_in _ (by omega)) 4 _ _ (by omega) (by omega) (by omega) x0 x1 (by omega)
theorem rdecL_step {z : ByteArray} (h : 4 <= z.size) : rdecL z.data.toList = ([UInt8.ofNat ((w4 z 4 0 * 4 + w4 z 4 1 / 16) % 256).toNat] ++ (if 2 < cnt4 z 4 then [UInt8.ofNat ((w4 z 4 1 * 16 + w4 z 4 2 / 4) % 256).toNat] else []) ++ (if 3 < cnt4 z 4 then [UInt8.ofNat ((w4 z 4 2 * 64 + w4 z 4 3) % 256).toNat] else [])) ++ rdecL (z.data.toList.drop 4) := by
 have hl := size_list z
 have w0 : w4 z 4 0 = cl0 (val6 (B z 0)) := rfl
 have w1 : w4 z 4 1 = cl0 (val6 (B z 1)) := rfl
 have w2 : w4 z 4 2 = cl0 (val6 (B z 2)) := rfl
 have w3 : w4 z 4 3 = cl0 (val6 (B z 3)) := rfl
 have c : cnt4 z 4 = vcnt (val6 (B z 0)) (val6 (B z 1)) (val6 (B z 2)) (val6 (B z 3)) := by simp [cnt4, vcnt]
 rw [w0, w1, w2, w3, c, B_list z 0, B_list z 1, B_list z 2, B_list z 3]
 clear w0 w1 w2 w3 c
 generalize z.data.toList = l at *
 match l, hl with
 | a :: b :: c :: d :: r, _ => rfl
 | [], hl => replace hl : z.size = 0 := hl; omega
 | [_], hl => replace hl : z.size = 1 := hl; omega
 | [_, _], hl => replace hl : z.size = 2 := hl; omega
 | [_, _, _], hl => replace hl : z.size = 3 := hl; omega
theorem rdec_any (s : ByteArray) (hs : s.size <= 1099511627776) (w : World) : Calls Tryz.prog 182 #[.string s] w fun e w' => e = .returned (.tuple #[.string (pdec s).1, .bool (pdec s).2]) /\ Ext w w' := by
 rw [← rdec_pdec]
 go_enter Tryz.func182, Tryz.ntmps182
 have hmt : (s.size : Int).tmod 4 = ((s.size % 4 : Nat) : Int) := by rw [Int.tmod_eq_emod_of_nonneg (by omega)]; omega
 by_cases h4 : s.size % 4 ≠ 0
 ·have E : Hid (rdec s = (⟨#[]⟩, false)) := Lib.hid (by unfold rdec; rw [if_pos h4])
  obtain ⟨m, hm⟩ : ∃ m : Nat, s.size % 4 = m := ⟨_, rfl⟩
  rw [hm] at hmt h4
  have hb : ((m : Int) != 0) = true := by rw [bne_iff_ne]; omega
  clear hm h4
  go_wp2_with fail
  go_ret2; exact ⟨by rw [E.out]; rfl, Ext.refl _⟩
 have h4' : s.size % 4 = 0 := by omega
 rw [h4'] at hmt
 have R0 : Hid (rdec s = if encB (txt (rdecL s.data.toList)) = s then (txt (rdecL s.data.toList), true) else (⟨#[]⟩, false)) := Lib.hid (by unfold rdec; rw [if_neg h4])
 clear h4
 go_wp2_with fail
 go_loopw [4, 5] (fun v c wr => ∃ (i : Nat) (out : List UInt8), i <= s.size /\ i % 4 = 0 /\ c = .int .i64 i /\ wr.ownsRow w.heap.size 5 1 v out.length (bcells out) /\ Ext w wr /\ out.length <= i /\ rdecL s.data.toList = out ++ rdecL (s.data.toList.drop i)) (fun _ c _ => s.size - (intOf c).toNat)
 case atStart => exact ⟨0, [], Nat.zero_le _, rfl, rfl, World.ownsRow_nil _ _ _ _, Ext.refl _, Nat.zero_le _, rfl⟩
 case round =>
  obtain ⟨i, out, hil, hi4, rfl, hown, hx, hol, hr⟩ := hrel
  have HR := Lib.hid hr; clear hr hmt
  obtain ⟨va, vc, rfl⟩ := own_sliceX hown
  by_cases h0 : i = s.size
  ·have e0 : rdecL s.data.toList = out := by
    have e : s.data.toList.drop i = [] := List.drop_of_length_le (by rw [← size_list]; omega)
    rw [HR.out, e]; show out ++ [] = _; rw [List.append_nil]
   have R : Hid (rdec s = if encB (txt out) = s then (txt out, true) else (⟨#[]⟩, false)) := Lib.hid (by rw [R0.out, e0])
   clear e0
   have hcv0 := fun (w' : World) (h : Ext wr w') => own_str (P := Tryz.prog) (own_ext hown h) Tryz.underlying33 Tryz.underlying5 Tryz.underlying9
   have hcv := hcv0 wr (Ext.refl _)
   have HC0 := Lib.hid hcv0
   have KE := Lib.hid (renc_any (txt out) (by rw [size_list]; show out.length <= _; omega))
   have hbe := @toList_beq (encB (txt out)) s
   have h0' : ¬ (i : Int) < s.size := by omega
   clear hcv0 hown h0
   cases hd : decide (encB (txt out) = s)
   ·have E : Hid (rdec s = (⟨#[]⟩, false)) := Lib.hid (by rw [R.out, if_neg (of_decide_eq_false hd)])
    rw [hd] at hbe
    clear hd R R0
    generalize encB (txt out) = eo at *
    go_wp2_with (first | (go_at_call 60; refine (KE.out _).mono ?_; rintro e w3 ⟨rfl, hx3⟩; have hcv3 := HC0.out w3 hx3))
    go_ret2; exact ⟨by rw [E.out]; rfl, hx.trans hx3⟩
   ·have E : Hid (rdec s = (txt out, true)) := Lib.hid (by rw [R.out, if_pos (of_decide_eq_true hd)])
    rw [hd] at hbe
    clear hd R R0
    generalize encB (txt out) = eo at *
    go_wp2_with (first | (go_at_call 60; refine (KE.out _).mono ?_; rintro e w3 ⟨rfl, hx3⟩; have hcv3 := HC0.out w3 hx3))
    go_ret2; exact ⟨by rw [E.out]; rfl, hx.trans hx3⟩
  ·obtain ⟨z, hzz⟩ : ∃ z : ByteArray, z = s.extract i s.size := ⟨_, rfl⟩
   have hzs : z.size = s.size - i := by rw [hzz, ByteArray.size_extract]; omega
   have HBZ : Hid (∀ k, i + k < s.size -> B s (i + k) = B z k) := Lib.hid (fun k hk => by rw [hzz, B_extract _ _ _ _ hk])
   have hzl : z.data.toList = s.data.toList.drop i := by rw [hzz, data_extract, List.take_of_length_le (by rw [← size_list]; exact Nat.le_refl _)]
   have hst := rdecL_step (z := z) (by omega)
   rw [hzl, List.drop_drop] at hst
   have HST0 := Lib.hid hst
   clear hzz hzl hst
   have h0' : (i : Int) < s.size := by omega
   have hi4s : i + 4 <= s.size := by omega
   clear h0
   go_upto_region 8 with fail
   have hBk := Blk.new wr #[Value.int .i64 0, Value.int .i64 0, Value.int .i64 0, Value.int .i64 0] 224
   have hxA := (Ext.refl wr).alloc (.cells #[Value.int .i64 0, Value.int .i64 0, Value.int .i64 0, Value.int .i64 0] 224)
   have e3 : (#[Value.int .i64 0, Value.int .i64 0, Value.int .i64 0, Value.int .i64 0] : Array Value).toList = arr4w z 0 := by simp [arr4w, w4]
   rw [e3] at hBk
   clear e3
   generalize wr.alloc (.cells #[Value.int .i64 0, Value.int .i64 0, Value.int .i64 0, Value.int .i64 0] 224) = wA at *
   have HOW := Lib.hid hown
   have hwb := hx.size
   clear hown
   generalize hbg : wr.heap.size = b at *
   have HBG := Lib.hid hbg
   clear hbg
   go_wp2_with fail
   go_loopw [7, 8] (fun nv kv wq => ∃ j : Nat, j <= 4 /\ kv = .int .i64 j /\ nv = .int .i64 (cnt4 z j) /\ Blk wq b (arr4w z j) 224 /\ Ext wr wq) (fun _ kv _ => 4 - (intOf kv).toNat)
   case atStart => exact ⟨0, Nat.zero_le _, rfl, rfl, hBk, hxA⟩
   clear hBk hxA
   case round =>
    obtain ⟨j, hj4, rfl, rfl, hBk, hxq⟩ := hrel
    by_cases hgo : j < 4
    ·have hg1 : (j : Int) < 4 := by omega
     have e1 := HBZ.out j (by omega)
     have hij : (i : Int) + j < s.size := by omega
     obtain ⟨cb, hcb⟩ : ∃ cb : UInt8, B z j = (cb.toNat : Int) := ⟨z.data.toList.getD j 0, rfl⟩
     have KV := Lib.hid (fun w => val_any cb w)
     have hf := hBk.free j
     have hcell := hBk.cell (i := j) (arr4w_at z hgo)
     have hkb := val6_bd cb.toNat
     have hcn := cnt4_le z j
     have hset := Lib.hid (hBk.set j (.int .i64 (val6 cb.toNat)))
     have hA1 := Lib.hid (arr4w_set z hgo)
     have hC1 : Hid (cnt4 z (j + 1) = cnt4 z j + if val6 cb.toNat < 0 then 0 else 1) := Lib.hid (by rw [cnt4, hcb])
     rw [hcb] at e1
     have HCB := Lib.hid hcb
     clear hcb
     have hxs := Lib.hid (hxq.setCell (p := ⟨b, j, none⟩) (show _ <= b from by have := HBG.out; omega) (.int .i64 (val6 cb.toNat)))
     have hxs2 := Lib.hid ((hxq.setCell (p := ⟨b, j, none⟩) (show _ <= b from by have := HBG.out; omega) (.int .i64 (val6 cb.toNat))).setCell (p := ⟨b, j, none⟩) (show _ <= b from by have := HBG.out; omega) (.int .i64 0))
     have hset2 := Lib.hid (hset.out.set j (.int .i64 0))
     have hlen : (arr4w z j).length = 4 := rfl
     have hc2 := hset.out.cell (i := j) (v := .int .i64 (val6 cb.toNat)) (by rw [List.getElem?_set, if_pos rfl, if_pos (by rw [hlen]; exact hgo)])
     have hf2 := hset.out.free j
     by_cases hneg : val6 cb.toNat < 0
     ·have hn0 : ¬ 0 <= val6 cb.toNat := by omega
      have E1 : Hid (((arr4w z j).set j (.int .i64 (val6 cb.toNat))).set j (.int .i64 0) = arr4w z (j + 1)) := Lib.hid (by rw [List.set_set, ← hA1.out, HCB.out]; unfold cl0; rw [if_pos hneg])
      have E2 : Hid (cnt4 z (j + 1) = cnt4 z j) := Lib.hid (by rw [hC1.out, if_pos hneg]; rfl)
      clear hneg
      generalize val6 cb.toNat = k at *
      go_wp2_with (first | (go_at_call 205; refine (KV.out _).mono ?_; rintro e w' ⟨rfl, rfl⟩))
      go_roundw
      case rel => exact ⟨j + 1, by omega, by go_num, by rw [E2.out], by rw [← E1.out]; exact hset2.out, hxs2.out⟩
      case measure => simp [intOf]; omega
     ·have hn0 : 0 <= val6 cb.toNat := by omega
      have E1 : Hid ((arr4w z j).set j (.int .i64 (val6 cb.toNat)) = arr4w z (j + 1)) := Lib.hid (by rw [← hA1.out, HCB.out]; unfold cl0; rw [if_neg hneg])
      have E2 : Hid (cnt4 z (j + 1) = cnt4 z j + 1) := Lib.hid (by rw [hC1.out, if_neg hneg])
      clear hneg
      generalize val6 cb.toNat = k at *
      generalize cnt4 z j = cn at *
      go_wp2_with (first | (go_at_call 205; refine (KV.out _).mono ?_; rintro e w' ⟨rfl, rfl⟩))
      go_roundw
      case rel => exact ⟨j + 1, by omega, by go_num, by rw [E2.out]; go_num, by rw [← E1.out]; exact hset.out, hxs.out⟩
      case measure => simp [intOf]; omega
    ·obtain rfl : j = 4 := by omega
     have HST := HST0.out
     have hown := own_ext HOW.out hxq
     have hxw := hx.trans hxq
     have x0b := w4_bd z 4 0
     have x1b := w4_bd z 4 1
     have x2b := w4_bd z 4 2
     have x3b := w4_bd z 4 3
     have hBk2 : Blk _ b [.int .i64 (w4 z 4 0), .int .i64 (w4 z 4 1), .int .i64 (w4 z 4 2), .int .i64 (w4 z 4 3)] 224 := hBk
     clear hBk HBZ hgo HST0
     generalize w4 z 4 0 = x0 at *
     generalize w4 z 4 1 = x1 at *
     generalize w4 z 4 2 = x2 at *
     generalize w4 z 4 3 = x3 at *
     have hcl := cnt4_le z 4
     generalize cnt4 z 4 = cn at *
     obtain ⟨wq, hwq⟩ : ∃ wq : World, wq = wr := ⟨_, rfl⟩
     rw [← hwq] at hBk2 hxq hown hxw ⊢
     clear hwq
     have o1 := or_4w (v := x0) (x := x1 / 16) (by omega) (by omega) (by omega) (by omega)
     have o2 := or_16w (v := x1) (x := x2 / 4) (by omega) (by omega) (by omega) (by omega)
     have o3 := or_64 (v := x2) (x := x3) (by omega) (by omega) (by omega) (by omega)
     have g0 := hBk2.cell (i := 0) rfl
     have g1 := hBk2.cell (i := 1) rfl
     have hRR := HR.out
     rw [HST] at hRR
     clear HST
     have HST := hRR
     clear hRR
     by_cases k2 : 2 < cn
     ·have k2' : (2 : Int) < cn := by omega
      rw [if_pos k2] at HST
      by_cases k3 : 3 < cn
      ·have k3' : (3 : Int) < cn := by omega
       rw [if_pos k3] at HST
       simp only [← List.append_assoc] at HST
       clear k2 k3
       obtain ⟨q, hq⟩ : ∃ q : UInt8, (x0 * 4 + x1 / 16) % 256 = (q.toNat : Int) := ⟨UInt8.ofNat ((x0 * 4 + x1 / 16) % 256).toNat, (u8_back (Int.emod_nonneg _ (by decide)) (Int.emod_lt_of_pos _ (by decide))).symm⟩
       have hqe : UInt8.ofNat ((x0 * 4 + x1 / 16) % 256).toNat = q := by rw [hq, byte_back]
       have hq8 : IntKind.u8.wrap ((x0 * 4 + x1 / 16)) = q.toNat := by
        have : ∀ n : Int, IntKind.u8.wrap n = n % 256 := fun n => by simp [IntKind.wrap, IntKind.bits, IntKind.signed]
        rw [this]; exact hq
       rw [hqe] at HST
       clear hq hqe
       have hbz := (hxw).size
       go_wp2_with (first | refine wpList_app1 (m := 1) (out := out) (ns := [q]) rfl _ _ rfl ((hown).alloc _) rfl (Blk.new wq #[.int .u8 (q.toNat : Int)] 5) rfl rfl (by omega) (by rw [World.size_alloc]; omega) ?_)
       intro ve vf w6 hn0 hgrow
       have hown6 : (w6).ownsRow w.heap.size 5 1 (.slice ve ((out).length + 1) vf) (out ++ [q]).length (bcells (out ++ [q])) := by first | exact hn0 | (rw [List.length_append]; exact hn0)
       clear hn0
       have hlvx := (hown).lt
       have hx6 : Ext w w6 := Ext.grown ((hxw).alloc _) hgrow (fun g hg => (hlvx g hg).1)
       have hBk6 := Blk.grown ((hown).alloc _) ((hBk2).alloc _) (by decide) hgrow
       clear hgrow hlvx hbz hq8
       have hl6 : (out ++ [q]).length <= i + 1 := by rw [List.length_append]; show out.length + 1 <= _; omega
       generalize out ++ [q] = out6 at *
       have g1 := hBk6.cell (i := 1) rfl
       have g2 := hBk6.cell (i := 2) rfl
       obtain ⟨q, hq⟩ : ∃ q : UInt8, (x1 * 16 + x2 / 4) % 256 = (q.toNat : Int) := ⟨UInt8.ofNat ((x1 * 16 + x2 / 4) % 256).toNat, (u8_back (Int.emod_nonneg _ (by decide)) (Int.emod_lt_of_pos _ (by decide))).symm⟩
       have hqe : UInt8.ofNat ((x1 * 16 + x2 / 4) % 256).toNat = q := by rw [hq, byte_back]
       have hq8 : IntKind.u8.wrap ((x1 * 16 + x2 / 4)) = q.toNat := by
        have : ∀ n : Int, IntKind.u8.wrap n = n % 256 := fun n => by simp [IntKind.wrap, IntKind.bits, IntKind.signed]
        rw [this]; exact hq
       rw [hqe] at HST
       clear hq hqe
       have hbz := (hx6).size
       go_wp2_with (first | refine wpList_app1 (m := 1) (out := out6) (ns := [q]) rfl _ _ rfl ((hown6).alloc _) rfl (Blk.new w6 #[.int .u8 (q.toNat : Int)] 5) rfl rfl (by omega) (by rw [World.size_alloc]; omega) ?_)
       intro ve vf w7 hn0 hgrow
       have hown7 : (w7).ownsRow w.heap.size 5 1 (.slice ve ((out6).length + 1) vf) (out6 ++ [q]).length (bcells (out6 ++ [q])) := by first | exact hn0 | (rw [List.length_append]; exact hn0)
       clear hn0
       have hlvx := (hown6).lt
       have hx7 : Ext w w7 := Ext.grown ((hx6).alloc _) hgrow (fun g hg => (hlvx g hg).1)
       have hBk7 := Blk.grown ((hown6).alloc _) ((hBk6).alloc _) (by decide) hgrow
       clear hgrow hlvx hbz hq8
       have hl7 : (out6 ++ [q]).length <= i + 2 := by rw [List.length_append]; show out6.length + 1 <= _; omega
       generalize out6 ++ [q] = out7 at *
       have g2 := hBk7.cell (i := 2) rfl
       have g3 := hBk7.cell (i := 3) rfl
       obtain ⟨q, hq⟩ : ∃ q : UInt8, (x2 * 64 + x3) % 256 = (q.toNat : Int) := ⟨UInt8.ofNat ((x2 * 64 + x3) % 256).toNat, (u8_back (Int.emod_nonneg _ (by decide)) (Int.emod_lt_of_pos _ (by decide))).symm⟩
       have hqe : UInt8.ofNat ((x2 * 64 + x3) % 256).toNat = q := by rw [hq, byte_back]
       have hq8 : IntKind.u8.wrap ((x2 * 64 + x3)) = q.toNat := by
        have : ∀ n : Int, IntKind.u8.wrap n = n % 256 := fun n => by simp [IntKind.wrap, IntKind.bits, IntKind.signed]
        rw [this]; exact hq
       rw [hqe] at HST
       clear hq hqe
       have hbz := (hx7).size
       go_wp2_with (first | refine wpList_app1 (m := 1) (out := out7) (ns := [q]) rfl _ _ rfl ((hown7).alloc _) rfl (Blk.new w7 #[.int .u8 (q.toNat : Int)] 5) rfl rfl (by omega) (by rw [World.size_alloc]; omega) ?_)
       intro ve vf w8 hn0 hgrow
       have hown8 : (w8).ownsRow w.heap.size 5 1 (.slice ve ((out7).length + 1) vf) (out7 ++ [q]).length (bcells (out7 ++ [q])) := by first | exact hn0 | (rw [List.length_append]; exact hn0)
       clear hn0
       have hlvx := (hown7).lt
       have hx8 : Ext w w8 := Ext.grown ((hx7).alloc _) hgrow (fun g hg => (hlvx g hg).1)
       have hBk8 := Blk.grown ((hown7).alloc _) ((hBk7).alloc _) (by decide) hgrow
       clear hgrow hlvx hbz hq8
       have hl8 : (out7 ++ [q]).length <= i + 3 := by rw [List.length_append]; show out7.length + 1 <= _; omega
       generalize out7 ++ [q] = out8 at *
       have HF := Lib.hid hown8
       have HE := Lib.hid HST
       clear hown8 HST
       go_wp2_with fail
       go_roundw
       case rel => exact ⟨i + 4, out8, by omega, by omega, by go_num, HF.out, hx8, by omega, HE.out⟩
       case measure => simp [intOf]; omega
      ·have k3' : ¬ (3 : Int) < cn := by omega
       rw [if_neg k3] at HST
       simp only [← List.append_assoc, List.append_nil] at HST
       clear k2 k3
       obtain ⟨q, hq⟩ : ∃ q : UInt8, (x0 * 4 + x1 / 16) % 256 = (q.toNat : Int) := ⟨UInt8.ofNat ((x0 * 4 + x1 / 16) % 256).toNat, (u8_back (Int.emod_nonneg _ (by decide)) (Int.emod_lt_of_pos _ (by decide))).symm⟩
       have hqe : UInt8.ofNat ((x0 * 4 + x1 / 16) % 256).toNat = q := by rw [hq, byte_back]
       have hq8 : IntKind.u8.wrap ((x0 * 4 + x1 / 16)) = q.toNat := by
        have : ∀ n : Int, IntKind.u8.wrap n = n % 256 := fun n => by simp [IntKind.wrap, IntKind.bits, IntKind.signed]
        rw [this]; exact hq
       rw [hqe] at HST
       clear hq hqe
       have hbz := (hxw).size
       go_wp2_with (first | refine wpList_app1 (m := 1) (out := out) (ns := [q]) rfl _ _ rfl ((hown).alloc _) rfl (Blk.new wq #[.int .u8 (q.toNat : Int)] 5) rfl rfl (by omega) (by rw [World.size_alloc]; omega) ?_)
       intro ve vf w6 hn0 hgrow
       have hown6 : (w6).ownsRow w.heap.size 5 1 (.slice ve ((out).length + 1) vf) (out ++ [q]).length (bcells (out ++ [q])) := by first | exact hn0 | (rw [List.length_append]; exact hn0)
       clear hn0
       have hlvx := (hown).lt
       have hx6 : Ext w w6 := Ext.grown ((hxw).alloc _) hgrow (fun g hg => (hlvx g hg).1)
       have hBk6 := Blk.grown ((hown).alloc _) ((hBk2).alloc _) (by decide) hgrow
       clear hgrow hlvx hbz hq8
       have hl6 : (out ++ [q]).length <= i + 1 := by rw [List.length_append]; show out.length + 1 <= _; omega
       generalize out ++ [q] = out6 at *
       have g1 := hBk6.cell (i := 1) rfl
       have g2 := hBk6.cell (i := 2) rfl
       obtain ⟨q, hq⟩ : ∃ q : UInt8, (x1 * 16 + x2 / 4) % 256 = (q.toNat : Int) := ⟨UInt8.ofNat ((x1 * 16 + x2 / 4) % 256).toNat, (u8_back (Int.emod_nonneg _ (by decide)) (Int.emod_lt_of_pos _ (by decide))).symm⟩
       have hqe : UInt8.ofNat ((x1 * 16 + x2 / 4) % 256).toNat = q := by rw [hq, byte_back]
       have hq8 : IntKind.u8.wrap ((x1 * 16 + x2 / 4)) = q.toNat := by
        have : ∀ n : Int, IntKind.u8.wrap n = n % 256 := fun n => by simp [IntKind.wrap, IntKind.bits, IntKind.signed]
        rw [this]; exact hq
       rw [hqe] at HST
       clear hq hqe
       have hbz := (hx6).size
       go_wp2_with (first | refine wpList_app1 (m := 1) (out := out6) (ns := [q]) rfl _ _ rfl ((hown6).alloc _) rfl (Blk.new w6 #[.int .u8 (q.toNat : Int)] 5) rfl rfl (by omega) (by rw [World.size_alloc]; omega) ?_)
       intro ve vf w7 hn0 hgrow
       have hown7 : (w7).ownsRow w.heap.size 5 1 (.slice ve ((out6).length + 1) vf) (out6 ++ [q]).length (bcells (out6 ++ [q])) := by first | exact hn0 | (rw [List.length_append]; exact hn0)
       clear hn0
       have hlvx := (hown6).lt
       have hx7 : Ext w w7 := Ext.grown ((hx6).alloc _) hgrow (fun g hg => (hlvx g hg).1)
       have hBk7 := Blk.grown ((hown6).alloc _) ((hBk6).alloc _) (by decide) hgrow
       clear hgrow hlvx hbz hq8
       have hl7 : (out6 ++ [q]).length <= i + 2 := by rw [List.length_append]; show out6.length + 1 <= _; omega
       generalize out6 ++ [q] = out7 at *
       have HF := Lib.hid hown7
       have HE := Lib.hid HST
       clear hown7 HST
       go_wp2_with fail
       go_roundw
       case rel => exact ⟨i + 4, out7, by omega, by omega, by go_num, HF.out, hx7, by omega, HE.out⟩
       case measure => simp [intOf]; omega
     ·have k2' : ¬ (2 : Int) < cn := by omega
      have k3' : ¬ (3 : Int) < cn := by omega
      rw [if_neg k2, if_neg (by omega)] at HST
      simp only [← List.append_assoc, List.append_nil] at HST
      clear k2
      obtain ⟨q, hq⟩ : ∃ q : UInt8, (x0 * 4 + x1 / 16) % 256 = (q.toNat : Int) := ⟨UInt8.ofNat ((x0 * 4 + x1 / 16) % 256).toNat, (u8_back (Int.emod_nonneg _ (by decide)) (Int.emod_lt_of_pos _ (by decide))).symm⟩
      have hqe : UInt8.ofNat ((x0 * 4 + x1 / 16) % 256).toNat = q := by rw [hq, byte_back]
      have hq8 : IntKind.u8.wrap ((x0 * 4 + x1 / 16)) = q.toNat := by
       have : ∀ n : Int, IntKind.u8.wrap n = n % 256 := fun n => by simp [IntKind.wrap, IntKind.bits, IntKind.signed]
       rw [this]; exact hq
      rw [hqe] at HST
      clear hq hqe
      have hbz := (hxw).size
      go_wp2_with (first | refine wpList_app1 (m := 1) (out := out) (ns := [q]) rfl _ _ rfl ((hown).alloc _) rfl (Blk.new wq #[.int .u8 (q.toNat : Int)] 5) rfl rfl (by omega) (by rw [World.size_alloc]; omega) ?_)
      intro ve vf w6 hn0 hgrow
      have hown6 : (w6).ownsRow w.heap.size 5 1 (.slice ve ((out).length + 1) vf) (out ++ [q]).length (bcells (out ++ [q])) := by first | exact hn0 | (rw [List.length_append]; exact hn0)
      clear hn0
      have hlvx := (hown).lt
      have hx6 : Ext w w6 := Ext.grown ((hxw).alloc _) hgrow (fun g hg => (hlvx g hg).1)
      have hBk6 := Blk.grown ((hown).alloc _) ((hBk2).alloc _) (by decide) hgrow
      clear hgrow hlvx hbz hq8
      have hl6 : (out ++ [q]).length <= i + 1 := by rw [List.length_append]; show out.length + 1 <= _; omega
      generalize out ++ [q] = out6 at *
      have HF := Lib.hid hown6
      have HE := Lib.hid HST
      clear hown6 HST
      go_wp2_with fail
      go_roundw
      case rel => exact ⟨i + 4, out6, by omega, by omega, by go_num, HF.out, hx6, by omega, HE.out⟩
      case measure => simp [intOf]; omega
open Go.RowKit
theorem rname_any (s : ByteArray) (w : World) (hs : s.size <= maxLen) : Calls Tryz.prog 58 #[.string s] w fun e w' => e = .returned (.bool (okName s)) /\ Ext w w' := by
 by_cases h0 : (s.size : Int) < 1
 ·have e : okName s = false := by
   have : parts 46 s = [s] := by
    have h1 : s.data.toList = [] := List.eq_nil_of_length_eq_zero (by rw [← size_list]; omega)
    unfold parts; rw [h1]
    have : s = ⟨#[]⟩ := BA_ext h1
    subst this; rfl
   unfold okName
   rw [this, List.all_cons, okLab_no (by omega), Bool.false_and, Bool.and_false, Bool.false_and]
  go_enter Tryz.func58, Tryz.ntmps58
  rw [e]; clear e; go_wp2; go_ret; exact ⟨rfl, Ext.refl _⟩
 by_cases h1 : (253 : Int) < s.size
 ·have e : okName s = false := by unfold okName; rw [decide_eq_false (show ¬ s.size <= 253 by omega)]; rfl
  go_enter Tryz.func58, Tryz.ntmps58
  rw [e]; clear e; go_wp2; go_ret; exact ⟨rfl, Ext.refl _⟩
 have e : okName s = ((parts 46 s).all okLab && !(allB dig (lastL (parts 46 s)) (lastL (parts 46 s)).size)) := by unfold okName; rw [decide_eq_true (show s.size <= 253 by omega)]; rfl
 have hpz : ∀ x ∈ parts 46 s, x.size <= maxLen := fun x hx => Nat.le_trans (parts_size hx) hs
 have hsplit := fun w => rsplit_any s 46 w (by omega)
 have hpos := parts_pos 46 s
 have hpl := parts_len 46 s
 have hpl2 : (parts 46 s).length <= 254 := by omega
 clear hpl
 rw [e]
 generalize parts 46 s = ps at *
 have HS := Lib.hid hsplit; have HPZ := Lib.hid hpz
 clear hsplit hpz e
 have HL := Lib.hid (lastL_get hpos)
 go_enter Tryz.func58, Tryz.ntmps58
 go_wp2_with (first | (go_at_call 80; refine (HS.out _).mono ?_; rintro e w1 ⟨b, cap, rfl, hbl, hsc, hcap, hx⟩; refine Hid.out ?_))
 refine Lib.hid ?_
 go_wp2_with fail
 go_loopw [4, 5, 6, 7, 8] (fun c _ _ _ _ wr => ∃ k : Nat, k <= ps.length /\ c = .int .i64 k /\ (ps.take k).all okLab = true /\ (k = ps.length -> allB dig (lastL ps) (lastL ps).size = false) /\ StrCells wr b ps /\ Ext w wr) (fun c _ _ _ _ _ => ps.length - (intOf c).toNat)
 case atStart => exact ⟨0, Nat.zero_le _, rfl, rfl, fun h => by omega, hsc, hx⟩
 case round =>
  obtain ⟨k, hk, rfl, hok, hla, hsc, hx⟩ := hrel
  have HOK := Lib.hid hok; have HLA := Lib.hid hla; clear hok hla
  have hcp : ps.length <= cap := hcap
  by_cases hlt : k < ps.length
  ·have hlt' : (k : Int) < ps.length := by omega
   obtain ⟨x, hxk⟩ : ∃ x, ps[k]? = some x := ⟨ps[k]'hlt, List.getElem?_eq_getElem _⟩
   have hcell := hsc.2 k x hxk
   have HX := Lib.hid hxk; clear hxk
   have hxz := size_max (HPZ.out x (List.mem_of_getElem? HX.out))
   have HE0 : Hid (okLab x = false -> (ps.all okLab && !allB dig (lastL ps) (lastL ps).size) = false) := Lib.hid fun hv => by
    cases e : ps.all okLab with
    | false => rfl
    | true => have := List.all_eq_true.1 e x (List.mem_of_getElem? HX.out); rw [hv] at this; cases this
   have b0 := B_bd x 0
   have b1 := B_bd x (x.size - 1)
   by_cases g1 : (x.size : Int) < 1
   ·have HE0 := Lib.hid (HE0.out (okLab_no (by omega)))
    go_wp2_with fail
    go_ret; exact ⟨by rw [HE0.out]; rfl, hx⟩
   by_cases g2 : (63 : Int) < x.size
   ·have HE0 := Lib.hid (HE0.out (okLab_no (by omega)))
    go_wp2_with fail
    go_ret; exact ⟨by rw [HE0.out]; rfl, hx⟩
   by_cases g3 : B x 0 = 45
   ·have HE0 := Lib.hid (HE0.out (okLab_no (fun h => h.1.2.2.1 g3)))
    have g3' : (B x 0 == 45) = true := by rw [beq_iff_eq]; exact g3
    clear g3
    go_wp2_with fail
    go_ret; exact ⟨by rw [HE0.out]; rfl, hx⟩
   have g3' : (B x 0 == 45) = false := by rw [beq_eq_false_iff_ne]; exact g3
   have hi : ((x.size : Int) - 1).toNat = x.size - 1 := by omega
   by_cases g4 : B x (x.size - 1) = 45
   ·have HE0 := Lib.hid (HE0.out (okLab_no (fun h => h.1.2.2.2 g4)))
    have g4' : (B x (x.size - 1) == 45) = true := by rw [beq_iff_eq]; exact g4
    clear g3 g4
    go_wp2_with fail
    go_ret; exact ⟨by rw [HE0.out]; rfl, hx⟩
   have g4' : (B x (x.size - 1) == 45) = false := by rw [beq_eq_false_iff_ne]; exact g4
   have HQ : Hid (allB lch x x.size = true -> okLab x = true) := Lib.hid fun h => (okLab_iff x).2 ⟨⟨by omega, by omega, g3, g4⟩, h⟩
   clear g3 g4
   obtain ⟨wo, hwo⟩ : ∃ wo : World, wo = wr := ⟨_, rfl⟩
   rw [← hwo]; rw [← hwo] at hsc hx hcell
   clear hwo
   go_wp2_with fail
   go_loop [6, 7, 8] (fun d c _ => ∃ j : Nat, j <= x.size /\ c = .int .i64 j /\ d = .bool (allB dig x j) /\ allB lch x j = true) (fun _ c _ => x.size - (intOf c).toNat)
   case atStart => exact ⟨0, Nat.zero_le _, rfl, rfl, rfl⟩
   case round =>
    obtain ⟨j, hj, rfl, rfl, hlc⟩ := hrel
    have HLC := Lib.hid hlc; clear hlc
    by_cases hlt2 : j < x.size
    ·have hlt3 : (j : Int) < x.size := by omega
     have bj := B_bd x j
     have HN : Hid (lch (B x j) = false -> (ps.all okLab && !allB dig (lastL ps) (lastL ps).size) = false) := Lib.hid fun h => HE0.out (okLab_no (fun h2 => by rw [allB_stop hlt2 h] at h2; exact absurd h2.2 (by simp)))
     by_cases a1 : 97 <= B x j /\ B x j <= 122
     ·have HGC : Hid (lch (B x j) = true) := Lib.hid (by unfold lch; exact decide_eq_true (by omega))
      have HDG : Hid (dig (B x j) = false) := Lib.hid (by unfold dig; exact decide_eq_false (by omega))
      have c1 := a1.1
      have c2 := a1.2
      have c3 : ¬ B x j <= 57 := by omega
      clear a1 HN HE0
      cases hdj : allB dig x j
      ·have HDJ := Lib.hid hdj; clear hdj
       go_wp2_with fail
       go_roundw
       case rel => exact ⟨j + 1, by omega, by go_num, by rw [allB, HDJ.out, HDG.out]; rfl, by rw [allB, HLC.out, HGC.out]; rfl⟩
       case measure => simp [intOf]; omega
      ·have HDJ := Lib.hid hdj; clear hdj
       go_wp2_with fail
       go_roundw
       case rel => exact ⟨j + 1, by omega, by go_num, by rw [allB, HDJ.out, HDG.out]; rfl, by rw [allB, HLC.out, HGC.out]; rfl⟩
       case measure => simp [intOf]; omega
     by_cases a2 : 48 <= B x j /\ B x j <= 57
     ·have HGC : Hid (lch (B x j) = true) := Lib.hid (by unfold lch; exact decide_eq_true (by omega))
      have HDG : Hid (dig (B x j) = true) := Lib.hid (by unfold dig; exact decide_eq_true (by omega))
      have c1 := a2.1
      have c2 := a2.2
      clear a1 a2 HN HE0
      cases hdj : allB dig x j
      ·have HDJ := Lib.hid hdj; clear hdj
       go_wp2_with fail
       go_roundw
       case rel => exact ⟨j + 1, by omega, by go_num, by rw [allB, HDJ.out, HDG.out]; rfl, by rw [allB, HLC.out, HGC.out]; rfl⟩
       case measure => simp [intOf]; omega
      ·have HDJ := Lib.hid hdj; clear hdj
       go_wp2_with fail
       go_roundw
       case rel => exact ⟨j + 1, by omega, by go_num, by rw [allB, HDJ.out, HDG.out]; rfl, by rw [allB, HLC.out, HGC.out]; rfl⟩
       case measure => simp [intOf]; omega
     by_cases a3 : B x j = 45
     ·have HGC : Hid (lch (B x j) = true) := Lib.hid (by unfold lch; exact decide_eq_true (by omega))
      have HDG : Hid (dig (B x j) = false) := Lib.hid (by unfold dig; exact decide_eq_false (by omega))
      have c1 : (B x j == 45) = true := by rw [beq_iff_eq]; exact a3
      have c2 : B x j < 48 := by omega
      clear a1 a2 a3 HN HE0
      cases hdj : allB dig x j
      ·have HDJ := Lib.hid hdj; clear hdj
       go_wp2_with fail
       go_roundw
       case rel => exact ⟨j + 1, by omega, by go_num, by rw [allB, HDJ.out, HDG.out]; rfl, by rw [allB, HLC.out, HGC.out]; rfl⟩
       case measure => simp [intOf]; omega
      ·have HDJ := Lib.hid hdj; clear hdj
       go_wp2_with fail
       go_roundw
       case rel => exact ⟨j + 1, by omega, by go_num, by rw [allB, HDJ.out, HDG.out]; rfl, by rw [allB, HLC.out, HGC.out]; rfl⟩
       case measure => simp [intOf]; omega
     have HE0 := Lib.hid (HN.out (by unfold lch; exact decide_eq_false (by omega)))
     have c1 : (B x j == 45) = false := by rw [beq_eq_false_iff_ne]; exact a3
     by_cases c2 : B x j < 48
     ·clear a1 a2 a3 HN
      go_wp2_with fail
      go_ret; exact ⟨by rw [HE0.out]; rfl, hx⟩
     by_cases c3 : B x j < 97
     ·have c4 : ¬ B x j <= 57 := by omega
      have c5 : 48 <= B x j := by omega
      clear a1 a2 a3 HN c2
      go_wp2_with fail
      go_ret; exact ⟨by rw [HE0.out]; rfl, hx⟩
     ·have c4 : ¬ B x j <= 122 := by omega
      have c5 : 97 <= B x j := by omega
      have c6 : ¬ B x j <= 57 := by omega
      have c7 : 48 <= B x j := by omega
      clear a1 a2 a3 HN c2 c3
      go_wp2_with fail
      go_ret; exact ⟨by rw [HE0.out]; rfl, hx⟩
    ·obtain rfl : j = x.size := by omega
     have HLB := Lib.hid (HQ.out HLC.out)
     clear HE0
     cases hd : allB dig x x.size
     ·have HD := Lib.hid hd
      clear hd
      go_wp2_with fail
      go_roundw
      case rel => exact ⟨k + 1, by omega, by go_num, by rw [List.take_add_one, HX.out, List.all_append, HOK.out]; simp [HLB.out], fun h => by
       have e : lastL ps = x := by have h1 := HL.out; rw [← h, Nat.add_sub_cancel, HX.out] at h1; exact (Option.some.inj h1).symm
       rw [e]; exact HD.out, hsc, hx⟩
      case measure => simp [intOf]; omega
     ·have HD := Lib.hid hd
      clear hd
      by_cases hk1 : k + 1 = ps.length
      ·have e : lastL ps = x := by have h1 := HL.out; rw [← hk1, Nat.add_sub_cancel, HX.out] at h1; exact (Option.some.inj h1).symm
       have E : Hid ((ps.all okLab && !allB dig (lastL ps) (lastL ps).size) = false) := Lib.hid (by rw [e, HD.out]; simp)
       have hq : ((k : Int) == (ps.length : Int) - 1) = true := by rw [beq_iff_eq]; omega
       clear e hk1
       go_wp2_with fail
       go_ret; exact ⟨by rw [E.out]; rfl, hx⟩
      ·have hq : ((k : Int) == (ps.length : Int) - 1) = false := by rw [beq_eq_false_iff_ne]; omega
       go_wp2_with fail
       go_roundw
       case rel => exact ⟨k + 1, by omega, by go_num, by rw [List.take_add_one, HX.out, List.all_append, HOK.out]; simp [HLB.out], fun h => absurd h hk1, hsc, hx⟩
       case measure => simp [intOf]; omega
  ·obtain rfl : k = ps.length := by omega
   have E : Hid ((ps.all okLab && !allB dig (lastL ps) (lastL ps).size) = true) := Lib.hid (by
    have h1 := HOK.out
    rw [List.take_of_length_le (Nat.le_refl _)] at h1
    rw [h1, HLA.out rfl]; rfl)
   go_wp2_with fail
   go_ret; exact ⟨by rw [E.out]; rfl, hx⟩
open Go.RowKit
theorem hasSuffix_one {t : ByteArray} (h : 1 <= t.size) (c : UInt8) : Lib.hasSuffix t.data.toList [c] = decide (B t (t.size - 1) = (c.toNat : Int)) := by
 have hl := size_list t
 rw [← Lib.hasSuffix_of_drop, List.length_singleton, decide_eq_true (show 1 <= t.data.toList.length by omega), Bool.true_and]
 have hk : t.data.toList.length - 1 < t.data.toList.length := by omega
 rw [List.drop_eq_getElem_cons hk, List.drop_of_length_le (by omega)]
 have e : B t (t.size - 1) = ((t.data.toList[t.data.toList.length - 1]).toNat : Int) := by
  unfold B
  rw [List.getD_eq_getElem?_getD, hl, List.getElem?_eq_getElem hk, Option.getD_some]
 rw [e]
 by_cases q : t.data.toList[t.data.toList.length - 1] = c
 ·rw [q]; simp
 ·have : ¬ (((t.data.toList[t.data.toList.length - 1]).toNat : Int) = (c.toNat : Int)) := fun h => q (UInt8.toNat_inj.1 (by omega))
  rw [decide_eq_false this, beq_eq_false_iff_ne]
  intro h; injection h with h1 h2; exact q h1
theorem hasSuffix_nil {t : ByteArray} (h : t.size = 0) (c : UInt8) : Lib.hasSuffix t.data.toList [c] = false := by
 rw [size_list] at h
 rw [List.eq_nil_of_length_eq_zero h]; rfl
theorem B_nums {xs : List Int} {j : Nat} {x : Int} (h : xs[j]? = some x) (hx : 0 <= x /\ x < 256) : B (strOfNums xs) j = x := by
 unfold B
 rw [strOfNums_data, List.getD_eq_getElem?_getD, List.getElem?_map, h]
 exact u8_back hx.1 hx.2
theorem lowNums_get (s : ByteArray) {j : Nat} (h : j < s.size) : (lowNums s)[j]? = some (lowI (B s j)) := by
 unfold lowNums; rw [List.getElem?_map, numsB_get s j h]; rfl
theorem B_low (s : ByteArray) {j : Nat} (h : j < s.size) : B (lowB s) j = lowI (B s j) := B_nums (lowNums_get s h) (lowI_bd (B_bd s j))
theorem lowI_dot (x : Int) : lowI x = 46 ↔ x = 46 := by unfold lowI; split <;> omega
theorem nums_take (xs : List Int) (n : Nat) : (⟨((strOfNums xs).data.toList.take n).toArray⟩ : ByteArray) = strOfNums (xs.take n) := by
 unfold strOfNums; rw [List.map_take]
theorem hostS_dot {s : ByteArray} (h1 : 1 <= s.size) (h : B s (s.size - 1) = 46) : hostS s = strOfNums ((lowNums s).take (s.size - 1)) := by
 unfold hostS Lib.trimSuffix
 have hz := lowB_size s
 rw [hasSuffix_one (by omega), hz, B_low s (by omega), if_pos (by rw [decide_eq_true_eq]; exact (lowI_dot _).2 h), ← size_list, hz]
 exact nums_take _ _
theorem hostS_nodot {s : ByteArray} (h : 1 <= s.size -> B s (s.size - 1) ≠ 46) : hostS s = strOfNums ((lowNums s).take s.size) := by
 have hz := lowB_size s
 have e : (lowNums s).take s.size = lowNums s := List.take_of_length_le (by rw [← lowTo_all, lowTo_len]; exact Nat.le_refl _)
 rw [e]
 unfold hostS Lib.trimSuffix
 by_cases h0 : s.size = 0
 ·rw [hasSuffix_nil (by rw [hz]; exact h0), if_neg (by simp)]; rfl
 ·rw [hasSuffix_one (by omega), hz, B_low s (by omega), if_neg (by rw [decide_eq_true_eq]; exact fun q => h (by omega) ((lowI_dot _).1 q))]; rfl
theorem conv_take {w : World} {b : Nat} {l : List Int} (h : BRow w b l) {n : Nat} (hn : n <= l.length) (cap : Nat) : (convert 33 9 (.slice (some ⟨b, 0, none⟩) n cap)).run Tryz.prog w = .ok (.string (strOfNums (l.take n))) w :=
 run_convert_bytes_arg w 33 5 Tryz.underlying33 Tryz.underlying5 b 0 n cap (l.take n) (by rw [List.length_take]; omega) (fun i hi => by
  rw [Nat.zero_add]
  refine h.cell i _ ?_
  rw [List.getD_eq_getElem?_getD, List.getElem?_take, if_pos hi, List.getElem?_eq_getElem (by omega)]; rfl) 9 Tryz.underlying9
theorem lowTo_take (s : ByteArray) {n : Nat} (h : n <= s.size) : (lowTo s n).take n = (lowNums s).take n := by
 have hl := numsB_len s
 have e : (((numsB s).take n).map lowI).length = n := by rw [List.length_map, List.length_take]; omega
 unfold lowTo lowNums
 rw [List.take_left' e, List.map_take]
theorem rpname_any (s : ByteArray) (w : World) (hs : s.size <= maxLen) : Calls Tryz.prog 135 #[.string s] w fun e w' => e = .returned (.tuple #[.string (nameP s).1, .bool (nameP s).2]) /\ Ext w w' := by
 by_cases h1 : (s.size : Int) < 1
 ·obtain rfl : s = ⟨#[]⟩ := BA_ext (List.eq_nil_of_length_eq_zero (by rw [← size_list]; omega))
  have HV := Lib.hid (fun w => rname_any ⟨#[]⟩ w (Nat.zero_le _))
  rw [show okName ⟨#[]⟩ = false by decide] at HV
  have E : nameP ⟨#[]⟩ = (.empty, false) := by decide
  rw [E]
  obtain ⟨w1, cap, hcv, hcap, hrow, hx⟩ := conv_str ⟨#[]⟩ w
  have HC0 := Lib.hid (fun (w' : World) (h : Ext w1 w') => conv_take (hrow.ext h) (n := 0) (Nat.zero_le _) cap)
  rw [show strOfNums (List.take 0 (numsB ⟨#[]⟩)) = ⟨#[]⟩ from rfl] at HC0
  rw [show (⟨#[]⟩ : ByteArray).size = 0 from rfl] at hcv
  clear h1 hs hcap hrow E
  go_enter Tryz.func135, Tryz.ntmps135
  go_wp2_with fail
  clear hcv
  go_loopw [5] (fun c wr => c = .int .i64 0 /\ Ext w wr /\ Ext w1 wr) (fun _ _ => 0)
  case atStart => exact ⟨rfl, hx, Ext.refl _⟩
  case round =>
   obtain ⟨rfl, hx, hx1⟩ := hrel
   have hcv := HC0.out wr hx1
   go_wp2_with (first | (go_at_call 58; refine (HV.out wr).mono ?_; rintro e w3 ⟨rfl, hx3⟩))
   go_ret2; exact ⟨rfl, hx.trans hx3⟩
 have HV := Lib.hid (fun w => rname_any (hostS s) w (Nat.le_trans (hostS_size s) hs))
 replace hs := size_max hs
 obtain ⟨w1, cap, hcv, hcap, hrow, hx⟩ := conv_str s w
 rw [← lowTo_zero] at hrow
 generalize hbs : w.heap.size = b at *
 replace hbs := Nat.le_of_eq hbs
 have hbw := hrow.lt
 go_enter Tryz.func135, Tryz.ntmps135
 go_upto_region 2 with fail
 clear hcv
 have h1' : (0 : Int) < s.size := by omega
 have hi : ((s.size : Int) - 1).toNat = s.size - 1 := by omega
 have hcl := hrow.cell (s.size - 1) _ (by rw [lowTo_zero]; exact numsB_get s _ (by omega))
 by_cases h2 : B s (s.size - 1) = 46
 ·have HH := Lib.hid (hostS_dot (s := s) (by omega) h2)
  have h2' : (B s (s.size - 1) == 46) = true := by rw [beq_iff_eq]; exact h2
  clear h2
  go_upto_region 4 with fail
  go_wp2_with fail
  go_loopw [5] (fun c wr => ∃ k : Nat, k <= (s.size - 1) /\ c = .int .i64 k /\ BRow wr b (lowTo s k) /\ Ext w wr) (fun c _ => (s.size - 1) - (intOf c).toNat)
  case atStart => exact ⟨0, Nat.zero_le _, rfl, hrow, hx⟩
  case round =>
   obtain ⟨k, hk, rfl, hrow, hx⟩ := hrel
   by_cases hlt : k < (s.size - 1)
   ·have hlt' : (k : Int) < ((s.size - 1) : Nat) := by omega
    have hlz : k < s.size := by omega
    have hcell := hrow.cell k _ (lowTo_at s hlz)
    have hfree := hrow.free k (by rw [lowTo_len]; exact hlz)
    have bk := B_bd s k
    by_cases hu : 65 <= B s k /\ B s k <= 90
    ·have e9 : IntKind.u8.wrap (B s k + 32) = B s k + 32 := by
      have : ∀ n : Int, IntKind.u8.wrap n = n % 256 := fun n => by simp [IntKind.wrap, IntKind.bits, IntKind.signed]
      rw [this]; omega
     have hg1 := hu.1
     have hg2 := hu.2
     have HR := Lib.hid (hrow.set (i := k) (by rw [lowTo_len]; exact hlz) (B s k + 32))
     have HLW : Hid (lowI (B s k) = B s k + 32) := Lib.hid (by unfold lowI; rw [if_pos hu])
     clear hu
     go_wp2_with fail
     go_roundw
     case rel => exact ⟨k + 1, by omega, by go_num, by rw [← lowTo_set s hlz, HLW.out]; exact HR.out, hx.setCell (p := ⟨b, k, none⟩) hbs _⟩
     case measure => simp [intOf]; omega
    ·have HLW : Hid (lowI (B s k) = B s k) := Lib.hid (by unfold lowI; rw [if_neg hu])
     by_cases hg : B s k < 65
     ·clear hu
      go_wp2_with fail
      go_roundw
      case rel => exact ⟨k + 1, by omega, by go_num, by rw [← lowTo_keep s hlz HLW.out]; exact hrow, hx⟩
      case measure => simp [intOf]; omega
     ·have hg2 : ¬ B s k <= 90 := by omega
      have hg3 : 65 <= B s k := by omega
      clear hu hg
      go_wp2_with fail
      go_roundw
      case rel => exact ⟨k + 1, by omega, by go_num, by rw [← lowTo_keep s hlz HLW.out]; exact hrow, hx⟩
      case measure => simp [intOf]; omega
   ·obtain rfl : k = (s.size - 1) := by omega
    have hcv0 := fun (w' : World) (h : Ext wr w') => conv_take (hrow.ext h) (n := (s.size - 1)) (by rw [lowTo_len]; omega) cap
    rw [lowTo_take s (by omega), ← HH.out] at hcv0
    have hcv := hcv0 wr (Ext.refl _)
    have HC0 := Lib.hid hcv0
    have hlt2 : ¬ (((s.size - 1) : Nat) : Int) < ((s.size - 1) : Nat) := by omega
    clear hcv0 hlt hrow
    cases ho : okName (hostS s)
    ·rw [ho] at HV
     have E : Hid (nameP s = (.empty, false)) := Lib.hid (by unfold nameP; rw [ho]; rfl)
     clear ho
     go_wp2_with (first | (go_at_call 58; refine (HV.out wr).mono ?_; rintro e w3 ⟨rfl, hx3⟩))
     go_ret2; exact ⟨by rw [E.out]; rfl, hx.trans hx3⟩
    ·rw [ho] at HV
     have E : Hid (nameP s = (hostS s, true)) := Lib.hid (by unfold nameP; rw [ho]; rfl)
     clear ho
     go_wp2_with (first | (go_at_call 58; refine (HV.out wr).mono ?_; rintro e w3 ⟨rfl, hx3⟩; have hcv3 := HC0.out w3 hx3))
     go_ret2; exact ⟨by rw [E.out]; rfl, hx.trans hx3⟩
 ·have HH := Lib.hid (hostS_nodot (s := s) (fun _ => h2))
  have h2' : (B s (s.size - 1) == 46) = false := by rw [beq_eq_false_iff_ne]; exact h2
  clear h2
  go_wp2_with fail
  go_loopw [5] (fun c wr => ∃ k : Nat, k <= s.size /\ c = .int .i64 k /\ BRow wr b (lowTo s k) /\ Ext w wr) (fun c _ => s.size - (intOf c).toNat)
  case atStart => exact ⟨0, Nat.zero_le _, rfl, hrow, hx⟩
  case round =>
   obtain ⟨k, hk, rfl, hrow, hx⟩ := hrel
   by_cases hlt : k < s.size
   ·have hlt' : (k : Int) < (s.size : Nat) := by omega
    have hlz : k < s.size := by omega
    have hcell := hrow.cell k _ (lowTo_at s hlz)
    have hfree := hrow.free k (by rw [lowTo_len]; exact hlz)
    have bk := B_bd s k
    by_cases hu : 65 <= B s k /\ B s k <= 90
    ·have e9 : IntKind.u8.wrap (B s k + 32) = B s k + 32 := by
      have : ∀ n : Int, IntKind.u8.wrap n = n % 256 := fun n => by simp [IntKind.wrap, IntKind.bits, IntKind.signed]
      rw [this]; omega
     have hg1 := hu.1
     have hg2 := hu.2
     have HR := Lib.hid (hrow.set (i := k) (by rw [lowTo_len]; exact hlz) (B s k + 32))
     have HLW : Hid (lowI (B s k) = B s k + 32) := Lib.hid (by unfold lowI; rw [if_pos hu])
     clear hu
     go_wp2_with fail
     go_roundw
     case rel => exact ⟨k + 1, by omega, by go_num, by rw [← lowTo_set s hlz, HLW.out]; exact HR.out, hx.setCell (p := ⟨b, k, none⟩) hbs _⟩
     case measure => simp [intOf]; omega
    ·have HLW : Hid (lowI (B s k) = B s k) := Lib.hid (by unfold lowI; rw [if_neg hu])
     by_cases hg : B s k < 65
     ·clear hu
      go_wp2_with fail
      go_roundw
      case rel => exact ⟨k + 1, by omega, by go_num, by rw [← lowTo_keep s hlz HLW.out]; exact hrow, hx⟩
      case measure => simp [intOf]; omega
     ·have hg2 : ¬ B s k <= 90 := by omega
      have hg3 : 65 <= B s k := by omega
      clear hu hg
      go_wp2_with fail
      go_roundw
      case rel => exact ⟨k + 1, by omega, by go_num, by rw [← lowTo_keep s hlz HLW.out]; exact hrow, hx⟩
      case measure => simp [intOf]; omega
   ·obtain rfl : k = s.size := by omega
    have hcv0 := fun (w' : World) (h : Ext wr w') => conv_take (hrow.ext h) (n := s.size) (by rw [lowTo_len]; omega) cap
    rw [lowTo_take s (by omega), ← HH.out] at hcv0
    have hcv := hcv0 wr (Ext.refl _)
    have HC0 := Lib.hid hcv0
    have hlt2 : ¬ ((s.size : Nat) : Int) < (s.size : Nat) := by omega
    clear hcv0 hlt hrow
    cases ho : okName (hostS s)
    ·rw [ho] at HV
     have E : Hid (nameP s = (.empty, false)) := Lib.hid (by unfold nameP; rw [ho]; rfl)
     clear ho
     go_wp2_with (first | (go_at_call 58; refine (HV.out wr).mono ?_; rintro e w3 ⟨rfl, hx3⟩))
     go_ret2; exact ⟨by rw [E.out]; rfl, hx.trans hx3⟩
    ·rw [ho] at HV
     have E : Hid (nameP s = (hostS s, true)) := Lib.hid (by unfold nameP; rw [ho]; rfl)
     clear ho
     go_wp2_with (first | (go_at_call 58; refine (HV.out wr).mono ?_; rintro e w3 ⟨rfl, hx3⟩; have hcv3 := HC0.out w3 hx3))
     go_ret2; exact ⟨by rw [E.out]; rfl, hx.trans hx3⟩
theorem rport_any (s : ByteArray) (hs : s.size <= maxLen) (w : World) : Calls Tryz.prog 202 #[.string s] w fun e w' => e = .returned (.tuple #[.int .i64 (portP s).1, .bool (portP s).2]) /\ w = w' := by
 have K := decP_any s 65535 w hs
 have e : portP s = if decP s 65535 < 1 then (0, false) else (decP s 65535, true) := numP_decP s (by decide) (by decide)
 generalize decP s 65535 = d at *
 by_cases h : d < 1
 ·rw [if_pos h] at e
  rw [e]; clear e
  go_enter Tryz.func202, Tryz.ntmps202
  go_wp2_with (first | (go_at_call 221; refine K.mono ?_; rintro e w2 ⟨rfl, rfl⟩))
  go_ret2; exact ⟨rfl, rfl⟩
 ·rw [if_neg h] at e
  rw [e]; clear e
  go_enter Tryz.func202, Tryz.ntmps202
  go_wp2_with (first | (go_at_call 221; refine K.mono ?_; rintro e w2 ⟨rfl, rfl⟩))
  go_ret2; exact ⟨rfl, rfl⟩
end Go.Proofs.YtnohnnjeabehjaaGreatDoor
