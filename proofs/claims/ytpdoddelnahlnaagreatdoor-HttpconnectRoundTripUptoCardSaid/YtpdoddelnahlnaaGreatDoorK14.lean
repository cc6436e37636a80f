/-
  Several texts joined: HbQ.
-/
import Derived.Test.YtpdoddelnahlnaaGreatDoorK13
/-
  Contracts of the reference's base64Value and DecodeBase64.
-/
set_option linter.unusedSimpArgs false
set_option linter.unusedVariables false
namespace Go.Proofs.YtpdoddelnahlnaaGreatDoor
open Go.RowKit Go.Joins
set_option maxRecDepth 20000 in
theorem L6_val : ∀ c : UInt8, 0 ≤ val6 c.toNat → L6 (val6 c.toNat) = c := by
  intro x h0
  have h : ((List.range 256).all fun n => decide (val6 ((UInt8.ofNat n).toNat : Int) < 0) || (L6 (val6 ((UInt8.ofNat n).toNat : Int)) == UInt8.ofNat n)) = true := by decide
  have h1 := List.all_eq_true.1 h x.toNat (List.mem_range.2 x.toNat_lt)
  rw [UInt8.ofNat_toNat] at h1
  rw [Bool.or_eq_true, decide_eq_true_eq, beq_iff_eq] at h1
  rcases h1 with h1 | h1
  · omega
  · exact h1
set_option maxRecDepth 4000 in
set_option maxHeartbeats 1000000 in
theorem val_any (c : UInt8) (w : World) : Calls Tryz.prog 154 #[.int .u8 c.toNat] w fun e w' => e = .returned (.int .i64 (val6 c.toNat)) ∧ w = w' := by
  go_enter Tryz.func154, Tryz.ntmps154
  go_wp2_with fail
  go_loop [3] (fun n => ∃ k : Nat, k ≤ 64 ∧ n = .int .i64 k ∧ ∀ m : Nat, m < k → L6 m ≠ c) (fun n => 64 - (intOf n).toNat)
  case atStart => exact ⟨0, Nat.zero_le _, rfl, fun m hm => by omega⟩
  case round =>
    obtain ⟨k, hk, rfl, hm⟩ := hrel
    have HM := Lib.hid hm
    clear hm
    by_cases hlt : k < 64
    · have hlt' : (k : Int) < 64 := by omega
      have KL := Lib.hid (letter_any (k : Int) (by omega) (by omega) w)
      have hv := val6_L (n := (k : Int)) (by omega) (by omega)
      have HV := Lib.hid hv
      clear hv
      generalize hL : L6 (k : Int) = l at *
      have HL := Lib.hid hL
      clear hL
      by_cases he : l = c
      · subst he
        have hb : ((l.toNat : Int) == (l.toNat : Int)) = true := by simp
        go_wp2_with (first | (go_at_call 107; refine KL.out.mono ?_; rintro e w' ⟨rfl, rfl⟩))
        go_ret; exact ⟨by rw [HV.out]; rfl, rfl⟩
      · have hb : ((l.toNat : Int) == (c.toNat : Int)) = false := by
          rw [beq_eq_false_iff_ne]; intro h; exact he (UInt8.toNat_inj.1 (by omega))
        have HE := Lib.hid he
        clear he
        go_wp2_with (first | (go_at_call 107; refine KL.out.mono ?_; rintro e w' ⟨rfl, rfl⟩))
        go_round
        case rel => exact ⟨k + 1, by omega, by go_num, fun m hm => by
          by_cases q : m = k
          · subst q; rw [HL.out]; exact HE.out
          · exact HM.out m (by omega)⟩
        case measure => simp [intOf]; omega
    · obtain rfl : k = 64 := by omega
      have E : Hid (val6 c.toNat = -1) := Lib.hid (by
        have hb := val6_bd c.toNat
        by_cases h : 0 ≤ val6 c.toNat
        · have := L6_val c h
          exact absurd (by rw [show ((val6 c.toNat).toNat : Int) = val6 c.toNat by omega]; exact this) (HM.out (val6 c.toNat).toNat (by omega))
        · omega)
      go_wp2_with fail
      go_ret; exact ⟨by rw [E.out]; rfl, rfl⟩
def w4 (z : ByteArray) (k j : Nat) : Int := if j < k then cl0 (val6 (B z j)) else 0
def cnt4 (z : ByteArray) : Nat → Nat
  | 0 => 0
  | k + 1 => cnt4 z k + if val6 (B z k) < 0 then 0 else 1
theorem cl0_bd (x : Int) : 0 ≤ cl0 (val6 x) ∧ cl0 (val6 x) < 64 := by
  have := val6_bd x
  unfold cl0; split <;> omega
theorem w4_bd (z : ByteArray) (k j : Nat) : 0 ≤ w4 z k j ∧ w4 z k j < 64 := by
  have := cl0_bd (B z j)
  unfold w4; split <;> omega
theorem cnt4_le (z : ByteArray) : ∀ k, cnt4 z k ≤ k
  | 0 => Nat.le_refl _
  | k + 1 => by have := cnt4_le z k; rw [cnt4]; split <;> omega
def arr4w (z : ByteArray) (k : Nat) : List Value := [.int .i64 (w4 z k 0), .int .i64 (w4 z k 1), .int .i64 (w4 z k 2), .int .i64 (w4 z k 3)]
theorem arr4w_set (z : ByteArray) {k : Nat} (h : k < 4) : (arr4w z k).set k (.int .i64 (cl0 (val6 (B z k)))) = arr4w z (k + 1) := by
  have : k = 0 ∨ k = 1 ∨ k = 2 ∨ k = 3 := by omega
  rcases this with h | h | h | h <;> subst h <;> simp [arr4w, w4]
theorem arr4w_at (z : ByteArray) {k : Nat} (h : k < 4) : (arr4w z k)[k]? = some (.int .i64 0) := by
  have : k = 0 ∨ k = 1 ∨ k = 2 ∨ k = 3 := by omega
  rcases this with h | h | h | h <;> subst h <;> simp [arr4w, w4]
theorem or_4w {v x : Int} (h0 : 0 ≤ v) (h1 : v < 64) (x0 : 0 ≤ x) (x1 : x < 4) : bits BinOp.or IntKind.i64 (v * 4) x = v * 4 + x :=
  bits_join .i64 24 (by decide) (fun n a b => IntWalk.i64_in _ (by omega)) 2 _ _ (by omega) (by omega) (by omega) x0 x1 (by omega)
theorem or_16w {v x : Int} (h0 : 0 ≤ v) (h1 : v < 64) (x0 : 0 ≤ x) (x1 : x < 16) : bits BinOp.or IntKind.i64 (v * 16) x = v * 16 + x :=
  bits_join .i64 24 (by decide) (fun n a b => IntWalk.i64_in _ (by omega)) 4 _ _ (by omega) (by omega) (by omega) x0 x1 (by omega)
/-- a round of four letters -/
theorem rdecL_step {z : ByteArray} (h : 4 ≤ z.size) : rdecL z.data.toList = ([UInt8.ofNat ((w4 z 4 0 * 4 + w4 z 4 1 / 16) % 256).toNat] ++ (if 2 < cnt4 z 4 then [UInt8.ofNat ((w4 z 4 1 * 16 + w4 z 4 2 / 4) % 256).toNat] else []) ++ (if 3 < cnt4 z 4 then [UInt8.ofNat ((w4 z 4 2 * 64 + w4 z 4 3) % 256).toNat] else [])) ++ rdecL (z.data.toList.drop 4) := by
  have hl := size_list z
  have w0 : w4 z 4 0 = cl0 (val6 (B z 0)) := rfl
  have w1 : w4 z 4 1 = cl0 (val6 (B z 1)) := rfl
  have w2 : w4 z 4 2 = cl0 (val6 (B z 2)) := rfl
  have w3 : w4 z 4 3 = cl0 (val6 (B z 3)) := rfl
  have c : cnt4 z 4 = vcnt (val6 (B z 0)) (val6 (B z 1)) (val6 (B z 2)) (val6 (B z 3)) := by simp [cnt4, vcnt]
  rw [w0, w1, w2, w3, c, B_list z 0, B_list z 1, B_list z 2, B_list z 3]
  clear w0 w1 w2 w3 c
  generalize z.data.toList = l at *
  match l, hl with
  | a :: b :: c :: d :: r, _ => rfl
  | [], hl => replace hl : z.size = 0 := hl; omega
  | [_], hl => replace hl : z.size = 1 := hl; omega
  | [_, _], hl => replace hl : z.size = 2 := hl; omega
  | [_, _, _], hl => replace hl : z.size = 3 := hl; omega
set_option maxRecDepth 4000 in
set_option maxHeartbeats 8000000 in
theorem rdec_any (s : ByteArray) (hs : s.size ≤ 1099511627776) (w : World) : Calls Tryz.prog 131 #[.string s] w fun e w' => e = .returned (.tuple #[.string (pdec s).1, .bool (pdec s).2]) ∧ Ext w w' := by
  rw [← rdec_pdec]
  go_enter Tryz.func131, Tryz.ntmps131
  have hmt : (s.size : Int).tmod 4 = ((s.size % 4 : Nat) : Int) := by rw [Int.tmod_eq_emod_of_nonneg (by omega)]; omega
  by_cases h4 : s.size % 4 ≠ 0
  · have E : Hid (rdec s = (⟨#[]⟩, false)) := Lib.hid (by unfold rdec; rw [if_pos h4])
    obtain ⟨m, hm⟩ : ∃ m : Nat, s.size % 4 = m := ⟨_, rfl⟩
    rw [hm] at hmt h4
    have hb : ((m : Int) != 0) = true := by rw [bne_iff_ne]; omega
    clear hm h4
    go_wp2_with fail
    go_ret2; exact ⟨by rw [E.out]; rfl, Ext.refl _⟩
  have h4' : s.size % 4 = 0 := by omega
  rw [h4'] at hmt
  have R0 : Hid (rdec s = if encB (txt (rdecL s.data.toList)) = s then (txt (rdecL s.data.toList), true) else (⟨#[]⟩, false)) := Lib.hid (by unfold rdec; rw [if_neg h4])
  clear h4
  go_wp2_with fail
  go_loopw [4, 5] (fun v c wr => ∃ (i : Nat) (out : List UInt8), i ≤ s.size ∧ i % 4 = 0 ∧ c = .int .i64 i ∧ wr.ownsRow w.heap.size 5 1 v out.length (bcells out) ∧ Ext w wr ∧ out.length ≤ i ∧ rdecL s.data.toList = out ++ rdecL (s.data.toList.drop i)) (fun _ c _ => s.size - (intOf c).toNat)
  case atStart => exact ⟨0, [], Nat.zero_le _, rfl, rfl, World.ownsRow_nil _ _ _ _, Ext.refl _, Nat.zero_le _, rfl⟩
  case round =>
    obtain ⟨i, out, hil, hi4, rfl, hown, hx, hol, hr⟩ := hrel
    have HR := Lib.hid hr; clear hr hmt
    obtain ⟨va, vc, rfl⟩ := own_sliceX hown
    by_cases h0 : i = s.size
    · have e0 : rdecL s.data.toList = out := by
        have e : s.data.toList.drop i = [] := List.drop_of_length_le (by rw [← size_list]; omega)
        rw [HR.out, e]; show out ++ [] = _; rw [List.append_nil]
      have R : Hid (rdec s = if encB (txt out) = s then (txt out, true) else (⟨#[]⟩, false)) := Lib.hid (by rw [R0.out, e0])
      clear e0
      have hcv0 := fun (w' : World) (h : Ext wr w') => own_str (P := Tryz.prog) (own_ext hown h) Tryz.underlying22 Tryz.underlying5 Tryz.underlying9
      have hcv := hcv0 wr (Ext.refl _)
      have HC0 := Lib.hid hcv0
      have KE := Lib.hid (renc_any (txt out) (by rw [size_list]; show out.length ≤ _; omega))
      have hbe := @toList_beq (encB (txt out)) s
      have h0' : ¬ (i : Int) < s.size := by omega
      clear hcv0 hown h0
      cases hd : decide (encB (txt out) = s)
      · have E : Hid (rdec s = (⟨#[]⟩, false)) := Lib.hid (by rw [R.out, if_neg (of_decide_eq_false hd)])
        rw [hd] at hbe
        clear hd R R0
        generalize encB (txt out) = eo at *
        go_wp2_with (first | (go_at_call 82; refine (KE.out _).mono ?_; rintro e w3 ⟨rfl, hx3⟩; have hcv3 := HC0.out w3 hx3))
        go_ret2; exact ⟨by rw [E.out]; rfl, hx.trans hx3⟩
      · have E : Hid (rdec s = (txt out, true)) := Lib.hid (by rw [R.out, if_pos (of_decide_eq_true hd)])
        rw [hd] at hbe
        clear hd R R0
        generalize encB (txt out) = eo at *
        go_wp2_with (first | (go_at_call 82; refine (KE.out _).mono ?_; rintro e w3 ⟨rfl, hx3⟩; have hcv3 := HC0.out w3 hx3))
        go_ret2; exact ⟨by rw [E.out]; rfl, hx.trans hx3⟩
    · obtain ⟨z, hzz⟩ : ∃ z : ByteArray, z = s.extract i s.size := ⟨_, rfl⟩
      have hzs : z.size = s.size - i := by rw [hzz, ByteArray.size_extract]; omega
      have HBZ : Hid (∀ k, i + k < s.size → B s (i + k) = B z k) := Lib.hid (fun k hk => by rw [hzz, B_extract _ _ _ _ hk])
      have hzl : z.data.toList = s.data.toList.drop i := by rw [hzz, data_extract, List.take_of_length_le (by rw [← size_list]; exact Nat.le_refl _)]
      have hst := rdecL_step (z := z) (by omega)
      rw [hzl, List.drop_drop] at hst
      have HST0 := Lib.hid hst
      clear hzz hzl hst
      have h0' : (i : Int) < s.size := by omega
      have hi4s : i + 4 ≤ s.size := by omega
      clear h0
      go_upto_region 8 with fail
      have hBk := Blk.new wr #[Value.int .i64 0, Value.int .i64 0, Value.int .i64 0, Value.int .i64 0] 140
      have hxA := (Ext.refl wr).alloc (.cells #[Value.int .i64 0, Value.int .i64 0, Value.int .i64 0, Value.int .i64 0] 140)
      have e3 : (#[Value.int .i64 0, Value.int .i64 0, Value.int .i64 0, Value.int .i64 0] : Array Value).toList = arr4w z 0 := by simp [arr4w, w4]
      rw [e3] at hBk
      clear e3
      generalize wr.alloc (.cells #[Value.int .i64 0, Value.int .i64 0, Value.int .i64 0, Value.int .i64 0] 140) = wA at *
      have HOW := Lib.hid hown
      have hwb := hx.size
      clear hown
      generalize hbg : wr.heap.size = b at *
      have HBG := Lib.hid hbg
      clear hbg
      go_wp2_with fail
      go_loopw [7, 8] (fun nv kv wq => ∃ j : Nat, j ≤ 4 ∧ kv = .int .i64 j ∧ nv = .int .i64 (cnt4 z j) ∧ Blk wq b (arr4w z j) 140 ∧ Ext wr wq) (fun _ kv _ => 4 - (intOf kv).toNat)
      case atStart => exact ⟨0, Nat.zero_le _, rfl, rfl, hBk, hxA⟩
      clear hBk hxA
      case round =>
        obtain ⟨j, hj4, rfl, rfl, hBk, hxq⟩ := hrel
        by_cases hgo : j < 4
        · have hg1 : (j : Int) < 4 := by omega
          have e1 := HBZ.out j (by omega)
          have hij : (i : Int) + j < s.size := by omega
          obtain ⟨cb, hcb⟩ : ∃ cb : UInt8, B z j = (cb.toNat : Int) := ⟨z.data.toList.getD j 0, rfl⟩
          have KV := Lib.hid (fun w => val_any cb w)
          have hf := hBk.free j
          have hcell := hBk.cell (i := j) (arr4w_at z hgo)
          have hkb := val6_bd cb.toNat
          have hcn := cnt4_le z j
          have hset := Lib.hid (hBk.set j (.int .i64 (val6 cb.toNat)))
          have hA1 := Lib.hid (arr4w_set z hgo)
          have hC1 : Hid (cnt4 z (j + 1) = cnt4 z j + if val6 cb.toNat < 0 then 0 else 1) := Lib.hid (by rw [cnt4, hcb])
          rw [hcb] at e1
          have HCB := Lib.hid hcb
          clear hcb
          have hxs := Lib.hid (hxq.setCell (p := ⟨b, j, none⟩) (show _ ≤ b from by have := HBG.out; omega) (.int .i64 (val6 cb.toNat)))
          have hxs2 := Lib.hid ((hxq.setCell (p := ⟨b, j, none⟩) (show _ ≤ b from by have := HBG.out; omega) (.int .i64 (val6 cb.toNat))).setCell (p := ⟨b, j, none⟩) (show _ ≤ b from by have := HBG.out; omega) (.int .i64 0))
          have hset2 := Lib.hid (hset.out.set j (.int .i64 0))
          have hlen : (arr4w z j).length = 4 := rfl
          have hc2 := hset.out.cell (i := j) (v := .int .i64 (val6 cb.toNat)) (by rw [List.getElem?_set, if_pos rfl, if_pos (by rw [hlen]; exact hgo)])
          have hf2 := hset.out.free j
          by_cases hneg : val6 cb.toNat < 0
          · have hn0 : ¬ 0 ≤ val6 cb.toNat := by omega
            have E1 : Hid (((arr4w z j).set j (.int .i64 (val6 cb.toNat))).set j (.int .i64 0) = arr4w z (j + 1)) := Lib.hid (by rw [List.set_set, ← hA1.out, HCB.out]; unfold cl0; rw [if_pos hneg])
            have E2 : Hid (cnt4 z (j + 1) = cnt4 z j) := Lib.hid (by rw [hC1.out, if_pos hneg]; rfl)
            clear hneg
            generalize val6 cb.toNat = k at *
            go_wp2_with (first | (go_at_call 154; refine (KV.out _).mono ?_; rintro e w' ⟨rfl, rfl⟩))
            go_roundw
            case rel => exact ⟨j + 1, by omega, by go_num, by rw [E2.out], by rw [← E1.out]; exact hset2.out, hxs2.out⟩
            case measure => simp [intOf]; omega
          · have hn0 : 0 ≤ val6 cb.toNat := by omega
            have E1 : Hid ((arr4w z j).set j (.int .i64 (val6 cb.toNat)) = arr4w z (j + 1)) := Lib.hid (by rw [← hA1.out, HCB.out]; unfold cl0; rw [if_neg hneg])
            have E2 : Hid (cnt4 z (j + 1) = cnt4 z j + 1) := Lib.hid (by rw [hC1.out, if_neg hneg])
            clear hneg
            generalize val6 cb.toNat = k at *
            generalize cnt4 z j = cn at *
            go_wp2_with (first | (go_at_call 154; refine (KV.out _).mono ?_; rintro e w' ⟨rfl, rfl⟩))
            go_roundw
            case rel => exact ⟨j + 1, by omega, by go_num, by rw [E2.out]; go_num, by rw [← E1.out]; exact hset.out, hxs.out⟩
            case measure => simp [intOf]; omega
        · obtain rfl : j = 4 := by omega
          have HST := HST0.out
          have hown := own_ext HOW.out hxq
          have hxw := hx.trans hxq
          have x0b := w4_bd z 4 0
          have x1b := w4_bd z 4 1
          have x2b := w4_bd z 4 2
          have x3b := w4_bd z 4 3
          have hBk2 : Blk _ b [.int .i64 (w4 z 4 0), .int .i64 (w4 z 4 1), .int .i64 (w4 z 4 2), .int .i64 (w4 z 4 3)] 140 := hBk
          clear hBk HBZ hgo HST0
          generalize w4 z 4 0 = x0 at *
          generalize w4 z 4 1 = x1 at *
          generalize w4 z 4 2 = x2 at *
          generalize w4 z 4 3 = x3 at *
          have hcl := cnt4_le z 4
          generalize cnt4 z 4 = cn at *
          obtain ⟨wq, hwq⟩ : ∃ wq : World, wq = wr := ⟨_, rfl⟩
          rw [← hwq] at hBk2 hxq hown hxw ⊢
          clear hwq
          have o1 := or_4w (v := x0) (x := x1 / 16) (by omega) (by omega) (by omega) (by omega)
          have o2 := or_16w (v := x1) (x := x2 / 4) (by omega) (by omega) (by omega) (by omega)
          have o3 := or_64 (v := x2) (x := x3) (by omega) (by omega) (by omega) (by omega)
          have g0 := hBk2.cell (i := 0) rfl
          have g1 := hBk2.cell (i := 1) rfl
          have hRR := HR.out
          rw [HST] at hRR
          clear HST
          have HST := hRR
          clear hRR
          by_cases k2 : 2 < cn
          · have k2' : (2 : Int) < cn := by omega
            rw [if_pos k2] at HST
            by_cases k3 : 3 < cn
            · have k3' : (3 : Int) < cn := by omega
              rw [if_pos k3] at HST
              simp only [← List.append_assoc] at HST
              clear k2 k3
              obtain ⟨q, hq⟩ : ∃ q : UInt8, (x0 * 4 + x1 / 16) % 256 = (q.toNat : Int) := ⟨UInt8.ofNat ((x0 * 4 + x1 / 16) % 256).toNat, (u8_back (Int.emod_nonneg _ (by decide)) (Int.emod_lt_of_pos _ (by decide))).symm⟩
              have hqe : UInt8.ofNat ((x0 * 4 + x1 / 16) % 256).toNat = q := by rw [hq, byte_back]
              have hq8 : IntKind.u8.wrap ((x0 * 4 + x1 / 16)) = q.toNat := by
                have : ∀ n : Int, IntKind.u8.wrap n = n % 256 := fun n => by simp [IntKind.wrap, IntKind.bits, IntKind.signed]
                rw [this]; exact hq
              rw [hqe] at HST
              clear hq hqe
              have hbz := (hxw).size
              go_wp2_with (first | refine wpList_app1 (m := 1) (out := out) (ns := [q]) rfl _ _ rfl ((hown).alloc _) rfl (Blk.new wq #[.int .u8 (q.toNat : Int)] 5) rfl rfl (by omega) (by rw [World.size_alloc]; omega) ?_)
              intro ve vf w6 hn0 hgrow
              have hown6 : (w6).ownsRow w.heap.size 5 1 (.slice ve ((out).length + 1) vf) (out ++ [q]).length (bcells (out ++ [q])) := by first | exact hn0 | (rw [List.length_append]; exact hn0)
              clear hn0
              have hlvx := (hown).lt
              have hx6 : Ext w w6 := Ext.grown ((hxw).alloc _) hgrow (fun g hg => (hlvx g hg).1)
              have hBk6 := Blk.grown ((hown).alloc _) ((hBk2).alloc _) (by decide) hgrow
              clear hgrow hlvx hbz hq8
              have hl6 : (out ++ [q]).length ≤ i + 1 := by rw [List.length_append]; show out.length + 1 ≤ _; omega
              generalize out ++ [q] = out6 at *
              have g1 := hBk6.cell (i := 1) rfl
              have g2 := hBk6.cell (i := 2) rfl
              obtain ⟨q, hq⟩ : ∃ q : UInt8, (x1 * 16 + x2 / 4) % 256 = (q.toNat : Int) := ⟨UInt8.ofNat ((x1 * 16 + x2 / 4) % 256).toNat, (u8_back (Int.emod_nonneg _ (by decide)) (Int.emod_lt_of_pos _ (by decide))).symm⟩
              have hqe : UInt8.ofNat ((x1 * 16 + x2 / 4) % 256).toNat = q := by rw [hq, byte_back]
              have hq8 : IntKind.u8.wrap ((x1 * 16 + x2 / 4)) = q.toNat := by
                have : ∀ n : Int, IntKind.u8.wrap n = n % 256 := fun n => by simp [IntKind.wrap, IntKind.bits, IntKind.signed]
                rw [this]; exact hq
              rw [hqe] at HST
              clear hq hqe
              have hbz := (hx6).size
              go_wp2_with (first | refine wpList_app1 (m := 1) (out := out6) (ns := [q]) rfl _ _ rfl ((hown6).alloc _) rfl (Blk.new w6 #[.int .u8 (q.toNat : Int)] 5) rfl rfl (by omega) (by rw [World.size_alloc]; omega) ?_)
              intro ve vf w7 hn0 hgrow
              have hown7 : (w7).ownsRow w.heap.size 5 1 (.slice ve ((out6).length + 1) vf) (out6 ++ [q]).length (bcells (out6 ++ [q])) := by first | exact hn0 | (rw [List.length_append]; exact hn0)
              clear hn0
              have hlvx := (hown6).lt
              have hx7 : Ext w w7 := Ext.grown ((hx6).alloc _) hgrow (fun g hg => (hlvx g hg).1)
              have hBk7 := Blk.grown ((hown6).alloc _) ((hBk6).alloc _) (by decide) hgrow
              clear hgrow hlvx hbz hq8
              have hl7 : (out6 ++ [q]).length ≤ i + 2 := by rw [List.length_append]; show out6.length + 1 ≤ _; omega
              generalize out6 ++ [q] = out7 at *
              have g2 := hBk7.cell (i := 2) rfl
              have g3 := hBk7.cell (i := 3) rfl
              obtain ⟨q, hq⟩ : ∃ q : UInt8, (x2 * 64 + x3) % 256 = (q.toNat : Int) := ⟨UInt8.ofNat ((x2 * 64 + x3) % 256).toNat, (u8_back (Int.emod_nonneg _ (by decide)) (Int.emod_lt_of_pos _ (by decide))).symm⟩
              have hqe : UInt8.ofNat ((x2 * 64 + x3) % 256).toNat = q := by rw [hq, byte_back]
              have hq8 : IntKind.u8.wrap ((x2 * 64 + x3)) = q.toNat := by
                have : ∀ n : Int, IntKind.u8.wrap n = n % 256 := fun n => by simp [IntKind.wrap, IntKind.bits, IntKind.signed]
                rw [this]; exact hq
              rw [hqe] at HST
              clear hq hqe
              have hbz := (hx7).size
              go_wp2_with (first | refine wpList_app1 (m := 1) (out := out7) (ns := [q]) rfl _ _ rfl ((hown7).alloc _) rfl (Blk.new w7 #[.int .u8 (q.toNat : Int)] 5) rfl rfl (by omega) (by rw [World.size_alloc]; omega) ?_)
              intro ve vf w8 hn0 hgrow
              have hown8 : (w8).ownsRow w.heap.size 5 1 (.slice ve ((out7).length + 1) vf) (out7 ++ [q]).length (bcells (out7 ++ [q])) := by first | exact hn0 | (rw [List.length_append]; exact hn0)
              clear hn0
              have hlvx := (hown7).lt
              have hx8 : Ext w w8 := Ext.grown ((hx7).alloc _) hgrow (fun g hg => (hlvx g hg).1)
              have hBk8 := Blk.grown ((hown7).alloc _) ((hBk7).alloc _) (by decide) hgrow
              clear hgrow hlvx hbz hq8
              have hl8 : (out7 ++ [q]).length ≤ i + 3 := by rw [List.length_append]; show out7.length + 1 ≤ _; omega
              generalize out7 ++ [q] = out8 at *
              have HF := Lib.hid hown8
              have HE := Lib.hid HST
              clear hown8 HST
              go_wp2_with fail
              go_roundw
              case rel => exact ⟨i + 4, out8, by omega, by omega, by go_num, HF.out, hx8, by omega, HE.out⟩
              case measure => simp [intOf]; omega
            · have k3' : ¬ (3 : Int) < cn := by omega
              rw [if_neg k3] at HST
              simp only [← List.append_assoc, List.append_nil] at HST
              clear k2 k3
              obtain ⟨q, hq⟩ : ∃ q : UInt8, (x0 * 4 + x1 / 16) % 256 = (q.toNat : Int) := ⟨UInt8.ofNat ((x0 * 4 + x1 / 16) % 256).toNat, (u8_back (Int.emod_nonneg _ (by decide)) (Int.emod_lt_of_pos _ (by decide))).symm⟩
              have hqe : UInt8.ofNat ((x0 * 4 + x1 / 16) % 256).toNat = q := by rw [hq, byte_back]
              have hq8 : IntKind.u8.wrap ((x0 * 4 + x1 / 16)) = q.toNat := by
                have : ∀ n : Int, IntKind.u8.wrap n = n % 256 := fun n => by simp [IntKind.wrap, IntKind.bits, IntKind.signed]
                rw [this]; exact hq
              rw [hqe] at HST
              clear hq hqe
              have hbz := (hxw).size
              go_wp2_with (first | refine wpList_app1 (m := 1) (out := out) (ns := [q]) rfl _ _ rfl ((hown).alloc _) rfl (Blk.new wq #[.int .u8 (q.toNat : Int)] 5) rfl rfl (by omega) (by rw [World.size_alloc]; omega) ?_)
              intro ve vf w6 hn0 hgrow
              have hown6 : (w6).ownsRow w.heap.size 5 1 (.slice ve ((out).length + 1) vf) (out ++ [q]).length (bcells (out ++ [q])) := by first | exact hn0 | (rw [List.length_append]; exact hn0)
              clear hn0
              have hlvx := (hown).lt
              have hx6 : Ext w w6 := Ext.grown ((hxw).alloc _) hgrow (fun g hg => (hlvx g hg).1)
              have hBk6 := Blk.grown ((hown).alloc _) ((hBk2).alloc _) (by decide) hgrow
              clear hgrow hlvx hbz hq8
              have hl6 : (out ++ [q]).length ≤ i + 1 := by rw [List.length_append]; show out.length + 1 ≤ _; omega
              generalize out ++ [q] = out6 at *
              have g1 := hBk6.cell (i := 1) rfl
              have g2 := hBk6.cell (i := 2) rfl
              obtain ⟨q, hq⟩ : ∃ q : UInt8, (x1 * 16 + x2 / 4) % 256 = (q.toNat : Int) := ⟨UInt8.ofNat ((x1 * 16 + x2 / 4) % 256).toNat, (u8_back (Int.emod_nonneg _ (by decide)) (Int.emod_lt_of_pos _ (by decide))).symm⟩
              have hqe : UInt8.ofNat ((x1 * 16 + x2 / 4) % 256).toNat = q := by rw [hq, byte_back]
              have hq8 : IntKind.u8.wrap ((x1 * 16 + x2 / 4)) = q.toNat := by
                have : ∀ n : Int, IntKind.u8.wrap n = n % 256 := fun n => by simp [IntKind.wrap, IntKind.bits, IntKind.signed]
                rw [this]; exact hq
              rw [hqe] at HST
              clear hq hqe
              have hbz := (hx6).size
              go_wp2_with (first | refine wpList_app1 (m := 1) (out := out6) (ns := [q]) rfl _ _ rfl ((hown6).alloc _) rfl (Blk.new w6 #[.int .u8 (q.toNat : Int)] 5) rfl rfl (by omega) (by rw [World.size_alloc]; omega) ?_)
              intro ve vf w7 hn0 hgrow
              have hown7 : (w7).ownsRow w.heap.size 5 1 (.slice ve ((out6).length + 1) vf) (out6 ++ [q]).length (bcells (out6 ++ [q])) := by first | exact hn0 | (rw [List.length_append]; exact hn0)
              clear hn0
              have hlvx := (hown6).lt
              have hx7 : Ext w w7 := Ext.grown ((hx6).alloc _) hgrow (fun g hg => (hlvx g hg).1)
              have hBk7 := Blk.grown ((hown6).alloc _) ((hBk6).alloc _) (by decide) hgrow
              clear hgrow hlvx hbz hq8
              have hl7 : (out6 ++ [q]).length ≤ i + 2 := by rw [List.length_append]; show out6.length + 1 ≤ _; omega
              generalize out6 ++ [q] = out7 at *
              have HF := Lib.hid hown7
              have HE := Lib.hid HST
              clear hown7 HST
              go_wp2_with fail
              go_roundw
              case rel => exact ⟨i + 4, out7, by omega, by omega, by go_num, HF.out, hx7, by omega, HE.out⟩
              case measure => simp [intOf]; omega
          · have k2' : ¬ (2 : Int) < cn := by omega
            have k3' : ¬ (3 : Int) < cn := by omega
            rw [if_neg k2, if_neg (by omega)] at HST
            simp only [← List.append_assoc, List.append_nil] at HST
            clear k2
            obtain ⟨q, hq⟩ : ∃ q : UInt8, (x0 * 4 + x1 / 16) % 256 = (q.toNat : Int) := ⟨UInt8.ofNat ((x0 * 4 + x1 / 16) % 256).toNat, (u8_back (Int.emod_nonneg _ (by decide)) (Int.emod_lt_of_pos _ (by decide))).symm⟩
            have hqe : UInt8.ofNat ((x0 * 4 + x1 / 16) % 256).toNat = q := by rw [hq, byte_back]
            have hq8 : IntKind.u8.wrap ((x0 * 4 + x1 / 16)) = q.toNat := by
              have : ∀ n : Int, IntKind.u8.wrap n = n % 256 := fun n => by simp [IntKind.wrap, IntKind.bits, IntKind.signed]
              rw [this]; exact hq
            rw [hqe] at HST
            clear hq hqe
            have hbz := (hxw).size
            go_wp2_with (first | refine wpList_app1 (m := 1) (out := out) (ns := [q]) rfl _ _ rfl ((hown).alloc _) rfl (Blk.new wq #[.int .u8 (q.toNat : Int)] 5) rfl rfl (by omega) (by rw [World.size_alloc]; omega) ?_)
            intro ve vf w6 hn0 hgrow
            have hown6 : (w6).ownsRow w.heap.size 5 1 (.slice ve ((out).length + 1) vf) (out ++ [q]).length (bcells (out ++ [q])) := by first | exact hn0 | (rw [List.length_append]; exact hn0)
            clear hn0
            have hlvx := (hown).lt
            have hx6 : Ext w w6 := Ext.grown ((hxw).alloc _) hgrow (fun g hg => (hlvx g hg).1)
            have hBk6 := Blk.grown ((hown).alloc _) ((hBk2).alloc _) (by decide) hgrow
            clear hgrow hlvx hbz hq8
            have hl6 : (out ++ [q]).length ≤ i + 1 := by rw [List.length_append]; show out.length + 1 ≤ _; omega
            generalize out ++ [q] = out6 at *
            have HF := Lib.hid hown6
            have HE := Lib.hid HST
            clear hown6 HST
            go_wp2_with fail
            go_roundw
            case rel => exact ⟨i + 4, out6, by omega, by omega, by go_num, HF.out, hx6, by omega, HE.out⟩
            case measure => simp [intOf]; omega
end Go.Proofs.YtpdoddelnahlnaaGreatDoor
