/-
  Contract of the reference's FormatConnect.
-/
import Derived.Test.YtpdoddelnahlnaaGreatDoorHcFm
set_option linter.unusedSimpArgs false
set_option linter.unusedVariables false
namespace Go.Proofs.YtpdoddelnahlnaaGreatDoor
open Go.RowKit Go.Joins
theorem rqL_eq2 (t : Tgt) : ⟨#[67, 79, 78, 78, 69, 67, 84, 32]⟩ ++ fmtT t ++ ⟨#[32, 72, 84, 84, 80, 47, 49, 46, 49, 13, 10]⟩ = rqL t ++ crlf := by
  have e : (⟨#[32, 72, 84, 84, 80, 47, 49, 46, 49, 13, 10]⟩ : ByteArray) = ⟨#[32]⟩ ++ (v11 ++ crlf) := by decide +kernel
  rw [e]
  unfold rqL
  simp only [ByteArray.append_assoc]; rfl
theorem big_hd {t : Tgt} {u p : ByteArray} (h : 512 < u.size ∨ 512 < p.size) : 512 < (hdT (t, true, u, p)).size := by
  rw [hdT_size_yes]; omega
set_option maxRecDepth 8000 in
set_option maxHeartbeats 8000000 in
theorem rfmtc_any (h : Cr) (ho : okC h) (hu : h.2.2.1.size ≤ 1099511627776) (hp : h.2.2.2.size ≤ 1099511627776) (w : World) :
    Calls Tryz.prog 27 #[cv h] w fun e w' => e = .returned (.tuple #[.string (fmtC h).1, .bool (fmtC h).2]) ∧ Ext w w' := by
  obtain ⟨t, has, u, p⟩ := h
  simp only at hu hp
  have KV := Lib.hid (fun w => rvtarget_any t ho.1 w)
  have KF := Lib.hid (fun w => rhformat_any t ho.1 w)
  have KH := Lib.hid (fun w => rfmth_any u p hu hp w)
  have hrz := rqL_size ho.1
  have hfz := fmtT_size ho.1
  have HRQ := Lib.hid (rqL_eq2 t)
  have HAL := Lib.hid (authL_eq u p)
  have hav := authV_size u p
  unfold cv
  go_enter Tryz.func27, Tryz.ntmps27
  go_upto_region 1 with fail
  have hx := (Ext.refl w).alloc (.cells (crc (t, has, u, p)) 46)
  have hb := Blk.new w (crc (t, has, u, p)) 46
  generalize w.alloc (.cells (crc (t, has, u, p)) 46) = w1 at *
  generalize w.heap.size = b at hb ⊢
  have ht := ho.1
  have hrT := RBlk.rangeT hb
  have HB := Lib.hid hb
  go_wp2_with (first | refine wpList_load_Tm rfl _ rfl ht hrT rfl ?_ | (go_at_call 16; refine (KV.out _).mono ?_; rintro e w2 ⟨rfl, hx2⟩; refine Hid.out ?_))
  refine Lib.hid ?_
  have hxx := hx.trans hx2
  have hb2 := Blk.ext HB.out hx2
  clear HB hb hrT hx2 hx KV
  have cH := RBlk.has ho hb2
  have cU := RBlk.user ho hb2
  have cP := RBlk.pass ho hb2
  have hrT2 := RBlk.rangeT hb2
  simp only at cH cU cP hrT2
  have HB2 := Lib.hid hb2
  clear hb2
  cases hv : validT t
  · have R := Lib.hid (fmtC_no (okFm_v (has := has) (u := u) (p := p) hv))
    clear hav hfz hrz
    go_wp2_with fail
    refine bodyPost_ret (res2s rfl) rfl ⟨by rw [R.out]; rfl, hxx⟩
  generalize fmtT t = f at *
  have y1 : ¬ 9223372036854775807 < 8 + f.size := by omega
  have y2 : ¬ 9223372036854775807 < 8 + f.size + 11 := by omega
  cases has
  · by_cases hz : u.size = 0 ∧ p.size = 0
    · have hu0 := B_empty u (by omega)
      have hp0 := B_empty p (by omega)
      have hOK : okFm (t, false, u, p) = true := by rw [hu0, hp0]; exact okFm_nil hv
      have q1 : (u.toList == []) = true := by rw [hu0, ByteArray.toList_eq]; rfl
      have q2 : (p.toList == []) = true := by rw [hp0, ByteArray.toList_eq]; rfl
      have hus := Lib.hid hz.1
      have hps := Lib.hid hz.2
      clear hz hav hu0 hp0 KH HAL
      have ho4 := ho
      go_upto_region 3 with fail
      go_upto_region 3 with fail
      go_wp2_with fail
      go_loop [4] (fun i => ∃ k : Nat, k ≤ u.size ∧ i = .int .i64 k ∧ ∀ j, j < k → B u j ≠ 58) (fun i => u.size - (intOf i).toNat)
      case atStart => exact ⟨0, Nat.zero_le _, rfl, fun j hj => by omega⟩
      case round =>
        obtain ⟨k, hk, rfl, hj⟩ := hrel
        have HJ := Lib.hid hj
        clear hj
        by_cases hlt : k < u.size
        · have hlt' : (k : Int) < u.size := by omega
          by_cases hc : B u k = 58
          · have hc' : (B u k == 58) = true := by rw [beq_iff_eq]; exact hc
            have R := Lib.hid (fmtC_no (okFm_c (t := t) (has := false) (p := p) (allB_stop (p := nc8) hlt (by rw [hc]; decide))))
            clear hc
            go_wp2_with fail
            refine bodyPost_ret (res2s rfl) rfl ⟨by rw [R.out]; rfl, hxx⟩
          · have hc' : (B u k == 58) = false := by rw [beq_eq_false_iff_ne]; exact hc
            have HG : Hid (∀ j, j < k + 1 → B u j ≠ 58) := Lib.hid (fun j hj => by
              by_cases q : j = k
              · subst q; exact hc
              · exact HJ.out j (by omega))
            clear hc
            go_wp2_with fail
            go_round
            case rel => exact ⟨k + 1, by omega, by go_num, HG.out⟩
            case measure => simp [intOf]; omega
        · obtain rfl : k = u.size := by omega
          have hnl : ¬ ((u.size : Nat) : Int) < u.size := by omega
          have hn : noC u = true := allB_iff.2 (fun j hj => by unfold nc8; exact decide_eq_true (HJ.out j hj))
          clear hlt hk
          have d1 : decide ((512 : Int) < u.size) = false := decide_eq_false (by have := hus.out; omega)
          have d2 : decide ((512 : Int) < p.size) = false := decide_eq_false (by have := hps.out; omega)
          clear hus hps
          have dH := cH
          go_upto_region 13 with (first | refine wpList_load_Tm rfl _ rfl ht hrT2 rfl ?_ | (go_at_call 18; refine (KF.out _).mono ?_; rintro e w4 ⟨rfl, hx4⟩; have hb4 := Blk.ext HB2.out hx4; have cH4 := RBlk.has ho4 hb4; simp only at cH4))
          have hxe := hxx.trans hx4
          have HS1 : Hid (⟨#[67, 79, 78, 78, 69, 67, 84, 32]⟩ ++ f ++ ⟨#[32, 72, 84, 84, 80, 47, 49, 46, 49, 13, 10]⟩ = rqL t ++ crlf) := HRQ
          have hs1 : (⟨#[67, 79, 78, 78, 69, 67, 84, 32]⟩ ++ f ++ ⟨#[32, 72, 84, 84, 80, 47, 49, 46, 49, 13, 10]⟩ : ByteArray).size ≤ 400 := by
            simp only [size_app]; show 8 + f.size + 11 ≤ _; omega
          clear HRQ
          generalize (⟨#[67, 79, 78, 78, 69, 67, 84, 32]⟩ ++ f ++ ⟨#[32, 72, 84, 84, 80, 47, 49, 46, 49, 13, 10]⟩ : ByteArray) = s1 at *
          have y5 : ¬ 9223372036854775807 < s1.size + 2 := by omega
          have HS3 : Hid (s1 ++ ⟨#[13, 10]⟩ = hdT (t, false, u, p)) := Lib.hid (by rw [HS1.out, hdT_no rfl]; rfl)
          go_upto_region 14 with fail
          generalize s1 ++ ⟨#[13, 10]⟩ = s3 at *
          clear hs1 y5
          by_cases h5 : (s3.size : Int) ≤ 512
          · have R := Lib.hid (fmtC_yes hOK (show (hdT (t, false, u, p)).size ≤ 512 by rw [← HS3.out]; omega))
            have h5d : decide ((512 : Int) < s3.size) = false := decide_eq_false (by omega)
            go_wp2_with fail
            refine bodyPost_ret (res2s rfl) rfl ⟨by rw [R.out, ← HS3.out]; rfl, hxe⟩
          · have R := Lib.hid (fmtC_big (show 512 < (hdT (t, false, u, p)).size by rw [← HS3.out]; omega))
            have h5d : decide ((512 : Int) < s3.size) = true := decide_eq_true (by omega)
            have h5e : (512 : Int) < s3.size := by omega
            go_wp2_with fail
            refine bodyPost_ret (res2s rfl) rfl ⟨by rw [R.out]; rfl, hxe⟩
    · have R := Lib.hid (fmtC_no (okFm_no (t := t) hz))
      by_cases h0 : u.size = 0
      · have hu0 := B_empty u (by omega)
        have hp0 := nil_ne (x := p) (by omega)
        subst hu0
        clear hz hav hfz hrz h0
        go_wp2_with fail
        refine bodyPost_ret (res2s rfl) rfl ⟨by rw [R.out]; rfl, hxx⟩
      · have hu0 := nil_ne (x := u) h0
        clear hz hav hfz hrz h0
        go_wp2_with fail
        refine bodyPost_ret (res2s rfl) rfl ⟨by rw [R.out]; rfl, hxx⟩
  · have hOK0 := Lib.hid (fun hn => okFm_yes (p := p) (u := u) hv hn)
    clear hv
    go_upto_region 3 with fail
    go_wp2_with fail
    go_loop [4] (fun i => ∃ k : Nat, k ≤ u.size ∧ i = .int .i64 k ∧ ∀ j, j < k → B u j ≠ 58) (fun i => u.size - (intOf i).toNat)
    case atStart => exact ⟨0, Nat.zero_le _, rfl, fun j hj => by omega⟩
    case round =>
      obtain ⟨k, hk, rfl, hj⟩ := hrel
      have HJ := Lib.hid hj
      clear hj
      by_cases hlt : k < u.size
      · have hlt' : (k : Int) < u.size := by omega
        by_cases hc : B u k = 58
        · have hc' : (B u k == 58) = true := by rw [beq_iff_eq]; exact hc
          have R := Lib.hid (fmtC_no (okFm_c (t := t) (has := true) (p := p) (allB_stop (p := nc8) hlt (by rw [hc]; decide))))
          clear hc
          go_wp2_with fail
          refine bodyPost_ret (res2s rfl) rfl ⟨by rw [R.out]; rfl, hxx⟩
        · have hc' : (B u k == 58) = false := by rw [beq_eq_false_iff_ne]; exact hc
          have HG : Hid (∀ j, j < k + 1 → B u j ≠ 58) := Lib.hid (fun j hj => by
            by_cases q : j = k
            · subst q; exact hc
            · exact HJ.out j (by omega))
          clear hc
          go_wp2_with fail
          go_round
          case rel => exact ⟨k + 1, by omega, by go_num, HG.out⟩
          case measure => simp [intOf]; omega
      · obtain rfl : k = u.size := by omega
        have hnl : ¬ ((u.size : Nat) : Int) < u.size := by omega
        have hn : noC u = true := allB_iff.2 (fun j hj => by unfold nc8; exact decide_eq_true (HJ.out j hj))
        clear hlt hk
        have hOK := hOK0.out hn
        clear hn
        by_cases g1 : (512 : Int) < u.size
        · have R := Lib.hid (fmtC_big (big_hd (t := t) (u := u) (p := p) (.inl (by omega))))
          clear hav hfz hrz
          go_wp2_with fail
          refine bodyPost_ret (res2s rfl) rfl ⟨by rw [R.out]; rfl, hxx⟩
        · have g1d : decide ((512 : Int) < u.size) = false := decide_eq_false g1
          by_cases g2 : (512 : Int) < p.size
          · have R := Lib.hid (fmtC_big (big_hd (t := t) (u := u) (p := p) (.inr (by omega))))
            clear hav hfz hrz
            go_wp2_with fail
            refine bodyPost_ret (res2s rfl) rfl ⟨by rw [R.out]; rfl, hxx⟩
          · have g2d : decide ((512 : Int) < p.size) = false := decide_eq_false g2
            go_upto_region 11 with (first | refine wpList_load_Tm rfl _ rfl ht hrT2 rfl ?_ | (go_at_call 18; refine (KF.out _).mono ?_; rintro e w4 ⟨rfl, hx4⟩; have hb4 := Blk.ext HB2.out hx4; have dH := RBlk.has ho hb4; have dU := RBlk.user ho hb4; have dP := RBlk.pass ho hb4; simp only at dH dU dP))
            have hxx4 := hxx.trans hx4
            have HS1 : Hid (⟨#[67, 79, 78, 78, 69, 67, 84, 32]⟩ ++ f ++ ⟨#[32, 72, 84, 84, 80, 47, 49, 46, 49, 13, 10]⟩ = rqL t ++ crlf) := HRQ
            have hs1 : (⟨#[67, 79, 78, 78, 69, 67, 84, 32]⟩ ++ f ++ ⟨#[32, 72, 84, 84, 80, 47, 49, 46, 49, 13, 10]⟩ : ByteArray).size ≤ 400 := by
              simp only [size_app]; show 8 + f.size + 11 ≤ _; omega
            clear HRQ
            generalize (⟨#[67, 79, 78, 78, 69, 67, 84, 32]⟩ ++ f ++ ⟨#[32, 72, 84, 84, 80, 47, 49, 46, 49, 13, 10]⟩ : ByteArray) = s1 at *
            generalize authV u p = av8 at *
            have y5 : ¬ 9223372036854775807 < 21 + av8.size := by omega
            have y6 : ¬ 9223372036854775807 < 21 + av8.size + 2 := by omega
            have y7 : ¬ 9223372036854775807 < s1.size + (21 + av8.size + 2) := by omega
            have HS2 : Hid (s1 ++ (⟨#[80, 114, 111, 120, 121, 45, 65, 117, 116, 104, 111, 114, 105, 122, 97, 116, 105, 111, 110, 58, 32]⟩ ++ av8 ++ ⟨#[13, 10]⟩) ++ ⟨#[13, 10]⟩ = hdT (t, true, u, p)) := Lib.hid (by rw [HS1.out, HAL.out, hdT_yes rfl]; rfl)
            have hs2 : (s1 ++ (⟨#[80, 114, 111, 120, 121, 45, 65, 117, 116, 104, 111, 114, 105, 122, 97, 116, 105, 111, 110, 58, 32]⟩ ++ av8 ++ ⟨#[13, 10]⟩) : ByteArray).size = s1.size + (21 + av8.size + 2) := by simp only [size_app]; rfl
            go_upto_region 13 with (first | (go_at_call 49; refine (KH.out _).mono ?_; rintro e w5 ⟨rfl, hx5⟩))
            have hxe := hxx4.trans hx5
            generalize (s1 ++ (⟨#[80, 114, 111, 120, 121, 45, 65, 117, 116, 104, 111, 114, 105, 122, 97, 116, 105, 111, 110, 58, 32]⟩ ++ av8 ++ ⟨#[13, 10]⟩) : ByteArray) = s2 at *
            have y8 : ¬ 9223372036854775807 < s2.size + 2 := by omega
            have HS3 : Hid (s2 ++ ⟨#[13, 10]⟩ = hdT (t, true, u, p)) := Lib.hid HS2.out
            clear HS2
            go_upto_region 14 with fail
            generalize s2 ++ ⟨#[13, 10]⟩ = s3 at *
            clear hs1 hs2 y5 y6 y7 y8 hav
            by_cases h5 : (s3.size : Int) ≤ 512
            · have R := Lib.hid (fmtC_yes hOK (show (hdT (t, true, u, p)).size ≤ 512 by rw [← HS3.out]; omega))
              have h5d : decide ((512 : Int) < s3.size) = false := decide_eq_false (by omega)
              go_wp2_with fail
              refine bodyPost_ret (res2s rfl) rfl ⟨by rw [R.out, ← HS3.out]; rfl, hxe⟩
            · have R := Lib.hid (fmtC_big (show 512 < (hdT (t, true, u, p)).size by rw [← HS3.out]; omega))
              have h5d : decide ((512 : Int) < s3.size) = true := decide_eq_true (by omega)
              have h5e : (512 : Int) < s3.size := by omega
              go_wp2_with fail
              refine bodyPost_ret (res2s rfl) rfl ⟨by rw [R.out]; rfl, hxe⟩
end Go.Proofs.YtpdoddelnahlnaaGreatDoor
