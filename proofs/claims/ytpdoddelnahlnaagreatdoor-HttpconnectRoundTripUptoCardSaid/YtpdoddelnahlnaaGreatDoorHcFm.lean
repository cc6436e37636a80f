/-
  Contracts of httpconnect.Format and of the reference's FormatConnect.
-/
import Derived.Test.YtpdoddelnahlnaaGreatDoorHcX
import Derived.Lib.IndexLaws
set_option linter.unusedSimpArgs false
set_option linter.unusedVariables false
namespace Go.Proofs.YtpdoddelnahlnaaGreatDoor
open Go.RowKit Go.Joins
def nc8 (x : Int) : Bool := decide (x ≠ 58)
def noC (u : ByteArray) : Bool := allB nc8 u u.size
theorem noC_mem {u : ByteArray} : noC u = true ↔ ∀ x ∈ u.data.toList, x ≠ 58 := by
  unfold noC
  rw [← list_B (q := fun x => decide (x ≠ 58)) (fun x => by
    unfold nc8
    by_cases h : x = 58
    · subst h; decide
    · have h2 : ((x.toNat : Nat) : Int) ≠ 58 := fun e => h (UInt8.toNat_inj.1 (by show _ = 58; omega))
      simp [h, h2])]
  simp
theorem noC_index (u : ByteArray) : decide (0 ≤ Lib.indexByte u.data.toList 58) = !noC u := by
  have hge := Lib.indexByte_ge u.data.toList 58
  by_cases h : 0 ≤ Lib.indexByte u.data.toList 58
  · rw [decide_eq_true h]
    obtain ⟨o, ho⟩ : ∃ o : Nat, Lib.indexByte u.data.toList 58 = o := ⟨(Lib.indexByte u.data.toList 58).toNat, by omega⟩
    have h1 := (Lib.indexByte_some ho).1
    cases e : noC u with
    | false => rfl
    | true => exact absurd rfl (noC_mem.1 e 58 (List.mem_of_getElem? h1))
  · rw [decide_eq_false h]
    have h1 : Lib.indexByte u.data.toList 58 = -1 := by omega
    have h2 := Lib.indexByte_none h1
    have : noC u = true := noC_mem.2 fun x hx e => by
      subst e
      obtain ⟨k, hk⟩ := List.mem_iff_getElem?.1 hx
      exact h2 k hk
    rw [this]; rfl
def okFm (h : Cr) : Bool := validT h.1 && noC h.2.2.1 && (h.2.1 || decide (h.2.2.1.size = 0 ∧ h.2.2.2.size = 0))
def fmtC (h : Cr) : ByteArray × Bool := if okFm h = true ∧ (hdT h).size ≤ 512 then (hdT h, true) else (⟨#[]⟩, false)
theorem rqL_eq (t : Tgt) : ⟨#[67, 79, 78, 78, 69, 67, 84, 32]⟩ ++ fmtT t ++ ⟨#[32]⟩ ++ ⟨#[72, 84, 84, 80, 47, 49, 46, 49]⟩ = rqL t := by
  unfold rqL
  simp only [ByteArray.append_assoc]; rfl
theorem rqL_size {t : Tgt} (ht : okT t) : (rqL t).size ≤ 317 := by
  have := fmtT_size ht
  unfold rqL
  simp only [size_app]
  show 8 + ((fmtT t).size + (1 + 8)) ≤ _
  omega
theorem authL_eq (u p : ByteArray) : ⟨#[80, 114, 111, 120, 121, 45, 65, 117, 116, 104, 111, 114, 105, 122, 97, 116, 105, 111, 110, 58, 32]⟩ ++ authV u p = authL u p := by
  have e : (⟨#[80, 114, 111, 120, 121, 45, 65, 117, 116, 104, 111, 114, 105, 122, 97, 116, 105, 111, 110, 58, 32]⟩ : ByteArray) = authN ++ (col ++ spc) := by decide +kernel
  unfold authL
  rw [e]
  simp only [ByteArray.append_assoc]
theorem hdT_no {h : Cr} (e : h.2.1 = false) : hdT h = rqL h.1 ++ crlf ++ crlf := by
  unfold hdT; rw [if_neg (by rw [e]; simp), ByteArray.append_assoc]
theorem hdT_yes {h : Cr} (e : h.2.1 = true) : hdT h = rqL h.1 ++ crlf ++ (authL h.2.2.1 h.2.2.2 ++ crlf) ++ crlf := by
  unfold hdT; rw [if_pos e]
  simp only [ByteArray.append_assoc]
theorem wpList_load_Tm {ops : Array Oper} {rest : List Oper} {o : Oper} {f : Act} {w : World} {Q : Exit → Act → World → Prop} (hgd : o.guard = none) (x : Operand) (ho : o.op = .load 32 x)
    {b k : Nat} {t : Tgt} (ht : okT t) (hr : w.rangeAt b k (tc t).toList) (hx : f.eval x = .pointer (some ⟨b, k, none⟩)) (hn : wpList Tryz.prog ops Q rest (f.put o.dst (.agg (tc t))) w) : wpList Tryz.prog ops Q (o :: rest) f w :=
  wpList_load_mid hgd 32 x ho b k hx (tc t).toList _ hr Tryz.underlying32 rfl (by rw [info_T, tc_len ht]) hn
theorem RBlk.rangeT {w : World} {b : Nat} {h : Cr} (hb : RBlk w b h) : w.rangeAt b 0 (tc h.1).toList := Blk.mid (pre := []) (mid := (tc h.1).toList) hb rfl
theorem okFm_v {t : Tgt} {has : Bool} {u p : ByteArray} (h : validT t = false) : okFm (t, has, u, p) = false := by unfold okFm; simp only; rw [h]; rfl
theorem okFm_c {t : Tgt} {has : Bool} {u p : ByteArray} (h : noC u = false) : okFm (t, has, u, p) = false := by unfold okFm; simp only; rw [h, Bool.and_false]; rfl
theorem okFm_yes {t : Tgt} {u p : ByteArray} (h1 : validT t = true) (h2 : noC u = true) : okFm (t, true, u, p) = true := by unfold okFm; simp only; rw [h1, h2]; rfl
theorem okFm_nil {t : Tgt} (h1 : validT t = true) : okFm (t, false, ⟨#[]⟩, ⟨#[]⟩) = true := by
  have e : noC ⟨#[]⟩ = true := by decide +kernel
  unfold okFm; simp only; rw [h1, e]; rfl
theorem okFm_no {t : Tgt} {u p : ByteArray} (h : ¬ (u.size = 0 ∧ p.size = 0)) : okFm (t, false, u, p) = false := by
  unfold okFm; simp only; rw [decide_eq_false h]; simp
theorem fmtC_no {h : Cr} (e : okFm h = false) : fmtC h = (⟨#[]⟩, false) := by unfold fmtC; rw [if_neg (by rw [e]; simp)]
theorem fmtC_big {h : Cr} (e : 512 < (hdT h).size) : fmtC h = (⟨#[]⟩, false) := by unfold fmtC; rw [if_neg (by omega)]
theorem fmtC_yes {h : Cr} (e : okFm h = true) (z : (hdT h).size ≤ 512) : fmtC h = (hdT h, true) := by unfold fmtC; rw [if_pos ⟨e, z⟩]
theorem nil_ne {x : ByteArray} (h : x.size ≠ 0) : (x.toList == []) = false := by
  rw [beq_eq_false_iff_ne, ByteArray.toList_eq]
  intro e
  have := size_list x
  rw [e] at this
  exact h this
theorem hdT_size_yes (t : Tgt) (u p : ByteArray) : (hdT (t, true, u, p)).size = (rqL t).size + 33 + (u.size + 1 + p.size + 2) / 3 * 4 := by
  have e := authV_size u p
  unfold hdT
  rw [if_pos rfl]
  unfold authL
  simp only [size_app, crlf_size]
  rw [e]
  show (rqL t).size + (2 + (19 + (1 + (1 + (6 + (u.size + 1 + p.size + 2) / 3 * 4))) + (2 + 2))) = _
  omega
theorem res2s {fn : Func} {t u : Tmp} (h : fn.results = #[.tmp t, .tmp u]) {tmps : Array Value} {w : World} : (results fn tmps).run Tryz.prog w = .ok (.tuple #[tmps.getD t undef, tmps.getD u undef]) w := by
  simp [results, h, Sem.run_bind]
set_option maxRecDepth 8000 in
set_option maxHeartbeats 4000000 in
theorem hfmtc_any (h : Cr) (ho : okC h) (hu : h.2.2.1.size ≤ 1099511627776) (hp : h.2.2.2.size ≤ 1099511627776) (w : World) (henv : Env w) (htabs : Tabs w) :
    Calls Tryz.prog 26 #[cv h] w fun e w' => e = .returned (.tuple #[.string (fmtC h).1, .bool (fmtC h).2]) ∧ Ext w w' := by
  obtain ⟨t, has, u, p⟩ := h
  simp only at hu hp
  have KV := Lib.hid (fun w he => vtarget_any t ho.1 w he)
  have KF := Lib.hid (fun w he hh => hformat_any t ho.1 w he hh)
  have KC : Hid (∀ w, Calls Tryz.prog 54 #[.string u, .string ⟨#[58]⟩] w fun e w' => e = .returned (.bool (!noC u)) ∧ w' = w) := Lib.hid (fun w => by rw [← noC_index]; exact Tryz.strings_Contains_one u 58 w)
  have KH := Lib.hid (fun w => hfmth_any u p hu hp w)
  have hrz := rqL_size ho.1
  have hfz := fmtT_size ho.1
  have HRQ := Lib.hid (rqL_eq t)
  have HAL := Lib.hid (authL_eq u p)
  have hav := authV_size u p
  have y0 : ¬ 9223372036854775807 < u.size + p.size := by omega
  unfold cv
  go_enter Tryz.func26, Tryz.ntmps26
  go_upto_region 1 with fail
  have hx := (Ext.refl w).alloc (.cells (crc (t, has, u, p)) 46)
  have hb := Blk.new w (crc (t, has, u, p)) 46
  generalize w.alloc (.cells (crc (t, has, u, p)) 46) = w1 at *
  generalize w.heap.size = b at hb ⊢
  have ht := ho.1
  have hrT := RBlk.rangeT hb
  have HB := Lib.hid hb
  have KV1 := Lib.hid (KV.out w1 (henv.ext hx))
  clear KV
  go_wp2_with (first | refine wpList_load_Tm rfl _ rfl ht hrT rfl ?_ | (go_at_call 15; refine KV1.out.mono ?_; rintro e w2 ⟨rfl, hx2⟩; refine Hid.out ?_))
  refine Lib.hid ?_
  have hxx := hx.trans hx2
  have hb2 := Blk.ext HB.out hx2
  clear HB hb hrT hx2 hx KV1
  have cH := RBlk.has ho hb2
  have cU := RBlk.user ho hb2
  have cP := RBlk.pass ho hb2
  have hrT2 := RBlk.rangeT hb2
  simp only at cH cU cP hrT2
  cases hv : validT t
  · have R := Lib.hid (fmtC_no (okFm_v (has := has) (u := u) (p := p) hv))
    clear hav hfz hrz
    go_wp2_with fail
    refine bodyPost_ret (res2s rfl) rfl ⟨by rw [R.out]; rfl, hxx⟩
  cases hn : noC u
  · have R := Lib.hid (fmtC_no (okFm_c (t := t) (has := has) (p := p) hn))
    rw [hn] at KC
    clear hav hfz hrz
    go_wp2_with (first | (go_at_call 54; refine (KC.out _).mono ?_; rintro e w3 ⟨rfl, rfl⟩))
    refine bodyPost_ret (res2s rfl) rfl ⟨by rw [R.out]; rfl, hxx⟩
  rw [hn] at KC
  have KF2 := Lib.hid (KF.out w2 (henv.ext hxx) (htabs.ext hxx))
  generalize fmtT t = f at *
  have y1 : ¬ 9223372036854775807 < 8 + f.size := by omega
  have y2 : ¬ 9223372036854775807 < 8 + f.size + 1 := by omega
  have y3 : ¬ 9223372036854775807 < 8 + f.size + 1 + 8 := by omega
  have y4 : ¬ 9223372036854775807 < 8 + f.size + 1 + 8 + 2 := by omega
  cases has
  · by_cases hz : u.size = 0 ∧ p.size = 0
    · have hu0 := B_empty u (by omega)
      have hp0 := B_empty p (by omega)
      subst hu0 hp0
      have hOK := okFm_nil hv
      clear hz hav
      go_upto_region 6 with (first | (go_at_call 54; refine (KC.out _).mono ?_; rintro e w3 ⟨rfl, rfl⟩) | refine wpList_load_Tm rfl _ rfl ht hrT2 rfl ?_ | (go_at_call 17; refine KF2.out.mono ?_; rintro e w4 ⟨rfl, hx4⟩; have hb4 := Blk.ext hb2 hx4; have dH := RBlk.has ho hb4; simp only at dH))
      have hxe := hxx.trans hx4
      have HS1 : Hid (⟨#[67, 79, 78, 78, 69, 67, 84, 32]⟩ ++ f ++ ⟨#[32]⟩ ++ ⟨#[72, 84, 84, 80, 47, 49, 46, 49]⟩ ++ ⟨#[13, 10]⟩ = rqL t ++ crlf) := Lib.hid (by rw [HRQ.out]; rfl)
      have hs1 : (⟨#[67, 79, 78, 78, 69, 67, 84, 32]⟩ ++ f ++ ⟨#[32]⟩ ++ ⟨#[72, 84, 84, 80, 47, 49, 46, 49]⟩ ++ ⟨#[13, 10]⟩ : ByteArray).size ≤ 400 := by
        simp only [size_app]; show 8 + f.size + 1 + 8 + 2 ≤ _; omega
      generalize (⟨#[67, 79, 78, 78, 69, 67, 84, 32]⟩ ++ f ++ ⟨#[32]⟩ ++ ⟨#[72, 84, 84, 80, 47, 49, 46, 49]⟩ ++ ⟨#[13, 10]⟩ : ByteArray) = s1 at *
      have y5 : ¬ 9223372036854775807 < s1.size + 2 := by omega
      have HS3 : Hid (s1 ++ ⟨#[13, 10]⟩ = hdT (t, false, ⟨#[]⟩, ⟨#[]⟩)) := Lib.hid (by rw [HS1.out, hdT_no rfl]; rfl)
      go_upto_region 7 with fail
      generalize s1 ++ ⟨#[13, 10]⟩ = s3 at *
      clear hs1 y5 hrz hfz
      by_cases h5 : (s3.size : Int) ≤ 512
      · have R := Lib.hid (fmtC_yes hOK (show (hdT (t, false, (⟨#[]⟩ : ByteArray), (⟨#[]⟩ : ByteArray))).size ≤ 512 by rw [← HS3.out]; omega))
        have h5d : decide ((512 : Int) < s3.size) = false := decide_eq_false (by omega)
        go_wp2_with fail
        refine bodyPost_ret (res2s rfl) rfl ⟨by rw [R.out, ← HS3.out]; rfl, hxe⟩
      · have R := Lib.hid (fmtC_big (show 512 < (hdT (t, false, (⟨#[]⟩ : ByteArray), (⟨#[]⟩ : ByteArray))).size by rw [← HS3.out]; omega))
        have h5d : decide ((512 : Int) < s3.size) = true := decide_eq_true (by omega)
        have h5e : (512 : Int) < s3.size := by omega
        go_wp2_with fail
        refine bodyPost_ret (res2s rfl) rfl ⟨by rw [R.out]; rfl, hxe⟩
    · have R := Lib.hid (fmtC_no (okFm_no (t := t) hz))
      have hz2 : ((u ++ p).toList == []) = false := nil_ne (by rw [size_app]; omega)
      clear hz hav hfz hrz
      go_wp2_with (first | (go_at_call 54; refine (KC.out _).mono ?_; rintro e w3 ⟨rfl, rfl⟩))
      refine bodyPost_ret (res2s rfl) rfl ⟨by rw [R.out]; rfl, hxx⟩
  · have hOK := okFm_yes (p := p) hv hn
    go_upto_region 4 with (first | (go_at_call 54; refine (KC.out _).mono ?_; rintro e w3 ⟨rfl, rfl⟩) | refine wpList_load_Tm rfl _ rfl ht hrT2 rfl ?_ | (go_at_call 17; refine KF2.out.mono ?_; rintro e w4 ⟨rfl, hx4⟩; have hb4 := Blk.ext hb2 hx4; have dH := RBlk.has ho hb4; have dU := RBlk.user ho hb4; have dP := RBlk.pass ho hb4; simp only at dH dU dP))
    have hxx4 := hxx.trans hx4
    have HS1 : Hid (⟨#[67, 79, 78, 78, 69, 67, 84, 32]⟩ ++ f ++ ⟨#[32]⟩ ++ ⟨#[72, 84, 84, 80, 47, 49, 46, 49]⟩ ++ ⟨#[13, 10]⟩ = rqL t ++ crlf) := Lib.hid (by rw [HRQ.out]; rfl)
    have hs1 : (⟨#[67, 79, 78, 78, 69, 67, 84, 32]⟩ ++ f ++ ⟨#[32]⟩ ++ ⟨#[72, 84, 84, 80, 47, 49, 46, 49]⟩ ++ ⟨#[13, 10]⟩ : ByteArray).size ≤ 400 := by
      simp only [size_app]; show 8 + f.size + 1 + 8 + 2 ≤ _; omega
    generalize (⟨#[67, 79, 78, 78, 69, 67, 84, 32]⟩ ++ f ++ ⟨#[32]⟩ ++ ⟨#[72, 84, 84, 80, 47, 49, 46, 49]⟩ ++ ⟨#[13, 10]⟩ : ByteArray) = s1 at *
    generalize authV u p = av8 at *
    have y5 : ¬ 9223372036854775807 < 21 + av8.size := by omega
    have y6 : ¬ 9223372036854775807 < 21 + av8.size + 2 := by omega
    have y7 : ¬ 9223372036854775807 < s1.size + (21 + av8.size + 2) := by omega
    have HS2 : Hid (s1 ++ (⟨#[80, 114, 111, 120, 121, 45, 65, 117, 116, 104, 111, 114, 105, 122, 97, 116, 105, 111, 110, 58, 32]⟩ ++ av8 ++ ⟨#[13, 10]⟩) ++ ⟨#[13, 10]⟩ = hdT (t, true, u, p)) := Lib.hid (by rw [HS1.out, HAL.out, hdT_yes rfl]; rfl)
    have hs2 : (s1 ++ (⟨#[80, 114, 111, 120, 121, 45, 65, 117, 116, 104, 111, 114, 105, 122, 97, 116, 105, 111, 110, 58, 32]⟩ ++ av8 ++ ⟨#[13, 10]⟩) : ByteArray).size = s1.size + (21 + av8.size + 2) := by simp only [size_app]; rfl
    go_upto_region 6 with (first | (go_at_call 55; refine (KH.out _).mono ?_; rintro e w5 ⟨rfl, hx5⟩))
    have hxe := hxx4.trans hx5
    generalize (s1 ++ (⟨#[80, 114, 111, 120, 121, 45, 65, 117, 116, 104, 111, 114, 105, 122, 97, 116, 105, 111, 110, 58, 32]⟩ ++ av8 ++ ⟨#[13, 10]⟩) : ByteArray) = s2 at *
    have y8 : ¬ 9223372036854775807 < s2.size + 2 := by omega
    have HS3 : Hid (s2 ++ ⟨#[13, 10]⟩ = hdT (t, true, u, p)) := Lib.hid HS2.out
    clear HS2
    go_upto_region 7 with fail
    generalize s2 ++ ⟨#[13, 10]⟩ = s3 at *
    clear hs1 hs2 y5 y6 y7 y8 hrz hfz hav
    by_cases h5 : (s3.size : Int) ≤ 512
    · have R := Lib.hid (fmtC_yes hOK (show (hdT (t, true, u, p)).size ≤ 512 by rw [← HS3.out]; omega))
      have h5d : decide ((512 : Int) < s3.size) = false := decide_eq_false (by omega)
      go_wp2_with fail
      refine bodyPost_ret (res2s rfl) rfl ⟨by rw [R.out, ← HS3.out]; rfl, hxe⟩
    · have R := Lib.hid (fmtC_big (show 512 < (hdT (t, true, u, p)).size by rw [← HS3.out]; omega))
      have h5d : decide ((512 : Int) < s3.size) = true := decide_eq_true (by omega)
      have h5e : (512 : Int) < s3.size := by omega
      go_wp2_with fail
      refine bodyPost_ret (res2s rfl) rfl ⟨by rw [R.out]; rfl, hxe⟩
end Go.Proofs.YtpdoddelnahlnaaGreatDoor
