/-
  ScriptValidates.
-/
import Derived.Test.YtmdlgfnibjcgmaaGreatDoorSeF
import Derived.Laws.MakeOwn
set_option linter.unusedSimpArgs false
set_option linter.unusedVariables false
namespace Go.Proofs.YtmdlgfnibjcgmaaGreatDoor
open Go.RowKit
theorem info_EvF : (Tryz.prog.info? 31).map (fun i => (i.zero, i.size, i.bytes)) = some (some (.agg (evl zev (.slice none 0 0)).toArray), 8, 88) := by kernel_rfl
/-- a block of N events of which the first i are ticks and the others zero -/
def Many (w : World) (b N i : Nat) : Prop := ∃ cs, Blk w b cs 31 ∧ cs.length = N * 8 ∧ ∀ q j, q < N → j < 8 → cs[q * 8 + j]? = (evl (if q < i then tick 0 else zev) (.slice none 0 0))[j]?
theorem Many.ext {w w' : World} {b N i : Nat} (h : Many w b N i) (k : Ext w w') : Many w' b N i := by
  obtain ⟨cs, h1, h2, h3⟩ := h
  exact ⟨cs, h1.ext k, h2, h3⟩
theorem Many.new (w : World) (M : Array Value) (N : Nat) (hM : M = madeCells (evl zev (.slice none 0 0)).toArray (N * 8)) : Many (w.alloc (.cells M 31)) w.heap.size N 0 := by
  refine ⟨M.toList, Blk.new w M _, by subst hM; simp [size_madeCells], fun q j hq hj => ?_⟩
  subst hM
  have e : (evl zev (.slice none 0 0)).length = 8 := rfl
  have hz : (q * 8 + j) % 8 = j := by omega
  have hl : q * 8 + j < N * 8 := by omega
  rw [if_neg (by omega)]
  unfold madeCells
  simp only [Array.toList_map, List.getElem?_map, Array.toList_range, List.getElem?_range hl, Option.map_some, List.size_toArray, e, hz]
  match j, hj with
  | 0, _ => rfl
  | 1, _ => rfl
  | 2, _ => rfl
  | 3, _ => rfl
  | 4, _ => rfl
  | 5, _ => rfl
  | 6, _ => rfl
  | 7, _ => rfl
theorem Many.cell0 {w : World} {b N i : Nat} (h : Many w b N i) (hi : i < N) : w.cell? ⟨b, i * 8, none⟩ = some (.int .i64 0) ∧ w.frozen? ⟨b, i * 8, none⟩ = false := by
  obtain ⟨cs, h1, h2, h3⟩ := h
  refine ⟨h1.cell ?_, h1.free _⟩
  have := h3 i 0 hi (by decide)
  rw [if_neg (by omega)] at this
  exact this
theorem Many.set {w : World} {b N i : Nat} (h : Many w b N i) (hi : i < N) : Many (w.setCell ⟨b, i * 8, none⟩ (.int .i64 9)) b N (i + 1) := by
  obtain ⟨cs, h1, h2, h3⟩ := h
  refine ⟨_, h1.set (i * 8) (.int .i64 9), by simpa using h2, fun q j hq hj => ?_⟩
  by_cases he : q = i ∧ j = 0
  · obtain ⟨rfl, rfl⟩ := he
    rw [if_pos (by omega), List.getElem?_set, if_pos (by omega), if_pos (by omega)]
    rfl
  · rw [List.getElem?_set, if_neg (by omega), h3 q j hq hj]
    by_cases h : q = i
    · subst h
      rw [if_neg (by omega), if_pos (by omega)]
      match j, hj with
      | 0, _ => exact absurd ⟨rfl, rfl⟩ he
      | 1, _ => rfl
      | 2, _ => rfl
      | 3, _ => rfl
      | 4, _ => rfl
      | 5, _ => rfl
      | 6, _ => rfl
      | 7, _ => rfl
    · by_cases h' : q < i
      · rw [if_pos h', if_pos (by omega)]
      · rw [if_neg h', if_neg (by omega)]
theorem Many.evs {w : World} {b N : Nat} (h : Many w b N N) (hN : 0 < N) : EvsIn w (.slice (some ⟨b, 0, none⟩) N N) (List.replicate N (tick 0)) := by
  obtain ⟨cs, h1, h2, h3⟩ := h
  refine ⟨some ⟨b, 0, none⟩, N, by simp, by simp, fun _ => ⟨_, _, rfl, h1.lt⟩, fun i e hi => ?_⟩
  have hiN : i < N := by have := (List.getElem?_eq_some_iff.1 hi).1; simpa using this
  rw [List.getElem?_replicate, if_pos hiN] at hi
  cases hi
  refine ⟨tick_ok (by decide) (by decide), .slice none 0 0, ⟨none, 0, rfl, Nat.le_refl _, (by intro x hx; cases hx), fun h => absurd h (by simp [tick])⟩, fun b' off e j u hj => ?_⟩
  cases e
  have hj8 : j < 8 := by have := (List.getElem?_eq_some_iff.1 hj).1; rwa [evl_len] at this
  refine h1.cell ?_
  rw [show 0 + i * 8 + j = i * 8 + j by omega, h3 i j hiN hj8, if_pos hiN]
  exact hj
theorem many_valid (N : Nat) : validS (List.replicate N (tick 0)) = decide (N ≤ 1000) := by
  have h1 := tick_valid 0
  unfold validS at *
  simp only [List.length_replicate, List.length_singleton, List.all_cons, List.all_nil, Bool.and_true, Bool.and_eq_true] at *
  have h2 : (List.replicate N (tick 0)).all validE = true := by
    rw [List.all_eq_true]
    intro x hx
    rw [List.eq_of_mem_replicate hx]; exact h1.2
  rw [h2, Bool.and_true]
theorem encV_many (N : Nat) : encV (List.replicate N (tick 0)) = .tuple #[.string (if N ≤ 1000 then encS (List.replicate N (tick 0)) else ⟨#[]⟩), .int .i64 (if N ≤ 1000 then 0 else 1)] := by
  unfold encV
  rw [many_valid]
  by_cases h : N ≤ 1000 <;> simp [h]
theorem mk_many (k : Nat) (hk : k < 9) : ∃ M : Array Value, M = madeCells (evl zev (.slice none 0 0)).toArray ((996 + k) * 8) ∧ ∀ W : World, (Instr.makeSlice 22 (.int .i64 (996 + (k : Int))) (.int .i64 (996 + (k : Int)))).run Tryz.prog W = .ok (.slice (some ⟨W.heap.size, 0, none⟩) (996 + k) (996 + k)) (W.alloc (.cells M 31)) := by
  obtain ⟨i0, hi0, hz0, hz1, hz2⟩ := info_parts info_EvF
  refine ⟨_, rfl, fun W => ?_⟩
  have h := run_make (P := Tryz.prog) W 22 31 i0 (.agg (evl zev (.slice none 0 0)).toArray) Tryz.underlying22 hi0 hz0 .i64 .i64 (996 + (k : Int)) (996 + (k : Int)) (by omega) (by omega) (by rw [hz2]; omega) (by omega)
  rw [hz1, show (996 + (k : Int)).toNat = 996 + k by omega] at h
  exact h
set_option maxHeartbeats 16000000 in
set_option maxRecDepth 10000 in
theorem ScriptValidates_walk (v : Value) (l : List Ev) (n : Int) (hl : l.length ≤ maxLen) (wn : (Lit.int .i64 n).wf = true) (w : World) (henv : Env w) (htabs : Tabs w) (hA : EvsIn w v l) :
    Calls Tryz.prog 3 #[v, .int .i64 n] w fun e w' => e = .returned (.bool true) ∧ Ext w w' := by
  have KS := Lib.hid (sevs_any l v 30 (by decide) hA hl)
  have KA := Lib.hid (fun w => awake_any w)
  have KM := Lib.hid (fun w => smod_any n 9 (by decide) (by decide) w)
  have LE := Lib.hid (fun (w' : World) (k : Ext w w') => enc_any l v (hA.ext k) hl)
  have LR := Lib.hid (fun (w' : World) (k : Ext w w') => renc_scr l v (hA.ext k) hl)
  have LV := Lib.hid (fun (w' : World) (k : Ext w w') => valid_ev l v (hA.ext k) hl)
  have LW := Lib.hid (fun (w' : World) (k : Ext w w') => rvalid_ev l v (hA.ext k) hl)
  have HEL : ∃ (s : ByteArray) (c : Int), encV l = .tuple #[.string s, .int .i64 c] := ⟨_, _, rfl⟩
  obtain ⟨ls, lc, hEL⟩ := HEL
  rw [hEL] at LE LR
  generalize validS l = lv at LV LW
  clear henv htabs hA wn hEL hl
  go_enter Tryz.func3, Tryz.ntmps3
  go_upto_region 2 with (go_at_call 7; refine KS.out.mono ?_; rintro e w1 ⟨qs, s2, rfl, he, hq, hx1⟩)
  have hqm : qs.length ≤ maxLen := by unfold maxLen; omega
  have QE := Lib.hid (fun (w' : World) (k : Ext w1 w') => enc_any qs s2 (he.ext k) hqm)
  have QR := Lib.hid (fun (w' : World) (k : Ext w1 w') => renc_scr qs s2 (he.ext k) hqm)
  have QV := Lib.hid (fun (w' : World) (k : Ext w1 w') => valid_ev qs s2 (he.ext k) hqm)
  have QW := Lib.hid (fun (w' : World) (k : Ext w1 w') => rvalid_ev qs s2 (he.ext k) hqm)
  have HEQ : ∃ (s : ByteArray) (c : Int), encV qs = .tuple #[.string s, .int .i64 c] := ⟨_, _, rfl⟩
  obtain ⟨qa, qc, hEQ⟩ := HEQ
  rw [hEQ] at QE QR
  generalize validS qs = qv at QV QW
  clear KS he hq hqm hEQ
  go_upto_region 3 with (go_at_call 8; refine (QE.out _ (Ext.refl _)).mono ?_; rintro e w2 ⟨rfl, hx2⟩)
  go_upto_region 4 with (go_at_call 9; refine (QR.out _ hx2).mono ?_; rintro e w3 ⟨rfl, hx3⟩)
  replace hx3 := hx2.trans hx3
  go_upto_region 5 with (go_at_call 8; refine (LE.out _ (hx1.trans hx3)).mono ?_; rintro e w4 ⟨rfl, hx4⟩)
  replace hx4 := hx3.trans hx4
  go_upto_region 6 with (go_at_call 9; refine (LR.out _ (hx1.trans hx4)).mono ?_; rintro e w5 ⟨rfl, hx5⟩)
  replace hx5 := hx4.trans hx5
  clear hx2 hx3 hx4 QE QR LE LR
  go_upto_region 7 with (go_at_call 10; refine (KM.out _).mono ?_; rintro e w6 ⟨m, rfl, hm0, hm1, hx6⟩; obtain ⟨k, rfl⟩ : ∃ k : Nat, m = k := ⟨m.toNat, by omega⟩; have hN : IntKind.i64.wrap (996 + (k : Int)) = 996 + (k : Int) := IntWalk.i64_in _ (by omega); obtain ⟨M, hM0, hmk⟩ := mk_many k (by omega); have hM := Lib.hid hM0; clear hM0)
  replace hx6 := hx5.trans hx6
  clear hmk hN hx5 KM
  have hMN := Many.new w6 M _ hM.out
  clear hM
  have hb6 := hx6.size
  have hx7 := hx6.alloc (.cells M 31)
  generalize w6.heap.size = b at *
  generalize (w6.alloc (.cells M 31)) = w7 at *
  have hN1 : 996 + k ≤ 1004 := by omega
  have hN0 : 0 < 996 + k := by omega
  generalize 996 + k = N at *
  go_wp2_with fail
  go_loopw [15] (fun i wr => ∃ j : Nat, i = .int .i64 j ∧ j ≤ N ∧ Many wr b N j ∧ Ext w1 wr) (fun i _ => N - (intOf i).toNat)
  case atStart => exact ⟨0, rfl, Nat.zero_le _, hMN, hx7⟩
  case round =>
    obtain ⟨j, rfl, hj, hM, hxr⟩ := hrel
    by_cases hlt : j < N
    · have hlt' : (j : Int) < N := by omega
      have hj1 : IntKind.i64.wrap ((j : Int) + 1) = ((j + 1 : Nat) : Int) := by rw [IntWalk.i64_in _ (by omega)]; omega
      obtain ⟨hc1, hc2⟩ := hM.cell0 hlt
      have hM1 := Lib.hid (hM.set hlt)
      clear hM hMN
      go_wp2_with fail
      exact ⟨⟨j + 1, by go_num, hlt, hM1.out, hxr.setCell hb6 _⟩, by simp [intOf]; omega⟩
    · have hlt' : ¬ (j : Int) < N := by omega
      obtain rfl : j = N := by omega
      have hev := hM.evs hN0
      have hlm : (List.replicate j (tick 0)).length ≤ maxLen := by rw [List.length_replicate]; unfold maxLen; omega
      have KE := Lib.hid (enc_any _ _ hev hlm)
      rw [encV_many] at KE
      clear hev hlm hM hMN hx7 hb6 hx6 hN0
      by_cases hle : j ≤ 1000
      · have hle' : (j : Int) ≤ 1000 := by omega
        rw [if_pos hle, if_pos hle] at KE
        generalize encS (List.replicate j (tick 0)) = ze at KE
        clear hle hN1
        go_upto_region 12 with (go_at_call 8; refine KE.out.mono ?_; rintro e w8 ⟨rfl, hx8⟩)
        have hx0 := hxr.trans hx8
        clear KE hxr hx8
        go_wp2_with (first | (go_at_call 11; refine (KA.out _).mono ?_; rintro e w9 ⟨rfl, hx9⟩; have hx0 := Ext.trans (a := w1) (by assumption) hx9) | (go_at_call 12; first | (refine (QV.out _ (by assumption)).mono ?_; rintro e w9 ⟨rfl, hx9⟩; have hx0 := Ext.trans (a := w1) (by assumption) hx9; clear QV) | (refine (LV.out _ (hx1.trans (by assumption))).mono ?_; rintro e w9 ⟨rfl, hx9⟩; have hx0 := Ext.trans (a := w1) (by assumption) hx9)) | (go_at_call 13; first | (refine (QW.out _ (by assumption)).mono ?_; rintro e w9 ⟨rfl, hx9⟩; have hx0 := Ext.trans (a := w1) (by assumption) hx9; clear QW) | (refine (LW.out _ (hx1.trans (by assumption))).mono ?_; rintro e w9 ⟨rfl, hx9⟩; have hx0 := Ext.trans (a := w1) (by assumption) hx9)))
        go_ret
        exact ⟨by first | rfl | (show Ending.returned (.bool (!decide ((j : Int) ≤ 1000))) = _; rw [hd]; rfl), hx1.trans (by assumption)⟩
      · have hle' : ¬ (j : Int) ≤ 1000 := by omega
        rw [if_neg hle, if_neg hle] at KE
        have hd : decide ((j : Int) ≤ 1000) = false := decide_eq_false hle'
        clear hle hN1
        go_upto_region 12 with (go_at_call 8; refine KE.out.mono ?_; rintro e w8 ⟨rfl, hx8⟩)
        have hx0 := hxr.trans hx8
        clear KE hxr hx8
        go_wp2_with (first | (go_at_call 11; refine (KA.out _).mono ?_; rintro e w9 ⟨rfl, hx9⟩; have hx0 := Ext.trans (a := w1) (by assumption) hx9) | (go_at_call 12; first | (refine (QV.out _ (by assumption)).mono ?_; rintro e w9 ⟨rfl, hx9⟩; have hx0 := Ext.trans (a := w1) (by assumption) hx9; clear QV) | (refine (LV.out _ (hx1.trans (by assumption))).mono ?_; rintro e w9 ⟨rfl, hx9⟩; have hx0 := Ext.trans (a := w1) (by assumption) hx9)) | (go_at_call 13; first | (refine (QW.out _ (by assumption)).mono ?_; rintro e w9 ⟨rfl, hx9⟩; have hx0 := Ext.trans (a := w1) (by assumption) hx9; clear QW) | (refine (LW.out _ (hx1.trans (by assumption))).mono ?_; rintro e w9 ⟨rfl, hx9⟩; have hx0 := Ext.trans (a := w1) (by assumption) hx9)))
        go_ret
        exact ⟨by first | rfl | (show Ending.returned (.bool (!decide ((j : Int) ≤ 1000))) = _; rw [hd]; rfl), hx1.trans (by assumption)⟩
end Go.Proofs.YtmdlgfnibjcgmaaGreatDoor
