/-
  Several texts joined: HcL.
-/
import Derived.Test.YtpdoddelnahlnaaGreatDoorK38
/-
  Contract of the reference's ParseConnect.
-/
set_option linter.unusedSimpArgs false
set_option linter.unusedVariables false
namespace Go.Proofs.YtpdoddelnahlnaaGreatDoor
open Go.RowKit Go.Joins
def prt (x : Int) : Bool := decide ((32 ≤ x ∧ x ≤ 126) ∨ x = 9)
def badB (s : ByteArray) (k : Nat) : Bool := (acr s k != decide (B s k = 10)) || (!decide (B s k = 10) && (!decide (B s k = 13) && !prt (B s k)))
theorem vbyte_np {c : Int} {p : Nat} {r : Bool} (h : prt c = false) : vbyte c p r = false := by
  unfold prt at h
  rw [decide_eq_false_iff_not] at h
  unfold vbyte
  split
  · rename_i q
    have key : ∀ j : Fin 8, 32 ≤ B connS j.1 ∧ B connS j.1 ≤ 126 := by decide +kernel
    have := key ⟨p, q.2⟩
    rw [decide_eq_false_iff_not]
    intro e
    rw [← e] at this
    exact h (.inl this)
  · rw [decide_eq_false_iff_not]; exact h
theorem step_badB {s : ByteArray} {k n f : Nat} {h : Cr} {b : Bool} (e : badB s k = true) : step s k (.run n f h b) = .mal := by
  by_cases ha : acr s k ≠ decide (B s k = 10)
  · exact step_cr ha
  · have ha' := Decidable.not_not.1 ha
    unfold badB at e
    rw [ha'] at e
    simp only [bne_self_eq_false, Bool.false_or, Bool.and_eq_true, Bool.not_eq_true', decide_eq_false_iff_not] at e
    exact step_bad (by rw [ha', decide_eq_false e.1]) e.1 e.2.1 (vbyte_np e.2.2)
theorem badB_no {s : ByteArray} {k : Nat} (e : badB s k = false) : acr s k = decide (B s k = 10) ∧ (B s k = 10 ∨ B s k = 13 ∨ prt (B s k) = true) := by
  unfold badB at e
  rw [Bool.or_eq_false_iff, bne_eq_false_iff_eq] at e
  refine ⟨e.1, ?_⟩
  by_cases h1 : B s k = 10
  · exact .inl h1
  · by_cases h2 : B s k = 13
    · exact .inr (.inl h2)
    · right; right
      have := e.2
      rw [decide_eq_false h1, decide_eq_false h2] at this
      simpa using this
theorem vbyte_in {c : Int} {p : Nat} (h : prt c = true) (q : ¬ p < 8 ∨ c = B connS p) {r : Bool} : vbyte c p r = true := by
  unfold prt at h
  unfold vbyte
  split
  · rename_i z
    rcases q with q | q
    · exact absurd z.2 q
    · exact decide_eq_true q
  · exact h
theorem vbyte_req {c : Int} {p : Nat} (h : prt c = true) : vbyte c p false = true := by
  unfold vbyte; rw [if_neg (by simp)]; exact h
theorem vbyte_bad {c : Int} {p : Nat} (hp : p < 8) (q : c ≠ B connS p) : vbyte c p true = false := by
  unfold vbyte; rw [if_pos ⟨rfl, hp⟩, decide_eq_false q]
set_option maxRecDepth 8000 in
set_option maxHeartbeats 20000000 in
theorem rparse_conn (s : ByteArray) (hs : s.size ≤ 281474976710656) (w : World) : Calls Tryz.prog 51 #[.string s] w fun e w' => e = .returned (.tuple #[cv (fin s).1, .int .i64 (fin s).2.1, .int .i64 (fin s).2.2]) ∧ Ext w w' := by
  go_enter Tryz.func51, Tryz.ntmps51
  go_upto_region 2 with fail
  rw [← crc_zero]
  have hx := ((Ext.refl w).alloc (.cells (crc zcr) 46)).alloc (.cells (crc zcr) 46)
  have hb1 := (Blk.new w (crc zcr) 46).ext ((Ext.refl _).alloc (.cells (crc zcr) 46))
  have hb2 := Blk.new (w.alloc (.cells (crc zcr) 46)) (crc zcr) 46
  rw [World.size_alloc] at hb2
  generalize (w.alloc (.cells (crc zcr) 46)).alloc (.cells (crc zcr) 46) = w0 at *
  generalize hbw : w.heap.size = b at *
  replace hbw := Nat.le_of_eq hbw
  go_upto_region 3 with fail
  have hx2 := hx.alloc (.cells #[Value.bool false] 4)
  have hr := hb1.alloc (.cells #[Value.bool false] 4)
  have hh := hb2.alloc (.cells #[Value.bool false] 4)
  have hd := Blk.new w0 #[Value.bool false] 4
  have hl1 := hb2.lt
  have hwb := hbw
  have hwc : w.heap.size ≤ b + 1 := by omega
  have hwd : w.heap.size ≤ w0.heap.size := by omega
  have hcd : b + 1 ≠ w0.heap.size := by omega
  have hbn : b ∉ [b + 1, w0.heap.size] := by simp; omega
  clear hb1 hb2 hbw hx hl1
  generalize b + 1 = c at *
  generalize w0.heap.size = d at *
  generalize w0.alloc (.cells #[Value.bool false] 4) = wA at *
  obtain ⟨M, hMd⟩ : ∃ M : Nat, M = min s.size 512 := ⟨_, rfl⟩
  have HM := Lib.hid hMd
  have hM1 : M ≤ s.size := by omega
  have hM2 : M ≤ 512 := by omega
  clear hMd
  go_wp2_with fail
  go_loopw [7, 8, 9, 10, 11] (fun lines start ctr _ _ wr => ∃ (k n f : Nat) (h : Cr) (sn : Bool), k ≤ M ∧ ctr = .int .i64 k ∧ start = .int .i64 f ∧ lines = .int .i64 n ∧ Hid (st s k = .run n f h sn) ∧ RBlk wr c h ∧ Blk wr d [.bool sn] 4 ∧ RBlk wr b zcr ∧ Ext w wr) (fun _ _ ctr _ _ _ => M - (intOf ctr).toNat)
  case atStart => exact ⟨0, 0, 0, zcr, false, Nat.zero_le _, rfl, rfl, rfl, Lib.hid rfl, hh, hd, hr, hx2⟩
  case round =>
    clear hh hd hr hx2
    obtain ⟨k, n, f, h, sn, hk, rfl, rfl, rfl, HST, hh, hd, hr, hx⟩ := hrel
    have hinv := inv_st s k (by unfold maxLen; omega)
    rw [HST.out] at hinv
    obtain ⟨i1, i2, i3, i4, ho⟩ := hinv
    by_cases hlt : k < M
    · have hlt' : (k : Int) < 512 := by omega
      have hks : (k : Int) < s.size := by omega
      have HKM : Hid (k < min s.size 512) := Lib.hid (by rw [← HM.out]; exact hlt)
      have HI2 := Lib.hid i2
      have HI4 := Lib.hid i4
      clear i2 i4
      go_upto_block 2 with fail
      go_step
      go_step
      go_cut [25] from 26 to 69 (fun v wc => v = .bool (badB s k) ∧ wc = wr)
      case first =>
        have HA : Hid (acr s k = decide (0 < k ∧ B s (k - 1) = 13)) := Lib.hid rfl
        have HBB : Hid (badB s k = ((acr s k != decide (B s k = 10)) || (!decide (B s k = 10) && (!decide (B s k = 13) && !prt (B s k))))) := Lib.hid rfl
        have HP : Hid (prt (B s k) = decide ((32 ≤ B s k ∧ B s k ≤ 126) ∨ B s k = 9)) := Lib.hid rfl
        by_cases h0 : (0 : Int) < k
        · have e1 : ((k : Int) - 1).toNat = k - 1 := by omega
          have e2 : (k : Int) - 1 < s.size := by omega
          have h00 : ((k : Int) == 0) = false := by rw [beq_eq_false_iff_ne]; omega
          have HA2 : Hid (acr s k = decide (B s (k - 1) = 13)) := Lib.hid (by
            rw [HA.out]
            by_cases q : B s (k - 1) = 13
            · rw [decide_eq_true q, decide_eq_true ⟨by omega, q⟩]
            · rw [decide_eq_false q, decide_eq_false (fun z => q z.2)])
          by_cases hp : B s (k - 1) = 13
          · have HA3 : Hid (acr s k = true) := Lib.hid (by rw [HA2.out, decide_eq_true hp])
            have hp1 : (B s (k - 1) == 13) = true := by rw [beq_iff_eq]; exact hp
            have hp2 : (B s (k - 1) != 13) = false := by rw [bne_eq_false_iff_eq]; exact hp
            clear hp
            by_cases hc : B s k = 10
            · have E : Hid (badB s k = false) := Lib.hid (by rw [HBB.out, HA3.out, decide_eq_true hc]; rfl)
              have c1 : (B s k == 10) = true := by rw [beq_iff_eq]; exact hc
              have c2 : (B s k != 10) = false := by rw [bne_eq_false_iff_eq]; exact hc
              clear hc
              go_wp2_with fail
              go_meet
              exact ⟨by first | (rw [E.out]; done) | (rw [E.out]; rfl), rfl⟩
            · have E : Hid (badB s k = true) := Lib.hid (by rw [HBB.out, HA3.out, decide_eq_false hc]; rfl)
              have c1 : (B s k == 10) = false := by rw [beq_eq_false_iff_ne]; exact hc
              have c2 : (B s k != 10) = true := by rw [bne_iff_ne]; exact hc
              clear hc
              go_wp2_with fail
              go_meet
              exact ⟨by first | (rw [E.out]; done) | (rw [E.out]; rfl), rfl⟩
          · have HA3 : Hid (acr s k = false) := Lib.hid (by rw [HA2.out, decide_eq_false hp])
            have hp1 : (B s (k - 1) == 13) = false := by rw [beq_eq_false_iff_ne]; exact hp
            have hp2 : (B s (k - 1) != 13) = true := by rw [bne_iff_ne]; exact hp
            clear hp
            by_cases hc : B s k = 10
            · have E : Hid (badB s k = true) := Lib.hid (by rw [HBB.out, HA3.out, decide_eq_true hc]; rfl)
              have c1 : (B s k == 10) = true := by rw [beq_iff_eq]; exact hc
              have c2 : (B s k != 10) = false := by rw [bne_eq_false_iff_eq]; exact hc
              clear hc
              go_wp2_with fail
              go_meet
              exact ⟨by first | (rw [E.out]; done) | (rw [E.out]; rfl), rfl⟩
            · have c1 : (B s k == 10) = false := by rw [beq_eq_false_iff_ne]; exact hc
              have c2 : (B s k != 10) = true := by rw [bne_iff_ne]; exact hc
              have E1 : Hid (badB s k = (!decide (B s k = 13) && !prt (B s k))) := Lib.hid (by rw [HBB.out, HA3.out, decide_eq_false hc]; rfl)
              clear hc
              by_cases hd13 : B s k = 13
              · have E : Hid (badB s k = false) := Lib.hid (by rw [E1.out, decide_eq_true hd13]; rfl)
                have d1 : (B s k == 13) = true := by rw [beq_iff_eq]; exact hd13
                have d2 : (B s k != 13) = false := by rw [bne_eq_false_iff_eq]; exact hd13
                clear hd13
                go_wp2_with fail
                go_meet
                exact ⟨by first | (rw [E.out]; done) | (rw [E.out]; rfl), rfl⟩
              · have d1 : (B s k == 13) = false := by rw [beq_eq_false_iff_ne]; exact hd13
                have d2 : (B s k != 13) = true := by rw [bne_iff_ne]; exact hd13
                have E2 : Hid (badB s k = !prt (B s k)) := Lib.hid (by rw [E1.out, decide_eq_false hd13]; rfl)
                clear hd13
                by_cases h9 : B s k = 9
                · have E : Hid (badB s k = false) := Lib.hid (by rw [E2.out, HP.out, decide_eq_true (.inr h9)]; rfl)
                  have d3 : (B s k != 9) = false := by rw [bne_eq_false_iff_eq]; exact h9
                  clear h9
                  go_wp2_with fail
                  go_meet
                  exact ⟨by first | (rw [E.out]; done) | (rw [E.out]; rfl), rfl⟩
                · have d3 : (B s k != 9) = true := by rw [bne_iff_ne]; exact h9
                  by_cases r1 : 32 ≤ B s k
                  · have r1' : decide (B s k < 32) = false := decide_eq_false (by omega)
                    by_cases r2 : B s k ≤ 126
                    · have E : Hid (badB s k = false) := Lib.hid (by rw [E2.out, HP.out, decide_eq_true (.inl ⟨r1, r2⟩)]; rfl)
                      have r2' : decide (126 < B s k) = false := decide_eq_false (by omega)
                      clear h9
                      go_wp2_with fail
                      go_meet
                      exact ⟨by first | (rw [E.out]; done) | (rw [E.out]; rfl), rfl⟩
                    · have E : Hid (badB s k = true) := Lib.hid (by rw [E2.out, HP.out, decide_eq_false (by omega)]; rfl)
                      have r2' : decide (126 < B s k) = true := decide_eq_true (by omega)
                      have r3' : 126 < B s k := by omega
                      clear h9 r2
                      go_wp2_with fail
                      go_meet
                      exact ⟨by first | (rw [E.out]; done) | (rw [E.out]; rfl), rfl⟩
                  · have E : Hid (badB s k = true) := Lib.hid (by rw [E2.out, HP.out, decide_eq_false (by omega)]; rfl)
                    have r3' : B s k < 32 := by omega
                    clear h9 r1
                    go_wp2_with fail
                    go_meet
                    exact ⟨by first | (rw [E.out]; done) | (rw [E.out]; rfl), rfl⟩
        · have h00 : ((k : Int) == 0) = true := by rw [beq_iff_eq]; omega
          have HA3 : Hid (acr s k = false) := Lib.hid (by rw [HA.out, decide_eq_false (by omega)])
          by_cases hc : B s k = 10
          · have E : Hid (badB s k = true) := Lib.hid (by rw [HBB.out, HA3.out, decide_eq_true hc]; rfl)
            have c1 : (B s k == 10) = true := by rw [beq_iff_eq]; exact hc
            have c2 : (B s k != 10) = false := by rw [bne_eq_false_iff_eq]; exact hc
            clear hc
            go_wp2_with fail
            go_meet
            exact ⟨by first | (rw [E.out]; done) | (rw [E.out]; rfl), rfl⟩
          · have c1 : (B s k == 10) = false := by rw [beq_eq_false_iff_ne]; exact hc
            have c2 : (B s k != 10) = true := by rw [bne_iff_ne]; exact hc
            have E1 : Hid (badB s k = (!decide (B s k = 13) && !prt (B s k))) := Lib.hid (by rw [HBB.out, HA3.out, decide_eq_false hc]; rfl)
            clear hc
            by_cases hd13 : B s k = 13
            · have E : Hid (badB s k = false) := Lib.hid (by rw [E1.out, decide_eq_true hd13]; rfl)
              have d1 : (B s k == 13) = true := by rw [beq_iff_eq]; exact hd13
              have d2 : (B s k != 13) = false := by rw [bne_eq_false_iff_eq]; exact hd13
              clear hd13
              go_wp2_with fail
              go_meet
              exact ⟨by first | (rw [E.out]; done) | (rw [E.out]; rfl), rfl⟩
            · have d1 : (B s k == 13) = false := by rw [beq_eq_false_iff_ne]; exact hd13
              have d2 : (B s k != 13) = true := by rw [bne_iff_ne]; exact hd13
              have E2 : Hid (badB s k = !prt (B s k)) := Lib.hid (by rw [E1.out, decide_eq_false hd13]; rfl)
              clear hd13
              by_cases h9 : B s k = 9
              · have E : Hid (badB s k = false) := Lib.hid (by rw [E2.out, HP.out, decide_eq_true (.inr h9)]; rfl)
                have d3 : (B s k != 9) = false := by rw [bne_eq_false_iff_eq]; exact h9
                clear h9
                go_wp2_with fail
                go_meet
                exact ⟨by first | (rw [E.out]; done) | (rw [E.out]; rfl), rfl⟩
              · have d3 : (B s k != 9) = true := by rw [bne_iff_ne]; exact h9
                by_cases r1 : 32 ≤ B s k
                · have r1' : decide (B s k < 32) = false := decide_eq_false (by omega)
                  by_cases r2 : B s k ≤ 126
                  · have E : Hid (badB s k = false) := Lib.hid (by rw [E2.out, HP.out, decide_eq_true (.inl ⟨r1, r2⟩)]; rfl)
                    have r2' : decide (126 < B s k) = false := decide_eq_false (by omega)
                    clear h9
                    go_wp2_with fail
                    go_meet
                    exact ⟨by first | (rw [E.out]; done) | (rw [E.out]; rfl), rfl⟩
                  · have E : Hid (badB s k = true) := Lib.hid (by rw [E2.out, HP.out, decide_eq_false (by omega)]; rfl)
                    have r2' : decide (126 < B s k) = true := decide_eq_true (by omega)
                    have r3' : 126 < B s k := by omega
                    clear h9 r2
                    go_wp2_with fail
                    go_meet
                    exact ⟨by first | (rw [E.out]; done) | (rw [E.out]; rfl), rfl⟩
                · have E : Hid (badB s k = true) := Lib.hid (by rw [E2.out, HP.out, decide_eq_false (by omega)]; rfl)
                  have r3' : B s k < 32 := by omega
                  clear h9 r1
                  go_wp2_with fail
                  go_meet
                  exact ⟨by first | (rw [E.out]; done) | (rw [E.out]; rfl), rfl⟩
      case rest =>
        obtain ⟨rfl, hwe⟩ := hcut
        subst hwe
        cases hbad : badB s k
        · obtain ⟨hac, hok⟩ := badB_no hbad
          clear hbad
          by_cases hc : B s k = 10
          · have ha : acr s k = true := by rw [hac, decide_eq_true hc]
            have hc' : (B s k == 10) = true := by rw [beq_iff_eq]; exact hc
            have hf1 := line_le i1 HI2.out ha
            have hA0 := (acr_iff.1 ha).1
            have e1 : ((k : Int) - 1).toNat = k - 1 := by omega
            have q1 : (f : Int) ≤ (k : Int) - 1 := by omega
            have q2 : (k : Int) - 1 ≤ s.size := by omega
            have hlz : (s.extract f (k - 1)).size = k - 1 - f := by rw [ByteArray.size_extract]; omega
            have HLN : Hid (¬ (0 < n ∧ k - 1 - f = 0) → step s k (.run n f h sn) = match lineP (s.extract f (k - 1)) n h sn with | none => .mal | some (g, b) => .run (n + 1) (k + 1) g b) := Lib.hid (step_ln ha hc)
            have HDN : Hid (0 < n → k - 1 - f = 0 → step s k (.run n f h sn) = .done h (k + 1)) := Lib.hid (step_dn ha hc)
            clear ha hac hok hc
            go_upto_region 14 with fail
            generalize s.extract f (k - 1) = ln at *
            have HLZ := Lib.hid hlz
            have hlb : ln.size ≤ 1000000 := by omega
            have hn6 : n ≤ 1000000 := by omega
            clear hlz i1 i3 hf1
            by_cases hz : (ln.size : Int) < 1
            · have hq := B_empty ln hz
              by_cases h0 : n = 0
              · have hnd : Hid (¬ (0 < n ∧ k - 1 - f = 0)) := Lib.hid (by omega)
                have h0' : ¬ (0 : Int) < n := by omega
                have hqb : (ln.toList == []) = true := by rw [hq, ByteArray.toList_eq]; rfl
                clear h0 hz hq
                have K := racc_any ln hlb hx hwc hwd hcd hn6 ho hh hd
                cases hL : lineP ln n h sn with
                | none =>
                  have E := Lib.hid (fin_mal (show st s (k + 1) = .mal by rw [st_next, HST.out, HLN.out hnd.out, hL]) HKM.out)
                  rw [hL, Option.isSome_none] at K
                  have K := Lib.hid K
                  clear hL
                  go_wp2_with (first | (go_at_call 83; refine K.out.mono ?_; rintro e w2 ⟨rfl, hl, _⟩; have hr2 := Blk.keep hr hl.1 hbn; have hx2 := hl.2) | refine wpList_store_C rfl _ _ rfl okC_zcr okC_zcr hr2 rfl rfl ?_)
                  refine bodyPost_ret (res_C3 rfl rfl okC_zcr ((hr2).row _)) rfl ⟨by rw [E.out]; rfl, (hx2).setRow hwb _⟩
                | some gb =>
                  obtain ⟨g, b'⟩ := gb
                  have HN := Lib.hid (show st s (k + 1) = .run (n + 1) (k + 1) g b' by rw [st_next, HST.out, HLN.out hnd.out, hL])
                  rw [hL, Option.isSome_some] at K
                  have K := Lib.hid K
                  clear hL
                  go_wp2_with (first | (go_at_call 83; refine K.out.mono ?_; rintro e w2 ⟨rfl, hl, hp2⟩; have hr2 := Blk.keep hr hl.1 hbn; have hx2 := hl.2))
                  go_roundw
                  case rel => exact ⟨k + 1, n + 1, k + 1, g, b', by omega, by go_num, by go_num, by go_num, HN, (hp2 g b' rfl).1, (hp2 g b' rfl).2, hr2, hx2⟩
                  case measure => simp [intOf]; omega
              · have h0' : (0 : Int) < n := by omega
                have E := Lib.hid (fin_dn (show st s (k + 1) = .done h (k + 1) by rw [st_next, HST.out, HDN.out (by omega) (by have := HLZ.out; omega)]) HKM.out)
                subst hq
                clear h0 hz
                have hrg := RBlk.range hh
                go_wp2_with (first | refine wpList_load_C rfl _ rfl ho hrg rfl ?_ | refine wpList_store_C rfl _ _ rfl okC_zcr ho hr rfl rfl ?_)
                refine bodyPost_ret (res_C3 rfl rfl ho (hr.row _)) rfl ⟨by rw [E.out]; rfl, hx.setRow hwb _⟩
            · have hnd : Hid (¬ (0 < n ∧ k - 1 - f = 0)) := Lib.hid (fun q => by have := HLZ.out; have := q.2; omega)
              have hq : (ln.toList == []) = false := by
                rw [beq_eq_false_iff_ne, ByteArray.toList_eq]
                intro e
                have := size_list ln
                rw [e] at this
                change ln.size = 0 at this
                omega
              have K := racc_any ln hlb hx hwc hwd hcd hn6 ho hh hd
              cases hL : lineP ln n h sn with
              | none =>
                have E := Lib.hid (fin_mal (show st s (k + 1) = .mal by rw [st_next, HST.out, HLN.out hnd.out, hL]) HKM.out)
                rw [hL, Option.isSome_none] at K
                have K := Lib.hid K
                clear hL
                go_wp2_with (first | (go_at_call 83; refine K.out.mono ?_; rintro e w2 ⟨rfl, hl, _⟩; have hr2 := Blk.keep hr hl.1 hbn; have hx2 := hl.2) | refine wpList_store_C rfl _ _ rfl okC_zcr okC_zcr hr2 rfl rfl ?_)
                refine bodyPost_ret (res_C3 rfl rfl okC_zcr ((hr2).row _)) rfl ⟨by rw [E.out]; rfl, (hx2).setRow hwb _⟩
              | some gb =>
                obtain ⟨g, b'⟩ := gb
                have HN := Lib.hid (show st s (k + 1) = .run (n + 1) (k + 1) g b' by rw [st_next, HST.out, HLN.out hnd.out, hL])
                rw [hL, Option.isSome_some] at K
                have K := Lib.hid K
                clear hL
                go_wp2_with (first | (go_at_call 83; refine K.out.mono ?_; rintro e w2 ⟨rfl, hl, hp2⟩; have hr2 := Blk.keep hr hl.1 hbn; have hx2 := hl.2))
                go_roundw
                case rel => exact ⟨k + 1, n + 1, k + 1, g, b', by omega, by go_num, by go_num, by go_num, HN, (hp2 g b' rfl).1, (hp2 g b' rfl).2, hr2, hx2⟩
                case measure => simp [intOf]; omega
          · have ha : acr s k = false := by rw [hac, decide_eq_false hc]
            have hc' : (B s k == 10) = false := by rw [beq_eq_false_iff_ne]; exact hc
            by_cases hd13 : B s k = 13
            · have HN := Lib.hid (show st s (k + 1) = .run n f h sn by rw [st_next, HST.out]; exact step_go ha hc (.inl hd13))
              have d1 : (B s k == 13) = true := by rw [beq_iff_eq]; exact hd13
              have d2 : (B s k != 13) = false := by rw [bne_eq_false_iff_eq]; exact hd13
              clear ha hc hd13 hac hok
              by_cases h0 : n = 0
              · have h0' : ((n : Int) == 0) = true := by rw [beq_iff_eq]; omega
                clear h0
                go_wp2_with fail
                go_roundw
                case rel => exact ⟨k + 1, n, f, h, sn, by omega, by go_num, rfl, rfl, HN, hh, hd, hr, hx⟩
                case measure => simp [intOf]; omega
              · have h0' : ((n : Int) == 0) = false := by rw [beq_eq_false_iff_ne]; omega
                clear h0
                go_wp2_with fail
                go_roundw
                case rel => exact ⟨k + 1, n, f, h, sn, by omega, by go_num, rfl, rfl, HN, hh, hd, hr, hx⟩
                case measure => simp [intOf]; omega
            · have hpr : prt (B s k) = true := by
                rcases hok with q | q | q
                · exact absurd q hc
                · exact absurd q hd13
                · exact q
              have d1 : (B s k == 13) = false := by rw [beq_eq_false_iff_ne]; exact hd13
              have d2 : (B s k != 13) = true := by rw [bne_iff_ne]; exact hd13
              by_cases h0 : n = 0
              · have h0' : ((n : Int) == 0) = true := by rw [beq_iff_eq]; omega
                have hf0 := HI4.out h0
                have hkf : k - f = k := by omega
                by_cases h8 : k < 8
                · have h8' : (k : Int) < 8 := by omega
                  by_cases hw : B s k = B connS k
                  · have HN := Lib.hid (show st s (k + 1) = .run n f h sn by rw [st_next, HST.out]; exact step_go ha hc (.inr (vbyte_in hpr (.inr (by rw [hkf]; exact hw)))))
                    have w1 : (B s k != B ⟨#[67, 79, 78, 78, 69, 67, 84, 32]⟩ k) = false := by rw [bne_eq_false_iff_eq]; exact hw
                    clear ha hc hd13 hac hok hw h0 hf0 hkf hpr
                    go_wp2_with fail
                    go_roundw
                    case rel => exact ⟨k + 1, n, f, h, sn, by omega, by go_num, rfl, rfl, HN, hh, hd, hr, hx⟩
                    case measure => simp [intOf]; omega
                  · have E := Lib.hid (fin_mal (show st s (k + 1) = .mal by rw [st_next, HST.out]; exact step_bad ha hc hd13 (by rw [hkf, decide_eq_true h0]; exact vbyte_bad h8 hw)) HKM.out)
                    have w1 : (B s k != B ⟨#[67, 79, 78, 78, 69, 67, 84, 32]⟩ k) = true := by rw [bne_iff_ne]; exact hw
                    clear ha hc hd13 hac hok hw h0 hf0 hkf hpr
                    go_wp2_with (first | refine wpList_store_C rfl _ _ rfl okC_zcr okC_zcr hr rfl rfl ?_)
                    refine bodyPost_ret (res_C3 rfl rfl okC_zcr ((hr).row _)) rfl ⟨by rw [E.out]; rfl, (hx).setRow hwb _⟩
                · have HN := Lib.hid (show st s (k + 1) = .run n f h sn by rw [st_next, HST.out]; exact step_go ha hc (.inr (vbyte_in hpr (.inl (by rw [hkf]; exact h8)))))
                  have h8' : ¬ (k : Int) < 8 := by omega
                  have h8d : decide ((k : Int) < 8) = false := decide_eq_false h8'
                  clear ha hc hd13 hac hok h0 hf0 hkf hpr
                  go_wp2_with fail
                  go_roundw
                  case rel => exact ⟨k + 1, n, f, h, sn, by omega, by go_num, rfl, rfl, HN, hh, hd, hr, hx⟩
                  case measure => simp [intOf]; omega
              · have h0' : ((n : Int) == 0) = false := by rw [beq_eq_false_iff_ne]; omega
                have HN := Lib.hid (show st s (k + 1) = .run n f h sn by rw [st_next, HST.out]; exact step_go ha hc (.inr (by rw [decide_eq_false h0]; exact vbyte_req hpr)))
                clear ha hc hd13 hac hok h0 hpr
                go_wp2_with fail
                go_roundw
                case rel => exact ⟨k + 1, n, f, h, sn, by omega, by go_num, rfl, rfl, HN, hh, hd, hr, hx⟩
                case measure => simp [intOf]; omega
        · have E := Lib.hid (fin_mal (show st s (k + 1) = .mal by rw [st_next, HST.out]; exact step_badB hbad) HKM.out)
          clear hbad
          go_wp2_with (first | refine wpList_store_C rfl _ _ rfl okC_zcr okC_zcr hr rfl rfl ?_)
          refine bodyPost_ret (res_C3 rfl rfl okC_zcr ((hr).row _)) rfl ⟨by rw [E.out]; rfl, (hx).setRow hwb _⟩
    · obtain rfl : k = M := by omega
      have E0 := HST.out
      rw [HM.out] at E0
      have E0 := fin_run E0
      have HKk := HM.out
      by_cases hbig : (512 : Int) ≤ s.size
      · rw [if_pos (by omega)] at E0
        have E := Lib.hid E0
        obtain rfl : k = 512 := by omega
        have HQ := Lib.hid HKk
        clear E0 HKk hlt
        by_cases hs5 : ((512 : Nat) : Int) < s.size
        · skip
          go_wp2_with (first | refine wpList_store_C rfl _ _ rfl okC_zcr okC_zcr hr rfl rfl ?_)
          refine bodyPost_ret (res_C3 rfl rfl okC_zcr ((hr).row _)) rfl ⟨by rw [E.out]; rfl, (hx).setRow hwb _⟩
        · skip
          go_wp2_with (first | refine wpList_store_C rfl _ _ rfl okC_zcr okC_zcr hr rfl rfl ?_)
          refine bodyPost_ret (res_C3 rfl rfl okC_zcr ((hr).row _)) rfl ⟨by rw [E.out]; rfl, (hx).setRow hwb _⟩
      · rw [if_neg (by omega)] at E0
        have E := Lib.hid E0
        have hnl : ¬ (k : Int) < s.size := by omega
        have hnld : decide ((k : Int) < s.size) = false := decide_eq_false hnl
        clear E0 HKk hlt
        go_wp2_with (first | refine wpList_store_C rfl _ _ rfl okC_zcr okC_zcr hr rfl rfl ?_)
        refine bodyPost_ret (res_C3 rfl rfl okC_zcr ((hr).row _)) rfl ⟨by rw [E.out]; rfl, (hx).setRow hwb _⟩
end Go.Proofs.YtpdoddelnahlnaaGreatDoor
