/-
  Contracts of gen.User, FormatHeader, FormatBasic, buildHead.
-/
import Derived.Test.YtpdoddelnahlnaaGreatDoorK41
import Derived.Test.YtpdoddelnahlnaaGreatDoorK42
import Derived.Deep.CutBlock
set_option linter.unusedSimpArgs false
set_option linter.unusedVariables false
namespace Go.Proofs.YtpdoddelnahlnaaGreatDoor
open Go.RowKit Go.Joins
set_option maxRecDepth 4000 in
theorem guser_any (i : Int) (w : World) : Calls Tryz.prog 50 #[.int .i64 i] w fun e w' => ∃ u : ByteArray, u.size = 1 ∧ e = .returned (.string u) ∧ Ext w w' := by
  have KM := Lib.hid (fun w => mod_any i 8 w (by decide))
  have hm := modI_bd i (n := 8) (by decide) (by decide)
  generalize modI i 8 = m at *
  have e1 : IntKind.u8.wrap m = m := by rw [u8w]; omega
  have e2 : IntKind.u8.wrap (97 + m) = 97 + m := by rw [u8w]; omega
  go_enter Tryz.func50, Tryz.ntmps50
  go_wp2_with (first | (go_at_call 24; refine (KM.out _).mono ?_; rintro e w3 ⟨rfl, hx3⟩))
  go_ret
  exact ⟨_, rfl, rfl, hx3.alloc _⟩
theorem authV_eq (u p : ByteArray) : ⟨#[66, 97, 115, 105, 99, 32]⟩ ++ encB (u ++ ⟨#[58]⟩ ++ p) = authV u p := by
  have e : (⟨#[66, 97, 115, 105, 99, 32]⟩ : ByteArray) = bas ++ spc := by decide +kernel
  unfold authV col
  rw [e]
  simp only [ByteArray.append_assoc]
set_option maxRecDepth 4000 in
theorem hfmth_any (u p : ByteArray) (hu : u.size ≤ 1099511627776) (hp : p.size ≤ 1099511627776) (w : World) : Calls Tryz.prog 55 #[.string u, .string p] w fun e w' => e = .returned (.string (authV u p)) ∧ Ext w w' := by
  have hz : (u ++ (⟨#[58]⟩ : ByteArray) ++ p).size = u.size + 1 + p.size := by rw [size_app, size_app]; rfl
  have K := Lib.hid (fun w => enc_any (u ++ (⟨#[58]⟩ : ByteArray) ++ p) (by rw [hz]; omega) w)
  have R := Lib.hid (authV_eq u p)
  have hez := encB_size (u ++ (⟨#[58]⟩ : ByteArray) ++ p)
  have y1 : ¬ 9223372036854775807 < u.size + 1 := by omega
  have y2 : ¬ 9223372036854775807 < u.size + 1 + p.size := by omega
  have y3 : ¬ 9223372036854775807 < 6 + (encB (u ++ (⟨#[58]⟩ : ByteArray) ++ p)).size := by omega
  clear hez hz
  go_enter Tryz.func55, Tryz.ntmps55
  go_wp2_with (first | (go_at_call 87; refine (K.out _).mono ?_; rintro e w3 ⟨rfl, hx3⟩))
  go_ret
  exact ⟨by rw [← R.out]; rfl, hx3⟩
set_option maxRecDepth 4000 in
theorem rfmth_any (u p : ByteArray) (hu : u.size ≤ 1099511627776) (hp : p.size ≤ 1099511627776) (w : World) : Calls Tryz.prog 49 #[.string u, .string p] w fun e w' => e = .returned (.string (authV u p)) ∧ Ext w w' := by
  have hz : (u ++ (⟨#[58]⟩ : ByteArray) ++ p).size = u.size + 1 + p.size := by rw [size_app, size_app]; rfl
  have K := Lib.hid (fun w => renc_any (u ++ (⟨#[58]⟩ : ByteArray) ++ p) (by rw [hz]; omega) w)
  have R := Lib.hid (authV_eq u p)
  have hez := encB_size (u ++ (⟨#[58]⟩ : ByteArray) ++ p)
  have y1 : ¬ 9223372036854775807 < u.size + 1 := by omega
  have y2 : ¬ 9223372036854775807 < u.size + 1 + p.size := by omega
  have y3 : ¬ 9223372036854775807 < 6 + (encB (u ++ (⟨#[58]⟩ : ByteArray) ++ p)).size := by omega
  clear hez hz
  go_enter Tryz.func49, Tryz.ntmps49
  go_wp2_with (first | (go_at_call 82; refine (K.out _).mono ?_; rintro e w3 ⟨rfl, hx3⟩))
  go_ret
  exact ⟨by rw [← R.out]; rfl, hx3⟩
theorem authV_size (u p : ByteArray) : (authV u p).size = 6 + (u.size + 1 + p.size + 2) / 3 * 4 := by
  unfold authV
  rw [size_app, size_app, encB_size, size_app, size_app]
  show 5 + (1 + (u.size + (1 + p.size) + 2) / 3 * 4) = _
  rw [Nat.add_assoc u.size]; omega
/-- the bytes of a []byte that came in -/
def OctsIn (w : World) (a : Option Addr) (n c : Nat) (x : ByteArray) : Prop :=
  (a = none ∧ n = 0 ∧ c = 0) ∨ ∃ ad, a = some ad ∧ n ≤ c ∧ c ≤ 140737488351232 ∧ (0 < n → ∃ b off, ad = ⟨b, off, none⟩ ∧ b < w.heap.size ∧ ∀ i, i < n → w.cell? ⟨b, off + i, none⟩ = some (.int .u8 (B x i)))
theorem OctsIn.ext {w w' : World} {a : Option Addr} {n c : Nat} {x : ByteArray} (h : OctsIn w a n c x) (k : Ext w w') : OctsIn w' a n c x := by
  rcases h with h | ⟨ad, h1, h2, h3, h4⟩
  · exact .inl h
  · refine .inr ⟨ad, h1, h2, h3, fun hp => ?_⟩
    obtain ⟨b, off, e, hb, hc⟩ := h4 hp
    exact ⟨b, off, e, Nat.lt_of_lt_of_le hb k.size, fun i hi => by rw [k.cell (show (⟨b, off + i, none⟩ : Addr).block < _ from hb)]; exact hc i hi⟩
/-- the strings of a []string that came in -/
def StrsIn (w : World) (a : Option Addr) (n c : Nat) (xs : List ByteArray) : Prop :=
  (a = none ∧ n = 0 ∧ c = 0) ∨ ∃ ad, a = some ad ∧ n ≤ c ∧ (0 < n → ∃ b off, ad = ⟨b, off, none⟩ ∧ b < w.heap.size ∧ ∀ i, i < n → w.cell? ⟨b, off + i, none⟩ = some (.string (xs.getD i ⟨#[]⟩)))
theorem StrsIn.ext {w w' : World} {a : Option Addr} {n c : Nat} {xs : List ByteArray} (h : StrsIn w a n c xs) (k : Ext w w') : StrsIn w' a n c xs := by
  rcases h with h | ⟨ad, h1, h2, h4⟩
  · exact .inl h
  · refine .inr ⟨ad, h1, h2, fun hp => ?_⟩
    obtain ⟨b, off, e, hb, hc⟩ := h4 hp
    exact ⟨b, off, e, Nat.lt_of_lt_of_le hb k.size, fun i hi => by rw [k.cell (show (⟨b, off + i, none⟩ : Addr).block < _ from hb)]; exact hc i hi⟩
def BigL (xs : List ByteArray) : Prop := ∀ i, (xs.getD i ⟨#[]⟩).size ≤ 1048576
set_option maxRecDepth 8000 in
set_option maxHeartbeats 8000000 in
theorem bhead_any (n : Int) (la : Option Addr) (ln lc : Nat) (xs : List ByteArray) (a : Option Addr) (kn kc : Nat) (x : ByteArray) (w : World) (hln : ln ≤ 140737488351232) (hkn : kn ≤ 140737488351232) (hxs : BigL xs) (hl : StrsIn w la ln lc xs) (hk : OctsIn w a kn kc x) :
    Calls Tryz.prog 21 #[.int .i64 n, .slice la ln lc, .slice a kn kc] w fun e w' => ∃ t : ByteArray, 2 ≤ t.size ∧ t.size ≤ 20000000 ∧ e = .returned (.string t) ∧ Ext w w' := by
  have KG := Lib.hid (fun w => gtarget_any n w)
  have KM := Lib.hid (fun w => mod_any n 3 w (by decide))
  have hm := modI_bd n (n := 3) (by decide) (by decide)
  generalize modI n 3 = m at *
  have HL := Lib.hid hl
  have HK := Lib.hid hk
  have HX := Lib.hid hxs
  clear hl hk hxs
  go_enter Tryz.func21, Tryz.ntmps21
  go_wp2_with (first | (go_at_call 19; refine (KG.out _).mono ?_; rintro e w1 ⟨t, ht, hv, rfl, hx1⟩; refine Hid.out ?_))
  refine Lib.hid ?_
  have KF := Lib.hid (rhformat_any t ht w1)
  have hfz := fmtT_size ht
  generalize fmtT t = f at *
  have y1 : ¬ 9223372036854775807 < 8 + f.size := by omega
  have y2 : ¬ 9223372036854775807 < 8 + f.size + 8 := by omega
  have y3 : ¬ 9223372036854775807 < 8 + f.size + 8 + 1 := by omega
  have y4 : ¬ 9223372036854775807 < 8 + f.size + 8 + 1 + 2 := by omega
  have e1 : IntKind.u8.wrap m = m := by rw [u8w]; omega
  have e2 : IntKind.u8.wrap (48 + m) = 48 + m := by rw [u8w]; omega
  go_upto_region 2 with (first | (go_at_call 18; refine KF.out.mono ?_; rintro e w2 ⟨rfl, hx2⟩) | (go_at_call 24; refine (KM.out _).mono ?_; rintro e w3 ⟨rfl, hx3⟩))
  obtain ⟨z0, hz0⟩ : ∃ z0 : ByteArray, z0 = ⟨#[67, 79, 78, 78, 69, 67, 84, 32]⟩ ++ f ++ ⟨#[32, 72, 84, 84, 80, 47, 49, 46]⟩ ++ str1 (48 + m) ++ ⟨#[13, 10]⟩ := ⟨_, rfl⟩
  rw [← hz0]
  have hz0s : z0.size ≤ 400 := by rw [hz0]; simp only [size_app]; show 8 + f.size + 8 + 1 + 2 ≤ _; omega
  have hx4 := ((hx1.trans hx2).trans hx3).alloc (.cells #[Value.int .u8 (48 + m)] 5)
  clear hz0 hx1 hx2 hx3 KF KG KM y1 y2 y3 y4 e1 e2
  generalize w3.alloc (.cells #[Value.int .u8 (48 + m)] 5) = w4 at *
  go_wp2_with fail
  go_loopw [7, 8, 9] (fun s i _ wr => ∃ (k : Nat) (z : ByteArray), k ≤ kn ∧ k ≤ 6 ∧ i = .int .i64 k ∧ s = .string z ∧ z.size ≤ 400 + 3000000 * k ∧ Ext w wr) (fun _ i _ _ => 6 - (intOf i).toNat)
  case atStart => exact ⟨0, z0, Nat.zero_le _, Nat.zero_le _, rfl, rfl, by omega, hx4⟩
  case round =>
    clear hx4
    obtain ⟨k, z, hk, hk6, rfl, rfl, hz, hx⟩ := hrel
    by_cases hlt : k < kn
    · have hlt' : (k : Int) < kn := by omega
      have hd1 : decide ((k : Int) < kn) = true := decide_eq_true hlt'
      by_cases h6 : k < 6
      · have h6' : (k : Int) < 6 := by omega
        have hd2 : decide ((k : Int) < 6) = true := decide_eq_true h6'
        rcases HK.out.ext hx with ⟨_, h0, _⟩ | ⟨ad, rfl, hnc, hc, hcell⟩
        · omega
        · obtain ⟨b, off, rfl, hb, hcell⟩ := hcell (by omega)
          have hck := hcell k hlt
          have hbk := B_bd x k
          obtain ⟨mm, hmm⟩ : ∃ mm : Nat, B x k = mm := ⟨(B x k).toNat, by omega⟩
          rw [hmm] at hck hbk
          have hm2 : ((mm : Int).tmod 9) = ((mm % 9 : Nat) : Int) := by rw [Int.tmod_eq_emod_of_nonneg (by omega)]; omega
          have hr : mm % 9 < 9 := Nat.mod_lt _ (by decide)
          generalize mm % 9 = r at *
          clear hcell hmm
          go_upto_if 36 with fail
          go_cut [9, 36] from 37 to 40 (fun v _ wc => ∃ y : ByteArray, v = .string y ∧ y.size ≤ 1048576 ∧ wc = wr)
          case first =>
            by_cases hj : k < ln
            · have hj' : (k : Int) < ln := by omega
              have hjd : decide ((k : Int) < ln) = true := decide_eq_true hj'
              rcases HL.out.ext hx with ⟨_, h0, _⟩ | ⟨ad, rfl, hnc2, hcell⟩
              · omega
              · obtain ⟨b2, off2, rfl, hb2, hcell⟩ := hcell (by omega)
                have hck2 := hcell k hj
                have hxk := HX.out k
                generalize xs.getD k ⟨#[]⟩ = y at *
                clear hcell
                go_wp2_with fail
                go_meet
                exact ⟨y, rfl, hxk, rfl⟩
            · have hj' : ¬ (k : Int) < ln := by omega
              have hjd : decide ((k : Int) < ln) = false := decide_eq_false hj'
              go_wp2_with fail
              go_meet
              exact ⟨_, rfl, by decide, rfl⟩
          case rest =>
            obtain ⟨y, rfl, hy, hwe⟩ := hcut
            subst hwe
            go_upto_block 2 with fail
            go_cut [7, 45] from 46 to 98 (fun v q wc => (∃ z' : ByteArray, v = .string z' ∧ z'.size ≤ z.size + 2900000 ∧ Ext w wc) ∧ q = .int .u8 r)
            case first =>
              have KU := Lib.hid (fun w => guser_any (mm : Int) w)
              have a1 : ¬ 9223372036854775807 < 6 + y.size := by omega
              have a2 : ¬ 9223372036854775807 < z.size + (6 + y.size) := by omega
              have a3 : ¬ 9223372036854775807 < 28 + y.size := by omega
              have a4 : ¬ 9223372036854775807 < 28 + y.size + 2 := by omega
              have a5 : ¬ 9223372036854775807 < z.size + (28 + y.size + 2) := by omega
              have a6 : ¬ 9223372036854775807 < z.size + y.size := by omega
              have a7 : ¬ 9223372036854775807 < 4 + y.size := by omega
              have a8 : ¬ 9223372036854775807 < z.size + (4 + y.size) := by omega
              have a9 : ¬ 9223372036854775807 < 1 + y.size := by omega
              have a10 : ¬ 9223372036854775807 < z.size + (1 + y.size) := by omega
              have a11 : ¬ 9223372036854775807 < z.size + 6 := by omega
              have a12 : ¬ 9223372036854775807 < z.size + 2 := by omega
              have a13 : ¬ 9223372036854775807 < z.size + 32 := by omega
              have hrr : r = 0 ∨ r = 1 ∨ r = 2 ∨ r = 3 ∨ r = 4 ∨ r = 5 ∨ r = 6 ∨ r = 7 ∨ r = 8 := by omega
              clear hm2 hr
              rcases hrr with q | q | q | q | q | q | q | q | q
              · subst q
                go_wp2_with fail
                go_meet
                exact ⟨⟨_, rfl, by simp only [size_app]; show z.size + (6 + y.size) ≤ _; omega, hx⟩, rfl⟩
              · subst q
                have e9 : IntKind.i64.wrap (mm : Int) = mm := IntWalk.i64_in _ (by omega)
                go_wp2_with (first | (go_at_call 50; refine (KU.out _).mono ?_; rintro e w6 ⟨us, hus, rfl, hx6⟩; have KB := Lib.hid (fun w => rfmth_any us y (by omega) (by omega) w); have hbz := authV_size us y; have b1 : ¬ 9223372036854775807 < 21 + (authV us y).size := (by omega); have b2 : ¬ 9223372036854775807 < z.size + (21 + (authV us y).size) := (by omega); have HBZ := Lib.hid hbz; clear hbz) | (go_at_call 49; refine (KB.out _).mono ?_; rintro e w7 ⟨rfl, hx7⟩))
                go_meet
                exact ⟨⟨_, rfl, by simp only [size_app]; show z.size + (21 + (authV us y).size) ≤ _; have := HBZ.out; omega, (hx.trans hx6).trans hx7⟩, rfl⟩
              · subst q
                go_wp2_with fail
                go_meet
                exact ⟨⟨_, rfl, by simp only [size_app]; show z.size + (28 + y.size + 2) ≤ _; omega, hx⟩, rfl⟩
              · subst q
                go_wp2_with fail
                go_meet
                exact ⟨⟨_, rfl, by simp only [size_app]; show z.size + y.size ≤ _; omega, hx⟩, rfl⟩
              · subst q
                go_wp2_with fail
                go_meet
                exact ⟨⟨_, rfl, by simp only [size_app]; show z.size + (4 + y.size) ≤ _; omega, hx⟩, rfl⟩
              · subst q
                go_wp2_with fail
                go_meet
                exact ⟨⟨_, rfl, by simp only [size_app]; show z.size + (1 + y.size) ≤ _; omega, hx⟩, rfl⟩
              · subst q
                go_wp2_with fail
                go_meet
                exact ⟨⟨_, rfl, by simp only [size_app]; show z.size + 6 ≤ _; omega, hx⟩, rfl⟩
              · subst q
                go_wp2_with fail
                go_meet
                exact ⟨⟨_, rfl, by simp only [size_app]; show z.size + 2 ≤ _; omega, hx⟩, rfl⟩
              · subst q
                go_wp2_with fail
                go_meet
                exact ⟨⟨_, rfl, by simp only [size_app]; show z.size + 32 ≤ _; omega, hx⟩, rfl⟩
            case rest =>
              obtain ⟨⟨z', rfl, hz', hx'⟩, rfl⟩ := hcut
              have a1 : ¬ 9223372036854775807 < z'.size + 2 := by omega
              have ez : (z' ++ (⟨#[13, 10]⟩ : ByteArray)).size = z'.size + 2 := by rw [size_app]; rfl
              go_wp2_with fail
              go_roundw
              case rel => exact ⟨k + 1, _, by omega, by omega, by go_num, rfl, by rw [ez]; omega, hx'⟩
              case measure => simp [intOf]; omega
      · have h6' : ¬ (k : Int) < 6 := by omega
        have hd2 : decide ((k : Int) < 6) = false := decide_eq_false h6'
        have a1 : ¬ 9223372036854775807 < z.size + 2 := by omega
        go_wp2_with fail
        go_ret
        exact ⟨_, by rw [size_app]; show 2 ≤ z.size + 2; omega, by rw [size_app]; show z.size + 2 ≤ _; omega, rfl, hx⟩
    · have hlt' : ¬ (k : Int) < kn := by omega
      have hd1 : decide ((k : Int) < kn) = false := decide_eq_false hlt'
      have a1 : ¬ 9223372036854775807 < z.size + 2 := by omega
      go_wp2_with fail
      go_ret
      exact ⟨_, by rw [size_app]; show 2 ≤ z.size + 2; omega, by rw [size_app]; show z.size + 2 ≤ _; omega, rfl, hx⟩
end Go.Proofs.YtpdoddelnahlnaaGreatDoor
