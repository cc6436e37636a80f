/-
  HttpconnectIsIncremental.
-/
import Derived.Test.YtpdoddelnahlnaaGreatDoorHcX
set_option linter.unusedSimpArgs false
set_option linter.unusedVariables false
namespace Go.Proofs.YtpdoddelnahlnaaGreatDoor
open Go.RowKit Go.Joins
/-- the state behind i bytes and behind one fewer -/
def IncC (i : Nat) (p q : Int × Int) : Prop :=
  (p = (0, 0) ∧ q = (0, 0) ∧ i < 512) ∨ (p = (0, 0) ∧ q = ((i : Int), 1)) ∨ (p = (0, 0) ∧ q = (0, 2)) ∨ (∃ m : Int, p = (m, 1) ∧ q = (m, 1)) ∨ (p = (0, 2) ∧ q = (0, 2))
theorem finAt_st (s : ByteArray) (i : Nat) : (finAt s i).2.2 = 0 ∨ (finAt s i).2.2 = 1 ∨ (finAt s i).2.2 = 2 := by
  unfold finAt fin1
  cases st s (min i 512) with
  | mal => simp
  | done h m => simp
  | run n f h b => simp only; split <;> simp
theorem incC (s : ByteArray) (i : Nat) : IncC i (finAt s (i - 1)).2 (finAt s i).2 := by
  unfold IncC
  rcases Nat.eq_zero_or_pos i with h | h
  · subst h
    left
    rw [show 0 - 1 = 0 from rfl, finAt_zero]
    exact ⟨rfl, rfl, by omega⟩
  · obtain ⟨k, rfl⟩ : ∃ k, i = k + 1 := ⟨i - 1, by omega⟩
    rw [Nat.add_sub_cancel]
    by_cases h0 : (finAt s k).2.2 = 0
    · have hk : (finAt s k).2 = (0, 0) := Prod.ext (finAt_not (by omega)) h0
      rw [hk]
      rcases finAt_st s (k + 1) with q | q | q
      · have hk1 : (finAt s (k + 1)).2 = (0, 0) := Prod.ext (finAt_not (by omega)) q
        refine .inl ⟨rfl, hk1, ?_⟩
        rcases Nat.lt_or_ge (k + 1) 512 with z | z
        · exact z
        · exact absurd q (finAt_big z)
      · exact .inr (.inl ⟨rfl, Prod.ext (finAt_new h0 q) q⟩)
      · exact .inr (.inr (.inl ⟨rfl, Prod.ext (finAt_not (by omega)) q⟩))
    · rw [finAt_stay h0]
      rcases finAt_st s k with q | q | q
      · exact absurd q h0
      · exact .inr (.inr (.inr (.inl ⟨(finAt s k).2.1, Prod.ext rfl q, Prod.ext rfl q⟩)))
      · have hk : (finAt s k).2 = (0, 2) := Prod.ext (finAt_not (by omega)) q
        exact .inr (.inr (.inr (.inr ⟨hk, hk⟩)))
set_option maxRecDepth 8000 in
set_option maxHeartbeats 8000000 in
theorem HttpconnectIsIncremental_walk (n : Int) (la : Option Addr) (ln lc : Nat) (xs : List ByteArray) (a : Option Addr) (kn kc : Nat) (x : ByteArray) (behind : ByteArray)
    (_ : (Lit.int .i64 n).wf = true) (hln : ln ≤ 140737488351232) (hxn : x.size = kn) (hxs : x.size ≤ 140737488351232) (_ : behind.size ≤ 140737488351232)
    (w : World) (henv : Env w) (htabs : Tabs w) (hl : StrsIn w la ln lc xs) (hbl : BigL xs) (hin : OctsIn w a kn kc x) (hs0 : behind.size < 1048576) :
    Calls Tryz.prog 8 #[.int .i64 n, .slice la ln lc, .slice a kn kc, .string behind] w fun e w' => e = .returned (.bool true) ∧ Ext w w' := by
  have KB := Lib.hid (bhead_any n la ln lc xs a kn kc x w hln (by omega) hbl hl hin)
  clear hl hbl hin hxn hxs hln
  go_enter Tryz.func8, Tryz.ntmps8
  go_wp2_with (first | (go_at_call 21; refine KB.out.mono ?_; rintro e w1 ⟨t, ht2, ht, rfl, hx1⟩; refine Hid.out ?_))
  refine Lib.hid ?_
  have y1 : ¬ 9223372036854775807 < t.size + behind.size := by omega
  go_upto_region 3 with fail
  have hT : (t ++ behind).size ≤ 22000000 := by rw [size_app]; omega
  generalize t ++ behind = T at *
  clear ht2 ht hs0 y1 KB
  have HP := Lib.hid (fun (i : Nat) (hi : i ≤ T.size) (w : World) (he : Env w) => by
    have := hparse_any (T.extract 0 i) (Nat.le_trans (extract_le _ _ _) (by omega)) w he
    rw [fin_pre T hi] at this
    exact this)
  have HI := Lib.hid (incC T)
  have HO : Hid (∀ i : Nat, i ≤ T.size → okC (finAt T i).1) := Lib.hid (fun i hi => by rw [← fin_pre T hi]; exact okC_fin _)
  go_wp2_with fail
  go_loopw [10, 11, 12, 13, 14, 15] (fun was many ctr _ _ _ wr => ∃ i : Nat, i ≤ T.size + 1 ∧ i ≤ 700 ∧ ctr = .int .i64 i ∧ was = .int .i64 (finAt T (i - 1)).2.2 ∧ many = .int .i64 (finAt T (i - 1)).2.1 ∧ Ext w wr) (fun _ _ ctr _ _ _ _ => 700 - (intOf ctr).toNat)
  case atStart => exact ⟨0, Nat.zero_le _, Nat.zero_le _, rfl, rfl, rfl, hx1⟩
  case round =>
    obtain ⟨i, hi, hi7, rfl, rfl, rfl, hx⟩ := hrel
    by_cases hlt : i ≤ T.size
    · have hlt' : (i : Int) ≤ T.size := by omega
      have hd1 : decide ((i : Int) ≤ T.size) = true := decide_eq_true hlt'
      by_cases h7 : i < 700
      · have h7' : (i : Int) < 700 := by omega
        have hd2 : decide ((i : Int) < 700) = true := decide_eq_true h7'
        have K := HP.out i hlt _ (henv.ext hx)
        have hinc := HI.out i
        have hok := HO.out i hlt
        obtain ⟨cc, q, hcq⟩ : ∃ cc q, finAt T i = (cc, q) := ⟨_, _, rfl⟩
        rw [hcq] at K hinc hok
        obtain ⟨p, hp⟩ : ∃ p, (finAt T (i - 1)).2 = p := ⟨_, rfl⟩
        rw [hp] at hinc ⊢
        have HQ : Hid ((finAt T i).2 = q) := Lib.hid (by rw [hcq])
        clear hp hcq
        have K := Lib.hid K
        simp only at hinc hok
        go_wp2_with (first | (go_at_call 25; refine K.out.mono ?_; rintro e w5 ⟨rfl, hx5⟩; refine Hid.out ?_))
        refine Lib.hid ?_
        have hxx5 := hx.trans hx5
        clear hx hx5 K
        have hbf := Blk.new w5 (crc zcr) 46
        go_upto_region 7 with (refine wpList_store_C rfl _ _ rfl okC_zcr hok hbf rfl rfl ?_)
        change Code.wp _ _ _ _ ((w5.alloc (.cells (crc zcr) 46)).setRow w5.heap.size (crc cc))
        rw [World.setRow_alloc_new]
        have hd6 := Blk.new w5 (crc cc) 46
        have hx6 := hxx5.alloc (.cells (crc cc) 46)
        have hnx := (Ext.refl w5).alloc (.cells (crc cc) 46)
        clear hbf
        generalize w5.alloc (.cells (crc cc) 46) = w6 at *
        generalize w5.heap.size = b6 at *
        clear hnx hd6 hxx5
        rcases hinc with ⟨rfl, rfl, h5⟩ | ⟨rfl, rfl⟩ | ⟨rfl, rfl⟩ | ⟨m, rfl, rfl⟩ | ⟨rfl, rfl⟩
        · have h5' : (i : Int) < 512 := by omega
          have h5d : decide ((512 : Int) ≤ i) = false := decide_eq_false (by omega)
          go_wp2_with fail
          go_roundw
          case rel => exact ⟨i + 1, by omega, by omega, by go_num, by rw [Nat.add_sub_cancel, HQ.out], by rw [Nat.add_sub_cancel, HQ.out], hx6⟩
          case measure => simp [intOf]; omega
        · skip
          go_wp2_with fail
          go_roundw
          case rel => exact ⟨i + 1, by omega, by omega, by go_num, by rw [Nat.add_sub_cancel, HQ.out], by rw [Nat.add_sub_cancel, HQ.out], hx6⟩
          case measure => simp [intOf]; omega
        · skip
          go_wp2_with fail
          go_roundw
          case rel => exact ⟨i + 1, by omega, by omega, by go_num, by rw [Nat.add_sub_cancel, HQ.out], by rw [Nat.add_sub_cancel, HQ.out], hx6⟩
          case measure => simp [intOf]; omega
        · skip
          go_wp2_with fail
          go_roundw
          case rel => exact ⟨i + 1, by omega, by omega, by go_num, by rw [Nat.add_sub_cancel, HQ.out], by rw [Nat.add_sub_cancel, HQ.out], hx6⟩
          case measure => simp [intOf]; omega
        · skip
          go_wp2_with fail
          go_roundw
          case rel => exact ⟨i + 1, by omega, by omega, by go_num, by rw [Nat.add_sub_cancel, HQ.out], by rw [Nat.add_sub_cancel, HQ.out], hx6⟩
          case measure => simp [intOf]; omega
      · have hd2 : decide ((i : Int) < 700) = false := decide_eq_false (by omega)
        have h7' : ¬ (i : Int) < 700 := by omega
        have KA := Lib.hid (awake20 _ (henv.ext hx))
        go_wp2_with (first | (go_at_call 22; refine KA.out.mono ?_; rintro e w5 ⟨rfl, hx5⟩))
        go_ret
        exact ⟨rfl, hx.trans hx5⟩
    · have hd1 : decide ((i : Int) ≤ T.size) = false := decide_eq_false (by omega)
      have hlt' : ¬ (i : Int) ≤ T.size := by omega
      have KA := Lib.hid (awake20 _ (henv.ext hx))
      go_wp2_with (first | (go_at_call 22; refine KA.out.mono ?_; rintro e w5 ⟨rfl, hx5⟩))
      go_ret
      exact ⟨rfl, hx.trans hx5⟩
end Go.Proofs.YtpdoddelnahlnaaGreatDoor
