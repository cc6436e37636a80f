/-
  awake: the sanity check of the laws of addresses.
-/
import Derived.Test.YtbbdcodhgbgekaaDoorIpFn
import Derived.Test.YtbbdcodhgbgekaaDoorIpB
import Derived.Test.YtbbdcodhgbgekaaDoorIpP
import Derived.Deep.RegionHeld3
import Derived.Deep.WholeRow
import Derived.Test.YtbbdcodhgbgekaaDoorIpE
import Derived.Test.YtbbdcodhgbgekaaDoorOrd
set_option linter.unusedSimpArgs false
set_option linter.unusedVariables false
namespace Go.Proofs.YtbbdcodhgbgekaaDoor
open Go.RowKit Go.Joins

def adA : Adr := (true, [32, 1, 13, 184, 0, 0, 0, 0, 0, 1, 0, 0, 0, 0, 0, 1])
def adB : Adr := (true, [0, 0, 0, 0, 0, 0, 0, 0, 0, 0, 255, 255, 10, 0, 0, 1])
theorem aw1 : v6 [8193, 3512, 0, 0, 1, 0, 0, 1] = (adA, true) := by decide +kernel
theorem aw2 : parseA ⟨#[58, 58, 102, 102, 102, 102, 58, 49, 48, 46, 48, 46, 48, 46, 49]⟩ = (adB, true) := by decide +kernel
theorem aw3 : parseA ⟨#[48, 49, 46, 50, 46, 51, 46, 52]⟩ = (zadr, false) := by decide +kernel
theorem aw4 : fmtA adA = [50, 48, 48, 49, 58, 100, 98, 56, 58, 58, 49, 58, 48, 58, 48, 58, 49] := by decide +kernel
theorem aw5 : fmtA adB = [58, 58, 102, 102, 102, 102, 58, 97, 48, 48, 58, 49] := by decide +kernel
theorem aw6 : unmapA adB = v4 10 0 0 1 := by decide +kernel
theorem aw7 : cmpA (v4 1 2 3 4) adA = -1 := by decide +kernel
theorem aw8 : bitA adA 2 = 1 := by decide +kernel
theorem okAA : okA adA := ⟨rfl, by decide⟩
theorem okAB : okA adB := ⟨rfl, by decide⟩
theorem V6_const (w : World) (gs : List Int) (h : gs.length = 8) (h16 : ok16 gs) (b : Nat) (hb : b = w.heap.size) :
    Calls Tryd.prog 28 #[.slice (some ⟨b, 0, none⟩) 8 8] (w.alloc (.cells (gs.map (Value.int .u16)).toArray 39)) fun e w' => e = .returned (.tuple #[av (v6 gs).1, .bool (v6 gs).2]) ∧ Ext (w.alloc (.cells (gs.map (Value.int .u16)).toArray 39)) w' := by
  subst hb
  refine V6_any _ gs _ ⟨_, 8, by rw [h], by omega, h16, fun _ => ⟨w.heap.size, 0, rfl, by rw [World.size_alloc]; omega, fun j x hj => ?_⟩⟩ (by omega)
  have := Blk.new w (gs.map (Value.int .u16)).toArray 39
  rw [Nat.zero_add]
  exact this.cell (by simp [hj])

theorem aw_CF1 : ∀ (w6 : World) (ht6 : Tabs w6) w', Ext w6 w' → Calls Tryd.prog 10 #[av adA] w' fun e w'' => e = .returned (.string ⟨#[50, 48, 48, 49, 58, 100, 98, 56, 58, 58, 49, 58, 48, 58, 48, 58, 49]⟩) ∧ Ext w' w'' := fun w6 ht6 w' h => by
    have := format_any adA okAA rfl w' (ht6.ext h); rw [aw4] at this; exact this
theorem aw_CF2 : ∀ (w6 : World) (ht6 : Tabs w6) w', Ext w6 w' → Calls Tryd.prog 10 #[av adB] w' fun e w'' => e = .returned (.string ⟨#[58, 58, 102, 102, 102, 102, 58, 97, 48, 48, 58, 49]⟩) ∧ Ext w' w'' := fun w6 ht6 w' h => by
    have := format_any adB okAB rfl w' (ht6.ext h); rw [aw5] at this; exact this
theorem aw_CU : ∀ w', Calls Tryd.prog 14 #[av adB] w' fun e w'' => e = .returned (.agg #[.bool false, .int .u8 10, .int .u8 0, .int .u8 0, .int .u8 1, .int .u8 0, .int .u8 0, .int .u8 0, .int .u8 0, .int .u8 0, .int .u8 0, .int .u8 0, .int .u8 0, .int .u8 0, .int .u8 0, .int .u8 0, .int .u8 0]) ∧ Ext w' w'' := fun w' => by
    have := unmap_any adB okAB w'; rw [aw6] at this; exact this
theorem aw_C41 : ∀ w', Calls Tryd.prog 30 #[.int .u8 10, .int .u8 0, .int .u8 0, .int .u8 1] w' fun e w'' => e = .returned (.agg #[.bool false, .int .u8 10, .int .u8 0, .int .u8 0, .int .u8 1, .int .u8 0, .int .u8 0, .int .u8 0, .int .u8 0, .int .u8 0, .int .u8 0, .int .u8 0, .int .u8 0, .int .u8 0, .int .u8 0, .int .u8 0, .int .u8 0]) ∧ Ext w' w'' := fun w' =>
    ipV4_any (by decide) (by decide) (by decide) (by decide) w'
theorem aw_C42 : ∀ w', Calls Tryd.prog 30 #[.int .u8 1, .int .u8 2, .int .u8 3, .int .u8 4] w' fun e w'' => e = .returned (av (v4 1 2 3 4)) ∧ Ext w' w'' := fun w' =>
    ipV4_any (by decide) (by decide) (by decide) (by decide) w'
theorem aw_CV : ∀ w', Calls Tryd.prog 12 #[av adA] w' fun e w'' => e = .returned (.bool true) ∧ Ext w' w'' := fun w' => valid_any adA okAA w'
theorem aw_CC : ∀ w', Calls Tryd.prog 24 #[av (v4 1 2 3 4), av adA] w' fun e w'' => e = .returned (.int .i64 (-1)) ∧ Ext w' w'' := fun w' => by
    have := compare_any (v4 1 2 3 4) adA (okA_v4 (by decide) (by decide) (by decide) (by decide)) okAA w'; rw [aw7] at this; exact this
theorem aw_CL : ∀ w', Calls Tryd.prog 16 #[av adA] w' fun e w'' => e = .returned (.int .i64 128) ∧ Ext w' w'' := fun w' => bitLen_any adA okAA w'
theorem aw_CB : ∀ w', Calls Tryd.prog 26 #[av adA, .int .i64 2] w' fun e w'' => e = .returned (.int .i64 1) ∧ Ext w' w'' := fun w' => by
    have := bit_any adA okAA 2 w'; rw [aw8] at this; exact this
set_option maxRecDepth 8000 in
set_option maxHeartbeats 8000000 in
theorem awake_any (w : World) (henv : Env w) (htabs : Tabs w) :
    Calls Tryd.prog 9 #[] w fun e w' => e = .returned (.bool true) ∧ Ext w w' := by
  have hv6 := V6_const w [8193, 3512, 0, 0, 1, 0, 0, 1] rfl (by unfold ok16; decide) w.heap.size rfl
  rw [aw1] at hv6
  have HV6 := Lib.hid hv6; clear hv6
  have hp1 := fun w he => parse_any ⟨#[58, 58, 102, 102, 102, 102, 58, 49, 48, 46, 48, 46, 48, 46, 49]⟩ w he (by decide)
  rw [aw2] at hp1
  have HP1 := Lib.hid hp1; clear hp1
  have hp2 := fun w he => parse_any ⟨#[48, 49, 46, 50, 46, 51, 46, 52]⟩ w he (by decide)
  rw [aw3] at hp2
  have HP2 := Lib.hid hp2; clear hp2
  go_enter Tryd.func9, Tryd.ntmps9
  go_wp2_with (go_at_call 28; refine HV6.out.mono ?_; rintro e w1 ⟨rfl, hx1⟩; refine Hid.out ?_)
  refine Lib.hid ?_
  have hx0 := ((Ext.refl w).alloc _).trans hx1
  have hbf := Blk.new w1 (ac zadr) 24
  go_upto_region 2 with (refine wpList_store_A rfl _ _ rfl okA_zadr okAA hbf rfl rfl ?_)
  change Code.wp _ _ _ _ ((w1.alloc (.cells (ac zadr) 24)).setRow w1.heap.size (ac adA))
  rw [World.setRow_alloc_new]
  have hba := Blk.new w1 (ac adA) 24
  have hx2 := hx0.alloc (.cells (ac adA) 24)
  clear hbf hx0 hx1
  generalize w1.alloc (.cells (ac adA) 24) = w2 at *
  generalize w1.heap.size = ba at *
  go_wp2_with (go_at_call 19; refine (HP1.out _ (henv.ext hx2)).mono ?_; rintro e w3 ⟨rfl, hx3⟩; refine Hid.out ?_)
  refine Lib.hid ?_
  have hba3 := hba.ext hx3
  have hx33 := hx2.trans hx3
  have hbf := Blk.new w3 (ac zadr) 24
  clear hba hx2 hx3
  go_upto_region 3 with (refine wpList_store_A rfl _ _ rfl okA_zadr okAB hbf rfl rfl ?_)
  change Code.wp _ _ _ _ ((w3.alloc (.cells (ac zadr) 24)).setRow w3.heap.size (ac adB))
  rw [World.setRow_alloc_new]
  have hbb := Blk.new w3 (ac adB) 24
  have hba4 := hba3.ext ((Ext.refl w3).alloc (.cells (ac adB) 24))
  have hx4 := hx33.alloc (.cells (ac adB) 24)
  clear hbf hba3 hx33
  generalize w3.alloc (.cells (ac adB) 24) = w4 at *
  generalize w3.heap.size = bb at *
  go_wp2_with (go_at_call 19; refine (HP2.out _ (henv.ext hx4)).mono ?_; rintro e w5 ⟨rfl, hx5⟩; refine Hid.out ?_)
  refine Lib.hid ?_
  have hba5 := hba4.ext hx5
  have hbb5 := hbb.ext hx5
  have hx55 := hx4.trans hx5
  have hbf := Blk.new w5 (ac zadr) 24
  clear hba4 hbb hx4 hx5
  go_upto_region 4 with (refine wpList_store_A rfl _ _ rfl okA_zadr okA_zadr hbf rfl rfl ?_)
  change Code.wp _ _ _ _ ((w5.alloc (.cells (ac zadr) 24)).setRow w5.heap.size (ac zadr))
  rw [World.setRow_alloc_new]
  have hba6 := hba5.ext ((Ext.refl w5).alloc (.cells (ac zadr) 24))
  have hbb6 := hbb5.ext ((Ext.refl w5).alloc (.cells (ac zadr) 24))
  have hx6 := hx55.alloc (.cells (ac zadr) 24)
  clear hbf hba5 hbb5 hx55
  generalize w5.alloc (.cells (ac zadr) 24) = w6 at *
  generalize w5.heap.size = bc at *
  have ht6 := htabs.ext hx6
  have CF1 := Lib.hid (aw_CF1 w6 ht6)
  have CF2 := Lib.hid (aw_CF2 w6 ht6)
  have CU := Lib.hid aw_CU
  have C41 := Lib.hid aw_C41
  have C42 := Lib.hid aw_C42
  have CV := Lib.hid aw_CV
  have CC := Lib.hid aw_CC
  have CL := Lib.hid aw_CL
  have CB := Lib.hid aw_CB
  have heq := eq_awake
  have HBA := Lib.hid hba6; have HBB := Lib.hid hbb6
  clear ht6 hba6 hbb6 htabs henv HV6 HP1 HP2
  go_wp2_with fail
  refine wp_region_swap 29 (by kernel_rfl) (by kernel_rfl) (by kernel_rfl) (by kernel_rfl) ?_ ?_
  all_goals (
    have hE : Hid (Ext w6 w6.drew) := Lib.hid (Ext.refl w6).drew
    generalize w6.drew = wd at *)
  · go_wp2_with (first
    | refine wpList_load_Ag (by first | rfl | simp [Region.wanted, yielded]) _ rfl okAA (HBA.out.ext ‹Hid (Ext w6 _)›.out) rfl ?_
    | refine wpList_load_Ag (by first | rfl | simp [Region.wanted, yielded]) _ rfl okAB (HBB.out.ext ‹Hid (Ext w6 _)›.out) rfl ?_
    | (go_at_call 10; with_reducible refine (CF1.out _ ‹Hid (Ext w6 _)›.out).mono ?_; rintro e w' ⟨rfl, hx'⟩; have hE := Ext.trans ‹Hid (Ext w6 _)›.out hx'; have hE2 := Lib.hid hE; clear hE hx')
    | (go_at_call 10; with_reducible refine (CF2.out _ ‹Hid (Ext w6 _)›.out).mono ?_; rintro e w' ⟨rfl, hx'⟩; have hE := Ext.trans ‹Hid (Ext w6 _)›.out hx'; have hE2 := Lib.hid hE; clear hE hx')
    | (go_at_call 14; with_reducible refine (CU.out _).mono ?_; rintro e w' ⟨rfl, hx'⟩; have hE := Ext.trans ‹Hid (Ext w6 _)›.out hx'; have hE2 := Lib.hid hE; clear hE hx')
    | (go_at_call 30; with_reducible refine (C41.out _).mono ?_; rintro e w' ⟨rfl, hx'⟩; have hE := Ext.trans ‹Hid (Ext w6 _)›.out hx'; have hE2 := Lib.hid hE; clear hE hx')
    | (go_at_call 30; with_reducible refine (C42.out _).mono ?_; rintro e w' ⟨rfl, hx'⟩; have hE := Ext.trans ‹Hid (Ext w6 _)›.out hx'; have hE2 := Lib.hid hE; clear hE hx')
    | (go_at_call 12; with_reducible refine (CV.out _).mono ?_; rintro e w' ⟨rfl, hx'⟩; have hE := Ext.trans ‹Hid (Ext w6 _)›.out hx'; have hE2 := Lib.hid hE; clear hE hx')
    | (go_at_call 24; with_reducible refine (CC.out _).mono ?_; rintro e w' ⟨rfl, hx'⟩; have hE := Ext.trans ‹Hid (Ext w6 _)›.out hx'; have hE2 := Lib.hid hE; clear hE hx')
    | (go_at_call 16; with_reducible refine (CL.out _).mono ?_; rintro e w' ⟨rfl, hx'⟩; have hE := Ext.trans ‹Hid (Ext w6 _)›.out hx'; have hE2 := Lib.hid hE; clear hE hx')
    | (go_at_call 26; with_reducible refine (CB.out _).mono ?_; rintro e w' ⟨rfl, hx'⟩; have hE := Ext.trans ‹Hid (Ext w6 _)›.out hx'; have hE2 := Lib.hid hE; clear hE hx'))
    go_ret
    exact ⟨rfl, hx6.trans ‹Hid (Ext w6 _)›.out⟩
  · simp only [List.take_succ_cons, List.take_zero, List.drop_succ_cons, List.drop_zero, List.cons_append, List.nil_append]
    go_wp2_with (first
    | refine wpList_load_Ag (by first | rfl | simp [Region.wanted, yielded]) _ rfl okAA (HBA.out.ext ‹Hid (Ext w6 _)›.out) rfl ?_
    | refine wpList_load_Ag (by first | rfl | simp [Region.wanted, yielded]) _ rfl okAB (HBB.out.ext ‹Hid (Ext w6 _)›.out) rfl ?_
    | (go_at_call 10; with_reducible refine (CF1.out _ ‹Hid (Ext w6 _)›.out).mono ?_; rintro e w' ⟨rfl, hx'⟩; have hE := Ext.trans ‹Hid (Ext w6 _)›.out hx'; have hE2 := Lib.hid hE; clear hE hx')
    | (go_at_call 10; with_reducible refine (CF2.out _ ‹Hid (Ext w6 _)›.out).mono ?_; rintro e w' ⟨rfl, hx'⟩; have hE := Ext.trans ‹Hid (Ext w6 _)›.out hx'; have hE2 := Lib.hid hE; clear hE hx')
    | (go_at_call 14; with_reducible refine (CU.out _).mono ?_; rintro e w' ⟨rfl, hx'⟩; have hE := Ext.trans ‹Hid (Ext w6 _)›.out hx'; have hE2 := Lib.hid hE; clear hE hx')
    | (go_at_call 30; with_reducible refine (C41.out _).mono ?_; rintro e w' ⟨rfl, hx'⟩; have hE := Ext.trans ‹Hid (Ext w6 _)›.out hx'; have hE2 := Lib.hid hE; clear hE hx')
    | (go_at_call 30; with_reducible refine (C42.out _).mono ?_; rintro e w' ⟨rfl, hx'⟩; have hE := Ext.trans ‹Hid (Ext w6 _)›.out hx'; have hE2 := Lib.hid hE; clear hE hx')
    | (go_at_call 12; with_reducible refine (CV.out _).mono ?_; rintro e w' ⟨rfl, hx'⟩; have hE := Ext.trans ‹Hid (Ext w6 _)›.out hx'; have hE2 := Lib.hid hE; clear hE hx')
    | (go_at_call 24; with_reducible refine (CC.out _).mono ?_; rintro e w' ⟨rfl, hx'⟩; have hE := Ext.trans ‹Hid (Ext w6 _)›.out hx'; have hE2 := Lib.hid hE; clear hE hx')
    | (go_at_call 16; with_reducible refine (CL.out _).mono ?_; rintro e w' ⟨rfl, hx'⟩; have hE := Ext.trans ‹Hid (Ext w6 _)›.out hx'; have hE2 := Lib.hid hE; clear hE hx')
    | (go_at_call 26; with_reducible refine (CB.out _).mono ?_; rintro e w' ⟨rfl, hx'⟩; have hE := Ext.trans ‹Hid (Ext w6 _)›.out hx'; have hE2 := Lib.hid hE; clear hE hx'))
    go_ret
    exact ⟨rfl, hx6.trans ‹Hid (Ext w6 _)›.out⟩
end Go.Proofs.YtbbdcodhgbgekaaDoor
