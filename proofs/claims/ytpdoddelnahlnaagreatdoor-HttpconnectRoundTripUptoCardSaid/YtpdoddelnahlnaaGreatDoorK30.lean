/-
  Several texts joined: HoV.
-/
import Derived.Lib.ItoaLen
import Derived.Test.YtpdoddelnahlnaaGreatDoorK29
import Derived.Test.YtpdoddelnahlnaaGreatDoorK22
/-
  Contracts of Valid and Format of targets, of the program and of the reference.
-/
set_option linter.unusedSimpArgs false
set_option linter.unusedVariables false
namespace Go.Proofs.YtpdoddelnahlnaaGreatDoor
open Go.RowKit
def validT (t : Tgt) : Bool := if 1 ≤ t.2.2 ∧ t.2.2 ≤ 65535 then (if t.1.size = 0 then validA t.2.1 else okName t.1 && decide (t.2.1 = zadr)) else false
def fmtT (t : Tgt) : ByteArray := if validT t = true then (if t.1.size = 0 then (if t.2.1.1 = true then ⟨#[91]⟩ ++ txt (fmtA t.2.1) ++ ⟨#[93]⟩ else txt (fmtA t.2.1)) else t.1) ++ (⟨#[58]⟩ ++ txt (Lib.decDigits t.2.2.toNat)) else ⟨#[]⟩
theorem ext_grow8 (w : World) (k : Nat) (os : Array Obj) : Ext w (Sort.grow (w.drewN k) os) :=
  ⟨rfl, rfl, rfl, by simp [Sort.grow, World.drewN], fun i hi => by
    show (w.heap ++ os)[i]? = w.heap[i]?
    rw [Array.getElem?_append_left hi]⟩
theorem numfmt_all (n : Int) (h : i64ok n) (w : World) (ht : Tabs w) : Calls Tryz.prog 40 #[.int .i64 n] w fun e w' => e = .returned (.string (txt (Lib.itoa n))) ∧ Ext w w' := by
  have K := Lib.hid (Tryz.strconv_Itoa n h.1 h.2 w ht.p10)
  go_enter Tryz.func40, Tryz.ntmps40
  go_wp2_with (go_at_call 68; refine K.out.mono ?_; rintro e w1 ⟨rfl, k, os, rfl⟩)
  go_ret
  exact ⟨rfl, ext_grow8 w k os⟩
set_option maxRecDepth 8000 in
set_option maxHeartbeats 4000000 in
theorem vtarget_any (t : Tgt) (ht : okT t) (w : World) (henv : Env w) : Calls Tryz.prog 15 #[tv t] w fun e w' => e = .returned (.bool (validT t)) ∧ Ext w w' := by
  unfold tv
  go_enter Tryz.func15, Tryz.ntmps15
  go_upto_region 1 with fail
  have hx := (Ext.refl w).alloc (.cells (tc t) 32)
  have hb := Blk.new w (tc t) 32
  generalize w.alloc (.cells (tc t) 32) = w0 at *
  generalize w.heap.size = b at *
  have c18 := TBlk.port ht hb
  have c0 := TBlk.name hb
  by_cases p1 : t.2.2 < 1
  · have R : Hid (validT t = false) := Lib.hid (by unfold validT; rw [if_neg (by omega)])
    generalize t.2.2 = p at *
    go_wp2_with fail
    go_ret; exact ⟨by rw [R.out]; rfl, hx⟩
  by_cases p2 : 65535 < t.2.2
  · have R : Hid (validT t = false) := Lib.hid (by unfold validT; rw [if_neg (by omega)])
    have p3 : (65536 : Int) ≤ t.2.2 := by omega
    generalize t.2.2 = p at *
    go_wp2_with fail
    go_ret; exact ⟨by rw [R.out]; rfl, hx⟩
  have R0 : Hid (validT t = if t.1.size = 0 then validA t.2.1 else okName t.1 && decide (t.2.1 = zadr)) := Lib.hid (by unfold validT; rw [if_pos (by omega)])
  have p3 : ¬ (65536 : Int) ≤ t.2.2 := by omega
  generalize t.2.2 = p at *
  by_cases hn : (t.1.size : Int) < 1
  · have R : Hid (validT t = validA t.2.1) := Lib.hid (by rw [R0.out, if_pos (by omega)])
    have K1 := Lib.hid (fun w => valid_any t.2.1 ht.1 w)
    clear R0
    generalize t.1 = nm at *
    go_wp2_with (first | refine wpList_load_TA rfl _ rfl ht hb rfl ?_ | (go_at_call 36; refine (K1.out _).mono ?_; rintro e w1 ⟨rfl, hx1⟩))
    go_ret; exact ⟨by rw [R.out]; rfl, hx.trans hx1⟩
  have R : Hid (validT t = (okName t.1 && decide (t.2.1 = zadr))) := Lib.hid (by rw [R0.out, if_neg (by omega)])
  have K1 := (Lib.hid (fun w' (h : Ext w0 w') => vname_any t.1 w' (henv.ext (hx.trans h)) ht.2.2))
  clear R0
  have F := fun (w' : World) (h : Ext w0 w') => TBlk.name (hb.ext h)
  have gT : ∀ w', Ext w0 w' → TBlk w' b t := fun w' h => hb.ext h
  generalize hnm : t.1 = nm at *
  go_upto_region 5 with fail
  refine wp_region_rgs ?_
  cases hok : okName nm
  · rw [hok] at K1 R
    clear hok
    have KC := fun (w' : World) (h : Ext w0 w') => K1.out w' h
    first
      | (apply goV_skip (by intro u; rfl))
      | (apply goV_val _ (by intro u; rfl); · (intro u w hSw hF; go_simp; try with_reducible rfl))
    try simp only [Act.put, List.setIfInBounds_toArray, List.set_cons_zero, List.set_cons_succ]
    first
      | (apply goV_skip (by intro u; rfl))
      | (apply goV_val (.string nm) (by intro u; rfl); · (intro u w hSw hF; have c0 := F w hSw; go_simp))
    try simp only [Act.put, List.setIfInBounds_toArray, List.set_cons_zero, List.set_cons_succ]
    first
      | (apply goV_skip (by intro u; rfl))
      | (apply goV_call (by intro u; rfl) KC; · (intro u w hSw hF; go_simp; try with_reducible rfl))
    try simp only [Act.put, List.setIfInBounds_toArray, List.set_cons_zero, List.set_cons_succ]
    first
      | (apply goV_skip (by intro u; rfl))
      | (apply goV_val _ (by intro u; rfl); · (intro u w hSw hF; go_simp; try with_reducible rfl))
    try simp only [Act.put, List.setIfInBounds_toArray, List.set_cons_zero, List.set_cons_succ]
    first
      | (apply goV_skip (by intro u; rfl))
      | (apply goV_val _ (by intro u; rfl); · (intro u w hSw hF; go_simp; try with_reducible rfl))
    try simp only [Act.put, List.setIfInBounds_toArray, List.set_cons_zero, List.set_cons_succ]
    first
      | (apply goV_skip (by intro u; rfl))
      | (apply goV_val _ (by intro u; rfl); · (intro u w hSw hF; go_simp; try with_reducible rfl))
    try simp only [Act.put, List.setIfInBounds_toArray, List.set_cons_zero, List.set_cons_succ]
    first
      | (apply goV_skip (by intro u; rfl))
      | (apply goV_val _ (by intro u; rfl); · (intro u w hSw hF; go_simp; try with_reducible rfl))
    try simp only [Act.put, List.setIfInBounds_toArray, List.set_cons_zero, List.set_cons_succ]
    first
      | (apply goV_skip (by intro u; rfl))
      | (apply goV_val _ (by intro u; rfl); · (intro u w hSw hF; go_simp; try with_reducible rfl))
    try simp only [Act.put, List.setIfInBounds_toArray, List.set_cons_zero, List.set_cons_succ]
    first
      | (apply goV_skip (by intro u; rfl))
      | (apply goV_val _ (by intro u; rfl); · (intro u w hSw hF; go_simp; try with_reducible rfl))
    try simp only [Act.put, List.setIfInBounds_toArray, List.set_cons_zero, List.set_cons_succ]
    first
      | (apply goV_skip (by intro u; rfl))
      | (apply goV_val _ (by intro u; rfl); · (intro u w hSw hF; go_simp; try with_reducible rfl))
    try simp only [Act.put, List.setIfInBounds_toArray, List.set_cons_zero, List.set_cons_succ]
    intro u w2 hx2 _
    go_wp2
    go_ret; exact ⟨by rw [R.out]; rfl, hx.trans hx2⟩
  · rw [hok] at K1 R
    clear hok
    have KC := fun (w' : World) (h : Ext w0 w') => K1.out w' h
    have hdd : decide (t.2.1 = zadr) = decide (t.2.1 = zadr) := rfl
    generalize hr : decide (t.2.1 = zadr) = r at *
    first
      | (apply goV_skip (by intro u; rfl))
      | (apply goV_val _ (by intro u; rfl); · (intro u w hSw hF; go_simp; try with_reducible rfl))
    try simp only [Act.put, List.setIfInBounds_toArray, List.set_cons_zero, List.set_cons_succ]
    first
      | (apply goV_skip (by intro u; rfl))
      | (apply goV_val (.string nm) (by intro u; rfl); · (intro u w hSw hF; have c0 := F w hSw; go_simp))
    try simp only [Act.put, List.setIfInBounds_toArray, List.set_cons_zero, List.set_cons_succ]
    first
      | (apply goV_skip (by intro u; rfl))
      | (apply goV_call (by intro u; rfl) KC; · (intro u w hSw hF; go_simp; try with_reducible rfl))
    try simp only [Act.put, List.setIfInBounds_toArray, List.set_cons_zero, List.set_cons_succ]
    first
      | (apply goV_skip (by intro u; rfl))
      | (apply goV_val _ (by intro u; rfl); · (intro u w hSw hF; go_simp; try with_reducible rfl))
    try simp only [Act.put, List.setIfInBounds_toArray, List.set_cons_zero, List.set_cons_succ]
    first
      | (apply goV_skip (by intro u; rfl))
      | (apply goV_val _ (by intro u; rfl); · (intro u w hSw hF; go_simp; try with_reducible rfl))
    try simp only [Act.put, List.setIfInBounds_toArray, List.set_cons_zero, List.set_cons_succ]
    first
      | (apply goV_skip (by intro u; rfl))
      | (apply goV_loadTA (by intro u; rfl) _ rfl ht gT (by intro u; rfl))
    try simp only [Act.put, List.setIfInBounds_toArray, List.set_cons_zero, List.set_cons_succ]
    first
      | (apply goV_skip (by intro u; rfl))
      | (apply goV_val _ (by intro u; rfl); · (intro u w hSw hF; go_simp; try with_reducible rfl))
    try simp only [Act.put, List.setIfInBounds_toArray, List.set_cons_zero, List.set_cons_succ]
    first
      | (apply goV_skip (by intro u; rfl))
      | (apply goV_eqAd (by intro u; rfl) _ _ rfl ht.1 okA_zadr hr (by intro u; rfl) (by intro u; rfl))
    try simp only [Act.put, List.setIfInBounds_toArray, List.set_cons_zero, List.set_cons_succ]
    first
      | (apply goV_skip (by intro u; rfl))
      | (apply goV_val _ (by intro u; rfl); · (intro u w hSw hF; go_simp; try with_reducible rfl))
    try simp only [Act.put, List.setIfInBounds_toArray, List.set_cons_zero, List.set_cons_succ]
    first
      | (apply goV_skip (by intro u; rfl))
      | (apply goV_val _ (by intro u; rfl); · (intro u w hSw hF; go_simp; try with_reducible rfl))
    try simp only [Act.put, List.setIfInBounds_toArray, List.set_cons_zero, List.set_cons_succ]
    intro u w2 hx2 _
    go_wp2
    go_ret; exact ⟨by rw [R.out]; rfl, hx.trans hx2⟩
set_option maxRecDepth 8000 in
set_option maxHeartbeats 4000000 in
theorem rvtarget_any (t : Tgt) (ht : okT t) (w : World) : Calls Tryz.prog 16 #[tv t] w fun e w' => e = .returned (.bool (validT t)) ∧ Ext w w' := by
  unfold tv
  go_enter Tryz.func16, Tryz.ntmps16
  go_upto_region 1 with fail
  have hx := (Ext.refl w).alloc (.cells (tc t) 32)
  have hb := Blk.new w (tc t) 32
  generalize w.alloc (.cells (tc t) 32) = w0 at *
  generalize w.heap.size = b at *
  have c18 := TBlk.port ht hb
  have c0 := TBlk.name hb
  by_cases p1 : t.2.2 < 1
  · have R : Hid (validT t = false) := Lib.hid (by unfold validT; rw [if_neg (by omega)])
    generalize t.2.2 = p at *
    go_wp2_with fail
    go_ret; exact ⟨by rw [R.out]; rfl, hx⟩
  by_cases p2 : 65535 < t.2.2
  · have R : Hid (validT t = false) := Lib.hid (by unfold validT; rw [if_neg (by omega)])
    have p3 : (65536 : Int) ≤ t.2.2 := by omega
    generalize t.2.2 = p at *
    go_wp2_with fail
    go_ret; exact ⟨by rw [R.out]; rfl, hx⟩
  have R0 : Hid (validT t = if t.1.size = 0 then validA t.2.1 else okName t.1 && decide (t.2.1 = zadr)) := Lib.hid (by unfold validT; rw [if_pos (by omega)])
  have p3 : ¬ (65536 : Int) ≤ t.2.2 := by omega
  generalize t.2.2 = p at *
  by_cases hn : (t.1.size : Int) < 1
  · have R : Hid (validT t = validA t.2.1) := Lib.hid (by rw [R0.out, if_pos (by omega)])
    have K1 := Lib.hid (fun w => rValid_any t.2.1 ht.1 w)
    clear R0
    generalize t.1 = nm at *
    go_wp2_with (first | refine wpList_load_TA rfl _ rfl ht hb rfl ?_ | (go_at_call 38; refine (K1.out _).mono ?_; rintro e w1 ⟨rfl, hx1⟩))
    go_ret; exact ⟨by rw [R.out]; rfl, hx.trans hx1⟩
  have R : Hid (validT t = (okName t.1 && decide (t.2.1 = zadr))) := Lib.hid (by rw [R0.out, if_neg (by omega)])
  have K1 := (Lib.hid (fun w' (h : Ext w0 w') => rname_any t.1 w' ht.2.2))
  clear R0
  have F := fun (w' : World) (h : Ext w0 w') => TBlk.name (hb.ext h)
  have gT : ∀ w', Ext w0 w' → TBlk w' b t := fun w' h => hb.ext h
  generalize hnm : t.1 = nm at *
  go_upto_region 5 with fail
  refine wp_region_rgs ?_
  cases hok : okName nm
  · rw [hok] at K1 R
    clear hok
    have KC := fun (w' : World) (h : Ext w0 w') => K1.out w' h
    first
      | (apply goV_skip (by intro u; rfl))
      | (apply goV_val _ (by intro u; rfl); · (intro u w hSw hF; go_simp; try with_reducible rfl))
    try simp only [Act.put, List.setIfInBounds_toArray, List.set_cons_zero, List.set_cons_succ]
    first
      | (apply goV_skip (by intro u; rfl))
      | (apply goV_val (.string nm) (by intro u; rfl); · (intro u w hSw hF; have c0 := F w hSw; go_simp))
    try simp only [Act.put, List.setIfInBounds_toArray, List.set_cons_zero, List.set_cons_succ]
    first
      | (apply goV_skip (by intro u; rfl))
      | (apply goV_call (by intro u; rfl) KC; · (intro u w hSw hF; go_simp; try with_reducible rfl))
    try simp only [Act.put, List.setIfInBounds_toArray, List.set_cons_zero, List.set_cons_succ]
    first
      | (apply goV_skip (by intro u; rfl))
      | (apply goV_val _ (by intro u; rfl); · (intro u w hSw hF; go_simp; try with_reducible rfl))
    try simp only [Act.put, List.setIfInBounds_toArray, List.set_cons_zero, List.set_cons_succ]
    first
      | (apply goV_skip (by intro u; rfl))
      | (apply goV_val _ (by intro u; rfl); · (intro u w hSw hF; go_simp; try with_reducible rfl))
    try simp only [Act.put, List.setIfInBounds_toArray, List.set_cons_zero, List.set_cons_succ]
    first
      | (apply goV_skip (by intro u; rfl))
      | (apply goV_val _ (by intro u; rfl); · (intro u w hSw hF; go_simp; try with_reducible rfl))
    try simp only [Act.put, List.setIfInBounds_toArray, List.set_cons_zero, List.set_cons_succ]
    first
      | (apply goV_skip (by intro u; rfl))
      | (apply goV_val _ (by intro u; rfl); · (intro u w hSw hF; go_simp; try with_reducible rfl))
    try simp only [Act.put, List.setIfInBounds_toArray, List.set_cons_zero, List.set_cons_succ]
    first
      | (apply goV_skip (by intro u; rfl))
      | (apply goV_val _ (by intro u; rfl); · (intro u w hSw hF; go_simp; try with_reducible rfl))
    try simp only [Act.put, List.setIfInBounds_toArray, List.set_cons_zero, List.set_cons_succ]
    first
      | (apply goV_skip (by intro u; rfl))
      | (apply goV_val _ (by intro u; rfl); · (intro u w hSw hF; go_simp; try with_reducible rfl))
    try simp only [Act.put, List.setIfInBounds_toArray, List.set_cons_zero, List.set_cons_succ]
    first
      | (apply goV_skip (by intro u; rfl))
      | (apply goV_val _ (by intro u; rfl); · (intro u w hSw hF; go_simp; try with_reducible rfl))
    try simp only [Act.put, List.setIfInBounds_toArray, List.set_cons_zero, List.set_cons_succ]
    intro u w2 hx2 _
    go_wp2
    go_ret; exact ⟨by rw [R.out]; rfl, hx.trans hx2⟩
  · rw [hok] at K1 R
    clear hok
    have KC := fun (w' : World) (h : Ext w0 w') => K1.out w' h
    have hdd : decide (t.2.1 = zadr) = decide (t.2.1 = zadr) := rfl
    generalize hr : decide (t.2.1 = zadr) = r at *
    first
      | (apply goV_skip (by intro u; rfl))
      | (apply goV_val _ (by intro u; rfl); · (intro u w hSw hF; go_simp; try with_reducible rfl))
    try simp only [Act.put, List.setIfInBounds_toArray, List.set_cons_zero, List.set_cons_succ]
    first
      | (apply goV_skip (by intro u; rfl))
      | (apply goV_val (.string nm) (by intro u; rfl); · (intro u w hSw hF; have c0 := F w hSw; go_simp))
    try simp only [Act.put, List.setIfInBounds_toArray, List.set_cons_zero, List.set_cons_succ]
    first
      | (apply goV_skip (by intro u; rfl))
      | (apply goV_call (by intro u; rfl) KC; · (intro u w hSw hF; go_simp; try with_reducible rfl))
    try simp only [Act.put, List.setIfInBounds_toArray, List.set_cons_zero, List.set_cons_succ]
    first
      | (apply goV_skip (by intro u; rfl))
      | (apply goV_val _ (by intro u; rfl); · (intro u w hSw hF; go_simp; try with_reducible rfl))
    try simp only [Act.put, List.setIfInBounds_toArray, List.set_cons_zero, List.set_cons_succ]
    first
      | (apply goV_skip (by intro u; rfl))
      | (apply goV_val _ (by intro u; rfl); · (intro u w hSw hF; go_simp; try with_reducible rfl))
    try simp only [Act.put, List.setIfInBounds_toArray, List.set_cons_zero, List.set_cons_succ]
    first
      | (apply goV_skip (by intro u; rfl))
      | (apply goV_loadTA (by intro u; rfl) _ rfl ht gT (by intro u; rfl))
    try simp only [Act.put, List.setIfInBounds_toArray, List.set_cons_zero, List.set_cons_succ]
    first
      | (apply goV_skip (by intro u; rfl))
      | (apply goV_val _ (by intro u; rfl); · (intro u w hSw hF; go_simp; try with_reducible rfl))
    try simp only [Act.put, List.setIfInBounds_toArray, List.set_cons_zero, List.set_cons_succ]
    first
      | (apply goV_skip (by intro u; rfl))
      | (apply goV_eqAd (by intro u; rfl) _ _ rfl ht.1 okA_zadr hr (by intro u; rfl) (by intro u; rfl))
    try simp only [Act.put, List.setIfInBounds_toArray, List.set_cons_zero, List.set_cons_succ]
    first
      | (apply goV_skip (by intro u; rfl))
      | (apply goV_val _ (by intro u; rfl); · (intro u w hSw hF; go_simp; try with_reducible rfl))
    try simp only [Act.put, List.setIfInBounds_toArray, List.set_cons_zero, List.set_cons_succ]
    first
      | (apply goV_skip (by intro u; rfl))
      | (apply goV_val _ (by intro u; rfl); · (intro u w hSw hF; go_simp; try with_reducible rfl))
    try simp only [Act.put, List.setIfInBounds_toArray, List.set_cons_zero, List.set_cons_succ]
    intro u w2 hx2 _
    go_wp2
    go_ret; exact ⟨by rw [R.out]; rfl, hx.trans hx2⟩
theorem validT_port {t : Tgt} (h : validT t = true) : 1 ≤ t.2.2 ∧ t.2.2 ≤ 65535 := by
  unfold validT at h
  split at h
  · assumption
  · cases h
theorem validT_name {t : Tgt} (h : validT t = true) : t.1.size ≤ 253 := by
  have hp := validT_port h
  unfold validT at h
  rw [if_pos hp] at h
  split at h
  · omega
  · rw [Bool.and_eq_true] at h; exact okName_size h.1
theorem itoa_dd {n : Int} (h : 0 ≤ n) : Lib.itoa n = Lib.decDigits n.toNat := by unfold Lib.itoa; rw [if_neg (by omega)]
set_option maxRecDepth 8000 in
set_option maxHeartbeats 4000000 in
theorem hformat_any (t : Tgt) (ht : okT t) (w : World) (henv : Env w) (htabs : Tabs w) : Calls Tryz.prog 17 #[tv t] w fun e w' => e = .returned (.string (fmtT t)) ∧ Ext w w' := by
  have KV := Lib.hid (fun w h => vtarget_any t ht w h)
  have R0 : Hid (fmtT t = if validT t = true then (if t.1.size = 0 then (if t.2.1.1 = true then ⟨#[91]⟩ ++ txt (fmtA t.2.1) ++ ⟨#[93]⟩ else txt (fmtA t.2.1)) else t.1) ++ (⟨#[58]⟩ ++ txt (Lib.decDigits t.2.2.toNat)) else ⟨#[]⟩) := Lib.hid rfl
  have hvp := @validT_port t
  have hvn := @validT_name t
  unfold tv
  go_enter Tryz.func17, Tryz.ntmps17
  go_upto_region 1 with fail
  have hx := (Ext.refl w).alloc (.cells (tc t) 32)
  have hb := Blk.new w (tc t) 32
  generalize w.alloc (.cells (tc t) 32) = w0 at *
  generalize w.heap.size = b at *
  have c18 := TBlk.port ht hb
  have K0 := Lib.hid (numfmt_all t.2.2 ht.2.1 w0 (htabs.ext hx))
  have l0 : (txt (Lib.itoa t.2.2)).size ≤ 21 := by rw [txt_size]; exact Lib.itoa_length_le _ ht.2.1.1 ht.2.1.2
  have HD : Hid (1 ≤ t.2.2 → txt (Lib.itoa t.2.2) = txt (Lib.decDigits t.2.2.toNat)) := Lib.hid (fun h => by rw [itoa_dd (by omega)])
  have y0 : ¬ 9223372036854775807 < 1 + (txt (Lib.itoa t.2.2)).size := by omega
  generalize txt (Lib.itoa t.2.2) = ds at *
  generalize hpg : t.2.2 = p at *
  go_upto_region 2 with (first | (go_at_call 40; refine K0.out.mono ?_; rintro e w1 ⟨rfl, hx1⟩; refine Hid.out ?_))
  refine Lib.hid ?_
  have hxx1 := hx.trans hx1
  have hb1 := hb.ext hx1
  clear hx hx1 c18 K0
  have hv := KV.out w1 (henv.ext hxx1)
  clear KV
  cases hva : validT t
  · rw [hva] at hv R0
    have R : Hid (fmtT t = ⟨#[]⟩) := Lib.hid (by rw [R0.out]; rfl)
    clear hva hvp hvn R0 hb
    go_wp2_with (first | refine wpList_load_T rfl _ rfl ht hb1 rfl ?_ | (go_at_call 15; refine hv.mono ?_; rintro e w2 ⟨rfl, hx2⟩))
    go_ret; exact ⟨by rw [R.out]; rfl, hxx1.trans hx2⟩
  have hp := hvp hva
  have hn := hvn hva
  rw [hva] at hv R0
  have R1 : Hid (fmtT t = (if t.1.size = 0 then (if t.2.1.1 = true then ⟨#[91]⟩ ++ txt (fmtA t.2.1) ++ ⟨#[93]⟩ else txt (fmtA t.2.1)) else t.1) ++ (⟨#[58]⟩ ++ ds)) := Lib.hid (by rw [R0.out, if_pos rfl, HD.out hp.1])
  clear hva hvp hvn R0 HD hb
  go_upto_region 4 with (first | refine wpList_load_T rfl _ rfl ht hb1 rfl ?_ | (go_at_call 15; refine hv.mono ?_; rintro e w2 ⟨rfl, hx2⟩; refine Hid.out ?_))
  refine Lib.hid ?_
  have hxx2 := hxx1.trans hx2
  have hb2 := hb1.ext hx2
  have c0 := TBlk.name hb2
  have c1 := TBlk.fam hb2
  have KF := Lib.hid (formatA_any t.2.1 ht.1 w2 (htabs.ext hxx2))
  have l1 : (txt (fmtA t.2.1)).size ≤ 45 := by rw [txt_size]; exact fmtA_len ht.1
  generalize htx : txt (fmtA t.2.1) = fs at *
  clear hxx1 hb1 hx2 hv
  by_cases hne : (t.1.size : Int) < 1
  · have R2 : Hid (fmtT t = (if t.2.1.1 = true then ⟨#[91]⟩ ++ fs ++ ⟨#[93]⟩ else fs) ++ (⟨#[58]⟩ ++ ds)) := Lib.hid (by rw [R1.out, if_pos (by omega)])
    clear R1 htx
    generalize t.1 = nm at *
    have y1 : ¬ 9223372036854775807 < 1 + fs.size := by omega
    have y2 : ¬ 9223372036854775807 < 1 + fs.size + 1 := by omega
    have y3 : ¬ 9223372036854775807 < 1 + fs.size + 1 + (1 + ds.size) := by omega
    have y4 : ¬ 9223372036854775807 < fs.size + (1 + ds.size) := by omega
    cases hf : t.2.1.1
    · have R : Hid (fmtT t = fs ++ (⟨#[58]⟩ ++ ds)) := Lib.hid (by rw [R2.out, hf]; rfl)
      rw [hf] at c1
      clear R2 hf
      go_wp2_with (first | refine wpList_load_TA rfl _ rfl ht hb2 rfl ?_ | (go_at_call 41; refine KF.out.mono ?_; rintro e w3 ⟨rfl, hx3⟩))
      go_ret; exact ⟨by rw [R.out]; rfl, hxx2.trans hx3⟩
    · have R : Hid (fmtT t = ⟨#[91]⟩ ++ fs ++ ⟨#[93]⟩ ++ (⟨#[58]⟩ ++ ds)) := Lib.hid (by rw [R2.out, hf]; rfl)
      rw [hf] at c1
      clear R2 hf
      go_wp2_with (first | refine wpList_load_TA rfl _ rfl ht hb2 rfl ?_ | (go_at_call 41; refine KF.out.mono ?_; rintro e w3 ⟨rfl, hx3⟩))
      go_ret; exact ⟨by rw [R.out]; rfl, hxx2.trans hx3⟩
  · have R : Hid (fmtT t = t.1 ++ (⟨#[58]⟩ ++ ds)) := Lib.hid (by rw [R1.out, if_neg (by omega)])
    clear R1 htx KF
    generalize t.1 = nm at *
    have y4 : ¬ 9223372036854775807 < nm.size + (1 + ds.size) := by omega
    go_wp2_with fail
    go_ret; exact ⟨by rw [R.out]; rfl, hxx2⟩
set_option maxRecDepth 8000 in
set_option maxHeartbeats 4000000 in
theorem rhformat_any (t : Tgt) (ht : okT t) (w : World) : Calls Tryz.prog 18 #[tv t] w fun e w' => e = .returned (.string (fmtT t)) ∧ Ext w w' := by
  have KV := Lib.hid (fun w => rvtarget_any t ht w)
  have R0 : Hid (fmtT t = if validT t = true then (if t.1.size = 0 then (if t.2.1.1 = true then ⟨#[91]⟩ ++ txt (fmtA t.2.1) ++ ⟨#[93]⟩ else txt (fmtA t.2.1)) else t.1) ++ (⟨#[58]⟩ ++ txt (Lib.decDigits t.2.2.toNat)) else ⟨#[]⟩) := Lib.hid rfl
  have hvp := @validT_port t
  have hvn := @validT_name t
  unfold tv
  go_enter Tryz.func18, Tryz.ntmps18
  go_upto_region 1 with fail
  have hx := (Ext.refl w).alloc (.cells (tc t) 32)
  have hb := Blk.new w (tc t) 32
  generalize w.alloc (.cells (tc t) 32) = w0 at *
  generalize w.heap.size = b at *
  have hv := KV.out w0
  clear KV
  cases hva : validT t
  · rw [hva] at hv R0
    have R : Hid (fmtT t = ⟨#[]⟩) := Lib.hid (by rw [R0.out]; rfl)
    clear hva hvp hvn R0
    go_wp2_with (first | refine wpList_load_T rfl _ rfl ht hb rfl ?_ | (go_at_call 16; refine hv.mono ?_; rintro e w2 ⟨rfl, hx2⟩))
    go_ret; exact ⟨by rw [R.out]; rfl, hx.trans hx2⟩
  have hp := hvp hva
  have hn := hvn hva
  rw [hva] at hv R0
  have R1 : Hid (fmtT t = (if t.1.size = 0 then (if t.2.1.1 = true then ⟨#[91]⟩ ++ txt (fmtA t.2.1) ++ ⟨#[93]⟩ else txt (fmtA t.2.1)) else t.1) ++ ⟨#[58]⟩ ++ txt (Lib.decDigits t.2.2.toNat)) := Lib.hid (by rw [R0.out, if_pos rfl]; exact ByteArray.append_assoc.symm)
  clear hva hvp hvn R0
  go_upto_region 3 with (first | refine wpList_load_T rfl _ rfl ht hb rfl ?_ | (go_at_call 16; refine hv.mono ?_; rintro e w2 ⟨rfl, hx2⟩; refine Hid.out ?_))
  refine Lib.hid ?_
  have hxx2 := hx.trans hx2
  have hb2 := hb.ext hx2
  have c0 := TBlk.name hb2
  have c1 := TBlk.fam hb2
  have F18 := fun (w' : World) (h : Ext w2 w') => TBlk.port ht (hb2.ext h)
  have F1 := fun (w' : World) (h : Ext w2 w') => TBlk.fam (hb2.ext h)
  have KF := Lib.hid (rFormat_any t.2.1 ht.1 w2)
  have KD := Lib.hid (fun w => fdec_any t.2.2.toNat (by omega) w)
  rw [show ((t.2.2.toNat : Nat) : Int) = t.2.2 by omega] at KD
  have l1 : (txt (fmtA t.2.1)).size ≤ 45 := by rw [txt_size]; exact fmtA_len ht.1
  have l0 : (txt (Lib.decDigits t.2.2.toNat)).size ≤ 5 := by rw [txt_size]; exact dd_len 4 _ (by omega)
  generalize txt (Lib.decDigits t.2.2.toNat) = ds at *
  generalize htx : txt (fmtA t.2.1) = fs at *
  generalize t.2.2 = p at *
  clear hx hb hx2 hv
  by_cases hne : (t.1.size : Int) < 1
  · have R2 : Hid (fmtT t = (if t.2.1.1 = true then ⟨#[91]⟩ ++ fs ++ ⟨#[93]⟩ else fs) ++ ⟨#[58]⟩ ++ ds) := Lib.hid (by rw [R1.out, if_pos (by omega)])
    clear R1 htx
    generalize t.1 = nm at *
    have y1 : ¬ 9223372036854775807 < 1 + fs.size := by omega
    have y2 : ¬ 9223372036854775807 < 1 + fs.size + 1 := by omega
    have y3 : ¬ 9223372036854775807 < 1 + fs.size + 1 + 1 := by omega
    have y4 : ¬ 9223372036854775807 < 1 + fs.size + 1 + 1 + ds.size := by omega
    have y5 : ¬ 9223372036854775807 < fs.size + 1 := by omega
    have y6 : ¬ 9223372036854775807 < fs.size + 1 + ds.size := by omega
    cases hf : t.2.1.1
    · have R : Hid (fmtT t = fs ++ ⟨#[58]⟩ ++ ds) := Lib.hid (by rw [R2.out, hf]; rfl)
      rw [hf] at c1 F1
      clear R2 hf
      go_wp2_with (first | refine wpList_load_TA rfl _ rfl ht hb2 rfl ?_ | (go_at_call 42; refine KF.out.mono ?_; rintro e w3 ⟨rfl, hx3⟩; have d1 := F1 w3 hx3; have d18 := F18 w3 hx3) | (go_at_call 43; refine (KD.out _).mono ?_; rintro e w4 ⟨rfl, hx4⟩))
      go_ret; exact ⟨by rw [R.out]; rfl, (hxx2.trans hx3).trans hx4⟩
    · have R : Hid (fmtT t = ⟨#[91]⟩ ++ fs ++ ⟨#[93]⟩ ++ ⟨#[58]⟩ ++ ds) := Lib.hid (by rw [R2.out, hf]; rfl)
      rw [hf] at c1 F1
      clear R2 hf
      go_wp2_with (first | refine wpList_load_TA rfl _ rfl ht hb2 rfl ?_ | (go_at_call 42; refine KF.out.mono ?_; rintro e w3 ⟨rfl, hx3⟩; have d1 := F1 w3 hx3; have d18 := F18 w3 hx3) | (go_at_call 43; refine (KD.out _).mono ?_; rintro e w4 ⟨rfl, hx4⟩))
      go_ret; exact ⟨by rw [R.out]; rfl, (hxx2.trans hx3).trans hx4⟩
  · have R : Hid (fmtT t = t.1 ++ ⟨#[58]⟩ ++ ds) := Lib.hid (by rw [R1.out, if_neg (by omega)])
    have d18 := F18 w2 (Ext.refl _)
    clear R1 htx KF F18 F1
    generalize t.1 = nm at *
    have y4 : ¬ 9223372036854775807 < nm.size + 1 := by omega
    have y5 : ¬ 9223372036854775807 < nm.size + 1 + ds.size := by omega
    go_wp2_with (first | (go_at_call 43; refine (KD.out _).mono ?_; rintro e w4 ⟨rfl, hx4⟩))
    go_ret; exact ⟨by rw [R.out]; rfl, hxx2.trans hx4⟩
end Go.Proofs.YtpdoddelnahlnaaGreatDoor
