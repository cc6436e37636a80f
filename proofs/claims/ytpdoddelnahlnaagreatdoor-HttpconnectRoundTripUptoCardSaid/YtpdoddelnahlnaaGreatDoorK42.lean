/-
  Several texts joined: HoG, HoO.
-/
import Derived.Test.YtpdoddelnahlnaaGreatDoorK32
import Derived.Deep.Strs
import Derived.Test.YtpdoddelnahlnaaGreatDoorK26
import Derived.Test.YtpdoddelnahlnaaGreatDoorK18
/-
  Contracts of the generators Mod, Addr, Port, Host, Target.
-/
set_option linter.unusedSimpArgs false
set_option linter.unusedVariables false
namespace Go.Proofs.YtpdoddelnahlnaaGreatDoor
open Go.RowKit
def modI (v n : Int) : Int := wrap64 ((IntKind.u64.wrap v).tmod (IntKind.u64.wrap n))
theorem mod_any (v : Int) (n : Int) (w : World) (hn : IntKind.u64.wrap n ≠ 0) : Calls Tryz.prog 24 #[.int .i64 v, .int .i64 n] w fun e w' => e = .returned (.int .i64 (modI v n)) ∧ Ext w w' := by
  go_enter Tryz.func24, Tryz.ntmps24
  go_wp2
  all_goals go_ret
  all_goals exact ⟨rfl, Ext.refl _⟩
theorem modI_bd (v : Int) {n : Int} (h0 : 0 < n) (h1 : n ≤ 9223372036854775807) : 0 ≤ modI v n ∧ modI v n < n := by
  unfold modI
  have e : IntKind.u64.wrap n = n := by rw [IntKind.wrap_u64]; omega
  rw [e]
  exact cut_bd v n h0 h1
theorem u64_ne {n : Int} (h0 : 0 < n) (h1 : n ≤ 9223372036854775807) : IntKind.u64.wrap n ≠ 0 := by
  rw [IntKind.wrap_u64]; omega
theorem Calls.pick {P : Program} {f : FuncId} {args : Array Value} {w : World} {R : Ending → World → Prop} (h : Calls P f args w R) {R' : Ending → World → Prop} (hr : ∀ e w', R e w' → R' e w') : Calls P f args w R' := h.mono hr
set_option maxRecDepth 8000 in
set_option maxHeartbeats 8000000 in
theorem gaddr_any (n : Int) (w : World) : Calls Tryz.prog 44 #[.int .i64 n] w fun e w' => ∃ a, okA a ∧ validA a = true ∧ e = .returned (av a) ∧ Ext w w' := by
  have M1 := Lib.hid (fun w => mod_any n 14 w (by decide))
  go_enter Tryz.func44, Tryz.ntmps44
  go_upto_region 1 with fail
  rw [← ac_zadr]
  have hx := (Ext.refl w).alloc (.cells (ac zadr) 30)
  have hr := Blk.new w (ac zadr) 30
  generalize w.alloc (.cells (ac zadr) 30) = w2 at *
  go_wp2_with (go_at_call 24; refine (M1.out _).mono ?_; rintro e w1 ⟨rfl, hx1'⟩; refine Hid.out ?_)
  refine Lib.hid ?_
  have hr1 := hr.ext hx1'
  have hx1 := hx.trans hx1'
  clear hr hx hx1' M1
  generalize modI n 14 = M at *
  have hkb : 0 ≤ n / 16 % 256 ∧ n / 16 % 256 < 256 := by omega
  have c8 : (0 : Int) ≤ 8 ∧ (8 : Int) < 256 := by omega
  have c4 : (0 : Int) ≤ 4 ∧ (4 : Int) < 256 := by omega
  have c9 : (0 : Int) ≤ 9 ∧ (9 : Int) < 256 := by omega
  have c1 : (0 : Int) ≤ 1 ∧ (1 : Int) < 256 := by omega
  have c2 : (0 : Int) ≤ 2 ∧ (2 : Int) < 256 := by omega
  have c3 : (0 : Int) ≤ 3 ∧ (3 : Int) < 256 := by omega
  have c10 : (0 : Int) ≤ 10 ∧ (10 : Int) < 256 := by omega
  have c0 : (0 : Int) ≤ 0 ∧ (0 : Int) < 256 := by omega
  have c127 : (0 : Int) ≤ 127 ∧ (127 : Int) < 256 := by omega
  cases h0 : (M == 0)
  case true =>
    go_wp2_with (first | (go_at_call 75; refine (rV4_any (a := 8) (b := 8) (c := 8) (d := 8) c8 c8 c8 c8 _).mono ?_; rintro e w3 ⟨rfl, hx3⟩; have hr3 := hr1.ext hx3; have hxx := hx1.trans hx3) | refine wpList_store_A rfl _ _ rfl okA_zadr (okA_v4 c8 c8 c8 c8) hr3 rfl rfl ?_)
    refine bodyPost_ret (res_A rfl rfl (okA_v4 c8 c8 c8 c8) (hr3.row _)) rfl ⟨_, okA_v4 c8 c8 c8 c8, rfl, rfl, hxx.setRow (Nat.le_refl _) _⟩
  cases h1 : (M == 1)
  case true =>
    go_wp2_with (first | (go_at_call 75; refine (rV4_any (a := 8) (b := 8) (c := 4) (d := 4) c8 c8 c4 c4 _).mono ?_; rintro e w3 ⟨rfl, hx3⟩; have hr3 := hr1.ext hx3; have hxx := hx1.trans hx3) | refine wpList_store_A rfl _ _ rfl okA_zadr (okA_v4 c8 c8 c4 c4) hr3 rfl rfl ?_)
    refine bodyPost_ret (res_A rfl rfl (okA_v4 c8 c8 c4 c4) (hr3.row _)) rfl ⟨_, okA_v4 c8 c8 c4 c4, rfl, rfl, hxx.setRow (Nat.le_refl _) _⟩
  cases h2 : (M == 2)
  case true =>
    go_wp2_with (first | (go_at_call 75; refine (rV4_any (a := 9) (b := 1) (c := 2) (d := 3) c9 c1 c2 c3 _).mono ?_; rintro e w3 ⟨rfl, hx3⟩; have hr3 := hr1.ext hx3; have hxx := hx1.trans hx3) | refine wpList_store_A rfl _ _ rfl okA_zadr (okA_v4 c9 c1 c2 c3) hr3 rfl rfl ?_)
    refine bodyPost_ret (res_A rfl rfl (okA_v4 c9 c1 c2 c3) (hr3.row _)) rfl ⟨_, okA_v4 c9 c1 c2 c3, rfl, rfl, hxx.setRow (Nat.le_refl _) _⟩
  cases h3 : (M == 3)
  case true =>
    go_wp2_with (first | (go_at_call 75; refine (rV4_any (a := 10) (b := 0) (c := 0) (d := 1) c10 c0 c0 c1 _).mono ?_; rintro e w3 ⟨rfl, hx3⟩; have hr3 := hr1.ext hx3; have hxx := hx1.trans hx3) | refine wpList_store_A rfl _ _ rfl okA_zadr (okA_v4 c10 c0 c0 c1) hr3 rfl rfl ?_)
    refine bodyPost_ret (res_A rfl rfl (okA_v4 c10 c0 c0 c1) (hr3.row _)) rfl ⟨_, okA_v4 c10 c0 c0 c1, rfl, rfl, hxx.setRow (Nat.le_refl _) _⟩
  cases h4 : (M == 4)
  case true =>
    go_wp2_with (first | (go_at_call 75; refine (rV4_any (a := 127) (b := 0) (c := 0) (d := 1) c127 c0 c0 c1 _).mono ?_; rintro e w3 ⟨rfl, hx3⟩; have hr3 := hr1.ext hx3; have hxx := hx1.trans hx3) | refine wpList_store_A rfl _ _ rfl okA_zadr (okA_v4 c127 c0 c0 c1) hr3 rfl rfl ?_)
    refine bodyPost_ret (res_A rfl rfl (okA_v4 c127 c0 c0 c1) (hr3.row _)) rfl ⟨_, okA_v4 c127 c0 c0 c1, rfl, rfl, hxx.setRow (Nat.le_refl _) _⟩
  cases h5 : (M == 5)
  case true =>
    go_wp2_with (first | (go_at_call 75; refine (rV4_any (a := 8) (b := 9) (c := 0) (d := (n / 16 % 256)) c8 c9 c0 hkb _).mono ?_; rintro e w3 ⟨rfl, hx3⟩; have hr3 := hr1.ext hx3; have hxx := hx1.trans hx3) | refine wpList_store_A rfl _ _ rfl okA_zadr (okA_v4 c8 c9 c0 hkb) hr3 rfl rfl ?_)
    refine bodyPost_ret (res_A rfl rfl (okA_v4 c8 c9 c0 hkb) (hr3.row _)) rfl ⟨_, okA_v4 c8 c9 c0 hkb, rfl, rfl, hxx.setRow (Nat.le_refl _) _⟩
  cases h6 : (M == 6)
  case true =>
    have hok : okA ((true, [32, 1, 13, 184, 0, 0, 0, 0, 0, 0, 0, 0, 0, 0, 0, n / 16 % 256]) : Adr) := ⟨rfl, fun x hx => by simp at hx; omega⟩
    go_wp2_with (first | refine wpList_store_A rfl _ _ rfl okA_zadr hok hr1 rfl rfl ?_)
    refine bodyPost_ret (res_A rfl rfl hok (hr1.row _)) rfl ⟨_, hok, rfl, rfl, hx1.setRow (Nat.le_refl _) _⟩
  cases h7 : (M == 7)
  case true =>
    have hok : okA ((true, [42, 0, 0, 0, 0, 0, 0, 0, 0, 0, 0, 0, 0, 0, 0, 5]) : Adr) := ⟨rfl, fun x hx => by simp at hx; omega⟩
    go_wp2_with (first | refine wpList_store_A rfl _ _ rfl okA_zadr hok hr1 rfl rfl ?_)
    refine bodyPost_ret (res_A rfl rfl hok (hr1.row _)) rfl ⟨_, hok, rfl, rfl, hx1.setRow (Nat.le_refl _) _⟩
  cases h8 : (M == 8)
  case true =>
    have hok : okA ((true, [254, 128, 0, 0, 0, 0, 0, 0, 0, 0, 0, 0, 0, 0, 0, 1]) : Adr) := ⟨rfl, fun x hx => by simp at hx; omega⟩
    go_wp2_with (first | refine wpList_store_A rfl _ _ rfl okA_zadr hok hr1 rfl rfl ?_)
    refine bodyPost_ret (res_A rfl rfl hok (hr1.row _)) rfl ⟨_, hok, rfl, rfl, hx1.setRow (Nat.le_refl _) _⟩
  cases h9 : (M == 9)
  case true =>
    have hok : okA ((true, [0, 0, 0, 0, 0, 0, 0, 0, 0, 0, 255, 255, 8, 8, 8, 8]) : Adr) := ⟨rfl, fun x hx => by simp at hx; omega⟩
    go_wp2_with (first | refine wpList_store_A rfl _ _ rfl okA_zadr hok hr1 rfl rfl ?_)
    refine bodyPost_ret (res_A rfl rfl hok (hr1.row _)) rfl ⟨_, hok, rfl, rfl, hx1.setRow (Nat.le_refl _) _⟩
  cases h10 : (M == 10)
  case true =>
    have hok : okA ((true, [32, 2, 0, 0, 0, 0, 0, 0, 0, 0, 0, 0, 0, 0, 0, 1]) : Adr) := ⟨rfl, fun x hx => by simp at hx; omega⟩
    go_wp2_with (first | refine wpList_store_A rfl _ _ rfl okA_zadr hok hr1 rfl rfl ?_)
    refine bodyPost_ret (res_A rfl rfl hok (hr1.row _)) rfl ⟨_, hok, rfl, rfl, hx1.setRow (Nat.le_refl _) _⟩
  cases h11 : (M == 11)
  case true =>
    have hok : okA ((true, [0, 0, 0, 0, 0, 0, 0, 0, 0, 0, 0, 0, 0, 0, 0, 1]) : Adr) := ⟨rfl, fun x hx => by simp at hx; omega⟩
    go_wp2_with (first | refine wpList_store_A rfl _ _ rfl okA_zadr hok hr1 rfl rfl ?_)
    refine bodyPost_ret (res_A rfl rfl hok (hr1.row _)) rfl ⟨_, hok, rfl, rfl, hx1.setRow (Nat.le_refl _) _⟩
  cases h12 : (M == 12)
  case true =>
    have hok : okA ((true, [32, 1, 0, 0, 0, 0, 0, 0, 0, 0, 0, 0, 0, 0, 0, n / 16 % 256]) : Adr) := ⟨rfl, fun x hx => by simp at hx; omega⟩
    go_wp2_with (first | refine wpList_store_A rfl _ _ rfl okA_zadr hok hr1 rfl rfl ?_)
    refine bodyPost_ret (res_A rfl rfl hok (hr1.row _)) rfl ⟨_, hok, rfl, rfl, hx1.setRow (Nat.le_refl _) _⟩
  have hok : okA ((true, [42, 0, 0, 0, 0, 0, 0, 0, 0, 0, 0, 0, 0, 0, 0, n / 16 % 256]) : Adr) := ⟨rfl, fun x hx => by simp at hx; omega⟩
  go_wp2_with (first | refine wpList_store_A rfl _ _ rfl okA_zadr hok hr1 rfl rfl ?_)
  refine bodyPost_ret (res_A rfl rfl hok (hr1.row _)) rfl ⟨_, hok, rfl, rfl, hx1.setRow (Nat.le_refl _) _⟩
set_option maxRecDepth 4000 in
set_option maxHeartbeats 1000000 in
theorem gport_any (n : Int) (w : World) : Calls Tryz.prog 45 #[.int .i64 n] w fun e w' => ∃ p : Int, 1 ≤ p ∧ p ≤ 65535 ∧ e = .returned (.int .i64 p) ∧ Ext w w' := by
  have M1 := Lib.hid (fun w => mod_any n 4 w (by decide))
  have M2 := Lib.hid (fun w => mod_any n 65535 w (by decide))
  have hb := modI_bd n (n := 65535) (by decide) (by decide)
  generalize modI n 65535 = m2 at *
  generalize modI n 4 = M at *
  go_enter Tryz.func45, Tryz.ntmps45
  go_wp2_with (first | (go_at_call 24; refine (M1.out _).mono ?_; rintro e w1 ⟨rfl, hx1⟩; refine Hid.out ?_))
  refine Lib.hid ?_
  cases h0 : (M == 0)
  case true =>
    go_wp2_with fail
    go_ret; exact ⟨53, by decide, by decide, rfl, hx1⟩
  cases h1 : (M == 1)
  case true =>
    go_wp2_with fail
    go_ret; exact ⟨80, by decide, by decide, rfl, hx1⟩
  cases h2 : (M == 2)
  case true =>
    go_wp2_with fail
    go_ret; exact ⟨443, by decide, by decide, rfl, hx1⟩
  go_wp2_with (first | (go_at_call 24; refine (M2.out _).mono ?_; rintro e w2 ⟨rfl, hx2⟩))
  go_ret; exact ⟨1 + m2, by omega, by omega, rfl, hx1.trans hx2⟩
set_option maxRecDepth 4000 in
set_option maxHeartbeats 1000000 in
theorem ghost_any (n : Int) (w : World) : Calls Tryz.prog 46 #[.int .i64 n] w fun e w' => ∃ h : ByteArray, okName h = true ∧ e = .returned (.string h) ∧ Ext w w' := by
  have M1 := Lib.hid (fun w => mod_any n 6 w (by decide))
  generalize modI n 6 = M at *
  go_enter Tryz.func46, Tryz.ntmps46
  go_wp2_with (first | (go_at_call 24; refine (M1.out _).mono ?_; rintro e w1 ⟨rfl, hx1⟩; refine Hid.out ?_))
  refine Lib.hid ?_
  cases h0 : (M == 0)
  case true =>
    go_wp2_with fail
    go_ret; exact ⟨_, by decide +kernel, rfl, hx1⟩
  cases h1 : (M == 1)
  case true =>
    go_wp2_with fail
    go_ret; exact ⟨_, by decide +kernel, rfl, hx1⟩
  cases h2 : (M == 2)
  case true =>
    go_wp2_with fail
    go_ret; exact ⟨_, by decide +kernel, rfl, hx1⟩
  cases h3 : (M == 3)
  case true =>
    go_wp2_with fail
    go_ret; exact ⟨_, by decide +kernel, rfl, hx1⟩
  cases h4 : (M == 4)
  case true =>
    go_wp2_with fail
    go_ret; exact ⟨_, by decide +kernel, rfl, hx1⟩
  go_wp2_with fail
  go_ret; exact ⟨_, by decide +kernel, rfl, hx1⟩
/-- some valid target comes back -/
def GenT (w : World) (e : Ending) (w' : World) : Prop := ∃ t, okT t ∧ validT t = true ∧ e = .returned (tv t) ∧ Ext w w'
set_option maxRecDepth 8000 in
set_option maxHeartbeats 4000000 in
theorem gtarget_any (n : Int) (w : World) : Calls Tryz.prog 19 #[.int .i64 n] w fun e w' => GenT w e w' := by
  have M1 := Lib.hid (fun w => mod_any n 3 w (by decide))
  have KA := Lib.hid gaddr_any
  have KP := Lib.hid gport_any
  have KH := Lib.hid ghost_any
  generalize modI n 3 = M at *
  go_enter Tryz.func19, Tryz.ntmps19
  go_upto_region 1 with fail
  rw [← tc_zero]
  have hx := (Ext.refl w).alloc (.cells (tc ztgt) 32)
  have hr := Blk.new w (tc ztgt) 32
  generalize w.alloc (.cells (tc ztgt) 32) = w0 at *
  have hwb : w.heap.size ≤ w.heap.size := Nat.le_refl _
  go_wp2_with (first | (go_at_call 24; refine (M1.out _).mono ?_; rintro e w1 ⟨rfl, hx1⟩; refine Hid.out ?_))
  refine Lib.hid ?_
  have hxx1 := hx.trans hx1
  have hr1 := hr.ext hx1
  clear hx hx1 hr M1
  cases h0 : (M == 0)
  case true =>
    go_wp2_with (first | (go_at_call 44; refine (KA.out _ _).mono ?_; rintro e w2 ⟨a, ha, hva, rfl, hx2⟩) | (go_at_call 45; refine (KP.out _ _).mono ?_; rintro e w3 ⟨p, hp1, hp2, rfl, hx3⟩; refine Hid.out ?_))
    refine Lib.hid ?_
    have hxx3 := (hxx1.trans hx2).trans hx3
    have hr3 := (hr1.ext hx2).ext hx3
    have hokT : okT (⟨#[]⟩, a, p) := ⟨ha, by unfold i64ok; simp only; omega, Nat.zero_le _⟩
    have HV : Hid (validT (⟨#[]⟩, a, p) = true) := Lib.hid (by unfold validT; simp only; rw [if_pos ⟨hp1, hp2⟩]; exact hva)
    go_wp2_with (first | refine wpList_build_T1 rfl _ _ rfl ha rfl rfl ?_ | refine wpList_store_T rfl _ _ rfl okT_ztgt hokT hr3 rfl rfl ?_)
    refine bodyPost_ret (res_T rfl rfl hokT (hr3.row _)) rfl ⟨_, hokT, HV.out, rfl, hxx3.setRow hwb _⟩
  go_wp2_with (first | (go_at_call 46; refine (KH.out _ _).mono ?_; rintro e w2 ⟨h, hh, rfl, hx2⟩) | (go_at_call 45; refine (KP.out _ _).mono ?_; rintro e w3 ⟨p, hp1, hp2, rfl, hx3⟩; refine Hid.out ?_))
  refine Lib.hid ?_
  have hxx3 := (hxx1.trans hx2).trans hx3
  have hr3 := (hr1.ext hx2).ext hx3
  have hz := okName_size hh
  have hz2 := (okName_facts hh).1
  have hokT : okT (h, zadr, p) := ⟨okA_zadr, by unfold i64ok; simp only; omega, by unfold maxLen; simp only; omega⟩
  have HV : Hid (validT (h, zadr, p) = true) := Lib.hid (by unfold validT; simp only; rw [if_pos ⟨hp1, hp2⟩, if_neg (by omega), hh]; simp)
  clear hh
  go_wp2_with (first | refine wpList_store_T rfl _ _ rfl okT_ztgt hokT hr3 rfl rfl ?_)
  refine bodyPost_ret (res_T rfl rfl hokT (hr3.row _)) rfl ⟨_, hokT, HV.out, rfl, hxx3.setRow hwb _⟩
end Go.Proofs.YtpdoddelnahlnaaGreatDoor
/-
  The arguments of the laws, opened: a target.
-/
set_option linter.unusedSimpArgs false
set_option linter.unusedVariables false
namespace Go.Proofs.YtpdoddelnahlnaaGreatDoor
open Go.RowKit Go.ChangeShapes Go.WideShapes Go.Deep
section
variable {H : Type} {enc : TypeId × Value → H} {W : World} {base : Nat} {sp : Nat → Bool} {held : Bool} {r : Reach} {b0 : Nat}
set_option maxRecDepth 20000 in
theorem open_T {v : Value} {d : DataW H} {p : List MemPlace} (hv : Value.okWide Tryz.prog W r b0 32 v) (h : DataW.Trod enc Tryz.prog W base sp held 32 v d p) :
    ∃ q : Tgt, okT q ∧ v = tv q := by
  obtain ⟨cs, rfl, hsz⟩ := okWide_struct Tryz.underlying32 hv
  obtain ⟨fuel, hf⟩ := h
  obtain ⟨y0, y1, y2, n, -, hl, hs0, h0, h1⟩ := trod_struct3 Tryz.underlying32 hf
  obtain ⟨x0, x1, m, -, hl2, g0, g1⟩ := trod_struct2 Tryz.underlying30 h0
  obtain ⟨s, hs, -, hsw⟩ := DataW.trod_string Tryz.underlying9 hs0
  obtain ⟨b, hb, -⟩ := DataW.trod_bool Tryz.underlying4 g0
  obtain ⟨zs, hz, hzl, hzw⟩ := cells_ints Tryz.underlying28 Tryz.underlying5 cells_u8 cells_16 g1
  obtain ⟨k, hk, -, hkw⟩ := DataW.trod_int Tryz.underlying3 h1
  rw [cells_T] at hsz
  have hc : (Value.agg cs).cells = cs := rfl
  rw [hc] at hb hz hk hs
  simp only [cells_b, cells_16, cells_A, cells_int, cells_str, List.drop_zero] at hb hz hk hs
  have hlen : cs.toList.length = 19 := by simpa using hsz
  have hk' : cs.toList.drop 18 = [.int .i64 k] := by
    rw [List.take_of_length_le (by rw [List.length_drop, hlen]; decide)] at hk; exact hk
  refine ⟨(s, (b, zs), k), ⟨⟨hzl, fun x hx => ?_⟩, ?_, hsw⟩, ?_⟩
  · have := hzw x hx
    simp only [Lit.wf, Bool.and_eq_true, decide_eq_true_eq, IntKind.min, IntKind.max, IntKind.bits, IntKind.signed] at this
    simp at this
    omega
  · unfold i64ok
    simp [Lit.wf, IntKind.min, IntKind.max, IntKind.bits, IntKind.signed] at hkw
    omega
  · unfold tv tc ac
    congr 1
    apply Array.ext'
    have e : cs.toList = cs.toList.take 1 ++ (cs.toList.drop 1) := (List.take_append_drop 1 _).symm
    have e1 : cs.toList.drop 1 = (cs.toList.drop 1).take 17 ++ (cs.toList.drop 1).drop 17 := (List.take_append_drop 17 _).symm
    have e2 : (cs.toList.drop 1).take 17 = ((cs.toList.drop 1).take 17).take 1 ++ ((cs.toList.drop 1).take 17).drop 1 := (List.take_append_drop 1 _).symm
    rw [e, hs, e1, e2, List.drop_drop, hk']
    rw [List.take_of_length_le (by rw [List.length_drop, List.length_take, List.length_drop, hlen]; decide)] at hz
    rw [hb, hz]
    rfl
end
end Go.Proofs.YtpdoddelnahlnaaGreatDoor
