/-
  Contracts of the generators: Mod, Addr, SomeAddr, Prefix.
-/
import Derived.Test.YtbbdcodhgbgekaaGreatDoorCiG
set_option linter.unusedSimpArgs false
set_option linter.unusedVariables false
namespace Go.Proofs.YtbbdcodhgbgekaaGreatDoor
open Go.RowKit
def modI (v n : Int) : Int := wrap64 ((IntKind.u64.wrap v).tmod (IntKind.u64.wrap n))
theorem mod_any (v : Int) (n : Int) (w : World) (hn : IntKind.u64.wrap n ≠ 0) : Calls Tryz.prog 21 #[.int .i64 v, .int .i64 n] w fun e w' => e = .returned (.int .i64 (modI v n)) ∧ Ext w w' := by
  go_enter Tryz.func21, Tryz.ntmps21
  go_wp2
  all_goals go_ret
  all_goals exact ⟨rfl, Ext.refl _⟩
theorem modI_bd (v : Int) {n : Int} (h0 : 0 < n) (h1 : n ≤ 9223372036854775807) : 0 ≤ modI v n ∧ modI v n < n := by
  unfold modI
  have e : IntKind.u64.wrap n = n := by rw [IntKind.wrap_u64]; omega
  rw [e]
  exact cut_bd v n h0 h1
theorem u64_ne {n : Int} (h0 : 0 < n) (h1 : n ≤ 9223372036854775807) : IntKind.u64.wrap n ≠ 0 := by
  rw [IntKind.wrap_u64]; omega
theorem Calls.pick {P : Program} {f : FuncId} {args : Array Value} {w : World} {R : Ending → World → Prop} (h : Calls P f args w R) {R' : Ending → World → Prop} (hr : ∀ e w', R e w' → R' e w') : Calls P f args w R' := h.mono hr
set_option maxRecDepth 8000 in
set_option maxHeartbeats 8000000 in
theorem gaddr_any (n : Int) (w : World) : Calls Tryz.prog 38 #[.int .i64 n] w fun e w' => ∃ a, okA a ∧ e = .returned (av a) ∧ Ext w w' := by
  have M1 := Lib.hid (fun w => mod_any n 14 w (by decide))
  go_enter Tryz.func38, Tryz.ntmps38
  go_upto_region 1 with fail
  rw [← ac_zadr]
  have hx := (Ext.refl w).alloc (.cells (ac zadr) 24)
  have hr := Blk.new w (ac zadr) 24
  generalize w.alloc (.cells (ac zadr) 24) = w2 at *
  go_wp2_with (go_at_call 21; refine (M1.out _).mono ?_; rintro e w1 ⟨rfl, hx1'⟩; refine Hid.out ?_)
  refine Lib.hid ?_
  have hr1 := hr.ext hx1'
  have hx1 := hx.trans hx1'
  clear hr hx hx1' M1
  generalize modI n 14 = M at *
  have hkb : 0 ≤ n / 16 % 256 ∧ n / 16 % 256 < 256 := by omega
  have c8 : (0 : Int) ≤ 8 ∧ (8 : Int) < 256 := by omega
  have c4 : (0 : Int) ≤ 4 ∧ (4 : Int) < 256 := by omega
  have c9 : (0 : Int) ≤ 9 ∧ (9 : Int) < 256 := by omega
  have c1 : (0 : Int) ≤ 1 ∧ (1 : Int) < 256 := by omega
  have c2 : (0 : Int) ≤ 2 ∧ (2 : Int) < 256 := by omega
  have c3 : (0 : Int) ≤ 3 ∧ (3 : Int) < 256 := by omega
  have c10 : (0 : Int) ≤ 10 ∧ (10 : Int) < 256 := by omega
  have c0 : (0 : Int) ≤ 0 ∧ (0 : Int) < 256 := by omega
  have c127 : (0 : Int) ≤ 127 ∧ (127 : Int) < 256 := by omega
  cases h0 : (M == 0)
  case true =>
    go_wp2_with (first | (go_at_call 39; refine (rV4_any (a := 8) (b := 8) (c := 8) (d := 8) c8 c8 c8 c8 _).mono ?_; rintro e w3 ⟨rfl, hx3⟩; have hr3 := hr1.ext hx3; have hxx := hx1.trans hx3) | refine wpList_store_A rfl _ _ rfl okA_zadr (okA_v4 c8 c8 c8 c8) hr3 rfl rfl ?_)
    refine bodyPost_ret (res_A rfl rfl (okA_v4 c8 c8 c8 c8) (hr3.row _)) rfl ⟨_, okA_v4 c8 c8 c8 c8, rfl, hxx.setRow (Nat.le_refl _) _⟩
  cases h1 : (M == 1)
  case true =>
    go_wp2_with (first | (go_at_call 39; refine (rV4_any (a := 8) (b := 8) (c := 4) (d := 4) c8 c8 c4 c4 _).mono ?_; rintro e w3 ⟨rfl, hx3⟩; have hr3 := hr1.ext hx3; have hxx := hx1.trans hx3) | refine wpList_store_A rfl _ _ rfl okA_zadr (okA_v4 c8 c8 c4 c4) hr3 rfl rfl ?_)
    refine bodyPost_ret (res_A rfl rfl (okA_v4 c8 c8 c4 c4) (hr3.row _)) rfl ⟨_, okA_v4 c8 c8 c4 c4, rfl, hxx.setRow (Nat.le_refl _) _⟩
  cases h2 : (M == 2)
  case true =>
    go_wp2_with (first | (go_at_call 39; refine (rV4_any (a := 9) (b := 1) (c := 2) (d := 3) c9 c1 c2 c3 _).mono ?_; rintro e w3 ⟨rfl, hx3⟩; have hr3 := hr1.ext hx3; have hxx := hx1.trans hx3) | refine wpList_store_A rfl _ _ rfl okA_zadr (okA_v4 c9 c1 c2 c3) hr3 rfl rfl ?_)
    refine bodyPost_ret (res_A rfl rfl (okA_v4 c9 c1 c2 c3) (hr3.row _)) rfl ⟨_, okA_v4 c9 c1 c2 c3, rfl, hxx.setRow (Nat.le_refl _) _⟩
  cases h3 : (M == 3)
  case true =>
    go_wp2_with (first | (go_at_call 39; refine (rV4_any (a := 10) (b := 0) (c := 0) (d := 1) c10 c0 c0 c1 _).mono ?_; rintro e w3 ⟨rfl, hx3⟩; have hr3 := hr1.ext hx3; have hxx := hx1.trans hx3) | refine wpList_store_A rfl _ _ rfl okA_zadr (okA_v4 c10 c0 c0 c1) hr3 rfl rfl ?_)
    refine bodyPost_ret (res_A rfl rfl (okA_v4 c10 c0 c0 c1) (hr3.row _)) rfl ⟨_, okA_v4 c10 c0 c0 c1, rfl, hxx.setRow (Nat.le_refl _) _⟩
  cases h4 : (M == 4)
  case true =>
    go_wp2_with (first | (go_at_call 39; refine (rV4_any (a := 127) (b := 0) (c := 0) (d := 1) c127 c0 c0 c1 _).mono ?_; rintro e w3 ⟨rfl, hx3⟩; have hr3 := hr1.ext hx3; have hxx := hx1.trans hx3) | refine wpList_store_A rfl _ _ rfl okA_zadr (okA_v4 c127 c0 c0 c1) hr3 rfl rfl ?_)
    refine bodyPost_ret (res_A rfl rfl (okA_v4 c127 c0 c0 c1) (hr3.row _)) rfl ⟨_, okA_v4 c127 c0 c0 c1, rfl, hxx.setRow (Nat.le_refl _) _⟩
  cases h5 : (M == 5)
  case true =>
    go_wp2_with (first | (go_at_call 39; refine (rV4_any (a := 8) (b := 9) (c := 0) (d := (n / 16 % 256)) c8 c9 c0 hkb _).mono ?_; rintro e w3 ⟨rfl, hx3⟩; have hr3 := hr1.ext hx3; have hxx := hx1.trans hx3) | refine wpList_store_A rfl _ _ rfl okA_zadr (okA_v4 c8 c9 c0 hkb) hr3 rfl rfl ?_)
    refine bodyPost_ret (res_A rfl rfl (okA_v4 c8 c9 c0 hkb) (hr3.row _)) rfl ⟨_, okA_v4 c8 c9 c0 hkb, rfl, hxx.setRow (Nat.le_refl _) _⟩
  cases h6 : (M == 6)
  case true =>
    have hok : okA ((true, [32, 1, 13, 184, 0, 0, 0, 0, 0, 0, 0, 0, 0, 0, 0, n / 16 % 256]) : Adr) := ⟨rfl, fun x hx => by simp at hx; omega⟩
    go_wp2_with (first | refine wpList_store_A rfl _ _ rfl okA_zadr hok hr1 rfl rfl ?_)
    refine bodyPost_ret (res_A rfl rfl hok (hr1.row _)) rfl ⟨_, hok, rfl, hx1.setRow (Nat.le_refl _) _⟩
  cases h7 : (M == 7)
  case true =>
    have hok : okA ((true, [42, 0, 0, 0, 0, 0, 0, 0, 0, 0, 0, 0, 0, 0, 0, 5]) : Adr) := ⟨rfl, fun x hx => by simp at hx; omega⟩
    go_wp2_with (first | refine wpList_store_A rfl _ _ rfl okA_zadr hok hr1 rfl rfl ?_)
    refine bodyPost_ret (res_A rfl rfl hok (hr1.row _)) rfl ⟨_, hok, rfl, hx1.setRow (Nat.le_refl _) _⟩
  cases h8 : (M == 8)
  case true =>
    have hok : okA ((true, [254, 128, 0, 0, 0, 0, 0, 0, 0, 0, 0, 0, 0, 0, 0, 1]) : Adr) := ⟨rfl, fun x hx => by simp at hx; omega⟩
    go_wp2_with (first | refine wpList_store_A rfl _ _ rfl okA_zadr hok hr1 rfl rfl ?_)
    refine bodyPost_ret (res_A rfl rfl hok (hr1.row _)) rfl ⟨_, hok, rfl, hx1.setRow (Nat.le_refl _) _⟩
  cases h9 : (M == 9)
  case true =>
    have hok : okA ((true, [0, 0, 0, 0, 0, 0, 0, 0, 0, 0, 255, 255, 8, 8, 8, 8]) : Adr) := ⟨rfl, fun x hx => by simp at hx; omega⟩
    go_wp2_with (first | refine wpList_store_A rfl _ _ rfl okA_zadr hok hr1 rfl rfl ?_)
    refine bodyPost_ret (res_A rfl rfl hok (hr1.row _)) rfl ⟨_, hok, rfl, hx1.setRow (Nat.le_refl _) _⟩
  cases h10 : (M == 10)
  case true =>
    have hok : okA ((true, [32, 2, 0, 0, 0, 0, 0, 0, 0, 0, 0, 0, 0, 0, 0, 1]) : Adr) := ⟨rfl, fun x hx => by simp at hx; omega⟩
    go_wp2_with (first | refine wpList_store_A rfl _ _ rfl okA_zadr hok hr1 rfl rfl ?_)
    refine bodyPost_ret (res_A rfl rfl hok (hr1.row _)) rfl ⟨_, hok, rfl, hx1.setRow (Nat.le_refl _) _⟩
  cases h11 : (M == 11)
  case true =>
    have hok : okA ((true, [0, 0, 0, 0, 0, 0, 0, 0, 0, 0, 0, 0, 0, 0, 0, 1]) : Adr) := ⟨rfl, fun x hx => by simp at hx; omega⟩
    go_wp2_with (first | refine wpList_store_A rfl _ _ rfl okA_zadr hok hr1 rfl rfl ?_)
    refine bodyPost_ret (res_A rfl rfl hok (hr1.row _)) rfl ⟨_, hok, rfl, hx1.setRow (Nat.le_refl _) _⟩
  cases h12 : (M == 12)
  case true =>
    have hok : okA ((true, [32, 1, 0, 0, 0, 0, 0, 0, 0, 0, 0, 0, 0, 0, 0, n / 16 % 256]) : Adr) := ⟨rfl, fun x hx => by simp at hx; omega⟩
    go_wp2_with (first | refine wpList_store_A rfl _ _ rfl okA_zadr hok hr1 rfl rfl ?_)
    refine bodyPost_ret (res_A rfl rfl hok (hr1.row _)) rfl ⟨_, hok, rfl, hx1.setRow (Nat.le_refl _) _⟩
  have hok : okA ((true, [42, 0, 0, 0, 0, 0, 0, 0, 0, 0, 0, 0, 0, 0, 0, n / 16 % 256]) : Adr) := ⟨rfl, fun x hx => by simp at hx; omega⟩
  go_wp2_with (first | refine wpList_store_A rfl _ _ rfl okA_zadr hok hr1 rfl rfl ?_)
  refine bodyPost_ret (res_A rfl rfl hok (hr1.row _)) rfl ⟨_, hok, rfl, hx1.setRow (Nat.le_refl _) _⟩
end Go.Proofs.YtbbdcodhgbgekaaGreatDoor
