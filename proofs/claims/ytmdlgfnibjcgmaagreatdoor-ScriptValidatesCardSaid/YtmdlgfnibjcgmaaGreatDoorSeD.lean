/-
  ScriptRoundTrip.
-/
import Derived.Test.YtmdlgfnibjcgmaaGreatDoorK45
import Derived.Test.YtmdlgfnibjcgmaaGreatDoorK29
import Derived.Test.YtmdlgfnibjcgmaaGreatDoorK23
set_option maxHeartbeats 8000000
set_option maxRecDepth 10000
set_option linter.unusedVariables false
set_option linter.unusedSimpArgs false
namespace Go.Proofs.YtmdlgfnibjcgmaaGreatDoor
open Go.RowKit
theorem decR_enc {l : List Ev} (ho : ∀ e ∈ l, okEv e) (hv : validS l = true) : decR (encS l) = (l, 0) := by
 unfold decR; rw [dec_enc l ho hv]
theorem encV_ok {l : List Ev} (hv : validS l = true) : encV l = .tuple #[.string (encS l), .int .i64 0] := by unfold encV; rw [hv]; rfl
theorem ScriptRoundTrip_walk (v : Value) (l : List Ev) (hl : l.length <= maxLen) (w : World) (henv : Env w) (htabs : Tabs w) (hA : EvsIn w v l) :
  Calls Tryz.prog 4 #[v] w fun e w' => e = .returned (.bool true) /\ Ext w w' := by
 have KS := Lib.hid (sevs_any l v 30 (by decide) hA hl)
 have KA := Lib.hid (fun w => awake_any w)
 clear hA henv htabs
 go_enter Tryz.func4, Tryz.ntmps4
 go_upto_region 2 with (go_at_call 7; refine KS.out.mono ?_; rintro e w1 ⟨qs, s2, rfl, he, hq, hx1⟩)
 have KV := Lib.hid (rvalid_ev qs s2 he (by unfold maxLen; omega))
 have HQL : Hid (qs.length <= 30) := Lib.hid hq
 clear hq KS
 cases hv : validS qs with
 | true =>
  rw [hv] at KV
  go_upto_region 4 with (go_at_call 13; refine KV.out.mono ?_; rintro e wx ⟨rfl, hx2⟩)
  have hex := he.ext hx2
  have hxx := hx1.trans hx2
  clear KV he hx1 hx2
  have KN := Lib.hid (fun (w' : World) (k : Ext wx w') => enc_any qs s2 ((hex).ext k) (by have := HQL.out; unfold maxLen; omega))
  have KD := Lib.hid (fun (w' : World) => pdec_scr (encS qs) w')
  unfold DecP at KD
  rw [decR_enc (hex).ok hv] at KD
  rw [encV_ok hv] at KN
  generalize encS qs = z at *
  simp only at KD
  go_upto_region 5 with (go_at_call 8; refine (KN.out _ (Ext.refl _)).mono ?_; rintro e w3 ⟨rfl, hx3⟩)
  go_upto_region 6 with (go_at_call 14; refine (KD.out _).mono ?_; rintro e w4 ⟨s4, rfl, he4, hl4, hx4⟩)
  have KE := Lib.hid (fun (w' : World) (k : Ext w4 w') => eqEs qs s2 s4 ((hex).ext ((hx3.trans hx4).trans k)) (he4.ext k) (by unfold maxLen; omega))
  clear he4 KN KD
  go_wp2_with (first | (go_at_call 11; refine (KA.out _).mono ?_; rintro e w5 ⟨rfl, hx5⟩; have KE5 := Lib.hid (KE.out w5 hx5)) | (go_at_call 15; refine KE5.out.mono ?_; rintro e w6 ⟨rfl, hx6⟩))
  go_ret
  exact ⟨rfl, ((((hxx).trans hx3).trans hx4).trans hx5).trans hx6⟩
 | false =>
  rw [hv] at KV
  go_upto_region 4 with (go_at_call 13; refine KV.out.mono ?_; rintro e wx ⟨rfl, hx2⟩)
  have hex := EvsIn.nil wx
  have hxx := hx1.trans hx2
  have hv0 : validS [] = true := rfl
  clear KV he hx1 hx2 hv HQL
  have HQL : Hid (([] : List Ev).length <= 30) := Lib.hid (by decide)
  obtain ⟨q0, hq0⟩ : ∃ q : List Ev, q = [] := ⟨_, rfl⟩
  rw [← hq0] at hex hv0 HQL
  clear hq0
  have KN := Lib.hid (fun (w' : World) (k : Ext wx w') => enc_any q0 (.slice none 0 0) ((hex).ext k) (by have := HQL.out; unfold maxLen; omega))
  have KD := Lib.hid (fun (w' : World) => pdec_scr (encS q0) w')
  unfold DecP at KD
  rw [decR_enc (hex).ok hv0] at KD
  rw [encV_ok hv0] at KN
  generalize encS q0 = z at *
  simp only at KD
  go_upto_region 5 with (go_at_call 8; refine (KN.out _ (Ext.refl _)).mono ?_; rintro e w3 ⟨rfl, hx3⟩)
  go_upto_region 6 with (go_at_call 14; refine (KD.out _).mono ?_; rintro e w4 ⟨s4, rfl, he4, hl4, hx4⟩)
  have KE := Lib.hid (fun (w' : World) (k : Ext w4 w') => eqEs q0 (.slice none 0 0) s4 ((hex).ext ((hx3.trans hx4).trans k)) (he4.ext k) (by unfold maxLen; omega))
  clear he4 KN KD
  go_wp2_with (first | (go_at_call 11; refine (KA.out _).mono ?_; rintro e w5 ⟨rfl, hx5⟩; have KE5 := Lib.hid (KE.out w5 hx5)) | (go_at_call 15; refine KE5.out.mono ?_; rintro e w6 ⟨rfl, hx6⟩))
  go_ret
  exact ⟨rfl, ((((hxx).trans hx3).trans hx4).trans hx5).trans hx6⟩
end Go.Proofs.YtmdlgfnibjcgmaaGreatDoor
