/-
  ScriptDecodesExactly.
-/
import Derived.Test.YtmdlgfnibjcgmaaGreatDoorSeD
set_option maxHeartbeats 16000000
set_option maxRecDepth 10000
set_option linter.unusedVariables false
set_option linter.unusedSimpArgs false
namespace Go.Proofs.YtmdlgfnibjcgmaaGreatDoor
open Go.RowKit
theorem encS_pos (l : List Ev) : 1 <= (encS l).size := by
 unfold encS
 rw [size_app]
 have := (uvb_size 9 l.length).1
 unfold uv; omega
theorem encS_size {l : List Ev} (ho : ∀ e ∈ l, okEv e) (hv : validS l = true) : (encS l).size <= 10000000 := by
 unfold validS at hv
 simp only [Bool.and_eq_true, decide_eq_true_eq, List.all_eq_true] at hv
 unfold encS
 rw [size_app]
 have h1 := (uvb_size 9 l.length).2
 have h2 := encEs_len l (fun x hx => ⟨ho x hx, hv.2 x hx⟩)
 rw [← size_list] at h2
 unfold uv; omega
theorem ScriptDecodesExactly_walk (a : Option Addr) (n c : Nat) (x : ByteArray) (v : Value) (l : List Ev) (at_ ch : Int) (cut : Bool) (hxn : x.size = n) (hxs : x.size <= 140737488351232) (hl : l.length <= maxLen) (_ : (Lit.int .i64 at_).wf = true) (wc_ : (Lit.int .u8 ch).wf = true)
  (w : World) (henv : Env w) (htabs : Tabs w) (hcv : ∀ W', Ext w W' -> ∀ dst, Tryz.prog.underlying dst = some .string -> (convert 39 dst (.slice a n c)).run Tryz.prog W' = .ok (.string x) W') (hA : EvsIn w v l) :
  Calls Tryz.prog 5 #[.slice a n c, v, .int .i64 at_, .int .u8 ch, .bool cut] w fun e w' => e = .returned (.bool true) /\ Ext w w' := by
 have KS := Lib.hid (sevs_any l v 12 (by decide) hA hl)
 have KA := Lib.hid (fun w => awake_any w)
 have KG := Lib.hid (fun (s : ByteArray) (w : World) => agr_any s w)
 have HCV := Lib.hid (fun (W' : World) (h : Ext w W') => hcv W' h 9 Tryz.underlying9)
 clear hA henv htabs hcv hxn wc_
 go_enter Tryz.func5, Tryz.ntmps5
 have KN0 := Lib.hid (fun (w' : World) (qs : List Ev) (s2 : Value) (he : EvsIn w' s2 qs) (hq : qs.length <= 12) => (renc_scr qs s2 he (by unfold maxLen; omega)).mono (R' := fun e w'' => ∃ (s0 : ByteArray) (c0 : Int), e = .returned (.tuple #[.string s0, .int .i64 c0]) /\ s0.size <= 10000000 /\ Ext w' w'') (fun e w'' h => by
  refine ⟨_, _, h.1, ?_, h.2⟩
  split
  ·rename_i hv; exact encS_size he.ok hv
  ·exact Nat.zero_le _))
 go_upto_region 2 with (first | (go_at_call 7; refine KS.out.mono ?_; rintro e w1 ⟨qs, s2, rfl, he, hq, hx1⟩; have KN := Lib.hid (KN0.out w1 qs s2 he hq)) | (go_at_call 9; refine KN.out.mono ?_; rintro e w2 ⟨s0, c0, rfl, hs0, hx2⟩))
 have hxw := hx1.trans hx2
 clear KN he hq KS hx1 hx2
 have KZ := Lib.hid (fun (w' : World) => (renc_scr [] (.slice none 0 0) (EvsIn.nil w') (Nat.zero_le _)).mono (R' := fun e w'' => ∃ s0 : ByteArray, e = .returned (.tuple #[.string s0, .int .i64 0]) /\ 1 <= s0.size /\ s0.size <= 10000000 /\ Ext w' w'') (fun e w'' h => ⟨encS [], h.1, encS_pos [], encS_size (fun e h => by cases h) rfl, h.2⟩))
 obtain ⟨bz, hbz⟩ : ∃ bz : Bool, (s0.toList == []) = bz := ⟨_, rfl⟩
 go_upto_if 22 with fail
 have HBZ := Lib.hid (hbz.symm.trans (list_nil s0))
 clear hbz
 go_cut [11] from 23 to 26 (fun u wc => ∃ s1 : ByteArray, u = .string s1 /\ Hid (1 <= s1.size) /\ Hid (s1.size <= 10000000) /\ Ext w wc)
 case first =>
  cases bz with
  | true =>
   go_wp2_with (go_at_call 9; refine (KZ.out _).mono ?_; rintro e w3 ⟨s1, rfl, h1, h2, hx3⟩)
   go_meet
   exact ⟨s1, rfl, Lib.hid h1, Lib.hid h2, hxw.trans hx3⟩
  | false =>
   have H0 : Hid (1 <= s0.size) := Lib.hid (by have := of_decide_eq_false HBZ.out.symm; omega)
   have H1 := Lib.hid hs0
   clear hs0
   go_wp2_with fail
   go_meet
   exact ⟨s0, rfl, H0, H1, hxw⟩
 clear hxw hs0 KZ HBZ
 obtain ⟨s, rfl, H1, H2, hxw⟩ := hcut
 have hs1 := H1.out
 have hs2 := H2.out
 have KM := Lib.hid (fun w => smod_any at_ (s.size : Int) (by omega) (by omega) w)
 clear hs1 hs2
 go_upto_region 5 with (go_at_call 10; refine (KM.out _).mono ?_; rintro e w3 ⟨m, rfl, hm0, hm1, hx3⟩)
 replace hxw := hxw.trans hx3
 obtain ⟨k, rfl⟩ : ∃ k : Nat, m = k := ⟨m.toNat, by omega⟩
 have hs2 := H2.out
 have q1 : (k : Int) <= s.size := by omega
 have q2 : (k : Int) + 1 <= s.size := by omega
 have q3 : (0 : Int) <= (k : Int) + 1 := by omega
 have q4 : ((k : Int) + 1).toNat = k + 1 := by omega
 have q5 : IntKind.i64.wrap ((k : Int) + 1) = (k : Int) + 1 := IntWalk.i64_in _ (by omega)
 have z1 : (s.extract 0 k).size = k := by rw [ByteArray.size_extract]; omega
 have z2 : (s.extract (k + 1) s.size).size = s.size - (k + 1) := by rw [ByteArray.size_extract]; omega
 have y1 : ¬ 9223372036854775807 < k + 1 := by omega
 have y2 : ¬ 9223372036854775807 < k + 1 + (s.size - (k + 1)) := by omega
 clear hx3 KM hs2
 go_region
 have hx5 := (hxw.alloc (.cells #[Value.int .u8 ch] 5)).drew
 generalize (w3.alloc (.cells #[Value.int .u8 ch] 5)).drew = w5 at *
 have hxq := hx5
 have hs2 := H2.out
 have y3 : ¬ 9223372036854775807 < 1 + x.size := by omega
 have y4 : ¬ 9223372036854775807 < s.size + 1 := by omega
 have y5 : ¬ 9223372036854775807 < x.size + s.size := by omega
 clear y1 y2 q1 q3 q4 q5 z1 z2 hx5 hxw
 generalize (s.extract 0 k ++ str1 ch ++ s.extract (k + 1) s.size) = t at *
 have qk : (k : Int) <= s.size := by omega
 cases cut with
 | false =>
  go_upto_region 8 with fail
  have KA5 := Lib.hid (KA.out w5)
  clear KA
  go_wp2_with (first | (go_at_call 11; refine KA5.out.mono ?_; rintro e w8 ⟨rfl, hx8⟩; have hxc := hxq.trans hx8; have hcv5 := HCV.out w8 hxc) | (go_at_call 17; refine (KG.out _ _).mono ?_; rintro e w9 ⟨rfl, hx9⟩; have hxc := Ext.trans (a := w) (by first | assumption | exact Ext.alloc (by assumption) _) hx9; have hcv5 := HCV.out w9 hxc))
  go_ret
  exact ⟨rfl, by assumption⟩
 | true =>
  go_upto_region 8 with fail
  generalize s.extract 0 k = t2 at *
  have KA5 := Lib.hid (KA.out w5)
  clear KA
  go_wp2_with (first | (go_at_call 11; refine KA5.out.mono ?_; rintro e w8 ⟨rfl, hx8⟩; have hxc := hxq.trans hx8; have hcv5 := HCV.out w8 hxc) | (go_at_call 17; refine (KG.out _ _).mono ?_; rintro e w9 ⟨rfl, hx9⟩; have hxc := Ext.trans (a := w) (by first | assumption | exact Ext.alloc (by assumption) _) hx9; have hcv5 := HCV.out w9 hxc))
  go_ret
  exact ⟨rfl, by assumption⟩
end Go.Proofs.YtmdlgfnibjcgmaaGreatDoor
