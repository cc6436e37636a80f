/-
  Several texts joined: ScGr, ScQ.
-/
import Derived.Test.YtmdlgfnibjcgmaaGreatDoorK28
import Derived.Test.YtmdlgfnibjcgmaaGreatDoorK07
import Derived.Test.YtmdlgfnibjcgmaaGreatDoorK27
import Derived.Test.YtmdlgfnibjcgmaaGreatDoorK26
set_option maxHeartbeats 8000000
set_option maxRecDepth 10000
set_option linter.unusedVariables false
set_option linter.unusedSimpArgs false
namespace Go.Proofs.YtmdlgfnibjcgmaaGreatDoor
open Go.RowKit
theorem rvalid_ev (es : List Ev) (sl : Value) {w : World} (hA : EvsIn w sl es) (hl : es.length <= maxLen) : Calls Tryz.prog 13 #[sl] w fun e w' => e = .returned (.bool (validS es)) /\ Ext w w' := by
 obtain ⟨a, cap, rfl⟩ := hA.len
 have HV : Hid (validS es = (decide (es.length <= 1000) && es.all validE)) := Lib.hid rfl
 have hb := hl
 unfold maxLen at hb
 have HA := Lib.hid hA
 clear hA
 go_enter Tryz.func13, Tryz.ntmps13
 by_cases hn : 1000 < es.length
 ·have hn' : (1000 : Int) < (es.length : Int) := by omega
  go_wp2_with fail
  go_ret
  exact ⟨by rw [HV.out]; simp; omega, Ext.refl _⟩
 have hn' : ¬ (1000 : Int) < (es.length : Int) := by omega
 go_wp2_with fail
 go_loopw [3] (fun i wr => ∃ k : Nat, i = .int .i64 k /\ k <= es.length /\ (∀ x ∈ es.take k, validE x = true) /\ Ext w wr) (fun i _ => es.length - (intOf i).toNat)
 case atStart => exact ⟨0, rfl, Nat.zero_le _, fun x h => by simp at h, Ext.refl _⟩
 case round =>
  obtain ⟨j, rfl, hj, hall, hxr⟩ := hrel
  have HALL := Lib.hid hall
  clear hall
  by_cases hlt : j < es.length
  ·have hlt' : (j : Int) < es.length := by omega
   obtain ⟨x, hjx⟩ : ∃ x, es[j]? = some x := ⟨es[j]'hlt, List.getElem?_eq_getElem hlt⟩
   obtain ⟨ab, off, v, rfl, hab, hokx, hvx, hrx, hcap⟩ := (HA.out.ext hxr).get hjx
   obtain ⟨va, vc, rfl⟩ := hvx.len
   have HJX := Lib.hid hjx
   clear hjx
   have HVX := Lib.hid (fun (w : World) (h : Ext wr w) => rvev_any x _ hokx (hvx.ext h))
   have hj1 : IntKind.i64.wrap ((j : Int) + 1) = ((j + 1 : Nat) : Int) := by rw [IntWalk.i64_in _ (by omega)]; omega
   have KV := Lib.hid (HVX.out _ (Ext.refl wr))
   clear HVX
   cases hv : validE x
   case false =>
    rw [hv] at KV
    go_wp2_with (first | refine wpList_loadS (cs := evl x _) Tryz.underlying31 info_Ev rfl _ rfl hrx rfl ?_ | (go_at_call 27; refine KV.out.mono ?_; rintro e w5 ⟨rfl, hx5⟩))
    go_ret
    refine ⟨?_, hxr.trans hx5⟩
    have hf : es.all validE = false := by
     rw [List.all_eq_false]
     exact ⟨x, List.mem_of_getElem? HJX.out, by rw [hv]; simp⟩
    rw [HV.out, hf, Bool.and_false]; rfl
   rw [hv] at KV
   have HVY := Lib.hid hv
   clear hv
   go_wp2_with (first | refine wpList_loadS (cs := evl x _) Tryz.underlying31 info_Ev rfl _ rfl hrx rfl ?_ | (go_at_call 27; refine KV.out.mono ?_; rintro e w5 ⟨rfl, hx5⟩))
   refine ⟨⟨j + 1, by go_num, by omega, fun y hy => ?_, hxr.trans hx5⟩, ?_⟩
   ·have hjl : j < es.length := hlt
    rw [List.take_add_one, HJX.out] at hy
    rcases List.mem_append.1 hy with q | q
    ·exact HALL.out y q
    ·simp at q; rw [q]; exact HVY.out
   ·simp [intOf]; omega
  ·obtain rfl : j = es.length := by omega
   go_wp2_with fail
   go_ret
   exact ⟨by rw [HV.out, List.all_eq_true.2 (fun x hx => HALL.out x (by rw [List.take_length]; exact hx))]; simp; omega, hxr⟩
open Go.RowKit
theorem renc_scr (es : List Ev) (sl : Value) {w : World} (hA : EvsIn w sl es) (hl : es.length <= maxLen) : Calls Tryz.prog 9 #[sl] w fun e w' => e = .returned (encV es) /\ Ext w w' := by
 have KV := Lib.hid (rvalid_ev es sl hA hl)
 have hoks := hA.ok
 obtain ⟨a, cap, rfl⟩ := hA.len
 have HA := Lib.hid hA
 clear hA
 cases hv : validS es with
 | false =>
  rw [hv] at KV
  have HR : Hid (encV es = .tuple #[.string ⟨#[]⟩, .int .i64 1]) := Lib.hid (by unfold encV; rw [hv]; rfl)
  clear hv
  go_enter Tryz.func9, Tryz.ntmps9
  go_wp2_with (go_at_call 13; refine KV.out.mono ?_; rintro e w1 ⟨rfl, hx1⟩)
  go_ret2
  exact ⟨by rw [HR.out]; rfl, hx1⟩
 | true =>
  rw [hv] at KV
  have HR : Hid (encV es = .tuple #[.string (encS es), .int .i64 0]) := Lib.hid (by unfold encV; rw [hv]; rfl)
  have hvs := hv
  unfold validS at hvs
  simp only [Bool.and_eq_true, decide_eq_true_eq, List.all_eq_true] at hvs
  have hln := hvs.1
  have HVE := Lib.hid hvs.2
  have HLN : Hid (∀ j, ((uv es.length).data.toList ++ (encEs (es.take j)).data.toList).length <= 10000000) := Lib.hid (fun j => by
   have h1 := uvb_lenb 9 es.length
   have h2 := encEs_len (es.take j) (fun x hx => ⟨hoks x (List.mem_of_mem_take hx), hvs.2 x (List.mem_of_mem_take hx)⟩)
   rw [List.length_take] at h2
   rw [List.length_append]; unfold uv; omega)
  have HTX : Hid (txt ((uv es.length).data.toList ++ (encEs es).data.toList) = encS es) := Lib.hid (by rw [← data_append]; exact txt_lst _)
  have qn : IntKind.u64.wrap (es.length : Int) = (es.length : Int) := by rw [IntKind.wrap_u64]; omega
  clear hv hvs hoks
  go_enter Tryz.func9, Tryz.ntmps9
  go_upto_region 3 with (go_at_call 13; refine KV.out.mono ?_; rintro e w1 ⟨rfl, hx1⟩)
  have KN := Lib.hid (rnum_any w1.heap.size (.slice none 0 0) [] es.length (by omega) w1 (Os.nil _ _) (by decide) (Nat.le_refl _))
  have hB0 := hx1.size
  clear KV
  go_upto_region 4 with (go_at_call 22; refine KN.out.mono ?_; rintro e w3 ⟨v3, rfl, hO3, hK3⟩)
  have HO3 := Lib.hid hO3
  have HK3 := Lib.hid hK3
  clear KN hO3 hK3
  go_wp2_with fail
  go_loopw [4, 5] (fun u i wr => ∃ k : Nat, i = .int .i64 k /\ k <= es.length /\ Os w1.heap.size u ((uv es.length).data.toList ++ (encEs (es.take k)).data.toList) wr /\ Kt none w1.heap.size w1 wr) (fun _ i _ => es.length - (intOf i).toNat)
  case atStart => exact ⟨0, rfl, Nat.zero_le _, by simpa [encEs] using HO3.out, HK3.out⟩
  case round =>
   obtain ⟨j, rfl, hj, hOr, hKr⟩ := hrel
   have hxr : Ext w wr := num_ext _ hx1 hB0 hKr
   clear HO3 HK3
   by_cases hlt : j < es.length
   ·have hlt' : (j : Int) < es.length := by omega
    obtain ⟨x, hjx⟩ : ∃ x, es[j]? = some x := ⟨es[j]'hlt, List.getElem?_eq_getElem hlt⟩
    obtain ⟨ab, off, v, rfl, hab0, hokx, hvx0, hrx0, hcap⟩ := HA.out.get hjx
    have hrx := rangeAt_ext hrx0 hab0 hxr
    obtain ⟨va, vc, rfl⟩ := hvx0.len
    have HJX := Lib.hid hjx
    have hvj := HVE.out x (List.mem_of_getElem? hjx)
    clear hjx
    have hj1 : IntKind.i64.wrap ((j : Int) + 1) = ((j + 1 : Nat) : Int) := by rw [IntWalk.i64_in _ (by omega)]; omega
    have hBr : w1.heap.size <= wr.heap.size := hKr.size
    have KE := Lib.hid (rev_any w1.heap.size u4 _ x _ hokx hvj hvx0 hxr hB0 hOr (by have := HLN.out j; omega) hBr)
    clear hrx0
    go_wp2_with (first | refine wpList_loadS (cs := evl x _) Tryz.underlying31 info_Ev rfl _ rfl hrx rfl ?_ | (go_at_call 23; refine KE.out.mono ?_; rintro e w5 ⟨v5, rfl, hO5, hK5⟩))
    refine ⟨⟨j + 1, by go_num, by omega, ?_, hKr.trans hK5⟩, ?_⟩
    ·have hjl : j < es.length := hlt
     rw [List.take_add_one, HJX.out]
     simp only [Option.toList_some]
     rw [encEs_snoc, ← List.append_assoc]
     exact hO5
    ·simp [intOf]; omega
   ·obtain rfl : j = es.length := by omega
    rw [List.take_length] at hOr
    clear HLN
    generalize ((uv es.length).data.toList ++ (encEs es).data.toList) = L at *
    obtain ⟨oa, ocap, rfl⟩ := hOr.sl
    have hcv := own_str (P := Tryz.prog) hOr Tryz.underlying39 Tryz.underlying5 Tryz.underlying9
    go_wp2_with fail
    go_ret2
    exact ⟨by rw [HR.out, HTX.out]; rfl, hxr⟩
end Go.Proofs.YtmdlgfnibjcgmaaGreatDoor
