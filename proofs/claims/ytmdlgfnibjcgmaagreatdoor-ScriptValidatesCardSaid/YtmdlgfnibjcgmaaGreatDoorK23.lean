/-
  Several texts joined: ScZ, SeC, ScI.
-/
import Derived.Test.YtmdlgfnibjcgmaaGreatDoorK22
import Derived.Test.YtmdlgfnibjcgmaaGreatDoorK19
import Derived.Test.YtmdlgfnibjcgmaaGreatDoorK07
set_option maxHeartbeats 16000000
set_option maxRecDepth 10000
set_option linter.unusedVariables false
set_option linter.unusedSimpArgs false
namespace Go.Proofs.YtmdlgfnibjcgmaaGreatDoor
open Go.RowKit
theorem rdec_scr (s : ByteArray) (w : World) : Calls Tryz.prog 32 #[.string s] w (DecP s w) := by
 have mixed : Tryz.prog.follows .mixedOrders = true := by kernel_rfl
 unfold DecP
 have KP := Lib.hid (fun (w' : World) (h : Rb 114 w' w.heap.size (.ok s)) => runum_i 0 1000 (by decide) (by decide) (by decide) (by decide) h)
 go_enter Tryz.func32, Tryz.ntmps32
 go_upto_region 2 with fail
 have hx := (Ext.refl w).alloc (.cells #[.string s, .int .i64 0] 114)
 have hr : Rb 114 (w.alloc (.cells #[.string s, .int .i64 0] 114)) w.heap.size (.ok s) := Blk.new w #[.string s, .int .i64 0] 114
 have K1 := Lib.hid (KP.out _ hr)
 generalize w.alloc (.cells #[.string s, .int .i64 0] 114) = w1 at *
 have hK := hx.keep [w.heap.size]
 obtain ⟨rb, hrb⟩ : ∃ n, n = w.heap.size := ⟨_, rfl⟩
 rw [← hrb] at hr hK K1 ⊢
 have hrw : w.heap.size <= rb := Nat.le_of_eq hrb.symm
 have hB1 : rb + 1 <= w1.heap.size := hr.lt
 clear hrb KP hx hr
 obtain ⟨p0, hp0⟩ : ∃ p0, rn 0 1000 (.ok s) = p0 := ⟨_, rfl⟩
 have hbd := rn_bd 0 1000 (.ok s) (by decide)
 rw [hp0] at hbd K1
 obtain ⟨n, hn⟩ : ∃ n : Nat, p0.1 = n := ⟨p0.1.toNat, by omega⟩
 rw [hn] at K1 hbd
 have HD : Hid (dec1 rre s = itl rre p0.2 n) := Lib.hid (by unfold dec1; rw [hp0, hn, Int.toNat_natCast])
 have qw : IntKind.i64.wrap (n : Int) = (n : Int) := IntWalk.i64_in _ (by omega)
 clear hp0 hn
 go_wp2_with (go_at_call 55; refine K1.out.mono ?_; rintro e w2 ⟨rfl, hr2, hk2⟩)
 have HR := Lib.hid hr2
 have HK := Lib.hid (hK.trans hk2)
 have HB : Hid (rb + 1 <= w2.heap.size) := Lib.hid (Nat.le_trans hB1 hk2.size)
 clear hr2 hk2 hK hB1 K1 qw
 go_loopw [6, 7] (fun l i wr => ∃ (j : Nat) (ps : List EvV), i = .int .i64 j /\ j <= n /\ Rb 114 wr rb (itl rre p0.2 j).2 /\ OEv (rb + 1) l ps wr /\ ps.length = j /\ (∀ s, (itl rre p0.2 j).2 = .ok s -> ps.map (·.1) = (itl rre p0.2 j).1) /\ Keep [rb] w wr /\ rb + 1 <= wr.heap.size) (fun _ i _ => n - (intOf i).toNat)
 case atStart => exact ⟨0, [], rfl, Nat.zero_le _, HR.out, OEv.nil _ _, rfl, fun _ _ => rfl, HK.out, HB.out⟩
 case round =>
  obtain ⟨j, ps, rfl, hj, hr, hO, hpl, hps, hK, hBr⟩ := hrel
  clear HR HK HB
  have HPL := Lib.hid hpl
  have HPS := Lib.hid hps
  clear hps hpl
  by_cases hlt : j < n
  ·have hlt' : (j : Int) < n := by omega
   have HMORE0 : Hid (∀ c, (itl rre p0.2 j).2 = .error c -> (dec1 rre s).2 = .error c) := Lib.hid (fun c h => by
    rw [HD.out]
    have := itl_more rre_stays p0.2 c j h (n - j)
    rw [show j + (n - j) = n by omega] at this
    exact this)
   cases hst : (itl rre p0.2 j).2 with
   | error c =>
    have HDS : Hid (decS s = .error c) := Lib.hid (dec1_err rre_like rre_stays (HMORE0.out c hst))
    rw [hst] at hr
    clear hst HMORE0 HPS
    have hr4 := hr
    obtain ⟨hc1, s8, hb8⟩ := hr4
    have c7 := hb8.cell (i := 1) rfl
    have q8 : (c == 0) = false := by simp [hc1]
    clear hb8 hc1
    go_upto_region 8 with fail
    clear c7 q8
    have HDR : Hid (decR s = ([], c)) := Lib.hid (by unfold decR; rw [HDS.out])
    obtain ⟨hc0, s9, hb9⟩ := hr
    have c8 := hb9.cell (i := 1) rfl
    have q9 : (c == 0) = false := by simp [hc0]
    have HX9 := Lib.hid hK
    clear hb9 hc0
    go_wp2_with fail
    go_region_o
    all_goals (go_wp2_with fail)
    all_goals go_ret2
    all_goals exact ⟨.slice none 0 0, by rw [HDR.out]; rfl, by rw [HDR.out]; exact EvsIn.nil _, by rw [HDR.out]; exact Nat.zero_le _, (keep_ext1 HX9.out hrw).drew⟩
   | ok s0 =>
    have HPS0 := Lib.hid (HPS.out s0 hst)
    have c1 : wr.cell? ⟨rb, 1, none⟩ = some (.int .i64 0) := by rw [hst] at hr; exact Blk.cell (show Blk wr rb [.string s0, .int .i64 0] 114 from hr) rfl
    have hj1 : IntKind.i64.wrap ((j : Int) + 1) = ((j + 1 : Nat) : Int) := by rw [IntWalk.i64_in _ (by omega)]; omega
    have KE := Lib.hid (rev_scr hr)
    have HIT : Hid (itl rre p0.2 (j + 1) = ((itl rre p0.2 j).1 ++ [(rre (itl rre p0.2 j).2).1], (rre (itl rre p0.2 j).2).2)) := Lib.hid rfl
    clear hst HMORE0 HPS
    generalize itl rre p0.2 j = it at *
    obtain ⟨i0, hiE, hzE, hsE, _⟩ := info_parts infoE
    have HIE := Lib.hid hiE
    have HZE := Lib.hid hzE
    have HSE := Lib.hid hsE
    clear hiE hzE hsE
    go_wp2_with (go_at_call 56; refine KE.out.mono ?_)
    rintro e w3 ⟨q, sl3, rfl, hok, ha3, hr3, hq3, hk3⟩
    dsimp only
    go_step
    have HQ3 := Lib.hid hq3
    replace hO := hO.keep hk3 (Nat.lt_succ_self rb)
    have hBr3 := Nat.le_trans hBr hk3.size
    replace hK := hK.trans hk3
    replace ha3 := ha3.mono hBr
    refine wpList_slit rfl 22 31 _ rfl rfl Tryz.underlying22 HIE.out HZE.out (by rw [HSE.out]; rfl) (show 0 < 8 by decide) (show 8 <= 1000 by decide) ?_
    have hxl := (Ext.refl w3).alloc (.cells (evl q sl3).toArray 31)
    have hL := Blk.new w3 (evl q sl3).toArray 31
    replace hO := hO.ext hxl
    replace ha3 := ha3.ext hxl
    replace hr3 := Rb.ext hr3 hxl
    replace hK := hK.trans (hxl.keep [rb])
    replace hBr3 := Nat.le_trans hBr3 hxl.size
    clear hxl hk3 hr hBr KE c1 hq3
    generalize w3.alloc (.cells (evl q sl3).toArray 31) = w4 at *
    generalize w3.heap.size = lb at *
    refine wpList_apE (q := (q, sl3)) rfl _ _ rfl hO rfl ⟨hok, ha3⟩ ha3.sl hL rfl (by have := HPL.out; omega) hBr3 ?_
    intro v7 w7 hO7 hg7
    replace hr3 := Rb.grownS hO.1 hr3 (by decide) hg7
    replace hK := Keep.grown hK hg7 (fun g hg => by have := (hO.1.lt g hg).1; omega)
    replace hBr3 := Nat.le_trans hBr3 hg7.size
    clear hO hg7 hL ha3
    obtain ⟨a7, c7, rfl⟩ := own_sl hO7.1
    have hlen : (ps ++ [(q, sl3)]).length = j + 1 := by rw [List.length_append, HPL.out]; rfl
    rw [hlen] at hO7 ⊢
    have HLEN := Lib.hid hlen
    clear hlen
    go_wp2_with fail
    refine ⟨⟨j + 1, ps ++ [(q, sl3)], by go_num, by omega, by rw [HIT.out]; exact hr3, hO7, HLEN.out, fun s2 h2 => ?_, hK, hBr3⟩, ?_⟩
    ·rw [HIT.out] at h2 ⊢
     rw [List.map_append, HPS0.out, ← HQ3.out s2 h2]; rfl
    ·simp [intOf]; omega
  ·obtain rfl : j = n := by omega
   rw [← HD.out] at hr HPS
   have HO := Lib.hid hO
   obtain ⟨la, lc, rfl⟩ := own_sl hO.1
   clear hO
   cases hst : (dec1 rre s).2 with
   | error c =>
    have HDS : Hid (decS s = .error c) := Lib.hid (dec1_err rre_like rre_stays hst)
    rw [hst] at hr
    clear hst HPS
    go_upto_region 8 with fail
    have HDR : Hid (decR s = ([], c)) := Lib.hid (by unfold decR; rw [HDS.out])
    obtain ⟨hc0, s9, hb9⟩ := hr
    have c8 := hb9.cell (i := 1) rfl
    have q9 : (c == 0) = false := by simp [hc0]
    have HX9 := Lib.hid hK
    clear hb9 hc0
    go_wp2_with fail
    go_region_o
    all_goals (go_wp2_with fail)
    all_goals go_ret2
    all_goals exact ⟨.slice none 0 0, by rw [HDR.out]; rfl, by rw [HDR.out]; exact EvsIn.nil _, by rw [HDR.out]; exact Nat.zero_le _, (keep_ext1 HX9.out hrw).drew⟩
   | ok s9 =>
    have HPS0 := Lib.hid (HPS.out s9 hst)
    have hds := dec1_ok rre_like rre_stays hst
    rw [hst] at hr
    clear hst HPS
    have hb9 : Blk wr rb [.string s9, .int .i64 0] 114 := hr
    have c9 := hb9.cell (i := 0) rfl
    have c8 := hb9.cell (i := 1) rfl
    have g8 := hb9.free 1
    have h9 := list_nil s9
    by_cases h0 : s9.size = 0
    ·have HDR : Hid (decR s = ((dec1 rre s).1, 0)) := Lib.hid (by unfold decR; rw [hds, if_pos h0])
     rw [decide_eq_true h0] at h9
     have HLL : Hid ((dec1 rre s).1.length <= 1000) := Lib.hid (by rw [← HPS0.out, List.length_map, HPL.out]; omega)
     clear h0 hds hb9 hr
     go_wp2_with fail
     go_ret2
     refine ⟨_, by rw [HDR.out]; rfl, ?_, by rw [HDR.out]; exact HLL.out, keep_ext1 hK hrw⟩
     rw [HDR.out]
     have he := HO.out.evs
     rw [HPS0.out] at he
     exact he
    ·have HDR : Hid (decR s = ([], 2)) := Lib.hid (by unfold decR; rw [hds, if_neg h0])
     rw [decide_eq_false h0] at h9
     have HY9 := Lib.hid (hK.trans (kset wr rb 1 (.int .i64 2)))
     have d8 : (wr.setCell ⟨rb, 1, none⟩ (.int .i64 2)).cell? ⟨rb, 1, none⟩ = some (.int .i64 2) := (Blk.set hb9 1 (.int .i64 2)).cell rfl
     clear h0 hds hb9 hr
     go_upto_region 10 with fail
     clear c9 c8 g8 h9
     generalize wr.setCell ⟨rb, 1, none⟩ (.int .i64 2) = w9 at *
     go_wp2_with fail
     go_region_o
     all_goals (go_wp2_with fail)
     all_goals go_ret2
     all_goals exact ⟨.slice none 0 0, by rw [HDR.out]; rfl, by rw [HDR.out]; exact EvsIn.nil _, by rw [HDR.out]; exact Nat.zero_le _, (keep_ext1 HY9.out hrw).drew⟩
open Go.RowKit
theorem sevs_any (es : List Ev) (sl : Value) (most : Nat) (hm : most <= 1000) {w : World} (hA : EvsIn w sl es) (hl : es.length <= maxLen) :
  Calls Tryz.prog 7 #[sl, .int .i64 most] w fun e w' => ∃ (qs : List Ev) (s2 : Value), e = .returned s2 /\ EvsIn w' s2 qs /\ qs.length <= most /\ Ext w w' := by
 obtain ⟨a, cap, rfl⟩ := hA.len
 have hb := hl
 unfold maxLen at hb
 have HA := Lib.hid hA
 clear hA
 obtain ⟨i0, hiE, hzE, hsE, _⟩ := info_parts infoE
 have HIE := Lib.hid hiE
 have HZE := Lib.hid hzE
 have HSE := Lib.hid hsE
 clear hiE hzE hsE
 go_enter Tryz.func7, Tryz.ntmps7
 go_wp2_with fail
 go_loopw [5, 6] (fun v i wr => ∃ (j : Nat) (ps : List EvV), i = .int .i64 j /\ j <= most /\ ps.length = j /\ OEo w.heap.size v ps wr /\ Ext w wr) (fun _ i _ => most - (intOf i).toNat)
 case atStart => exact ⟨0, [], rfl, Nat.zero_le _, rfl, OEo.nil _ _, Ext.refl _⟩
 case round =>
  obtain ⟨j, ps, rfl, hj, hpl, hO, hxr⟩ := hrel
  have HPL := Lib.hid hpl
  clear hpl
  by_cases hlt : j < es.length /\ j < most
  ·obtain ⟨hlt1, hlt2⟩ := hlt
   have hlt1' : (j : Int) < es.length := by omega
   have hlt2' : (j : Int) < most := by omega
   obtain ⟨x, hjx⟩ : ∃ x, es[j]? = some x := ⟨es[j]'hlt1, List.getElem?_eq_getElem hlt1⟩
   obtain ⟨ab, off, v, rfl, hab0, hokx, hvx0, hrx0, hcap⟩ := HA.out.get hjx
   have hrx := rangeAt_ext hrx0 hab0 hxr
   have KS := Lib.hid (sev_any x v hokx hvx0 hxr (Nat.le_refl w.heap.size))
   clear hjx hrx0
   have hj1 : IntKind.i64.wrap ((j : Int) + 1) = ((j + 1 : Nat) : Int) := by rw [IntWalk.i64_in _ (by omega)]; omega
   go_wp2_with (first | refine wpList_loadS (cs := evl x v) Tryz.underlying31 info_Ev rfl _ rfl hrx rfl ?_ | (go_at_call 18; refine KS.out.mono ?_))
   rintro e w3 ⟨q, sl3, rfl, hok, ha3, hx3⟩
   dsimp only
   go_step
   replace hO := hO.ext hx3
   refine wpList_slit rfl 22 31 _ rfl rfl Tryz.underlying22 HIE.out HZE.out (by rw [HSE.out]; rfl) (show 0 < 8 by decide) (show 8 <= 1000 by decide) ?_
   have hxl := (Ext.refl w3).alloc (.cells (evl q sl3).toArray 31)
   have hL := Blk.new w3 (evl q sl3).toArray 31
   replace hO := hO.ext hxl
   replace ha3 := ha3.ext hxl
   have hxw := (hxr.trans hx3).trans hxl
   clear hxl hx3 hxr KS hrx
   generalize w3.alloc (.cells (evl q sl3).toArray 31) = w4 at *
   generalize w3.heap.size = lb at *
   refine wpList_apEo (q := (q, sl3)) rfl _ _ rfl hO rfl ⟨hok, ha3⟩ hL rfl (by have := HPL.out; omega) hxw.size ?_
   intro v7 w7 hO7 hg7
   replace hxw := Ext.grown hxw hg7 (fun g hg => (hO.1.lt g hg).1)
   clear hO hg7 hL ha3
   obtain ⟨a7, c7, rfl⟩ := own_sl hO7.1
   have hlen : (ps ++ [(q, sl3)]).length = j + 1 := by rw [List.length_append, HPL.out]; rfl
   rw [hlen] at hO7 ⊢
   have HLEN := Lib.hid hlen
   clear hlen
   go_wp2_with fail
   refine ⟨⟨j + 1, ps ++ [(q, sl3)], by go_num, by omega, HLEN.out, hO7, hxw⟩, ?_⟩
   simp [intOf]; omega
  ·have HE := Lib.hid hO.evs
   have HQ : Hid ((ps.map (·.1)).length <= most) := Lib.hid (by rw [List.length_map, HPL.out]; exact hj)
   by_cases hlt1 : j < es.length
   ·have hlt1' : (j : Int) < es.length := by omega
    have hlt2' : ¬ (j : Int) < most := by omega
    go_wp2_with fail
    go_ret
    exact ⟨_, _, rfl, HE.out, HQ.out, hxr⟩
   ·have hlt1' : ¬ (j : Int) < es.length := by omega
    go_wp2_with fail
    go_ret
    exact ⟨_, _, rfl, HE.out, HQ.out, hxr⟩
theorem agr_any (s : ByteArray) (w : World) : Calls Tryz.prog 17 #[.string s] w fun e w' => e = .returned (.bool true) /\ Ext w w' := by
 have K1 := Lib.hid (fun w => pdec_scr s w)
 have K2 := Lib.hid (fun w => rdec_scr s w)
 unfold DecP at K1 K2
 generalize decR s = r at *
 obtain ⟨l, c⟩ := r
 simp only at K1 K2
 go_enter Tryz.func17, Tryz.ntmps17
 go_upto_region 2 with (go_at_call 14; refine (K1.out _).mono ?_; rintro e w1 ⟨s1, rfl, he1, hl1, hx1⟩)
 go_upto_region 3 with (go_at_call 32; refine (K2.out _).mono ?_; rintro e w2 ⟨s2, rfl, he2, hl2, hx2⟩)
 have KE := Lib.hid (eqEs l s1 s2 (he1.ext hx2) he2 (by unfold maxLen; omega))
 clear he1 he2 K1 K2
 go_wp2_with (go_at_call 15; refine KE.out.mono ?_; rintro e w3 ⟨rfl, hx3⟩)
 go_ret
 exact ⟨rfl, (hx1.trans hx2).trans hx3⟩
open Go.RowKit
theorem uvb_lt {f m : Nat} (h : m < 128) : uvb f m = str1 m := by
 cases f with
 | zero => rfl
 | succ f => unfold uvb; rw [if_pos h]
theorem uvb_ge {f m : Nat} (h : 128 <= m) : uvb (f + 1) m = str1 (m % 128 + 128 : Nat) ++ uvb f (m / 128) := by
 conv => lhs; unfold uvb
 rw [if_neg (by omega)]
theorem pow_abs {m : Nat} (h : m < 128 ^ 0 * 2) (hn : ¬ m < 128) : False := by
 rw [Nat.pow_zero] at h; omega
theorem pow_down {m f : Nat} (h : m < 128 ^ (f + 1) * 2) : m / 128 < 128 ^ f * 2 := by
 rw [Nat.pow_succ] at h; omega
theorem str1_list (a : Int) : (str1 a).data.toList = [UInt8.ofNat a.toNat] := rfl
theorem or_128 : ∀ r : Fin 256, bits BinOp.or IntKind.u8 (r.1 : Int) 128 = ((r.1 % 128 + 128 : Nat) : Int) := by decide +kernel
theorem or_128' (m : Nat) : bits BinOp.or IntKind.u8 (IntKind.u8.wrap (m : Int)) 128 = ((m % 128 + 128 : Nat) : Int) := by
 have e : IntKind.u8.wrap (m : Int) = ((m % 256 : Nat) : Int) := by rw [IntKind.wrap_u8]; omega
 rw [e, or_128 ⟨m % 256, by omega⟩]
 simp only
 omega
theorem uvb_lenb (f n : Nat) : (uvb f n).data.toList.length <= f + 1 := by rw [← size_list]; exact (uvb_size f n).2
theorem wnum_any (B b : Nat) (z : List UInt8) (n : Nat) (hn : n < 18446744073709551616) (w : World) (h : Wr B b z w) (hlen : z.length <= 10000000000) (hBw : B <= w.heap.size) :
  Calls Tryz.prog 19 #[.pointer (some ⟨b, 0, none⟩), .int .u64 n] w fun e w' => e = .returned (.tuple #[]) /\ Wr B b (z ++ (uv n).data.toList) w' /\ Kt (some b) B w w' := by
 have KW := Lib.hid (fun (y : List UInt8) (c : Int) (h0 : 0 <= c) (h1 : c < 256) (w : World) (h : Wr B b y w) (hl : y.length <= 100000000000000) (hB : B <= w.heap.size) => wbyte_any B b y c h0 h1 w h hl hB)
 have HS := Lib.hid (show ∃ (f : Nat) (pre : List UInt8), n < 128 ^ f * 2 /\ f + pre.length = 9 /\ pre ++ (uvb f n).data.toList = (uv n).data.toList /\ Wr B b (z ++ pre) w from ⟨9, [], by rw [show 128 ^ 9 * 2 = 18446744073709551616 from by decide]; exact hn, rfl, rfl, by rw [List.append_nil]; exact h⟩)
 have HL : Hid (z.length <= 10000000000) := Lib.hid hlen
 have HB : Hid (B <= w.heap.size) := Lib.hid hBw
 clear h hlen hBw
 go_enter Tryz.func19, Tryz.ntmps19
 go_wp2_with fail
 go_loopw [1] (fun i wr => ∃ m : Nat, i = .int .u64 m /\ m < 18446744073709551616 /\ Kt (some b) B w wr /\ ∃ (f : Nat) (pre : List UInt8), m < 128 ^ f * 2 /\ f + pre.length = 9 /\ pre ++ (uvb f m).data.toList = (uv n).data.toList /\ Wr B b (z ++ pre) wr) (fun i _ => (intOf i).toNat)
 case atStart => exact ⟨n, rfl, hn, Kt.refl _ _ _, HS.out⟩
 case round =>
  obtain ⟨m, rfl, hm, hK, hrest⟩ := hrel
  obtain ⟨f, pre, hf, hpl, heq, hW⟩ := hrest
  have HF := Lib.hid hf
  have HPL := Lib.hid hpl
  have HE := Lib.hid heq
  have HW := Lib.hid hW
  have HK := Lib.hid hK
  have HLZ : Hid ((z ++ pre).length <= 100000000000000) := Lib.hid (by have := HL.out; rw [List.length_append]; omega)
  have HBr : Hid (B <= wr.heap.size) := Lib.hid (Nat.le_trans HB.out hK.size)
  clear hf hpl heq hW hK HS
  by_cases hlt : m < 128
  ·have hlt' : (m : Int) < 128 := by omega
   have q8 : IntKind.u8.wrap (m : Int) = (m : Int) := by rw [IntKind.wrap_u8]; omega
   have q8' : (m : Int) % 256 = (m : Int) := by omega
   have KB := Lib.hid (KW.out (z ++ pre) m (by omega) (by omega) wr HW.out HLZ.out HBr.out)
   clear KW
   go_wp2_with (go_at_call 35; refine KB.out.mono ?_; rintro e w2 ⟨rfl, hW2, hK2⟩)
   go_end0
   refine ⟨rfl, ?_, HK.out.trans hK2⟩
   have e1 := HE.out
   rw [uvb_lt hlt, str1_list] at e1
   rw [← e1, ← List.append_assoc]
   exact hW2
  ·have hge' : ¬ (m : Int) < 128 := by omega
   have hge : (128 : Int) <= m := by omega
   obtain ⟨y, hy⟩ : ∃ y : Int, y = ((m % 128 + 128 : Nat) : Int) := ⟨_, rfl⟩
   have hy0 : 0 <= y := by omega
   have hy1 : y < 256 := by omega
   have q8 : bits BinOp.or IntKind.u8 (IntKind.u8.wrap (m : Int)) 128 = y := by rw [hy]; exact or_128' m
   have q8' : bits BinOp.or IntKind.u8 ((m : Int) % 256) 128 = y := by rw [← IntKind.wrap_u8]; exact q8
   have HY := Lib.hid hy
   clear hy
   have KB := Lib.hid (KW.out (z ++ pre) y hy0 hy1 wr HW.out HLZ.out HBr.out)
   clear KW
   go_wp2_with (go_at_call 35; refine KB.out.mono ?_; rintro e w2 ⟨rfl, hW2, hK2⟩)
   cases f with
   | zero => exact (pow_abs HF.out hlt).elim
   | succ f =>
    refine ⟨⟨m / 128, by go_num, by omega, HK.out.trans hK2, f, pre ++ [UInt8.ofNat y.toNat], ?_, ?_, ?_, by rw [← List.append_assoc]; exact hW2⟩, ?_⟩
    ·exact pow_down HF.out
    ·have := HPL.out
     rw [List.length_append]; simp; omega
    ·have e1 := HE.out
     rw [uvb_ge (by omega), data_append, str1_list, ← HY.out] at e1
     rw [← e1, List.append_assoc]
    ·simp [intOf]; omega
theorem optl_any (B b : Nat) (z : List UInt8) (p : Bool) (n : Int) (hn0 : 0 <= n) (hn : n <= 9223372036854775807) (w : World) (h : Wr B b z w) (hlen : z.length <= 10000000000) (hBw : B <= w.heap.size) :
  Calls Tryz.prog 37 #[.pointer (some ⟨b, 0, none⟩), .bool p, .int .i64 n] w fun e w' => e = .returned (.tuple #[]) /\ Wr B b (z ++ (opt p n).data.toList) w' /\ Kt (some b) B w w' := by
 obtain ⟨m, rfl⟩ : ∃ m : Nat, n = m := ⟨n.toNat, by omega⟩
 have KN := Lib.hid (wnum_any B b z m (by omega) w h hlen hBw)
 have q : IntKind.u64.wrap (m : Int) = (m : Int) := by rw [IntKind.wrap_u64]; omega
 have HW := Lib.hid h
 clear h
 cases p with
 | true =>
  have e : opt true (m : Int) = uv m := by unfold opt; rw [if_pos rfl, Int.toNat_natCast]
  have HE := Lib.hid e
  clear e
  go_enter Tryz.func37, Tryz.ntmps37
  go_wp2_with (go_at_call 19; refine KN.out.mono ?_; rintro e w2 ⟨rfl, hW2, hK2⟩)
  go_end0
  exact ⟨rfl, by rw [HE.out]; exact hW2, hK2⟩
 | false =>
  go_enter Tryz.func37, Tryz.ntmps37
  go_wp2_with fail
  go_end0
  exact ⟨rfl, by rw [show (opt false (m : Int)).data.toList = [] from rfl, List.append_nil]; exact HW.out, Kt.refl _ _ _⟩
theorem b2i_any (p : Bool) (w : World) : Calls Tryz.prog 38 #[.bool p] w fun e w' => e = .returned (.int .i64 (if p then 1 else 0)) /\ w = w' := by
 go_enter Tryz.func38, Tryz.ntmps38
 cases p with
 | true =>
  go_wp2_with fail
  go_ret
  exact ⟨rfl, rfl⟩
 | false =>
  go_wp2_with fail
  go_ret
  exact ⟨rfl, rfl⟩
end Go.Proofs.YtmdlgfnibjcgmaaGreatDoor
