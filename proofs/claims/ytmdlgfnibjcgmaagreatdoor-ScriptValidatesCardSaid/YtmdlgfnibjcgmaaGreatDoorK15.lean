/-
  Several texts joined: ScW.
-/
import Derived.Shelf.RegionOpenPlain
import Derived.Test.YtmdlgfnibjcgmaaGreatDoorK14
set_option maxHeartbeats 16000000
set_option maxRecDepth 10000
set_option linter.unusedVariables false
set_option linter.unusedSimpArgs false
namespace Go.Proofs.YtmdlgfnibjcgmaaGreatDoor
open Go.RowKit
theorem dec1_ok {g : St -> Ev × St} (hg : ∀ s, Like (g (.ok s)) (rde s)) (hs : Stays g) {s s' : ByteArray} (h : (dec1 g s).2 = .ok s') : decS s = if s'.size = 0 then .ok (dec1 g s).1 else .error 2 := by
 have hn : rn 0 1000 (.ok s) = (match rdn 0 1000 s with | .ok (n, s') => (n, .ok s') | .error c => (0, .error c)) := rfl
 unfold dec1 at *
 unfold decS
 rcases hq : rdn 0 1000 s with c | ⟨n, s1⟩
 ·rw [hq] at hn; simp only at hn; rw [hn] at h; cases h
 ·rw [hq] at hn; simp only at hn; rw [hn] at h ⊢
  rw [ok_bind]
  simp only at h ⊢
  have h1 := itl_evs hg hs s1 n.toNat
  rcases hr : rdes n.toNat s1 with c | ⟨l, s2⟩
  ·rw [hr] at h1; unfold Like at h1
   rw [show (itl g (.ok s1) n.toNat).2 = .error c from h1] at h; cases h
  ·rw [hr] at h1; unfold Like at h1
   rw [show itl g (.ok s1) n.toNat = (l, .ok s2) from h1] at h ⊢
   cases h
   rfl
theorem dec1_err {g : St -> Ev × St} (hg : ∀ s, Like (g (.ok s)) (rde s)) (hs : Stays g) {s : ByteArray} {c : Int} (h : (dec1 g s).2 = .error c) : decS s = .error c := by
 have hn : rn 0 1000 (.ok s) = (match rdn 0 1000 s with | .ok (n, s') => (n, .ok s') | .error c => (0, .error c)) := rfl
 unfold dec1 at *
 unfold decS
 rcases hq : rdn 0 1000 s with c1 | ⟨n, s1⟩
 ·rw [hq] at hn; simp only at hn; rw [hn] at h; cases h; rfl
 ·rw [hq] at hn; simp only at hn; rw [hn] at h
  rw [ok_bind]
  simp only at h ⊢
  have h1 := itl_evs hg hs s1 n.toNat
  rcases hr : rdes n.toNat s1 with c2 | ⟨l, s2⟩
  ·rw [hr] at h1; unfold Like at h1
   rw [show (itl g (.ok s1) n.toNat).2 = .error c2 from h1] at h; cases h; rfl
  ·rw [hr] at h1; unfold Like at h1
   rw [show itl g (.ok s1) n.toNat = (l, .ok s2) from h1] at h; cases h
def decR (s : ByteArray) : List Ev × Int := match decS s with
 | .ok l => (l, 0)
 | .error c => ([], c)
theorem AdsAt.mono {B C : Nat} {w : World} {sl : Value} {l : List Adr} (h : AdsAt B w sl l) (hb : C <= B) : AdsAt C w sl l := ⟨h.1, fun b off n c e => ⟨Nat.le_trans hb (h.2 b off n c e).1, (h.2 b off n c e).2⟩⟩
theorem AdsAt.sl {B : Nat} {w : World} {sl : Value} {l : List Adr} (h : AdsAt B w sl l) : ∃ a n c, sl = .slice a n c := by obtain ⟨⟨a, cap, h, _⟩, _⟩ := h; exact ⟨a, _, cap, h⟩
theorem AdsAt.ext {B : Nat} {w w' : World} {sl : Value} {l : List Adr} (h : AdsAt B w sl l) (k : Ext w w') : AdsAt B w' sl l :=
 ⟨h.1.ext k, fun b off n c e => by obtain ⟨hB, cs, fz, hg⟩ := h.2 b off n c e; exact ⟨hB, cs, fz, (Below.block k b (Array.getElem?_eq_some_iff.1 hg).1).trans hg⟩⟩
theorem OEv.ext {B : Nat} {v : Value} {l : List EvV} {w w' : World} (h : OEv B v l w) (k : Ext w w') : OEv B v l w' := ⟨ownsRow_keep h.1 (k.keep []) (fun g hg => by cases hg), fun x hx => ⟨(h.2 x hx).1, (h.2 x hx).2.ext k⟩⟩
def DecP (s : ByteArray) (w : World) (e : Ending) (w' : World) : Prop := ∃ sl, e = .returned (.tuple #[sl, .int .i64 (decR s).2]) /\ EvsIn w' sl (decR s).1 /\ (decR s).1.length <= 1000 /\ Ext w w'
theorem EvsIn.nil (w : World) : EvsIn w (.slice none 0 0) [] := ⟨none, 0, rfl, Nat.le_refl _, fun h => absurd h (by simp), fun i e h => by simp at h⟩
theorem keep_ext1 {w w' : World} {n : Nat} (h : Keep [n] w w') (hn : w.heap.size <= n) : Ext w w' := h.ext (fun x hx => by simp at hx; omega)
theorem list_nil (s : ByteArray) : (s.toList == []) = decide (s.size = 0) := by
 rw [ByteArray.toList_eq, size_list]
 cases s.data.toList <;> simp
theorem pdec_scr (s : ByteArray) (w : World) : Calls Tryz.prog 14 #[.string s] w (DecP s w) := by
 have mixed : Tryz.prog.follows .mixedOrders = true := by kernel_rfl
 unfold DecP
 have KP := Lib.hid (fun (w' : World) (h : Rb 65 w' w.heap.size (.ok s)) => popt_i true 1000 (by decide) (by decide) h)
 go_enter Tryz.func14, Tryz.ntmps14
 go_upto_region 3 with fail
 have hx := (Ext.refl w).alloc (.cells #[.string s, .int .i64 0] 65)
 have hr : Rb 65 (w.alloc (.cells #[.string s, .int .i64 0] 65)) w.heap.size (.ok s) := Blk.new w #[.string s, .int .i64 0] 65
 have K1 := Lib.hid (KP.out _ hr)
 generalize w.alloc (.cells #[.string s, .int .i64 0] 65) = w1 at *
 have hK := hx.keep [w.heap.size]
 obtain ⟨rb, hrb⟩ : ∃ n, n = w.heap.size := ⟨_, rfl⟩
 rw [← hrb] at hr hK K1 ⊢
 have hrw : w.heap.size <= rb := Nat.le_of_eq hrb.symm
 have hB1 : rb + 1 <= w1.heap.size := hr.lt
 clear hrb KP hx hr
 generalize hp0 : rn 0 1000 (.ok s) = p0 at *
 have K2 : Hid (Calls Tryz.prog 28 #[.pointer (some ⟨rb, 0, none⟩), .bool true, .int .i64 1000] w1 fun e w' => e = .returned (.int .i64 p0.1) /\ Rb 65 w' rb p0.2 /\ Keep [rb] w1 w') := Lib.hid (by rw [← hp0]; exact K1.out)
 have hbd := rn_bd 0 1000 (.ok s) (by decide)
 rw [hp0] at hbd
 obtain ⟨n, hn⟩ : ∃ n : Nat, p0.1 = n := ⟨p0.1.toNat, by omega⟩
 rw [hn] at K2 hbd
 have HD : Hid (dec1 re s = itl re p0.2 n) := Lib.hid (by unfold dec1; rw [hp0, hn, Int.toNat_natCast])
 clear hp0 hn K1
 go_wp2_with (go_at_call 28; refine K2.out.mono ?_; rintro e w2 ⟨rfl, hr2, hk2⟩)
 have HR := Lib.hid hr2
 have HK := Lib.hid (hK.trans hk2)
 have HB : Hid (rb + 1 <= w2.heap.size) := Lib.hid (Nat.le_trans hB1 hk2.size)
 clear hr2 hk2 hK hB1 K2
 go_loopw [5, 11] (fun l i wr => ∃ (j : Nat) (ps : List EvV), i = .int .i64 j /\ j <= n /\ Rb 65 wr rb (itl re p0.2 j).2 /\ OEv (rb + 1) l ps wr /\ ps.map (·.1) = (itl re p0.2 j).1 /\ Keep [rb] w wr /\ rb + 1 <= wr.heap.size) (fun _ i _ => n - (intOf i).toNat)
 case atStart => exact ⟨0, [], rfl, Nat.zero_le _, HR.out, OEv.nil _ _, rfl, HK.out, HB.out⟩
 case round =>
  obtain ⟨j, ps, rfl, hj, hr, hO, hps, hK, hBr⟩ := hrel
  clear HR HK HB
  have HPS := Lib.hid hps
  have hpl : ps.length = j := by rw [← List.length_map (f := fun x : EvV => x.1), hps, itl_len]
  clear hps
  by_cases hlt : j < n
  ·have hlt' : (j : Int) < n := by omega
   have hj1 : IntKind.i64.wrap ((j : Int) + 1) = ((j + 1 : Nat) : Int) := by rw [IntWalk.i64_in _ (by omega)]; omega
   have KE := Lib.hid (pev_any hr)
   have HIT : Hid (itl re p0.2 (j + 1) = ((itl re p0.2 j).1 ++ [(re (itl re p0.2 j).2).1], (re (itl re p0.2 j).2).2)) := Lib.hid rfl
   have HMORE : Hid (∀ c, (itl re p0.2 (j + 1)).2 = .error c -> (dec1 re s).2 = .error c) := Lib.hid (fun c h => by
    rw [HD.out]
    have := itl_more re_stays p0.2 c (j + 1) h (n - (j + 1))
    rw [show j + 1 + (n - (j + 1)) = n by omega] at this
    exact this)
   have hok := re_ok (itl re p0.2 j).2
   generalize itl re p0.2 j = it at *
   generalize re it.2 = q at *
   obtain ⟨i0, hiE, hzE, hsE, _⟩ := info_parts infoE
   have HIE := Lib.hid hiE
   have HZE := Lib.hid hzE
   have HSE := Lib.hid hsE
   clear hiE hzE hsE
   go_wp2_with (go_at_call 29; refine KE.out.mono ?_)
   rintro e w3 ⟨sl3, rfl, ha3, hr3, hk3⟩
   dsimp only
   go_step
   replace hO := hO.keep hk3 (Nat.lt_succ_self rb)
   have hBr3 := Nat.le_trans hBr hk3.size
   replace hK := hK.trans hk3
   replace ha3 := ha3.mono hBr
   refine wpList_slit rfl 22 31 _ rfl rfl Tryz.underlying22 HIE.out HZE.out (by rw [HSE.out]; rfl) (show 0 < 8 by decide) (show 8 <= 1000 by decide) ?_
   have hxl := (Ext.refl w3).alloc (.cells (evl q.1 sl3).toArray 31)
   have hL := Blk.new w3 (evl q.1 sl3).toArray 31
   replace hO := hO.ext hxl
   replace ha3 := ha3.ext hxl
   replace hr3 := Rb.ext hr3 hxl
   replace hK := hK.trans (hxl.keep [rb])
   replace hBr3 := Nat.le_trans hBr3 hxl.size
   clear hxl hk3 hr hBr KE
   generalize w3.alloc (.cells (evl q.1 sl3).toArray 31) = w4 at *
   generalize w3.heap.size = lb at *
   refine wpList_apE (q := (q.1, sl3)) rfl _ _ rfl hO rfl ⟨hok, ha3⟩ ha3.sl hL rfl (by omega) hBr3 ?_
   intro v7 w7 hO7 hg7
   replace hr3 := Rb.grownS hO.1 hr3 (by decide) hg7
   replace hK := Keep.grown hK hg7 (fun g hg => by have := (hO.1.lt g hg).1; omega)
   replace hBr3 := Nat.le_trans hBr3 hg7.size
   clear hO hg7 hL ha3
   obtain ⟨a7, c7, rfl⟩ := own_sl hO7.1
   have hlen : (ps ++ [(q.1, sl3)]).length = j + 1 := by rw [List.length_append, hpl]; rfl
   rw [hlen] at hO7 ⊢
   have HO7 := Lib.hid hO7
   clear hO7 hlen hpl
   cases hq2 : q.2 with
   | error c =>
    have HDS : Hid (decS s = .error c) := Lib.hid (dec1_err re_like re_stays (HMORE.out c (by rw [HIT.out]; exact hq2)))
    rw [hq2] at hr3
    have hr4 := hr3
    obtain ⟨hc1, s8, hb8⟩ := hr3
    have c7 := hb8.cell (i := 1) rfl
    have q8 : (c == 0) = false := by simp [hc1]
    clear hq2 hb8 hc1
    go_upto_region 8 with fail
    clear c7 q8
    have HDR : Hid (decR s = ([], c)) := Lib.hid (by unfold decR; rw [HDS.out])
    obtain ⟨hc0, s9, hb9⟩ := hr4
    have c9 := hb9.cell (i := 0) rfl
    have c8 := hb9.cell (i := 1) rfl
    have q9 : (c == 0) = false := by simp [hc0]
    have KL := Lib.hid (fail_any 2 (by decide) (x := .error c) (show Rb 65 _ rb (.error c) from ⟨hc0, s9, hb9⟩))
    have HX9 := Lib.hid hK
    cases h9 : (s9.toList == []) with
    | true =>
     clear hb9
     go_wp2_with fail
     go_region_o
     all_goals (go_wp2_with fail)
     all_goals go_ret2
     all_goals exact ⟨.slice none 0 0, by rw [HDR.out]; rfl, by rw [HDR.out]; exact EvsIn.nil _, by rw [HDR.out]; exact Nat.zero_le _, (keep_ext1 HX9.out hrw).drew⟩
    | false =>
     go_upto_region 10 with (go_at_call 30; refine KL.out.mono ?_; rintro e w9 ⟨rfl, hr9, hk9⟩)
     have HY9 := Lib.hid (hK.trans hk9)
     obtain ⟨_, s7, hb7⟩ := hr9
     have d8 := hb7.cell (i := 1) rfl
     clear hb9 hb7 c9 c8
     go_wp2_with fail
     go_region_o
     all_goals (go_wp2_with fail)
     all_goals go_ret2
     all_goals exact ⟨.slice none 0 0, by rw [HDR.out]; rfl, by rw [HDR.out]; exact EvsIn.nil _, by rw [HDR.out]; exact Nat.zero_le _, (keep_ext1 HY9.out hrw).drew⟩
   | ok s1 =>
    rw [hq2] at hr3
    have c7 := Blk.cell (show Blk w7 rb [.string s1, .int .i64 0] 65 from hr3) (i := 1) rfl
    have HQ2 := Lib.hid hq2
    clear hq2
    go_wp2_with fail
    refine ⟨⟨j + 1, ps ++ [(q.1, sl3)], by go_num, by omega, by rw [HIT.out]; simp only; rw [HQ2.out]; exact hr3, HO7.out, by rw [HIT.out, List.map_append, HPS.out]; rfl, hK, hBr3⟩, ?_⟩
    simp [intOf]; omega
  ·obtain rfl : j = n := by omega
   rw [← HD.out] at hr HPS
   have HO := Lib.hid hO
   obtain ⟨la, lc, rfl⟩ := own_sl hO.1
   clear hO
   cases hst : (dec1 re s).2 with
   | error c =>
    have HDS : Hid (decS s = .error c) := Lib.hid (dec1_err re_like re_stays hst)
    rw [hst] at hr
    clear hst
    go_upto_region 8 with fail
    have HDR : Hid (decR s = ([], c)) := Lib.hid (by unfold decR; rw [HDS.out])
    obtain ⟨hc0, s9, hb9⟩ := hr
    have c9 := hb9.cell (i := 0) rfl
    have c8 := hb9.cell (i := 1) rfl
    have q9 : (c == 0) = false := by simp [hc0]
    have KL := Lib.hid (fail_any 2 (by decide) (x := .error c) (show Rb 65 _ rb (.error c) from ⟨hc0, s9, hb9⟩))
    have HX9 := Lib.hid hK
    cases h9 : (s9.toList == []) with
    | true =>
     clear hb9
     go_wp2_with fail
     go_region_o
     all_goals (go_wp2_with fail)
     all_goals go_ret2
     all_goals exact ⟨.slice none 0 0, by rw [HDR.out]; rfl, by rw [HDR.out]; exact EvsIn.nil _, by rw [HDR.out]; exact Nat.zero_le _, (keep_ext1 HX9.out hrw).drew⟩
    | false =>
     go_upto_region 10 with (go_at_call 30; refine KL.out.mono ?_; rintro e w9 ⟨rfl, hr9, hk9⟩)
     have HY9 := Lib.hid (hK.trans hk9)
     obtain ⟨_, s7, hb7⟩ := hr9
     have d8 := hb7.cell (i := 1) rfl
     clear hb9 hb7 c9 c8
     go_wp2_with fail
     go_region_o
     all_goals (go_wp2_with fail)
     all_goals go_ret2
     all_goals exact ⟨.slice none 0 0, by rw [HDR.out]; rfl, by rw [HDR.out]; exact EvsIn.nil _, by rw [HDR.out]; exact Nat.zero_le _, (keep_ext1 HY9.out hrw).drew⟩
   | ok s9 =>
    have hds := dec1_ok re_like re_stays hst
    rw [hst] at hr
    clear hst
    have hb9 : Blk wr rb [.string s9, .int .i64 0] 65 := hr
    have c9 := hb9.cell (i := 0) rfl
    have c8 := hb9.cell (i := 1) rfl
    have h9 := list_nil s9
    by_cases h0 : s9.size = 0
    ·have HDR : Hid (decR s = ((dec1 re s).1, 0)) := Lib.hid (by unfold decR; rw [hds, if_pos h0])
     rw [decide_eq_true h0] at h9
     have HLL : Hid ((dec1 re s).1.length <= 1000) := Lib.hid (by rw [← HPS.out, List.length_map, hpl]; omega)
     clear h0 hds hb9 hr
     go_wp2_with fail
     go_ret2
     refine ⟨_, by rw [HDR.out]; rfl, ?_, by rw [HDR.out]; exact HLL.out, keep_ext1 hK hrw⟩
     rw [HDR.out]
     have he := HO.out.evs
     rw [HPS.out] at he
     exact he
    ·have HDR : Hid (decR s = ([], 2)) := Lib.hid (by unfold decR; rw [hds, if_neg h0])
     rw [decide_eq_false h0] at h9
     have KL := Lib.hid (fail_any 2 (by decide) hr)
     clear h0 hds hb9 hr
     go_upto_region 10 with (go_at_call 30; refine KL.out.mono ?_; rintro e w9 ⟨rfl, hr9, hk9⟩)
     have HY9 := Lib.hid (hK.trans hk9)
     obtain ⟨_, s7, hb7⟩ := hr9
     have d8 := hb7.cell (i := 1) rfl
     clear hb7 c9 c8
     go_wp2_with fail
     go_region_o
     all_goals (go_wp2_with fail)
     all_goals go_ret2
     all_goals exact ⟨.slice none 0 0, by rw [HDR.out]; rfl, by rw [HDR.out]; exact EvsIn.nil _, by rw [HDR.out]; exact Nat.zero_le _, (keep_ext1 HY9.out hrw).drew⟩
end Go.Proofs.YtmdlgfnibjcgmaaGreatDoor
