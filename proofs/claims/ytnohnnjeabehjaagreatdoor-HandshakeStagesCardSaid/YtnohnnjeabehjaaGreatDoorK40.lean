/-
  Several texts joined: HuM, HcFr, HuO, LawR, LawW.
-/
import Derived.Test.YtnohnnjeabehjaaGreatDoorK39
import Derived.Test.YtnohnnjeabehjaaGreatDoorK26
import Derived.Test.YtnohnnjeabehjaaGreatDoorK30
import Derived.Test.YtnohnnjeabehjaaGreatDoorK31
import Derived.Test.YtnohnnjeabehjaaGreatDoorK36
import Derived.Test.YtnohnnjeabehjaaGreatDoorK33
import Derived.Deep.DeepHandedRow
import Derived.Lib.LaidTab
import Derived.Test.YtnohnnjeabehjaaGreatDoorK04
import Derived.Test.YtnohnnjeabehjaaGreatDoorK06
import Derived.Test.YtnohnnjeabehjaaGreatDoorK21
import Derived.Deep.DeepWitnessRowRef
import Derived.Stop.LaidErr
import Derived.Deep.DeepLaidRun
import Derived.Test.YtnohnnjeabehjaaGreatDoorCards
import Derived.Test.YtnohnnjeabehjaaGreatDoorTie
set_option maxHeartbeats 8000000
set_option maxRecDepth 100000
set_option linter.unusedVariables false
set_option linter.unusedSimpArgs false
namespace Go.Proofs.YtnohnnjeabehjaaGreatDoor
open Go.RowKit Go.Joins
def PiecesP (w0 w : World) (c d x g : Nat) (S : ByteArray) (e : Ending) (w' : World) : Prop :=
 ∃ (n : Nat) (o : ByteArray) (s' : Hst), Fed txt3 tn3 zhst S n o s' /\ e = .returned (.tuple #[.int .i64 n, .string o, .int .i64 s'.2.1, .bool true]) /\ Keep [c, d] w w' /\ HsB w0 w' c d x g /\ HBlk TH w' c (.pointer (some ⟨x, 0, none⟩)) s' /\ HBlk TR w' d (.pointer (some ⟨g, 0, none⟩)) s' /\ okS s'
def PcRel (w0 w : World) (c d x g ln : Nat) (S : ByteArray) (k U A : Nat) (o : ByteArray) (s : Hst) (wr : World) : Prop :=
 k <= 60 /\ k <= ln + 1 /\ o.size <= k * 1500 /\ A <= S.size /\ U <= A /\ Hid (Steps txt3 tn3 zhst (S.extract 0 A) U o s /\ (0 < k -> Stuck txt3 tn3 s (S.extract U A)) /\ (k = ln + 1 ∨ k = 60 -> A = S.size)) /\ Keep [c, d] w wr /\ HsB w0 wr c d x g /\ HBlk TH wr c (.pointer (some ⟨x, 0, none⟩)) s /\ HBlk TR wr d (.pointer (some ⟨g, 0, none⟩)) s /\ okS s
theorem exec_load_Hs {o : Oper} {a : Act} (x : Operand) (ho : o.op = .load 26 x) {b : Nat} {u v : Value} (hx : a.eval x = .pointer (some ⟨b, 0, none⟩)) {w : World} (hb : Blk w b [u, v] 26) :
  (execOp a.eval o).run Tryz.prog w = .ok (.value (.agg #[u, v])) w := by
 have e := run_loadAt_mid (P := Tryz.prog) w b 0 26 [u, v] _ (Blk.all hb) Tryz.underlying26 rfl (by rw [info_Hs]; rfl)
 unfold execOp
 rw [ho]
 simp only [hx, Sem.run_bind, e, Result.andThen_ok, Sem.run_pure]
theorem wpList_load_Hs {ops : Array Oper} {rest : List Oper} {o : Oper} {f : Act} {w : World} {Q : Exit -> Act -> World -> Prop} (hgd : o.guard = none) (x : Operand) (ho : o.op = .load 26 x) {b : Nat} {u v : Value} (hx : f.eval x = .pointer (some ⟨b, 0, none⟩)) (hb : Blk w b [u, v] 26)
  (h : wpList Tryz.prog ops Q rest (f.put o.dst (.agg #[u, v])) w) : wpList Tryz.prog ops Q (o :: rest) f w :=
 wpList_plain hgd fun _ hK => by
  unfold Oper.wp
  rw [exec_load_Hs x ho hx hb]
  exact hK _ _ h
theorem pieces_any (S : ByteArray) (hS : S.size <= 281474976710656) {w0 w : World} (henv : Env w0) (htabs : Tabs w0) {la : Option Addr} {ln lc : Nat} {zs : List Int} (hln : ln <= 140737488351232) (hl : IntsIn w0 la ln lc zs) {c d x g : Nat} (hH : HsB w0 w c d x g) (hP : HBlk TH w c (.pointer (some ⟨x, 0, none⟩)) zhst) (hR : HBlk TR w d (.pointer (some ⟨g, 0, none⟩)) zhst) :
  Calls Tryz.prog 10 #[.agg #[.pointer (some ⟨c, 0, none⟩), .pointer (some ⟨d, 0, none⟩)], .string S, .slice la ln lc] w fun e w' => PiecesP w0 w c d x g S e w' := by
 go_enter Tryz.func10, Tryz.ntmps10
 go_upto_region 1 with fail
 have hx1 := (Ext.refl w).alloc (.cells #[.pointer (some ⟨c, 0, none⟩), .pointer (some ⟨d, 0, none⟩)] 26)
 have hB := Blk.new w #[.pointer (some ⟨c, 0, none⟩), .pointer (some ⟨d, 0, none⟩)] 26
 have h1 := hH.keep hP hR (hx1.keep [c, d])
 have hP1 : HBlk TH _ c _ zhst := Blk.ext hP hx1
 have hR1 : HBlk TR _ d _ zhst := Blk.ext hR hx1
 have hk1 := hx1.keep [c, d]
 have hcw := Blk.lt hP
 have hdw := Blk.lt hR
 clear hH hP hR hx1
 generalize w.alloc (.cells #[.pointer (some ⟨c, 0, none⟩), .pointer (some ⟨d, 0, none⟩)] 26) = w1 at *
 generalize w.heap.size = b at hB hcw hdw ⊢
 go_wp2_with fail
 go_loopw [10, 11, 12, 13, 14] (fun u sa a en i wr => ∃ (k U A : Nat) (o : ByteArray) (s : Hst), i = .int .i64 k /\ u = .int .i64 U /\ sa = .string o /\ a = .int .i64 A /\ en = .int .i64 s.2.1 /\ PcRel w0 w1 c d x g ln S k U A o s wr) (fun _ _ _ _ i _ => 61 - (intOf i).toNat)
 case atStart => exact ⟨0, 0, 0, ⟨#[]⟩, zhst, rfl, rfl, rfl, rfl, rfl, by omega, by omega, Nat.zero_le _, Nat.zero_le _, Nat.le_refl _, Lib.hid ⟨.refl _ _, fun h => absurd h (by decide), fun h => by omega⟩, Keep.refl _ _, h1, hP1, hR1, okS_zhst⟩
 case round =>
  clear h1 hP1 hR1
  obtain ⟨k, U, A, o, s, rfl, rfl, rfl, rfl, rfl, hk60, hkn, hoz, hA, hU, HS, hkr, hH, hP, hR, hs⟩ := hrel
  have hBr := Blk.keep hB hkr (by simp only [List.mem_cons, List.not_mem_nil, or_false]; omega)
  by_cases hlt : k < 60 /\ k <= ln
  ·have h60 : (k : Int) < 60 := by omega
   have hkl : (k : Int) <= ln := by omega
   go_upto_region 6 with fail
   by_cases hin : k < ln /\ k < 59
   ·have h59 : (k : Int) < 59 := by omega
    have hkl2 : (k : Int) < ln := by omega
    have hlr := hl.ext (by obtain ⟨_, _, _, _, _, hxx, _⟩ := id hH; exact hxx)
    obtain ⟨hla, hn0, _⟩ | ⟨ad, rfl, hlc, hcell⟩ := hlr
    ·omega
    obtain ⟨bl, off, rfl, hbl, hcl⟩ := hcell (by omega)
    have ck := hcl k (by omega)
    have hsub : IntKind.i64.wrap ((S.size : Int) - A) = (S.size : Int) - A := IntWalk.i64_in _ (by omega)
    have hsub2 : IntKind.i64.wrap ((S.size : Int) - A + 1) = (S.size : Int) - A + 1 := IntWalk.i64_in _ (by omega)
    have KM := Lib.hid (fun w => mod_any (zs.getD k 0) ((S.size : Int) - A + 1) w (u64_ne (by omega) (by omega)))
    have hm := modI_bd (zs.getD k 0) (n := (S.size : Int) - A + 1) (by omega) (by omega)
    obtain ⟨m, hmk⟩ : ∃ m : Nat, modI (zs.getD k 0) ((S.size : Int) - A + 1) = m := ⟨(modI (zs.getD k 0) ((S.size : Int) - A + 1)).toNat, by omega⟩
    rw [hmk] at KM hm
    clear hmk hcl
    generalize zs.getD k 0 = zk at *
    go_upto_region 8 with (first | (go_at_call 21; refine (KM.out _).mono ?_; rintro e w3 ⟨rfl, hx3⟩))
    replace hH := hH.ext hP hR hx3
    replace hP : HBlk TH _ c _ s := Blk.ext hP hx3
    replace hR : HBlk TR _ d _ s := Blk.ext hR hx3
    replace hBr := Blk.ext hBr hx3
    replace hkr := hkr.trans (hx3.keep [c, d])
    clear hx3 KM ck hsub hsub2
    obtain ⟨T, hT⟩ : ∃ T : Nat, T = A + m := ⟨_, rfl⟩
    have eT : (A : Int) + m = (T : Int) := by omega
    have hTA : A <= T := by omega
    have hTS : T <= S.size := by omega
    have HFL : Hid (k + 1 = ln + 1 ∨ k + 1 = 60 -> T = S.size) := Lib.hid (by omega)
    rw [eT]
    clear eT hT hm
    have hD := (Ext.refl w3).drew
    replace hH := hH.ext hP hR hD
    replace hP : HBlk TH _ c _ s := Blk.ext hP hD
    replace hR : HBlk TR _ d _ s := Blk.ext hR hD
    replace hBr := Blk.ext hBr hD
    replace hkr := hkr.trans (hD.keep [c, d])
    clear hD
    refine wp_region_rge (fun w' => Blk w' b [.pointer (some ⟨c, 0, none⟩), .pointer (some ⟨d, 0, none⟩)] 26) [5] [0, 1, 2, 3, 4, 5, 6, 7, 8, 9, 10, 11, 12, 13, 14] (by kernel_rfl) (by kernel_rfl) hBr ?_
    generalize (w3).drew = w4 at *
    have KF := Lib.hid (feed_any (S.extract U T) (by rw [ByteArray.size_extract]; omega) henv htabs hH hs hP hR)
    have q1 : (U : Int) <= (T : Nat) := by omega
    have q2 : ((T : Nat) : Int) <= S.size := by omega
    have q3 : (0 : Int) <= (U : Int) := by omega
    apply goE_val _ rfl rfl (by rfl) (fun w' h => exec_load_Hs _ rfl rfl h)
    try simp only [aput, List.set]
    iterate 4
     first
      | (apply goE_skip rfl rfl (by rfl))
      | (apply goE_val _ rfl rfl (by rfl); · (intro w hSw; go_simp; try with_reducible rfl))
     try simp only [aput, List.set]
    apply goE_eff rfl rfl
    go_wp2_with (go_at_call 25; refine KF.out.mono ?_; rintro e w5 ⟨n, t, s1, hF, rfl, hk5, hH5, hP5, hR5, hs5, ho5⟩)
    have hB5 := Blk.keep hBr hk5 (by simp only [List.mem_cons, List.not_mem_nil, or_false]; omega)
    refine ⟨rfl, rfl, hB5, ?_⟩
    iterate 9
     first
      | (apply goE_skip rfl rfl (by rfl))
      | (apply goE_val _ rfl rfl (by rfl); · (intro w hSw; go_simp; try with_reducible rfl))
     try simp only [aput, List.set]
    unfold goE
    have hn := hF.1.le
    rw [ByteArray.size_extract] at hn
    have HM := Lib.hid (Fed.more HS.out.1 (show A <= T by omega) (show T <= S.size by omega) hF)
    clear hF HS KF hH hP hR hBr hB5 hs
    have r1 : ¬ (n : Int) < 0 := by omega
    have r2 : ¬ ((T : Nat) : Int) - U < n := by omega
    have r3 : IntKind.i64.wrap (((T : Nat) : Int) - U) = ((T : Nat) : Int) - U := IntWalk.i64_in _ (by omega)
    have r4 : IntKind.i64.wrap ((U : Int) + n) = ((U + n : Nat) : Int) := by rw [IntWalk.i64_in _ (by omega)]; omega
    have r5 : ¬ 9223372036854775807 < o.size + t.size := by omega
    have r6 : IntKind.i64.wrap ((k : Int) + 1) = ((k + 1 : Nat) : Int) := by rw [IntWalk.i64_in _ (by omega)]; omega
    go_wp2_with fail
    refine ⟨⟨k + 1, U + n, T, o ++ t, s1, by go_num, by go_num, rfl, rfl, rfl, by omega, by omega, by rw [size_app]; omega, by omega, by omega, Lib.hid ⟨HM.out.1, fun _ => HM.out.2, fun q => (by first | exact HFL.out q | rfl)⟩, hkr.trans hk5, hH5, hP5, hR5, hs5⟩, ?_⟩
    simp [intOf]; omega
   ·have hnn : (k : Int) < ln -> ¬ (k : Int) < 59 := fun h h' => hin ⟨by omega, by omega⟩
    have HFL : Hid (k + 1 = ln + 1 ∨ k + 1 = 60 -> S.size = S.size) := Lib.hid (fun _ => rfl)
    by_cases hkl2 : (k : Int) < ln
    ·have h59 := hnn hkl2
     clear hnn
     go_upto_region 8 with fail
     have hD := (Ext.refl wr).drew
     replace hH := hH.ext hP hR hD
     replace hP : HBlk TH _ c _ s := Blk.ext hP hD
     replace hR : HBlk TR _ d _ s := Blk.ext hR hD
     replace hBr := Blk.ext hBr hD
     replace hkr := hkr.trans (hD.keep [c, d])
     clear hD
     refine wp_region_rge (fun w' => Blk w' b [.pointer (some ⟨c, 0, none⟩), .pointer (some ⟨d, 0, none⟩)] 26) [5] [0, 1, 2, 3, 4, 5, 6, 7, 8, 9, 10, 11, 12, 13, 14] (by kernel_rfl) (by kernel_rfl) hBr ?_
     generalize (wr).drew = w4 at *
     have KF := Lib.hid (feed_any (S.extract U S.size) (by rw [ByteArray.size_extract]; omega) henv htabs hH hs hP hR)
     have q1 : (U : Int) <= (S.size : Nat) := by omega
     have q2 : ((S.size : Nat) : Int) <= S.size := by omega
     have q3 : (0 : Int) <= (U : Int) := by omega
     apply goE_val _ rfl rfl (by rfl) (fun w' h => exec_load_Hs _ rfl rfl h)
     try simp only [aput, List.set]
     iterate 4
      first
       | (apply goE_skip rfl rfl (by rfl))
       | (apply goE_val _ rfl rfl (by rfl); · (intro w hSw; go_simp; try with_reducible rfl))
      try simp only [aput, List.set]
     apply goE_eff rfl rfl
     go_wp2_with (go_at_call 25; refine KF.out.mono ?_; rintro e w5 ⟨n, t, s1, hF, rfl, hk5, hH5, hP5, hR5, hs5, ho5⟩)
     have hB5 := Blk.keep hBr hk5 (by simp only [List.mem_cons, List.not_mem_nil, or_false]; omega)
     refine ⟨rfl, rfl, hB5, ?_⟩
     iterate 9
      first
       | (apply goE_skip rfl rfl (by rfl))
       | (apply goE_val _ rfl rfl (by rfl); · (intro w hSw; go_simp; try with_reducible rfl))
      try simp only [aput, List.set]
     unfold goE
     have hn := hF.1.le
     rw [ByteArray.size_extract] at hn
     have HM := Lib.hid (Fed.more HS.out.1 (show A <= S.size by omega) (show S.size <= S.size by omega) hF)
     clear hF HS KF hH hP hR hBr hB5 hs
     have r1 : ¬ (n : Int) < 0 := by omega
     have r2 : ¬ ((S.size : Nat) : Int) - U < n := by omega
     have r3 : IntKind.i64.wrap (((S.size : Nat) : Int) - U) = ((S.size : Nat) : Int) - U := IntWalk.i64_in _ (by omega)
     have r4 : IntKind.i64.wrap ((U : Int) + n) = ((U + n : Nat) : Int) := by rw [IntWalk.i64_in _ (by omega)]; omega
     have r5 : ¬ 9223372036854775807 < o.size + t.size := by omega
     have r6 : IntKind.i64.wrap ((k : Int) + 1) = ((k + 1 : Nat) : Int) := by rw [IntWalk.i64_in _ (by omega)]; omega
     go_wp2_with fail
     refine ⟨⟨k + 1, U + n, S.size, o ++ t, s1, by go_num, by go_num, rfl, rfl, rfl, by omega, by omega, by rw [size_app]; omega, by omega, by omega, Lib.hid ⟨HM.out.1, fun _ => HM.out.2, fun q => (by first | exact HFL.out q | rfl)⟩, hkr.trans hk5, hH5, hP5, hR5, hs5⟩, ?_⟩
     simp [intOf]; omega
    ·clear hnn
     go_upto_region 8 with fail
     have hD := (Ext.refl wr).drew
     replace hH := hH.ext hP hR hD
     replace hP : HBlk TH _ c _ s := Blk.ext hP hD
     replace hR : HBlk TR _ d _ s := Blk.ext hR hD
     replace hBr := Blk.ext hBr hD
     replace hkr := hkr.trans (hD.keep [c, d])
     clear hD
     refine wp_region_rge (fun w' => Blk w' b [.pointer (some ⟨c, 0, none⟩), .pointer (some ⟨d, 0, none⟩)] 26) [5] [0, 1, 2, 3, 4, 5, 6, 7, 8, 9, 10, 11, 12, 13, 14] (by kernel_rfl) (by kernel_rfl) hBr ?_
     generalize (wr).drew = w4 at *
     have KF := Lib.hid (feed_any (S.extract U S.size) (by rw [ByteArray.size_extract]; omega) henv htabs hH hs hP hR)
     have q1 : (U : Int) <= (S.size : Nat) := by omega
     have q2 : ((S.size : Nat) : Int) <= S.size := by omega
     have q3 : (0 : Int) <= (U : Int) := by omega
     apply goE_val _ rfl rfl (by rfl) (fun w' h => exec_load_Hs _ rfl rfl h)
     try simp only [aput, List.set]
     iterate 4
      first
       | (apply goE_skip rfl rfl (by rfl))
       | (apply goE_val _ rfl rfl (by rfl); · (intro w hSw; go_simp; try with_reducible rfl))
      try simp only [aput, List.set]
     apply goE_eff rfl rfl
     go_wp2_with (go_at_call 25; refine KF.out.mono ?_; rintro e w5 ⟨n, t, s1, hF, rfl, hk5, hH5, hP5, hR5, hs5, ho5⟩)
     have hB5 := Blk.keep hBr hk5 (by simp only [List.mem_cons, List.not_mem_nil, or_false]; omega)
     refine ⟨rfl, rfl, hB5, ?_⟩
     iterate 9
      first
       | (apply goE_skip rfl rfl (by rfl))
       | (apply goE_val _ rfl rfl (by rfl); · (intro w hSw; go_simp; try with_reducible rfl))
      try simp only [aput, List.set]
     unfold goE
     have hn := hF.1.le
     rw [ByteArray.size_extract] at hn
     have HM := Lib.hid (Fed.more HS.out.1 (show A <= S.size by omega) (show S.size <= S.size by omega) hF)
     clear hF HS KF hH hP hR hBr hB5 hs
     have r1 : ¬ (n : Int) < 0 := by omega
     have r2 : ¬ ((S.size : Nat) : Int) - U < n := by omega
     have r3 : IntKind.i64.wrap (((S.size : Nat) : Int) - U) = ((S.size : Nat) : Int) - U := IntWalk.i64_in _ (by omega)
     have r4 : IntKind.i64.wrap ((U : Int) + n) = ((U + n : Nat) : Int) := by rw [IntWalk.i64_in _ (by omega)]; omega
     have r5 : ¬ 9223372036854775807 < o.size + t.size := by omega
     have r6 : IntKind.i64.wrap ((k : Int) + 1) = ((k + 1 : Nat) : Int) := by rw [IntWalk.i64_in _ (by omega)]; omega
     go_wp2_with fail
     refine ⟨⟨k + 1, U + n, S.size, o ++ t, s1, by go_num, by go_num, rfl, rfl, rfl, by omega, by omega, by rw [size_app]; omega, by omega, by omega, Lib.hid ⟨HM.out.1, fun _ => HM.out.2, fun q => (by first | exact HFL.out q | rfl)⟩, hkr.trans hk5, hH5, hP5, hR5, hs5⟩, ?_⟩
     simp [intOf]; omega
  ·have hA2 : A = S.size := HS.out.2.2 (by omega)
   have HF : Hid (Fed txt3 tn3 zhst S U o s) := Lib.hid (by
    have h1 := HS.out.1
    have h2 := HS.out.2.1 (by omega)
    rw [hA2] at h1 h2
    rw [ext_zero] at h1
    exact ⟨h1, h2⟩)
   clear hA2 HS
   by_cases hkl : k <= ln
   ·have h60 : ¬ (k : Int) < 60 := by omega
    have hkl' : (k : Int) <= ln := by omega
    go_wp2_with fail
    exact bodyPost_ret (res4f rfl) rfl ⟨U, o, s, HF.out, rfl, hk1.trans hkr, hH, hP, hR, hs⟩
   ·have hkl' : ¬ (k : Int) <= ln := by omega
    go_wp2_with fail
    exact bodyPost_ret (res4f rfl) rfl ⟨U, o, s, HF.out, rfl, hk1.trans hkr, hH, hP, hR, hs⟩
open Go.RowKit Go.Joins
theorem rqL_eq2 (t : Tgt) : ⟨#[67, 79, 78, 78, 69, 67, 84, 32]⟩ ++ fmtT t ++ ⟨#[32, 72, 84, 84, 80, 47, 49, 46, 49, 13, 10]⟩ = rqL t ++ crlf := by
 have e : (⟨#[32, 72, 84, 84, 80, 47, 49, 46, 49, 13, 10]⟩ : ByteArray) = ⟨#[32]⟩ ++ (v11 ++ crlf) := by decide +kernel
 rw [e]
 unfold rqL
 simp only [ByteArray.append_assoc]; rfl
theorem big_hd {t : Tgt} {u p : ByteArray} (h : 512 < u.size ∨ 512 < p.size) : 512 < (hdT (t, true, u, p)).size := by
 rw [hdT_size_yes]; omega
theorem rfmtc_any (h : Cr) (ho : okC h) (hu : h.2.2.1.size <= 1099511627776) (hp : h.2.2.2.size <= 1099511627776) (w : World) :
  Calls Tryz.prog 19 #[cv h] w fun e w' => e = .returned (.tuple #[.string (fmtC h).1, .bool (fmtC h).2]) /\ Ext w w' := by
 obtain ⟨t, has, u, p⟩ := h
 simp only at hu hp
 have KV := Lib.hid (fun w => rvtarget_any t ho.1 w)
 have KF := Lib.hid (fun w => rhformat_any t ho.1 w)
 have KH := Lib.hid (fun w => rfmth_any u p hu hp w)
 have hrz := rqL_size ho.1
 have hfz := fmtT_size ho.1
 have HRQ := Lib.hid (rqL_eq2 t)
 have HAL := Lib.hid (authL_eq u p)
 have hav := authV_size u p
 unfold cv
 go_enter Tryz.func19, Tryz.ntmps19
 go_upto_region 1 with fail
 have hx := (Ext.refl w).alloc (.cells (crc (t, has, u, p)) 49)
 have hb := Blk.new w (crc (t, has, u, p)) 49
 generalize w.alloc (.cells (crc (t, has, u, p)) 49) = w1 at *
 generalize w.heap.size = b at hb ⊢
 have ht := ho.1
 have hrT := RBlk.rangeT hb
 have HB := Lib.hid hb
 go_wp2_with (first | refine wpList_load_Tm rfl _ rfl ht hrT rfl ?_ | (go_at_call 40; refine (KV.out _).mono ?_; rintro e w2 ⟨rfl, hx2⟩; refine Hid.out ?_))
 refine Lib.hid ?_
 have hxx := hx.trans hx2
 have hb2 := Blk.ext HB.out hx2
 clear HB hb hrT hx2 hx KV
 have cH := RBlk.has ho hb2
 have cU := RBlk.user ho hb2
 have cP := RBlk.pass ho hb2
 have hrT2 := RBlk.rangeT hb2
 simp only at cH cU cP hrT2
 have HB2 := Lib.hid hb2
 clear hb2
 cases hv : validT t
 ·have R := Lib.hid (fmtC_no (okFm_v (has := has) (u := u) (p := p) hv))
  clear hav hfz hrz
  go_wp2_with fail
  refine bodyPost_ret (res2s rfl) rfl ⟨by rw [R.out]; rfl, hxx⟩
 generalize fmtT t = f at *
 have y1 : ¬ 9223372036854775807 < 8 + f.size := by omega
 have y2 : ¬ 9223372036854775807 < 8 + f.size + 11 := by omega
 cases has
 ·by_cases hz : u.size = 0 /\ p.size = 0
  ·have hu0 := B_empty u (by omega)
   have hp0 := B_empty p (by omega)
   have hOK : okFm (t, false, u, p) = true := by rw [hu0, hp0]; exact okFm_nil hv
   have q1 : (u.toList == []) = true := by rw [hu0, ByteArray.toList_eq]; rfl
   have q2 : (p.toList == []) = true := by rw [hp0, ByteArray.toList_eq]; rfl
   have hus := Lib.hid hz.1
   have hps := Lib.hid hz.2
   clear hz hav hu0 hp0 KH HAL
   have ho4 := ho
   go_upto_region 3 with fail
   go_upto_region 3 with fail
   go_wp2_with fail
   go_loop [4] (fun i => ∃ k : Nat, k <= u.size /\ i = .int .i64 k /\ ∀ j, j < k -> B u j ≠ 58) (fun i => u.size - (intOf i).toNat)
   case atStart => exact ⟨0, Nat.zero_le _, rfl, fun j hj => by omega⟩
   case round =>
    obtain ⟨k, hk, rfl, hj⟩ := hrel
    have HJ := Lib.hid hj
    clear hj
    by_cases hlt : k < u.size
    ·have hlt' : (k : Int) < u.size := by omega
     by_cases hc : B u k = 58
     ·have hc' : (B u k == 58) = true := by rw [beq_iff_eq]; exact hc
      have R := Lib.hid (fmtC_no (okFm_c (t := t) (has := false) (p := p) (allB_stop (p := nc8) hlt (by rw [hc]; decide))))
      clear hc
      go_wp2_with fail
      refine bodyPost_ret (res2s rfl) rfl ⟨by rw [R.out]; rfl, hxx⟩
     ·have hc' : (B u k == 58) = false := by rw [beq_eq_false_iff_ne]; exact hc
      have HG : Hid (∀ j, j < k + 1 -> B u j ≠ 58) := Lib.hid (fun j hj => by
       by_cases q : j = k
       ·subst q; exact hc
       ·exact HJ.out j (by omega))
      clear hc
      go_wp2_with fail
      go_round
      case rel => exact ⟨k + 1, by omega, by go_num, HG.out⟩
      case measure => simp [intOf]; omega
    ·obtain rfl : k = u.size := by omega
     have hnl : ¬ ((u.size : Nat) : Int) < u.size := by omega
     have hn : noC u = true := allB_iff.2 (fun j hj => by unfold nc8; exact decide_eq_true (HJ.out j hj))
     clear hlt hk
     have d1 : decide ((512 : Int) < u.size) = false := decide_eq_false (by have := hus.out; omega)
     have d2 : decide ((512 : Int) < p.size) = false := decide_eq_false (by have := hps.out; omega)
     clear hus hps
     have dH := cH
     go_upto_region 13 with (first | refine wpList_load_Tm rfl _ rfl ht hrT2 rfl ?_ | (go_at_call 41; refine (KF.out _).mono ?_; rintro e w4 ⟨rfl, hx4⟩; have hb4 := Blk.ext HB2.out hx4; have cH4 := RBlk.has ho4 hb4; simp only at cH4))
     have hxe := hxx.trans hx4
     have HS1 : Hid (⟨#[67, 79, 78, 78, 69, 67, 84, 32]⟩ ++ f ++ ⟨#[32, 72, 84, 84, 80, 47, 49, 46, 49, 13, 10]⟩ = rqL t ++ crlf) := HRQ
     have hs1 : (⟨#[67, 79, 78, 78, 69, 67, 84, 32]⟩ ++ f ++ ⟨#[32, 72, 84, 84, 80, 47, 49, 46, 49, 13, 10]⟩ : ByteArray).size <= 400 := by
      simp only [size_app]; show 8 + f.size + 11 <= _; omega
     clear HRQ
     generalize (⟨#[67, 79, 78, 78, 69, 67, 84, 32]⟩ ++ f ++ ⟨#[32, 72, 84, 84, 80, 47, 49, 46, 49, 13, 10]⟩ : ByteArray) = s1 at *
     have y5 : ¬ 9223372036854775807 < s1.size + 2 := by omega
     have HS3 : Hid (s1 ++ ⟨#[13, 10]⟩ = hdT (t, false, u, p)) := Lib.hid (by rw [HS1.out, hdT_no rfl]; rfl)
     go_upto_region 14 with fail
     generalize s1 ++ ⟨#[13, 10]⟩ = s3 at *
     clear hs1 y5
     by_cases h5 : (s3.size : Int) <= 512
     ·have R := Lib.hid (fmtC_yes hOK (show (hdT (t, false, u, p)).size <= 512 by rw [← HS3.out]; omega))
      have h5d : decide ((512 : Int) < s3.size) = false := decide_eq_false (by omega)
      go_wp2_with fail
      refine bodyPost_ret (res2s rfl) rfl ⟨by rw [R.out, ← HS3.out]; rfl, hxe⟩
     ·have R := Lib.hid (fmtC_big (show 512 < (hdT (t, false, u, p)).size by rw [← HS3.out]; omega))
      have h5d : decide ((512 : Int) < s3.size) = true := decide_eq_true (by omega)
      have h5e : (512 : Int) < s3.size := by omega
      go_wp2_with fail
      refine bodyPost_ret (res2s rfl) rfl ⟨by rw [R.out]; rfl, hxe⟩
  ·have R := Lib.hid (fmtC_no (okFm_no (t := t) hz))
   by_cases h0 : u.size = 0
   ·have hu0 := B_empty u (by omega)
    have hp0 := nil_ne (x := p) (by omega)
    subst hu0
    clear hz hav hfz hrz h0
    go_wp2_with fail
    refine bodyPost_ret (res2s rfl) rfl ⟨by rw [R.out]; rfl, hxx⟩
   ·have hu0 := nil_ne (x := u) h0
    clear hz hav hfz hrz h0
    go_wp2_with fail
    refine bodyPost_ret (res2s rfl) rfl ⟨by rw [R.out]; rfl, hxx⟩
 ·have hOK0 := Lib.hid (fun hn => okFm_yes (p := p) (u := u) hv hn)
  clear hv
  go_upto_region 3 with fail
  go_wp2_with fail
  go_loop [4] (fun i => ∃ k : Nat, k <= u.size /\ i = .int .i64 k /\ ∀ j, j < k -> B u j ≠ 58) (fun i => u.size - (intOf i).toNat)
  case atStart => exact ⟨0, Nat.zero_le _, rfl, fun j hj => by omega⟩
  case round =>
   obtain ⟨k, hk, rfl, hj⟩ := hrel
   have HJ := Lib.hid hj
   clear hj
   by_cases hlt : k < u.size
   ·have hlt' : (k : Int) < u.size := by omega
    by_cases hc : B u k = 58
    ·have hc' : (B u k == 58) = true := by rw [beq_iff_eq]; exact hc
     have R := Lib.hid (fmtC_no (okFm_c (t := t) (has := true) (p := p) (allB_stop (p := nc8) hlt (by rw [hc]; decide))))
     clear hc
     go_wp2_with fail
     refine bodyPost_ret (res2s rfl) rfl ⟨by rw [R.out]; rfl, hxx⟩
    ·have hc' : (B u k == 58) = false := by rw [beq_eq_false_iff_ne]; exact hc
     have HG : Hid (∀ j, j < k + 1 -> B u j ≠ 58) := Lib.hid (fun j hj => by
      by_cases q : j = k
      ·subst q; exact hc
      ·exact HJ.out j (by omega))
     clear hc
     go_wp2_with fail
     go_round
     case rel => exact ⟨k + 1, by omega, by go_num, HG.out⟩
     case measure => simp [intOf]; omega
   ·obtain rfl : k = u.size := by omega
    have hnl : ¬ ((u.size : Nat) : Int) < u.size := by omega
    have hn : noC u = true := allB_iff.2 (fun j hj => by unfold nc8; exact decide_eq_true (HJ.out j hj))
    clear hlt hk
    have hOK := hOK0.out hn
    clear hn
    by_cases g1 : (512 : Int) < u.size
    ·have R := Lib.hid (fmtC_big (big_hd (t := t) (u := u) (p := p) (.inl (by omega))))
     clear hav hfz hrz
     go_wp2_with fail
     refine bodyPost_ret (res2s rfl) rfl ⟨by rw [R.out]; rfl, hxx⟩
    ·have g1d : decide ((512 : Int) < u.size) = false := decide_eq_false g1
     by_cases g2 : (512 : Int) < p.size
     ·have R := Lib.hid (fmtC_big (big_hd (t := t) (u := u) (p := p) (.inr (by omega))))
      clear hav hfz hrz
      go_wp2_with fail
      refine bodyPost_ret (res2s rfl) rfl ⟨by rw [R.out]; rfl, hxx⟩
     ·have g2d : decide ((512 : Int) < p.size) = false := decide_eq_false g2
      go_upto_region 11 with (first | refine wpList_load_Tm rfl _ rfl ht hrT2 rfl ?_ | (go_at_call 41; refine (KF.out _).mono ?_; rintro e w4 ⟨rfl, hx4⟩; have hb4 := Blk.ext HB2.out hx4; have dH := RBlk.has ho hb4; have dU := RBlk.user ho hb4; have dP := RBlk.pass ho hb4; simp only at dH dU dP))
      have hxx4 := hxx.trans hx4
      have HS1 : Hid (⟨#[67, 79, 78, 78, 69, 67, 84, 32]⟩ ++ f ++ ⟨#[32, 72, 84, 84, 80, 47, 49, 46, 49, 13, 10]⟩ = rqL t ++ crlf) := HRQ
      have hs1 : (⟨#[67, 79, 78, 78, 69, 67, 84, 32]⟩ ++ f ++ ⟨#[32, 72, 84, 84, 80, 47, 49, 46, 49, 13, 10]⟩ : ByteArray).size <= 400 := by
       simp only [size_app]; show 8 + f.size + 11 <= _; omega
      clear HRQ
      generalize (⟨#[67, 79, 78, 78, 69, 67, 84, 32]⟩ ++ f ++ ⟨#[32, 72, 84, 84, 80, 47, 49, 46, 49, 13, 10]⟩ : ByteArray) = s1 at *
      generalize authV u p = av8 at *
      have y5 : ¬ 9223372036854775807 < 21 + av8.size := by omega
      have y6 : ¬ 9223372036854775807 < 21 + av8.size + 2 := by omega
      have y7 : ¬ 9223372036854775807 < s1.size + (21 + av8.size + 2) := by omega
      have HS2 : Hid (s1 ++ (⟨#[80, 114, 111, 120, 121, 45, 65, 117, 116, 104, 111, 114, 105, 122, 97, 116, 105, 111, 110, 58, 32]⟩ ++ av8 ++ ⟨#[13, 10]⟩) ++ ⟨#[13, 10]⟩ = hdT (t, true, u, p)) := Lib.hid (by rw [HS1.out, HAL.out, hdT_yes rfl]; rfl)
      have hs2 : (s1 ++ (⟨#[80, 114, 111, 120, 121, 45, 65, 117, 116, 104, 111, 114, 105, 122, 97, 116, 105, 111, 110, 58, 32]⟩ ++ av8 ++ ⟨#[13, 10]⟩) : ByteArray).size = s1.size + (21 + av8.size + 2) := by simp only [size_app]; rfl
      go_upto_region 13 with (first | (go_at_call 42; refine (KH.out _).mono ?_; rintro e w5 ⟨rfl, hx5⟩))
      have hxe := hxx4.trans hx5
      generalize (s1 ++ (⟨#[80, 114, 111, 120, 121, 45, 65, 117, 116, 104, 111, 114, 105, 122, 97, 116, 105, 111, 110, 58, 32]⟩ ++ av8 ++ ⟨#[13, 10]⟩) : ByteArray) = s2 at *
      have y8 : ¬ 9223372036854775807 < s2.size + 2 := by omega
      have HS3 : Hid (s2 ++ ⟨#[13, 10]⟩ = hdT (t, true, u, p)) := Lib.hid HS2.out
      clear HS2
      go_upto_region 14 with fail
      generalize s2 ++ ⟨#[13, 10]⟩ = s3 at *
      clear hs1 hs2 y5 y6 y7 y8 hav
      by_cases h5 : (s3.size : Int) <= 512
      ·have R := Lib.hid (fmtC_yes hOK (show (hdT (t, true, u, p)).size <= 512 by rw [← HS3.out]; omega))
       have h5d : decide ((512 : Int) < s3.size) = false := decide_eq_false (by omega)
       go_wp2_with fail
       refine bodyPost_ret (res2s rfl) rfl ⟨by rw [R.out, ← HS3.out]; rfl, hxe⟩
      ·have R := Lib.hid (fmtC_big (show 512 < (hdT (t, true, u, p)).size by rw [← HS3.out]; omega))
       have h5d : decide ((512 : Int) < s3.size) = true := decide_eq_true (by omega)
       have h5e : (512 : Int) < s3.size := by omega
       go_wp2_with fail
       refine bodyPost_ret (res2s rfl) rfl ⟨by rw [R.out]; rfl, hxe⟩
open Go.RowKit Go.Joins
theorem gusr_all (i : Int) (w : World) : Calls Tryz.prog 14 #[.int .i64 i] w fun e w' => ∃ k : Nat, k < 8 /\ e = .returned (.string (usr k)) /\ Ext w w' := by
 have hm := modI_bd i (n := 8) (by decide) (by decide)
 have KM0 := fun w => mod_any i 8 w (by decide)
 obtain ⟨k, hk⟩ : ∃ k : Nat, modI i 8 = k := ⟨(modI i 8).toNat, by omega⟩
 rw [hk] at KM0 hm
 have KM := Lib.hid KM0
 clear KM0
 have e1 : IntKind.u8.wrap (k : Int) = k := by rw [u8w]; omega
 have e2 : IntKind.u8.wrap (97 + (k : Int)) = 97 + k := by rw [u8w]; omega
 go_enter Tryz.func14, Tryz.ntmps14
 go_wp2_with (first | (go_at_call 21; refine (KM.out _).mono ?_; rintro e w3 ⟨rfl, hx3⟩))
 go_ret
 exact ⟨k, by omega, rfl, hx3.alloc _⟩
theorem gpwd_all (i : Int) (w : World) : Calls Tryz.prog 15 #[.int .i64 i] w fun e w' => ∃ k : Nat, k < 8 /\ e = .returned (.string (pwd k)) /\ Ext w w' := by
 have KU := Lib.hid (fun w => gusr_all i w)
 go_enter Tryz.func15, Tryz.ntmps15
 go_wp2_with (first | (go_at_call 14; refine (KU.out _).mono ?_; rintro e w3 ⟨k, hk, rfl, hx3⟩; have hz2 : (usr k).size <= 1 := Nat.le_of_eq (usr_size k)))
 go_ret
 exact ⟨k, hk, rfl, hx3⟩
theorem gencode2 : gencode ⟨#[2]⟩ = (grB, true) := by decide +kernel
theorem uencode_i {i : Nat} (hi : i < 8) : uencode (usr i) (pwd i) = (upB i, true) := by
 have key : ∀ j : Fin 8, uencode (usr j.1) (pwd j.1) = (upB j.1, true) := by decide +kernel
 exact key ⟨i, hi⟩
theorem encTg_size {t : Tgt} (ht : okT t) (hv : validT t = true) : (encTg t).1.size <= 400 := (tgp_enc ht hv).2.2.1
theorem skB_size (i : Nat) {t : Tgt} (ht : okT t) (hv : validT t = true) : (skB i t).size <= 500 := by
 have z3 := encTg_size ht hv
 have z4 : (rqB t).size <= 403 := by unfold rqB; rw [size_app]; show 3 + _ <= _; omega
 have z2 := up_size i
 unfold skB; rw [size_app, size_app, z2]; show 3 + 6 + _ <= _; omega
theorem fmtC_le8 (h : Cr) : (fmtC h).1.size <= 512 := by
 unfold fmtC
 split
 ·rename_i q; exact q.2
 ·exact Nat.zero_le _
theorem build_C {t : Tgt} (ht : okT t) (u p : ByteArray) (w : World) : (Instr.build 49 #[(0, .agg (tc t)), (1, .bool true), (2, .string u), (3, .string p)]).run Tryz.prog w = .ok (.agg (crc (t, true, u, p))) w := by
 obtain ⟨nm, ⟨f, l⟩, k⟩ := t
 match l, ht.1.1 with
 | [a0, a1, a2, a3, a4, a5, a6, a7, a8, a9, a10, a11, a12, a13, a14, a15], _ => exact run_build w 49 _ _ (by kernel_rfl)
theorem exec_build_C {o : Oper} {f : Act} {w : World} (x y z : Operand) (ho : o.op = .build 49 #[(0, x), (1, .const (.bool true)), (2, y), (3, z)]) {t : Tgt} (ht : okT t) {u p : ByteArray}
  (hx : f.eval x = .agg (tc t)) (hy : f.eval y = .string u) (hz : f.eval z = .string p) : (execOp f.eval o).run Tryz.prog w = .ok (.value (.agg (crc (t, true, u, p)))) w := by
 unfold execOp
 rw [ho]
 have e1 := build_C ht u p w
 have e2 : f.eval (.const (.bool true)) = .bool true := rfl
 simp only [List.map_toArray, List.map_cons, List.map_nil, hx, hy, hz, e2, Sem.run_bind, e1, Result.andThen_ok, Sem.run_pure]
theorem gsocks_any (i : Nat) (hi : i < 8) (t : Tgt) (ht : okT t) (hv : validT t = true) (w : World) : Calls Tryz.prog 20 #[.int .i64 i, tv t] w fun e w' => e = .returned (.string (skB i t)) /\ Ext w w' := by
 have K1 := Lib.hid (fun w => gencodeR_any ⟨#[2]⟩ w (by decide))
 have KU := Lib.hid (fun w => gusr_any i hi w)
 have KP := Lib.hid (fun w => gpwd_any i hi w)
 have K2 := Lib.hid (fun w => uencodeR_any (usr i) (pwd i) w (by rw [usr_size]; decide) (by rw [pwd_size]; decide))
 have K3 := Lib.hid (fun w => renrq_any 1 (by decide) t ht hv w)
 rw [gencode2] at K1
 rw [uencode_i hi] at K2
 have z1 : grB.size <= 3 := by decide
 have z2 : (upB i).size <= 6 := Nat.le_of_eq (up_size i)
 have z3 := encTg_size ht hv
 have z4 : (rqB t).size <= 500 := by unfold rqB; rw [size_app]; show 3 + _ <= _; omega
 have eq3 : str3 5 1 0 ++ (encTg t).1 = rqB t := rfl
 rw [eq3] at K3
 unfold skB
 unfold tv at K3 ⊢
 generalize grB = b1 at *
 generalize upB i = b2 at *
 generalize rqB t = b3 at *
 generalize usr i = u at *
 generalize pwd i = p at *
 have y1 : ¬ 9223372036854775807 < b1.size + b2.size := by omega
 have y2 : ¬ 9223372036854775807 < b1.size + b2.size + b3.size := by omega
 clear z1 z2 z3 z4 eq3
 go_enter Tryz.func20, Tryz.ntmps20
 go_upto_region 1 with fail
 have hx := (Ext.refl w).alloc (.cells (tc t) 43)
 have hb := Blk.new w (tc t) 43
 generalize w.alloc (.cells (tc t) 43) = w1 at *
 generalize w.heap.size = b at hb ⊢
 go_wp2_with (first | (go_at_call 12; refine (K1.out _).mono ?_; rintro e w2 ⟨rfl, hx2⟩) | (go_at_call 14; refine (KU.out _).mono ?_; rintro e w3 ⟨rfl, hx3⟩) | (go_at_call 15; refine (KP.out _).mono ?_; rintro e w4 ⟨rfl, hx4⟩) | (go_at_call 13; refine (K2.out _).mono ?_; rintro e w5 ⟨rfl, hx5⟩; have hb5 := Blk.ext (Blk.ext (Blk.ext (Blk.ext hb hx2) hx3) hx4) hx5) | refine wpList_load_T rfl _ rfl ht hb5 rfl ?_ | (go_at_call 16; refine (K3.out _).mono ?_; rintro e w6 ⟨rfl, hx6⟩))
 go_ret
 exact ⟨rfl, ((((hx.trans hx2).trans hx3).trans hx4).trans hx5).trans hx6⟩
theorem gconn_any (i : Nat) (hi : i < 8) (t : Tgt) (ht : okT t) (hv : validT t = true) (w : World) : Calls Tryz.prog 18 #[.int .i64 i, tv t] w fun e w' => e = .returned (.string (fmtC (cnC i t)).1) /\ Ext w w' := by
 have KU := Lib.hid (fun w => gusr_any i hi w)
 have KP := Lib.hid (fun w => gpwd_any i hi w)
 unfold cnC
 have hok : okC (t, true, usr i, pwd i) := ⟨ht, by show (usr i).size <= _; rw [usr_size]; decide, by show (pwd i).size <= _; rw [pwd_size]; decide⟩
 have KF := Lib.hid (fun w => rfmtc_any (t, true, usr i, pwd i) hok (by show (usr i).size <= _; rw [usr_size]; decide) (by show (pwd i).size <= _; rw [pwd_size]; decide) w)
 generalize (fmtC (t, true, usr i, pwd i)).1 = F at *
 generalize (fmtC (t, true, usr i, pwd i)).2 = G at *
 generalize usr i = u at *
 generalize pwd i = p at *
 unfold tv
 unfold cv at KF
 go_enter Tryz.func18, Tryz.ntmps18
 go_upto_region 1 with fail
 have hx := (Ext.refl w).alloc (.cells (tc t) 43)
 have hb := Blk.new w (tc t) 43
 generalize w.alloc (.cells (tc t) 43) = w1 at *
 generalize w.heap.size = b at hb ⊢
 have gT : ∀ w', Ext w1 w' -> TBlk w' b t := fun w' h => Blk.ext hb h
 have ku := fun (w' : World) (h : Ext w1 w') => KU.out w'
 have kp := fun (w' : World) (h : Ext w1 w') => KP.out w'
 have kf := fun (w' : World) (h : Ext w1 w') => KF.out w'
 clear hb
 refine wp_region_rg w1 (by kernel_rfl) (by kernel_rfl) (Ext.refl _) ?_
 first
  | (apply goV_skip (by intro u; rfl))
  | (apply goV_loadT (by intro u; rfl) _ rfl ht gT (by intro u; rfl))
 try simp only [aput, List.set]
 first
  | (apply goV_skip (by intro u; rfl))
  | (apply goV_val _ (by intro u; rfl); · (intro u w hSw hF; go_simp; try with_reducible rfl))
 try simp only [aput, List.set]
 first
  | (apply goV_skip (by intro u; rfl))
  | (apply goV_call (by intro u; rfl) ku; · (intro u w hSw hF; go_simp; try with_reducible rfl))
 try simp only [aput, List.set]
 first
  | (apply goV_skip (by intro u; rfl))
  | (apply goV_val _ (by intro u; rfl); · (intro u w hSw hF; go_simp; try with_reducible rfl))
 try simp only [aput, List.set]
 first
  | (apply goV_skip (by intro u; rfl))
  | (apply goV_call (by intro u; rfl) kp; · (intro u w hSw hF; go_simp; try with_reducible rfl))
 try simp only [aput, List.set]
 apply goV_val _ (by intro u; rfl) (fun u w hSw hF => exec_build_C _ _ _ rfl ht rfl rfl rfl)
 try simp only [aput, List.set]
 first
  | (apply goV_skip (by intro u; rfl))
  | (apply goV_call (by intro u; rfl) kf; · (intro u w hSw hF; go_simp; try with_reducible rfl))
 try simp only [aput, List.set]
 iterate 5
  first
   | (apply goV_skip (by intro u; rfl))
   | (apply goV_val _ (by intro u; rfl); · (intro u w hSw hF; go_simp; try with_reducible rfl))
  try simp only [aput, List.set]
 intro u w2 hx2 _
 go_wp2
 go_ret
 exact ⟨rfl, hx.trans hx2⟩
theorem usr_mod (i : Int) : ∃ k : Nat, k < 8 /\ modI i 8 = k := by
 have hm := modI_bd i (n := 8) (by decide) (by decide)
 exact ⟨(modI i 8).toNat, by omega, by omega⟩
theorem gusr_at {i : Int} {k : Nat} (hk : k < 8) (hi : modI i 8 = k) (w : World) : Calls Tryz.prog 14 #[.int .i64 i] w fun e w' => e = .returned (.string (usr k)) /\ Ext w w' := by
 have KM0 := fun w => mod_any i 8 w (by decide)
 rw [hi] at KM0
 have KM := Lib.hid KM0
 clear KM0 hi
 have e1 : IntKind.u8.wrap (k : Int) = k := by rw [u8w]; omega
 have e2 : IntKind.u8.wrap (97 + (k : Int)) = 97 + k := by rw [u8w]; omega
 go_enter Tryz.func14, Tryz.ntmps14
 go_wp2_with (first | (go_at_call 21; refine (KM.out _).mono ?_; rintro e w3 ⟨rfl, hx3⟩))
 go_ret
 exact ⟨rfl, hx3.alloc _⟩
theorem gpwd_at {i : Int} {k : Nat} (hk : k < 8) (hi : modI i 8 = k) (w : World) : Calls Tryz.prog 15 #[.int .i64 i] w fun e w' => e = .returned (.string (pwd k)) /\ Ext w w' := by
 have KU := Lib.hid (fun w => gusr_at hk hi w)
 have hz2 : (usr k).size <= 1 := Nat.le_of_eq (usr_size k)
 clear hi
 unfold pwd
 generalize usr k = u at *
 go_enter Tryz.func15, Tryz.ntmps15
 go_wp2_with (first | (go_at_call 14; refine (KU.out _).mono ?_; rintro e w3 ⟨rfl, hx3⟩))
 go_ret
 exact ⟨rfl, hx3⟩
theorem gconn_all (i : Int) (t : Tgt) (ht : okT t) (hv : validT t = true) (w : World) : Calls Tryz.prog 18 #[.int .i64 i, tv t] w fun e w' => ∃ z : ByteArray, z.size <= 512 /\ e = .returned (.string z) /\ Ext w w' := by
 obtain ⟨k, hk, hi⟩ := usr_mod i
 have KU := Lib.hid (fun w => gusr_at hk hi w)
 have KP := Lib.hid (fun w => gpwd_at hk hi w)
 clear hi
 have hok : okC (t, true, usr k, pwd k) := ⟨ht, by show (usr k).size <= _; rw [usr_size]; decide, by show (pwd k).size <= _; rw [pwd_size]; decide⟩
 have KF := Lib.hid (fun w => rfmtc_any (t, true, usr k, pwd k) hok (by show (usr k).size <= _; rw [usr_size]; decide) (by show (pwd k).size <= _; rw [pwd_size]; decide) w)
 have hz := Lib.hid (fmtC_le8 (t, true, usr k, pwd k))
 generalize (fmtC (t, true, usr k, pwd k)).1 = F at *
 generalize (fmtC (t, true, usr k, pwd k)).2 = G at *
 generalize usr k = u at *
 generalize pwd k = p at *
 unfold tv
 unfold cv at KF
 go_enter Tryz.func18, Tryz.ntmps18
 go_upto_region 1 with fail
 have hx := (Ext.refl w).alloc (.cells (tc t) 43)
 have hb := Blk.new w (tc t) 43
 generalize w.alloc (.cells (tc t) 43) = w1 at *
 generalize w.heap.size = b at hb ⊢
 have gT : ∀ w', Ext w1 w' -> TBlk w' b t := fun w' h => Blk.ext hb h
 have ku := fun (w' : World) (h : Ext w1 w') => KU.out w'
 have kp := fun (w' : World) (h : Ext w1 w') => KP.out w'
 have kf := fun (w' : World) (h : Ext w1 w') => KF.out w'
 clear hb
 refine wp_region_rg w1 (by kernel_rfl) (by kernel_rfl) (Ext.refl _) ?_
 first
  | (apply goV_skip (by intro u; rfl))
  | (apply goV_loadT (by intro u; rfl) _ rfl ht gT (by intro u; rfl))
 try simp only [aput, List.set]
 first
  | (apply goV_skip (by intro u; rfl))
  | (apply goV_val _ (by intro u; rfl); · (intro u w hSw hF; go_simp; try with_reducible rfl))
 try simp only [aput, List.set]
 first
  | (apply goV_skip (by intro u; rfl))
  | (apply goV_call (by intro u; rfl) ku; · (intro u w hSw hF; go_simp; try with_reducible rfl))
 try simp only [aput, List.set]
 first
  | (apply goV_skip (by intro u; rfl))
  | (apply goV_val _ (by intro u; rfl); · (intro u w hSw hF; go_simp; try with_reducible rfl))
 try simp only [aput, List.set]
 first
  | (apply goV_skip (by intro u; rfl))
  | (apply goV_call (by intro u; rfl) kp; · (intro u w hSw hF; go_simp; try with_reducible rfl))
 try simp only [aput, List.set]
 apply goV_val _ (by intro u; rfl) (fun u w hSw hF => exec_build_C _ _ _ rfl ht rfl rfl rfl)
 try simp only [aput, List.set]
 first
  | (apply goV_skip (by intro u; rfl))
  | (apply goV_call (by intro u; rfl) kf; · (intro u w hSw hF; go_simp; try with_reducible rfl))
 try simp only [aput, List.set]
 iterate 5
  first
   | (apply goV_skip (by intro u; rfl))
   | (apply goV_val _ (by intro u; rfl); · (intro u w hSw hF; go_simp; try with_reducible rfl))
  try simp only [aput, List.set]
 intro u w2 hx2 _
 go_wp2
 go_ret
 exact ⟨F, hz.out, rfl, hx.trans hx2⟩
open Go.ChangeShapes Go.WideShapes Go.ChangeAt Go.RowKit
theorem law_liftedR {C : Checked} {os : Os} {H : Type} {enc : TypeId × Value -> H} (own : ownKnob C.prog.godebug = none) (hl : laidOutB C.prog = true) (started : os.Started)
  {f : FuncId} {fn : Func} (s : ChangeSpec) (so : OpenSpec) (hso : ∃ c, so = { OpenSpec.ofChange s with cond := c }) {F : Stop.Interp} {laid : List (String × DataW Unit)} (noInit : C.prog.inits.idxOf? f = none) (hfn : C.prog.funcs[f]? = some fn)
  (hsv : s.vars = []) (tb : TypeId) (hres : fn.resultTypes = #[tb]) (htb : C.prog.underlying tb = some .bool)
  (hread : fn.params.toList.all (fun t => C.prog.readableRec t && decide (t < C.prog.types.size)) = true)
  (n : Nat) (hn : fn.params.size = n)
  (hspec : ∀ ds : List (DataW H), ds.length = n -> s.fn H ds = { results := [.lit (.bool true)], args := ds })
  (witness : ∃ (w : World) (tape : Tape) (i : Input), w.os = os /\ (w.forCall tape i).Shaped C.prog /\ i.vars = [] /\ Input.okWide C.prog (w.forCall tape i) .any w.heap.size f i /\
   so.preRow enc C.prog fn [] false laid (w.forCall tape i).memory i.args /\ (({} : Assume)).holds C.prog (lone (Frame.enter C.prog f i.args .normal) [] (w.forCall tape i)))
  (contract : ∀ (W : World) (base : Nat) (args : List Value) (ds : List (DataW H)) (ps : List MemPlace),
   (∀ (j : Nat) t v, fn.params[j]? = some t -> args[j]? = some v -> Value.okWide C.prog W .any base t v) ->
   DataW.TrodAll enc C.prog W 0 (fun _ => true) true fn.params.toList args ds ps ->
   (DataW.weightsEach C.prog fn.params.toList ds).all (· <= reachBytes) = true ->
   (∀ k, so.cond = some k -> k H (ds ++ []) = true) ->
   laidMetH C.prog laid W -> W.ShapedOpen C.prog ->
   Calls C.prog f args.toArray W fun e W' => e = .returned (.bool true) /\ Below W.heap.size W W') :
  ReturnsInHanded {} C os f .any (so.preRow enc C.prog fn [] false laid) ((so.at F).post enc C.prog fn false true false false) := by
 obtain ⟨c, rfl⟩ := hso
 refine returnsInHanded_of_row own started noInit hfn witness ?_
 intro W base args ds gs before hval hW _ hcond hsz hL hsh _
 have hW' := hW
 obtain ⟨p, q, hA, hV, rfl, hfz, hnd⟩ := hW
 have hV2 : DataW.TrodVars enc C.prog W (fun _ => true) s.vars gs q := hV
 rw [hsv] at hV2
 obtain ⟨rfl, rfl⟩ := trodVars_none hV2
 have hlen : ∀ (ts : List TypeId) (vs : List Value) (ds : List (DataW H)) (ps : List MemPlace), DataW.TrodAll enc C.prog W 0 (fun _ => true) true ts vs ds ps -> ds.length = ts.length := by
  intro ts
  induction ts with
  | nil => intro vs ds ps h; obtain ⟨_, rfl, _⟩ := trodAll_nil h; rfl
  | cons t ts ih => intro vs ds ps h; obtain ⟨v, vs', d, ds', p, q, rfl, rfl, rfl, h1, h2⟩ := trodAll_cons h; simp [ih _ _ _ h2]
 have hl2 := hlen _ _ _ _ hA
 have hsp := hspec ds (by rw [hl2]; simpa using hn)
 have hsz' : (DataW.weightsEach C.prog fn.params.toList ds).all (· <= reachBytes) = true := by
  have e : ∀ k, DataSpec.varTypes C.prog (({ OpenSpec.ofChange s with cond := k } : OpenSpec).bare.plain) = [] := fun k => by
   unfold DataSpec.varTypes; show s.vars.filterMap _ = []; rw [hsv]; rfl
  rw [e] at hsz
  simpa using hsz
 have hc := contract W base args.toList ds p (fun j t v h1 h2 => hval j t v h1 (by simpa using h2)) hA hsz' (fun k hk => hcond k hk) hL hsh
 rw [Array.toArray_toList] at hc
 refine hc.mono fun e W' ⟨he, bel⟩ => ?_
 subst he
 have hW2 : DataW.Whole enc C.prog fn.params.toList s.vars false W args.toList ds [] (p ++ []) := hW'
 refine ⟨_, rfl, ds, [], _, [], p, [], hW', ?_, ?_, ?_, bel.frame _, fun h => by cases h⟩
 ·rw [List.append_nil]
  show DataW.TrodAll enc C.prog W' W.heap.size (fun _ => false) false fn.resultTypes.toList _ (s.fn H ds).results _
  rw [hsp, hres]; exact trodAll_mk1 (shut_bool htb _)
 ·rw [List.append_nil]
  show DataW.TrodAll enc C.prog W' 0 _ true fn.params.toList _ (s.fn H ds).args _
  rw [hsp]; exact trodAll_carry hl bel _ _ _ _ hread hA
 ·rw [List.append_nil]
  show DataW.TrodVars enc C.prog W' _ s.vars (s.fn H ds).vars _
  rw [hsp, hsv]; rfl
open Go.ChangeShapes Go.WideShapes Go.ChangeAt Go.RowKit
theorem gMax : Tryz.prog.globalNamed "internal/bytealg.MaxLen" = some 0 := by kernel_rfl
theorem gP10 : Tryz.prog.globalNamed "internal/strconv.uint64pow10" = some 1 := by kernel_rfl
theorem gP10t : (Tryz.prog.globals[1]?).map (·.type) = some 212 := by kernel_rfl
theorem gTz : Tryz.prog.globalNamed "math/bits.deBruijn64tab" = some 3 := by kernel_rfl
theorem gTzt : (Tryz.prog.globals[3]?).map (·.type) = some 241 := by kernel_rfl
theorem cells96 : Tryz.prog.cellsOf 212 = 20 := by kernel_rfl
theorem cells123 : Tryz.prog.cellsOf 241 = 64 := by kernel_rfl
theorem cellsU64 : Tryz.prog.cellsOf 61 = 1 := by kernel_rfl
theorem cellsU8 : Tryz.prog.cellsOf 5 = 1 := by kernel_rfl
def tzTab : List Int := [0, 1, 56, 2, 57, 49, 28, 3, 61, 58, 42, 50, 38, 29, 17, 4, 62, 47, 59, 36, 45, 43, 51, 22, 53, 39, 33, 30, 24, 18, 12, 5, 63, 55, 48, 27, 60, 41, 37, 16, 46, 35, 44, 21, 52, 32, 23, 11, 54, 26, 40, 15, 34, 20, 31, 10, 25, 14, 19, 9, 13, 8, 7, 6]
theorem env_of_shaped {W : World} (h : W.ShapedOpen Tryz.prog) : Env W :=
 cell_of_shapedOpen_int (zero := #[.int .i64 0]) (t := 3) h (of_decide_eq_true (by kernel_rfl)) (by kernel_rfl) rfl (by kernel_rfl) (by kernel_rfl) Tryz.underlying3
theorem laid_open {W : World} (h : laidMetH Tryz.prog Rows.handshakeMatchesModelRow.laid W) : laidMet Tryz.prog Rows.handshakeMatchesModelRow.laid W := h
theorem tabs_of_laid {W : World} (h : laidMetH Tryz.prog Rows.handshakeMatchesModelRow.laid W) : Tabs W := by
 have h1 : laidMet Tryz.prog (("math/bits.deBruijn64tab", Lib.tabData .u8 tzTab) :: ("internal/strconv.uint64pow10", Lib.tabData .u64 Lib.pow10Tab) :: Rows.handshakeMatchesModelRow.laid.drop 3) W := (laid_open h).tail
 have a := Lib.tabIs_of_head gTz gTzt Tryz.underlying241 Tryz.underlying5 cellsU8 cells123 h1
 have b := Lib.tabIs_of_head gP10 gP10t Tryz.underlying212 Tryz.underlying61 cellsU64 cells96 h1.tail
 have c : W.cell? ⟨3, 15, none⟩ = some (.int .u8 (tzTab.getD 15 0)) := a.cell gTz 15 (of_decide_eq_true (by kernel_rfl))
 exact ⟨c, b⟩
def flatCells : DataW Unit -> List Value
 | .lit (.int k z) => [.int k z]
 | .agg xs => flats xs
 | _ => []
where flats : List (DataW Unit) -> List Value
 | [] => []
 | x :: xs => flatCells x ++ flats xs
def rangeText : ByteArray := ⟨#[118, 97, 108, 117, 101, 32, 111, 117, 116, 32, 111, 102, 32, 114, 97, 110, 103, 101]⟩
def syntaxText : ByteArray := ⟨#[105, 110, 118, 97, 108, 105, 100, 32, 115, 121, 110, 116, 97, 120]⟩
def setCells (cs : List Value) : Obj -> Obj
 | .cells _ t f => .cells cs.toArray t f
 | o => o
noncomputable def laidWorld (os : Os) (extra : Array Obj) : World :=
 let w0 := World.holding Tryz.prog os ⟨extra ++ #[.cells #[.string rangeText] 262, .cells #[.string syntaxText] 262], #[], []⟩
 let low := (World.settled Tryz.prog os).heap.size + extra.size
 { w0 with heap := ((((((w0.heap.modify 2 (setCells (flatCells Rows.laid_math_bits_deBruijn32tab))).modify 3 (setCells (flatCells Rows.laid_math_bits_deBruijn64tab))).modify 1 (setCells (flatCells Rows.laid_internal_strconv_uint64pow10))).modify 5 (setCells (flatCells Rows.laid_unicode_utf8_acceptRanges))).modify 4 (setCells (flatCells Rows.laid_unicode_utf8_first))).modify 7 (setCells [.iface 260 (.pointer (some ⟨low, 0, none⟩))])).modify 6 (setCells [.iface 260 (.pointer (some ⟨low + 1, 0, none⟩))]) }
theorem laid_met (os : Os) (args : Array Value) : laidMet Tryz.prog Rows.handshakeMatchesModelRow.laid ((laidWorld os #[]).forCall (fun _ _ => 0) ⟨#[], args, []⟩).memory :=
 laidMet_of_run3 8 (by kernel_rfl) (by kernel_rfl) (by kernel_rfl)
end Go.Proofs.YtnohnnjeabehjaaGreatDoor
