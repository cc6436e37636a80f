/-
  Several texts joined: HuI, HuJ, HuK, HuL, HuN.
-/
import Derived.Test.YtnohnnjeabehjaaGreatDoorK38
import Derived.SizedLaws
import Derived.Test.YtnohnnjeabehjaaGreatDoorK30
import Derived.Test.YtnohnnjeabehjaaGreatDoorK03
set_option maxHeartbeats 16000000
set_option maxRecDepth 100000
set_option linter.unusedVariables false
set_option linter.unusedSimpArgs false
namespace Go.Proofs.YtnohnnjeabehjaaGreatDoor
open Go.RowKit Go.Joins
section
variable {ops : Array Oper} {Q : Exit -> Act -> World -> Prop} {md : Region.Mode} {w0 : World} {o : Oper} {rest : List Oper} {i : Nat} {plan : List Yld} {A : (Nat -> Value) -> Act}
theorem exec_load_Tm {o : Oper} {a : Act} (x : Operand) (ho : o.op = .load 43 x) {b k : Nat} {p : Tgt} (hp : okT p) (hx : a.eval x = .pointer (some ⟨b, k, none⟩)) {w : World} (hr : w.rangeAt b k (tc p).toList) :
  (execOp a.eval o).run Tryz.prog w = .ok (.value (.agg (tc p))) w := by
 have e := run_loadAt_mid (P := Tryz.prog) w b k 43 (tc p).toList _ hr Tryz.underlying43 rfl (by rw [info_T, tc_len hp])
 unfold execOp
 rw [ho]
 simp only [hx, Sem.run_bind, e, Result.andThen_ok, Sem.run_pure]
theorem goV_loadTm8 (hw : ∀ u, Region.wanted o (yielded ops (A u).tmps) = true) (x : Operand) (ho : o.op = .load 43 x)
  {b k : Nat} {p : Tgt} (hp : okT p) (hb : ∀ w, Ext w0 w -> w.rangeAt b k (tc p).toList) (hx : ∀ u, (A u).eval x = .pointer (some ⟨b, k, none⟩))
  (n : goV Tryz.prog ops Q md w0 rest (i + 1) (plan ++ [.val (.agg (tc p))]) (fun u => (A u).put o.dst (.agg (tc p)))) : goV Tryz.prog ops Q md w0 (o :: rest) i plan A :=
 goV_val _ hw (fun u w hx' _ => exec_load_Tm x ho hp (hx u) (hb w hx')) n
end
theorem callsE {f : FuncId} {args : Array Value} {v : Value} {w : World} (h : Calls Tryz.prog f args w fun e w' => e = .returned v /\ w = w') : Calls Tryz.prog f args w fun e w' => e = .returned v /\ Ext w w' := by
 refine h.mono ?_
 rintro e w' ⟨rfl, rfl⟩
 exact ⟨rfl, Ext.refl _⟩
theorem same_any {w : World} (htabs : Tabs w) {c d : Nat} {regp regr : Value} {s : Hst} (hs : okS s) (hP : HBlk TH w c regp s) (hR : HBlk TR w d regr s) : Calls Tryz.prog 9 #[.agg #[.pointer (some ⟨c, 0, none⟩), .pointer (some ⟨d, 0, none⟩)]] w fun e w' => e = .returned (.bool true) /\ Ext w w' := by
 have ho : okH s := hs.2.1
 go_enter Tryz.func9, Tryz.ntmps9
 go_upto_region 1 with fail
 have hx := (Ext.refl w).alloc (.cells #[.pointer (some ⟨c, 0, none⟩), .pointer (some ⟨d, 0, none⟩)] 26)
 have hB := Blk.new w #[.pointer (some ⟨c, 0, none⟩), .pointer (some ⟨d, 0, none⟩)] 26
 generalize w.alloc (.cells #[.pointer (some ⟨c, 0, none⟩), .pointer (some ⟨d, 0, none⟩)] 26) = w0 at *
 generalize w.heap.size = b at *
 have hP0 : HBlk TH w0 c regp s := Blk.ext hP hx
 have hR0 : HBlk TR w0 d regr s := Blk.ext hR hx
 have g0 : ∀ w', Ext w0 w' -> w'.cell? ⟨b, 0, none⟩ = some (.pointer (some ⟨c, 0, none⟩)) := fun w' h => Blk.cell (Blk.ext hB h) rfl
 have g1 : ∀ w', Ext w0 w' -> w'.cell? ⟨b, 1, none⟩ = some (.pointer (some ⟨d, 0, none⟩)) := fun w' h => Blk.cell (Blk.ext hB h) rfl
 have eP : ∀ w', Ext w0 w' -> HBlk TH w' c regp s := fun w' h => Blk.ext hP0 h
 have eR : ∀ w', Ext w0 w' -> HBlk TR w' d regr s := fun w' h => Blk.ext hR0 h
 have p3 : ∀ w', Ext w0 w' -> w'.cell? ⟨d, 3, none⟩ = some (.int .i64 s.2.2.1) := fun w' h => HBlk.proto (eR w' h)
 have p4 : ∀ w', Ext w0 w' -> w'.cell? ⟨d, 4, none⟩ = some (.int .i64 s.2.2.2.1) := fun w' h => HBlk.tenant (eR w' h)
 have p6 : ∀ w', Ext w0 w' -> w'.cell? ⟨d, 24, none⟩ = some (.int .i64 s.2.2.2.2.2) := fun w' h => HBlk.why ho (eR w' h)
 have gT : ∀ w', Ext w0 w' -> w'.rangeAt d 5 (tc s.2.2.2.2.1).toList := fun w' h => HBlk.range (eR w' h)
 have k1 := fun w' (h : Ext w0 w') => callsE (hproto_any (eP w' h))
 have k2 := fun w' (h : Ext w0 w') => callsE (htenant_any (eP w' h))
 have k3 := fun w' (h : Ext w0 w') => htarget_any ho (eP w' h)
 have k4 := fun w' (h : Ext w0 w') => callsE (hreason_any ho (eP w' h))
 have k5 := fun w' (h : Ext w0 w') => hto_any (htabs.ext (hx.trans h)) hs (eP w' h)
 have k6 := fun w' (h : Ext w0 w') => rto_any hs (eR w' h)
 unfold tv at k3
 clear hP hR htabs hP0 hR0 eP eR
 refine wp_region_rg w0 (by kernel_rfl) (by kernel_rfl) (Ext.refl _) ?_
 first
  | (apply goV_skip (by intro u; rfl))
  | (apply goV_val _ (by intro u; rfl); · (intro u w hSw hF; go_simp; try with_reducible rfl))
 try simp only [aput, List.set]
 first
  | (apply goV_skip (by intro u; rfl))
  | (apply goV_val (.pointer (some ⟨c, 0, none⟩)) (by intro u; rfl); · (intro u w hSw hF; have c0 := g0 w hSw; go_simp))
 try simp only [aput, List.set]
 first
  | (apply goV_skip (by intro u; rfl))
  | (apply goV_call (by intro u; rfl) k1; · (intro u w hSw hF; go_simp; try with_reducible rfl))
 try simp only [aput, List.set]
 first
  | (apply goV_skip (by intro u; rfl))
  | (apply goV_val _ (by intro u; rfl); · (intro u w hSw hF; go_simp; try with_reducible rfl))
 try simp only [aput, List.set]
 first
  | (apply goV_skip (by intro u; rfl))
  | (apply goV_val (.pointer (some ⟨d, 0, none⟩)) (by intro u; rfl); · (intro u w hSw hF; have c0 := g1 w hSw; go_simp))
 try simp only [aput, List.set]
 iterate 2
  first
   | (apply goV_skip (by intro u; rfl))
   | (apply goV_val _ (by intro u; rfl); · (intro u w hSw hF; go_simp; try with_reducible rfl))
  try simp only [aput, List.set]
 first
  | (apply goV_skip (by intro u; rfl))
  | (apply goV_val (.int .i64 s.2.2.1) (by intro u; rfl); · (intro u w hSw hF; have c0 := p3 w hSw; go_simp))
 try simp only [aput, List.set]
 iterate 3
  first
   | (apply goV_skip (by intro u; rfl))
   | (apply goV_val _ (by intro u; rfl); · (intro u w hSw hF; go_simp; try with_reducible rfl))
  try simp only [aput, List.set]
 first
  | (apply goV_skip (by intro u; rfl))
  | (apply goV_val (.pointer (some ⟨c, 0, none⟩)) (by intro u; rfl); · (intro u w hSw hF; have c0 := g0 w hSw; go_simp))
 try simp only [aput, List.set]
 first
  | (apply goV_skip (by intro u; rfl))
  | (apply goV_call (by intro u; rfl) k2; · (intro u w hSw hF; go_simp; try with_reducible rfl))
 try simp only [aput, List.set]
 first
  | (apply goV_skip (by intro u; rfl))
  | (apply goV_val _ (by intro u; rfl); · (intro u w hSw hF; go_simp; try with_reducible rfl))
 try simp only [aput, List.set]
 first
  | (apply goV_skip (by intro u; rfl))
  | (apply goV_val (.pointer (some ⟨d, 0, none⟩)) (by intro u; rfl); · (intro u w hSw hF; have c0 := g1 w hSw; go_simp))
 try simp only [aput, List.set]
 iterate 2
  first
   | (apply goV_skip (by intro u; rfl))
   | (apply goV_val _ (by intro u; rfl); · (intro u w hSw hF; go_simp; try with_reducible rfl))
  try simp only [aput, List.set]
 first
  | (apply goV_skip (by intro u; rfl))
  | (apply goV_val (.int .i64 s.2.2.2.1) (by intro u; rfl); · (intro u w hSw hF; have c0 := p4 w hSw; go_simp))
 try simp only [aput, List.set]
 iterate 4
  first
   | (apply goV_skip (by intro u; rfl))
   | (apply goV_val _ (by intro u; rfl); · (intro u w hSw hF; go_simp; try with_reducible rfl))
  try simp only [aput, List.set]
 first
  | (apply goV_skip (by intro u; rfl))
  | (apply goV_val (.pointer (some ⟨c, 0, none⟩)) (by intro u; rfl); · (intro u w hSw hF; have c0 := g0 w hSw; go_simp))
 try simp only [aput, List.set]
 first
  | (apply goV_skip (by intro u; rfl))
  | (apply goV_call (by intro u; rfl) k3; · (intro u w hSw hF; go_simp; try with_reducible rfl))
 try simp only [aput, List.set]
 first
  | (apply goV_skip (by intro u; rfl))
  | (apply goV_val _ (by intro u; rfl); · (intro u w hSw hF; go_simp; try with_reducible rfl))
 try simp only [aput, List.set]
 first
  | (apply goV_skip (by intro u; rfl))
  | (apply goV_val (.pointer (some ⟨d, 0, none⟩)) (by intro u; rfl); · (intro u w hSw hF; have c0 := g1 w hSw; go_simp))
 try simp only [aput, List.set]
 iterate 2
  first
   | (apply goV_skip (by intro u; rfl))
   | (apply goV_val _ (by intro u; rfl); · (intro u w hSw hF; go_simp; try with_reducible rfl))
  try simp only [aput, List.set]
 first
  | (apply goV_skip (by intro u; rfl))
  | (apply goV_loadTm8 (by intro u; rfl) _ rfl ho gT (by intro u; rfl))
 try simp only [aput, List.set]
 first
  | (apply goV_skip (by intro u; rfl))
  | (apply goV_eqTd (by intro u; rfl) _ _ rfl ho ho (decide_eq_true rfl) (by intro u; rfl) (by intro u; rfl))
 try simp only [aput, List.set]
 iterate 3
  first
   | (apply goV_skip (by intro u; rfl))
   | (apply goV_val _ (by intro u; rfl); · (intro u w hSw hF; go_simp; try with_reducible rfl))
  try simp only [aput, List.set]
 first
  | (apply goV_skip (by intro u; rfl))
  | (apply goV_val (.pointer (some ⟨c, 0, none⟩)) (by intro u; rfl); · (intro u w hSw hF; have c0 := g0 w hSw; go_simp))
 try simp only [aput, List.set]
 first
  | (apply goV_skip (by intro u; rfl))
  | (apply goV_call (by intro u; rfl) k4; · (intro u w hSw hF; go_simp; try with_reducible rfl))
 try simp only [aput, List.set]
 first
  | (apply goV_skip (by intro u; rfl))
  | (apply goV_val _ (by intro u; rfl); · (intro u w hSw hF; go_simp; try with_reducible rfl))
 try simp only [aput, List.set]
 first
  | (apply goV_skip (by intro u; rfl))
  | (apply goV_val (.pointer (some ⟨d, 0, none⟩)) (by intro u; rfl); · (intro u w hSw hF; have c0 := g1 w hSw; go_simp))
 try simp only [aput, List.set]
 iterate 2
  first
   | (apply goV_skip (by intro u; rfl))
   | (apply goV_val _ (by intro u; rfl); · (intro u w hSw hF; go_simp; try with_reducible rfl))
  try simp only [aput, List.set]
 first
  | (apply goV_skip (by intro u; rfl))
  | (apply goV_val (.int .i64 s.2.2.2.2.2) (by intro u; rfl); · (intro u w hSw hF; have c0 := p6 w hSw; go_simp))
 try simp only [aput, List.set]
 iterate 4
  first
   | (apply goV_skip (by intro u; rfl))
   | (apply goV_val _ (by intro u; rfl); · (intro u w hSw hF; go_simp; try with_reducible rfl))
  try simp only [aput, List.set]
 first
  | (apply goV_skip (by intro u; rfl))
  | (apply goV_val (.pointer (some ⟨c, 0, none⟩)) (by intro u; rfl); · (intro u w hSw hF; have c0 := g0 w hSw; go_simp))
 try simp only [aput, List.set]
 first
  | (apply goV_skip (by intro u; rfl))
  | (apply goV_call (by intro u; rfl) k5; · (intro u w hSw hF; go_simp; try with_reducible rfl))
 try simp only [aput, List.set]
 first
  | (apply goV_skip (by intro u; rfl))
  | (apply goV_val _ (by intro u; rfl); · (intro u w hSw hF; go_simp; try with_reducible rfl))
 try simp only [aput, List.set]
 first
  | (apply goV_skip (by intro u; rfl))
  | (apply goV_val (.pointer (some ⟨d, 0, none⟩)) (by intro u; rfl); · (intro u w hSw hF; have c0 := g1 w hSw; go_simp))
 try simp only [aput, List.set]
 first
  | (apply goV_skip (by intro u; rfl))
  | (apply goV_call (by intro u; rfl) k6; · (intro u w hSw hF; go_simp; try with_reducible rfl))
 try simp only [aput, List.set]
 iterate 3
  first
   | (apply goV_skip (by intro u; rfl))
   | (apply goV_val _ (by intro u; rfl); · (intro u w hSw hF; go_simp; try with_reducible rfl))
  try simp only [aput, List.set]
 intro u w1 hx1 _
 have hxx := hx.trans hx1
 clear g0 g1 p3 p4 p6 gT k1 k2 k3 k4 k5 k6 hx hx1
 go_wp2_with fail
 go_ret
 exact ⟨rfl, hxx⟩
open Go.RowKit Go.Joins
theorem HsB.keep {w0 w w' : World} {c d x g : Nat} (h : HsB w0 w c d x g) {s s' : Hst} {regp regr : Value} (hP : HBlk TH w c regp s) (hR : HBlk TR w d regr s') (k : Keep [c, d] w w') : HsB w0 w' c d x g := by
 obtain ⟨lv, s1, s2, vs, base, hx, hc, hrp, hcd, hd, hg, hG, h3, hl, hk⟩ := h
 refine ⟨lv, s1, s2, vs, base, Keep.ext ((hx.keep [c, d]).trans k) (fun y hy => ?_), hc, hrp.ext (upTo_keep (by omega) k (fun y hy => ?_)), hcd, Nat.lt_of_lt_of_le hd k.size, hg, Blk.keep hG k (fun hm => ?_), h3, TnRow.keepS hl k (fun y hy => ?_), hk⟩
 ·simp only [List.mem_cons, List.not_mem_nil, or_false] at hy
  omega
 ·simp only [List.mem_cons, List.not_mem_nil, or_false] at hy
  omega
 ·simp only [List.mem_cons, List.not_mem_nil, or_false] at hm
  rcases hm with hm | hm
  ·exact Blk.ne_type hG hP (by decide) hm
  ·omega
 ·simp only [List.mem_cons, List.not_mem_nil, or_false] at hy
  rcases hy with rfl | rfl
  ·exact ⟨fun ho => own_ne ho hP (by decide), fun ho => own_ne ho hP (by decide)⟩
  ·exact ⟨fun ho => own_ne ho hR (by decide), fun ho => own_ne ho hR (by decide)⟩
theorem HsB.regR {w0 w : World} {c d x g : Nat} (h : HsB w0 w c d x g) : RegR (upTo w d) g tn3 := by
 obtain ⟨lv, s1, s2, vs, base, hx, hc, hrp, hcd, hd, hg, hG, h3, hl, hk⟩ := h
 obtain ⟨b, cap, rfl⟩ : ∃ b cap, lv = .slice (some ⟨b, 0, none⟩) 3 cap := by
  have h := hl.1
  rw [h3] at h
  rcases h.2 with ⟨_, h0⟩ | ⟨b, cap, cur, hv, _⟩
  ·omega
  ·exact ⟨b, cap, hv⟩
 have hb := hk b rfl
 obtain ⟨g2, cap2, h4, h5, h6⟩ := regR_of h3 (Blk.cell hG rfl) hl
 have e : g2 = b := by
  have q := h5.symm.trans (Blk.cell hG (i := 0) rfl)
  injection q with q
  injection q with q1 q2 q3
  injection q1 with q1
  injection q1 with q1 q2
 subst e
 exact ⟨g2, cap2, h4, by rw [upTo_cell w hg]; exact h5, fun i y hy => ⟨by rw [upTo_cell w hb]; exact (h6 i y hy).1, by rw [upTo_cell w hb]; exact (h6 i y hy).2⟩⟩
open Go.RowKit Go.Joins
theorem res4f {fn : Func} {t u v x : Tmp} (h : fn.results = #[.tmp t, .tmp u, .tmp v, .tmp x]) {tmps : Array Value} {w : World} : (results fn tmps).run Tryz.prog w = .ok (.tuple #[tmps.getD t undef, tmps.getD u undef, tmps.getD v undef, tmps.getD x undef]) w := by
 simp [results, h, Sem.run_bind]
def FeedsP (w0 w : World) (c d x g : Nat) (s : Hst) (z : ByteArray) (e : Ending) (w' : World) : Prop :=
 ∃ (n : Nat) (o : ByteArray) (s' : Hst), Fed txt3 tn3 s z n o s' /\ e = .returned (.tuple #[.int .i64 n, .string o, .int .i64 s'.2.1, .bool true]) /\ Keep [c, d] w w' /\ HsB w0 w' c d x g /\ HBlk TH w' c (.pointer (some ⟨x, 0, none⟩)) s' /\ HBlk TR w' d (.pointer (some ⟨g, 0, none⟩)) s' /\ okS s' /\ o.size <= 1500
theorem feed_any (z : ByteArray) (hz : z.size <= 281474976710656) {w0 w : World} (henv : Env w0) (htabs : Tabs w0) {c d x g : Nat} (h : HsB w0 w c d x g) {s : Hst} (hs : okS s) (hP : HBlk TH w c (.pointer (some ⟨x, 0, none⟩)) s) (hR : HBlk TR w d (.pointer (some ⟨g, 0, none⟩)) s) :
  Calls Tryz.prog 25 #[.agg #[.pointer (some ⟨c, 0, none⟩), .pointer (some ⟨d, 0, none⟩)], .string z] w fun e w' => FeedsP w0 w c d x g s z e w' := by
 go_enter Tryz.func25, Tryz.ntmps25
 go_upto_region 1 with fail
 have hx1 := (Ext.refl w).alloc (.cells #[.pointer (some ⟨c, 0, none⟩), .pointer (some ⟨d, 0, none⟩)] 26)
 have hB := Blk.new w #[.pointer (some ⟨c, 0, none⟩), .pointer (some ⟨d, 0, none⟩)] 26
 have hcw := Blk.lt hP
 have hdw := Blk.lt hR
 have hP1 : HBlk TH _ c _ s := Blk.ext hP hx1
 have hR1 : HBlk TR _ d _ s := Blk.ext hR hx1
 have h1 := h.keep hP hR (hx1.keep [c, d])
 have hk1 := hx1.keep [c, d]
 clear h hP hR hx1
 generalize w.alloc (.cells #[.pointer (some ⟨c, 0, none⟩), .pointer (some ⟨d, 0, none⟩)] 26) = w1 at *
 generalize w.heap.size = b at *
 have hcl := Nat.le_of_lt (Blk.lt hP1)
 have KF := Lib.hid (by
  obtain ⟨_, _, _, _, _, hxx, hc, hrp, _⟩ := id h1
  exact hfeed_any z hz tn3 (by decide) (henv.ext (ext_upTo hcl hc hxx)) (htabs.ext (ext_upTo hcl hc hxx)) (upTo_ext w1 hcl) (Nat.le_of_eq (upTo_size w1 hcl)) hrp hs hP1)
 have b0 := Blk.cell hB (i := 0) rfl
 go_upto_region 2 with (go_at_call 35; refine KF.out.mono ?_; rintro e w2 ⟨n, o, s1, hF1, rfl, hl1, hP2, hs1, ho1⟩)
 have km : ∀ {y : Nat} {u v : World}, y ∈ [c, d] -> Keep [y] u v -> Keep [c, d] u v := fun hy k => ⟨k.os, k.tape, k.output, k.size, fun i hi hn => k.block i hi (fun hm => by rw [List.mem_singleton] at hm; subst hm; exact hn hy)⟩
 have hcd : c < d := by obtain ⟨_, _, _, _, _, _, _, _, q, _⟩ := h1; exact q
 have h2 := h1.keep hP1 hR1 (km (by simp) hl1.1)
 have hk2 := hk1.trans (km (by simp) hl1.1)
 have hR2 : HBlk TR w2 d _ s := Blk.keep hR1 hl1.1 (by rw [List.mem_singleton]; omega)
 have hB2 := Blk.keep hB hl1.1 (by rw [List.mem_singleton]; omega)
 have hdl := Nat.le_of_lt (Blk.lt hR2)
 have KR := Lib.hid (rfeed_any z hz tn3 (by decide) (upTo_ext w2 hdl) (Nat.le_of_eq (upTo_size w2 hdl)) h2.regR hs hR2)
 clear KF b0 hP1 hR1 hB h1 hk1 hl1
 have b1 := Blk.cell hB2 (i := 1) rfl
 go_upto_region 3 with (go_at_call 43; refine KR.out.mono ?_; rintro e w3 ⟨n', o', s2, hF2, rfl, hl2, hR3, hs2, ho2⟩)
 obtain ⟨rfl, rfl, rfl⟩ := hF1.1.same hF1.2 hF2.1 hF2.2
 have hP3 : HBlk TH w3 c _ s1 := Blk.keep hP2 hl2.1 (by rw [List.mem_singleton]; omega)
 have hB3 := Blk.keep hB2 hl2.1 (by rw [List.mem_singleton]; omega)
 have h3 := h2.keep hP2 hR2 (km (by simp) hl2.1)
 have hk3 := hk2.trans (km (by simp) hl2.1)
 have hT3 : Tabs w3 := by obtain ⟨_, _, _, _, _, hxx, _⟩ := id h3; exact htabs.ext hxx
 have KS := Lib.hid (same_any hT3 hs1 hP3 hR3)
 have b0 := Blk.cell hB3 (i := 0) rfl
 have b1' := Blk.cell hB3 (i := 1) rfl
 clear KR b1 hP2 hR2 hB2 h2 hk2 hl2
 have HF := Lib.hid hF1
 clear hF1 hF2 hs2 ho2
 go_wp2_with (go_at_call 9; refine KS.out.mono ?_; rintro e w4 ⟨rfl, hx4⟩)
 refine bodyPost_ret (res4f rfl) rfl ⟨n, o, s1, HF.out, rfl, hk3.trans (hx4.keep _), h3.keep hP3 hR3 (hx4.keep _), Blk.ext hP3 hx4, Blk.ext hR3 hx4, hs1, ho1⟩
open Go.RowKit Go.Joins
theorem HsB.ext {w0 w w' : World} {c d x g : Nat} (h : HsB w0 w c d x g) {s s' : Hst} {regp regr : Value} (hP : HBlk TH w c regp s) (hR : HBlk TR w d regr s') (k : Ext w w') : HsB w0 w' c d x g := h.keep hP hR (k.keep _)
theorem HsB.base {w00 w0 w : World} {c d x g : Nat} (h : HsB w0 w c d x g) (k : Ext w00 w0) : HsB w00 w c d x g := by
 obtain ⟨lv, s1, s2, vs, base, hx, hc, r⟩ := h
 exact ⟨lv, s1, s2, vs, base, k.trans hx, Nat.le_trans k.size hc, r⟩
theorem upTo_keepS {S : List Nat} {w w' : World} {n : Nat} (h : n <= w.heap.size) (k : Keep S w w') : Keep S (upTo w n) (upTo w' n) := by
 have h' : n <= w'.heap.size := Nat.le_trans h k.size
 refine ⟨k.os, k.tape, k.output, by rw [upTo_size w h, upTo_size w' h']; exact Nat.le_refl _, fun i hi hn => ?_⟩
 rw [upTo_size w h] at hi
 rw [upTo_block w hi, upTo_block w' hi]
 exact k.block i (by omega) hn
theorem RegP.keepH {S : List Nat} {w w' : World} {x : Nat} (h : RegP w x tn3) (k : Keep S w w') (hS : ∀ c ∈ S, c < w.heap.size -> ∃ (y : Nat) (i : Int), w.cell? ⟨c, 0, none⟩ = some (.pointer (some ⟨y, 0, none⟩)) /\ w.cell? ⟨c, 1, none⟩ = some (.int .i64 i)) : RegP w' x tn3 := by
 obtain ⟨g2, cap, es, h1, h2, h3⟩ := h
 have kk : ∀ (b i : Nat) (u : Value), w.cell? ⟨b, i, none⟩ = some u -> b ∉ S -> w'.cell? ⟨b, i, none⟩ = some u := fun b i u hu hb => by
  rw [k.cell (World.block_lt_of_cell? _ _ hu) hb]; exact hu
 have hx : x ∉ S := fun hm => by
  obtain ⟨y, i, q, _⟩ := hS x hm (World.block_lt_of_cell? _ _ h2)
  rw [h2] at q; cases q
 have hg : g2 ∉ S := fun hm => by
  have q1 := (h3 1 (usr 1, pwd 1) rfl).1
  obtain ⟨y, i, _, q⟩ := hS g2 hm (World.block_lt_of_cell? _ _ q1)
  rw [q1] at q; cases q
 have he : ∀ i y, tn3[i]? = some y -> es i ∉ S := fun i y hy hm => by
  have q1 := (h3 i y hy).2.1
  obtain ⟨y, i, q, _⟩ := hS (es i) hm (World.block_lt_of_cell? _ _ q1)
  rw [q1] at q; cases q
 exact ⟨g2, cap, es, h1, kk _ _ _ h2 hx, fun i y hy => ⟨kk _ _ _ (h3 i y hy).1 hg, kk _ _ _ (h3 i y hy).2.1 (he i y hy), kk _ _ _ (h3 i y hy).2.2 (he i y hy)⟩⟩
theorem HsB.other {w0 w w' : World} {c d c2 d2 x g x1 g1 : Nat} (h : HsB w0 w c2 d2 x g) {s s' : Hst} (hP : HBlk TH w c (.pointer (some ⟨x1, 0, none⟩)) s) (hR : HBlk TR w d (.pointer (some ⟨g1, 0, none⟩)) s') (k : Keep [c, d] w w') (hc0 : w0.heap.size <= c) (hd0 : w0.heap.size <= d) : HsB w0 w' c2 d2 x g := by
 obtain ⟨lv, s1, s2, vs, base, hx, hc, hrp, hcd, hd, hg, hG, h3, hl, hk⟩ := h
 have hcl : c2 <= w.heap.size := by omega
 refine ⟨lv, s1, s2, vs, base, Keep.ext ((hx.keep [c, d]).trans k) (fun y hy => ?_), hc, hrp.keepH (upTo_keepS hcl k) (fun y hy hyl => ?_), hcd, Nat.lt_of_lt_of_le hd k.size, hg, Blk.keep hG k (fun hm => ?_), h3, TnRow.keepS hl k (fun y hy => ?_), hk⟩
 ·simp only [List.mem_cons, List.not_mem_nil, or_false] at hy
  omega
 ·simp only [List.mem_cons, List.not_mem_nil, or_false] at hy
  rw [upTo_size w hcl] at hyl
  rcases hy with rfl | rfl
  ·exact ⟨x1, s.1, by rw [upTo_cell w hyl]; exact HBlk.regc hP, by rw [upTo_cell w hyl]; exact HBlk.stage hP⟩
  ·exact ⟨g1, s'.1, by rw [upTo_cell w hyl]; exact HBlk.regc hR, by rw [upTo_cell w hyl]; exact HBlk.stage hR⟩
 ·simp only [List.mem_cons, List.not_mem_nil, or_false] at hm
  rcases hm with hm | hm
  ·exact Blk.ne_type hG hP (by decide) hm
  ·exact Blk.ne_type hG hR (by decide) hm
 ·simp only [List.mem_cons, List.not_mem_nil, or_false] at hy
  rcases hy with rfl | rfl
  ·exact ⟨fun ho => own_ne ho hP (by decide), fun ho => own_ne ho hP (by decide)⟩
  ·exact ⟨fun ho => own_ne ho hR (by decide), fun ho => own_ne ho hR (by decide)⟩
theorem toList_self_ne8 (x : ByteArray) : (x.toList == x.toList) = true := by simp
theorem okH_t2 (a b p i y : Int) : okH (a, b, p, i, ztgt, y) := okT_ztgt
theorem awg_fed (x : Txt) : Fed x tn3 zhst ⟨#[5, 1, 2]⟩ 3 ⟨#[5, 2]⟩ hs2 := by
 have g0 : hstep x tn3 zhst ⟨#[5, 1, 2]⟩ = some (0, ⟨#[]⟩, hs1) := rfl
 have g1 : hstep x tn3 hs1 ⟨#[5, 1, 2]⟩ = some (3, ⟨#[5, 2]⟩, hs2) := st_gr x tn3
 have g2 : hstep x tn3 hs2 ⟨#[]⟩ = none := rfl
 have e0 : (⟨#[5, 1, 2]⟩ : ByteArray).extract 0 (⟨#[5, 1, 2]⟩ : ByteArray).size = ⟨#[5, 1, 2]⟩ := by decide
 have e3 : (⟨#[5, 1, 2]⟩ : ByteArray).extract 3 (⟨#[5, 1, 2]⟩ : ByteArray).size = ⟨#[]⟩ := by decide
 refine ⟨?_, .inr (by rw [e3]; exact g2)⟩
 have s1 : Steps x tn3 hs1 ⟨#[5, 1, 2]⟩ ((3 : Int).toNat + 0) (⟨#[5, 2]⟩ ++ ⟨#[]⟩) hs2 := .step (by decide) g1 (.refl _ _)
 have s0 : Steps x tn3 zhst ⟨#[5, 1, 2]⟩ ((0 : Int).toNat + (3 + 0)) (⟨#[]⟩ ++ (⟨#[5, 2]⟩ ++ ⟨#[]⟩)) hs2 := .step (by decide) g0 (by show Steps x tn3 hs1 ((⟨#[5, 1, 2]⟩ : ByteArray).extract 0 (⟨#[5, 1, 2]⟩ : ByteArray).size) _ _ _; rw [e0]; exact s1)
 exact s0
theorem awG_fed (x : Txt) : Fed x tn3 zhst ⟨#[71]⟩ 0 x.t400 (5, 2, 0, -1, ztgt, 10) := other_fed x tn3 (by decide) (by decide) (by decide)
theorem awake_any {w : World} (henv : Env w) (htabs : Tabs w) : Calls Tryz.prog 11 #[] w fun e w' => e = .returned (.bool true) /\ Ext w w' := by
 have K8 := Lib.hid (fun w => newhs_any w)
 go_enter Tryz.func11, Tryz.ntmps11
 go_upto_region 2 with (go_at_call 8; refine (K8.out _).mono ?_; rintro e w1 ⟨v1, rfl, hx1, x, g, c, d, rfl, hH, hP, hR⟩)
 have hc0 := hH.choose_spec
 have hxa := (Ext.refl w1).alloc (.cells #[.pointer (some ⟨c, 0, none⟩), .pointer (some ⟨d, 0, none⟩)] 26)
 have hB := Blk.new w1 #[.pointer (some ⟨c, 0, none⟩), .pointer (some ⟨d, 0, none⟩)] 26
 have hbw : w1.heap.size <= w1.heap.size := Nat.le_refl _
 replace hH := hH.ext hP hR hxa
 replace hP : HBlk TH _ c _ _ := Blk.ext hP hxa
 replace hR : HBlk TR _ d _ _ := Blk.ext hR hxa
 replace hx1 := hx1.trans hxa
 clear hxa hc0
 generalize w1.alloc (.cells #[.pointer (some ⟨c, 0, none⟩), .pointer (some ⟨d, 0, none⟩)] 26) = w2 at *
 generalize w1.heap.size = b1 at *
 go_upto_region 3 with (go_at_call 8; refine (K8.out _).mono ?_; rintro e w3 ⟨v2, rfl, hx3, x2, g2, c2, d2, rfl, hH2, hP2, hR2⟩)
 have hxa := (Ext.refl w3).alloc (.cells #[.pointer (some ⟨c2, 0, none⟩), .pointer (some ⟨d2, 0, none⟩)] 26)
 have hB2 := Blk.new w3 #[.pointer (some ⟨c2, 0, none⟩), .pointer (some ⟨d2, 0, none⟩)] 26
 have hcc2 : c < c2 := by
  have h1 := Blk.lt hP
  obtain ⟨_, _, _, _, _, _, hc, _⟩ := id hH2
  omega
 replace hH2 := (hH2.base hx1).ext hP2 hR2 hxa
 replace hP2 : HBlk TH _ c2 _ _ := Blk.ext hP2 hxa
 replace hR2 : HBlk TR _ d2 _ _ := Blk.ext hR2 hxa
 have hx13 := hx3.trans hxa
 replace hH := hH.ext hP hR hx13
 replace hP : HBlk TH _ c _ _ := Blk.ext hP hx13
 replace hR : HBlk TR _ d _ _ := Blk.ext hR hx13
 replace hB := Blk.ext hB hx13
 replace hx1 := hx1.trans hx13
 clear hxa hx13 hx3 K8
 generalize w3.alloc (.cells #[.pointer (some ⟨c2, 0, none⟩), .pointer (some ⟨d2, 0, none⟩)] 26) = w4 at *
 generalize w3.heap.size = b2 at *
 go_upto_region 5 with fail
 have hcl := Nat.le_of_lt (Blk.lt hP)
 have hdl := Nat.le_of_lt (Blk.lt hP2)
 have km : ∀ {y : Nat} {u v : World}, y ∈ [c, d] -> Keep [y] u v -> Keep [c, d] u v := fun hy k => ⟨k.os, k.tape, k.output, k.size, fun i hi hn => k.block i hi (fun hm => by rw [List.mem_singleton] at hm; subst hm; exact hn hy)⟩
 have KF := Lib.hid (by
  obtain ⟨_, _, _, _, _, hxx, hc, hrp, _⟩ := id hH
  exact hfeed_any ⟨#[5, 1, 2]⟩ (by decide) tn3 (by decide) (henv.ext (ext_upTo hcl hc hxx)) (htabs.ext (ext_upTo hcl hc hxx)) (upTo_ext w4 hcl) (Nat.le_of_eq (upTo_size w4 hcl)) hrp okS_zhst hP)
 have b0 := Blk.cell hB (i := 0) rfl
 have hlt8 := Blk.lt hR
 go_upto_region 6 with (go_at_call 35; refine KF.out.mono ?_; rintro e w5 ⟨n, o, s1, hF1, rfl, hl1, hP5, hs1, ho1⟩)
 have AW : Fed txt3 tn3 zhst ⟨#[5, 1, 2]⟩ 3 ⟨#[5, 2]⟩ (2, 0, 1, -1, ztgt, 0) := awg_fed txt3
 obtain ⟨hn1, ho1', hs1'⟩ := hF1.1.same hF1.2 AW.1 AW.2
 subst hs1' hn1
 have h52 : (o.toList == [5, 2]) = true := by rw [ho1']; decide +kernel
 clear hF1 ho1 ho1' KF b0 AW
 have hcw : w.heap.size <= c := by obtain ⟨_, _, _, _, _, _, hc, _⟩ := id hH; exact hc
 have hcd : c < d := by obtain ⟨_, _, _, _, _, _, _, _, hc, _⟩ := id hH; exact hc
 have hk5 := km (by simp) hl1.1
 have hH5 := hH2.other hP hR hk5 hcw (by omega)
 have hne : c2 ∉ [c] := by rw [List.mem_singleton]; omega
 have hne2 : b2 ∉ [c] := by
  rw [List.mem_singleton]
  exact fun q => Blk.ne_type hB2 hP (by decide) q
 have hne1 : b1 ∉ [c] := by
  rw [List.mem_singleton]
  exact fun q => Blk.ne_type hB hP (by decide) q
 have hP52 : HBlk TH w5 c2 _ _ := Blk.keep hP2 hl1.1 hne
 have hB5 := Blk.keep hB hl1.1 hne1
 have hB52 := Blk.keep hB2 hl1.1 hne2
 have hx5 := Keep.ext ((hx1.keep [c, d]).trans hk5) (fun y hy => by simp only [List.mem_cons, List.not_mem_nil, or_false] at hy; omega)
 clear hP hR hB hB2 hH hH2 hR2 hk5 hl1 hx1 hP2 hne hne1 hne2 km
 have hcl2 := Nat.le_of_lt (Blk.lt hP52)
 have hcw2 : w.heap.size <= c2 := by obtain ⟨_, _, _, _, _, _, hc, _⟩ := id hH5; exact hc
 have KG := Lib.hid (by
  obtain ⟨_, _, _, _, _, hxx, hc, hrp, _⟩ := id hH5
  exact hfeed_any ⟨#[71]⟩ (by decide) tn3 (by decide) (henv.ext (ext_upTo hcl2 hc hxx)) (htabs.ext (ext_upTo hcl2 hc hxx)) (upTo_ext w5 hcl2) (Nat.le_of_eq (upTo_size w5 hcl2)) hrp okS_zhst hP52)
 have b02 := Blk.cell hB52 (i := 0) rfl
 go_upto_region 7 with (go_at_call 35; refine KG.out.mono ?_; rintro e w6 ⟨n2, o2, s2, hF2, rfl, hl2, hP6, hs2, ho2⟩)
 have AG : Fed txt3 tn3 zhst ⟨#[71]⟩ 0 st400 (5, 2, 0, -1, ztgt, 10) := awG_fed txt3
 obtain ⟨hn2, ho2', hs2'⟩ := hF2.1.same hF2.2 AG.1 AG.2
 subst hs2' hn2 ho2'
 clear hF2 KG b02 AG
 have hne : c ∉ [c2] := by rw [List.mem_singleton]; omega
 have hne2 : b2 ∉ [c2] := by
  rw [List.mem_singleton]
  exact fun q => Blk.ne_type hB52 hP52 (by decide) q
 have hne1 : b1 ∉ [c2] := by
  rw [List.mem_singleton]
  exact fun q => Blk.ne_type hB5 hP52 (by decide) q
 have hx6 := Keep.ext ((hx5.keep [c2]).trans hl2.1) (fun y hy => by rw [List.mem_singleton] at hy; omega)
 have hPc : HBlk TH w6 c _ _ := Blk.keep hP5 hl2.1 hne
 have hB6 := Blk.keep hB5 hl2.1 hne1
 have hB62 := Blk.keep hB52 hl2.1 hne2
 clear hl2 hP5 hB5 hB52 hP52 hH5 hne hne1 hne2 hx5 hcl2
 have g0 : ∀ w', Ext w6 w' -> w'.cell? ⟨b1, 0, none⟩ = some (.pointer (some ⟨c, 0, none⟩)) := fun w' h => Blk.cell (Blk.ext hB6 h) rfl
 have g02 : ∀ w', Ext w6 w' -> w'.cell? ⟨b2, 0, none⟩ = some (.pointer (some ⟨c2, 0, none⟩)) := fun w' h => Blk.cell (Blk.ext hB62 h) rfl
 have k1 := fun w' (h : Ext w6 w') => callsE (hproto_any (Blk.ext hPc h))
 have k2 := fun w' (h : Ext w6 w') => callsE (htenant_any (Blk.ext hPc h))
 have k4 := fun w' (h : Ext w6 w') => callsE (hreason_any (okH_t2 _ _ _ _ _) (Blk.ext hP6 h))
 have c1 := fun w' (h : Ext w6 w') => rst400 w'
 have hself := toList_self_ne8 st400
 refine wp_region_rgs ?_
 iterate 12
  first
   | (apply goV_skip (by intro u; rfl))
   | (apply goV_val _ (by intro u; rfl); · (intro u w hSw hF; go_simp; try with_reducible rfl))
  try simp only [aput, List.set]
 first
  | (apply goV_skip (by intro u; rfl))
  | (apply goV_val (.pointer (some ⟨c, 0, none⟩)) (by intro u; rfl); · (intro u w hSw hF; have c0 := g0 w hSw; go_simp))
 try simp only [aput, List.set]
 first
  | (apply goV_skip (by intro u; rfl))
  | (apply goV_call (by intro u; rfl) k1; · (intro u w hSw hF; go_simp; try with_reducible rfl))
 try simp only [aput, List.set]
 iterate 4
  first
   | (apply goV_skip (by intro u; rfl))
   | (apply goV_val _ (by intro u; rfl); · (intro u w hSw hF; go_simp; try with_reducible rfl))
  try simp only [aput, List.set]
 first
  | (apply goV_skip (by intro u; rfl))
  | (apply goV_val (.pointer (some ⟨c, 0, none⟩)) (by intro u; rfl); · (intro u w hSw hF; have c0 := g0 w hSw; go_simp))
 try simp only [aput, List.set]
 first
  | (apply goV_skip (by intro u; rfl))
  | (apply goV_call (by intro u; rfl) k2; · (intro u w hSw hF; go_simp; try with_reducible rfl))
 try simp only [aput, List.set]
 iterate 8
  first
   | (apply goV_skip (by intro u; rfl))
   | (apply goV_val _ (by intro u; rfl); · (intro u w hSw hF; go_simp; try with_reducible rfl))
  try simp only [aput, List.set]
 first
  | (apply goV_skip (by intro u; rfl))
  | (apply goV_call (by intro u; rfl) c1; · (intro u w hSw hF; go_simp; try with_reducible rfl))
 try simp only [aput, List.set]
 iterate 8
  first
   | (apply goV_skip (by intro u; rfl))
   | (apply goV_val _ (by intro u; rfl); · (intro u w hSw hF; go_simp; try with_reducible rfl))
  try simp only [aput, List.set]
 first
  | (apply goV_skip (by intro u; rfl))
  | (apply goV_val (.pointer (some ⟨c2, 0, none⟩)) (by intro u; rfl); · (intro u w hSw hF; have c0 := g02 w hSw; go_simp))
 try simp only [aput, List.set]
 first
  | (apply goV_skip (by intro u; rfl))
  | (apply goV_call (by intro u; rfl) k4; · (intro u w hSw hF; go_simp; try with_reducible rfl))
 try simp only [aput, List.set]
 iterate 3
  first
   | (apply goV_skip (by intro u; rfl))
   | (apply goV_val _ (by intro u; rfl); · (intro u w hSw hF; go_simp; try with_reducible rfl))
  try simp only [aput, List.set]
 intro u w7 hx7 _
 go_wp2
 go_ret; exact ⟨rfl, hx6.trans hx7⟩
open Go.RowKit Go.ChangeShapes Go.WideShapes
theorem bytes_i64 : Tryz.prog.bytesOf 3 = 8 := by kernel_rfl
theorem cells_i64 : Tryz.prog.cellsOf 3 = 1 := by kernel_rfl
theorem add_at8 (b off i : Nat) : (⟨b, off, none⟩ : Addr).add i = ⟨b, off + i, none⟩ := by unfold Addr.add; split <;> simp_all
def IntsIn (w : World) (a : Option Addr) (n c : Nat) (zs : List Int) : Prop :=
 (a = none /\ n = 0 /\ c = 0) ∨ ∃ ad, a = some ad /\ n <= c /\ (0 < n -> ∃ b off, ad = ⟨b, off, none⟩ /\ b < w.heap.size /\ ∀ i, i < n -> w.cell? ⟨b, off + i, none⟩ = some (.int .i64 (zs.getD i 0)))
theorem IntsIn.ext {w w' : World} {a : Option Addr} {n c : Nat} {zs : List Int} (h : IntsIn w a n c zs) (k : Ext w w') : IntsIn w' a n c zs := by
 rcases h with h | ⟨ad, h1, h2, h4⟩
 ·exact .inl h
 ·refine .inr ⟨ad, h1, h2, fun hp => ?_⟩
  obtain ⟨b, off, e, hb, hc⟩ := h4 hp
  exact ⟨b, off, e, Nat.lt_of_lt_of_le hb k.size, fun i hi => by rw [k.cell (show (⟨b, off + i, none⟩ : Addr).block < _ from hb)]; exact hc i hi⟩
theorem open_i64s {H : Type} {enc : TypeId × Value -> H} {W : World} {r : Reach} {b0 : Nat} {v : Value} {d : DataW H} {p : List MemPlace} (hval : Value.okWide Tryz.prog W r b0 22 v) (hd : DataW.Trod enc Tryz.prog W 0 (fun _ => true) true 22 v d p)
  {ts : List TypeId} {ds : List (DataW H)} (hsz : (DataW.weightsEach Tryz.prog ts ds).all (· <= reachBytes) = true) {j : Nat} (hj : ts[j]? = some 22) (hjd : ds[j]? = some d) :
  ∃ (a : Option Addr) (n c : Nat) (zs : List Int), v = .slice a n c /\ n <= 140737488351232 /\ IntsIn W a n c zs := by
 obtain ⟨a, len, cap, rfl⟩ := okWide_slice Tryz.underlying22 hval
 obtain ⟨fuel, hf⟩ := hd
 rcases open_ints Tryz.underlying22 Tryz.underlying3 cells_i64 hf with ⟨hcs, hx⟩ | ⟨a', l', c', zs, hcs, _, hl, hm, hz, hx, hcell, hwz⟩
 ·simp [Value.cells] at hcs
  obtain ⟨rfl, rfl, rfl⟩ := hcs
  exact ⟨none, 0, 0, [], rfl, Nat.zero_le _, .inl ⟨rfl, rfl, rfl⟩⟩
 ·simp [Value.cells] at hcs
  obtain ⟨rfl, rfl, rfl⟩ := hcs
  simp only [if_true] at hz
  simp only [Prod.mk.injEq] at hx
  obtain ⟨rfl, rfl⟩ := hx
  have hw := sized_slice hsz hj hjd Tryz.underlying22
  have h3 : len <= 140737488351232 := by
   rw [bytes_i64] at hw
   simp [reachBytes, lits] at hw
   omega
  refine ⟨some a', len, cap, zs, rfl, h3, .inr ⟨a', rfl, hl, fun h0 => ?_⟩⟩
  obtain ⟨b, off, spot⟩ := a'
  have h00 := hcell 0 (by omega)
  have hspot : spot = none := by simpa [Addr.add] using World.cell?_spot h00
  subst hspot
  refine ⟨b, off, rfl, ?_, fun i hi => ?_⟩
  ·rw [add_at8] at h00
   exact World.block_lt_of_cell? W _ h00
  ·have hc := hcell i (by omega)
   rw [add_at8] at hc
   exact hc
end Go.Proofs.YtnohnnjeabehjaaGreatDoor
