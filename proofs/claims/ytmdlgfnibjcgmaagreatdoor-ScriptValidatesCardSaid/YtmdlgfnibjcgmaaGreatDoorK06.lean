/-
  Several texts joined: ScM, ScD, ScE.
-/
import Derived.Test.YtmdlgfnibjcgmaaGreatDoorK05
set_option maxHeartbeats 16000000
set_option maxRecDepth 8000
set_option linter.unusedVariables false
set_option linter.unusedSimpArgs false
namespace Go.Proofs.YtmdlgfnibjcgmaaGreatDoor
open Go.RowKit
theorem Blk.mid8 {w : World} {b : Nat} {pre mid post : List Value} {t : TypeId} (h : Blk w b (pre ++ (mid ++ post)) t) {o : Nat} (ho : pre.length = o) : w.rangeAt b o mid := fun j v hj => by
 refine h.cell (i := o + j) ?_
 rw [List.getElem?_append_right (by omega), show o + j - pre.length = j by omega, List.getElem?_append_left (List.getElem?_eq_some_iff.1 hj).1]
 exact hj
theorem Blk.all8 {w : World} {b : Nat} {cs : List Value} {t : TypeId} (h : Blk w b cs t) : w.rangeAt b 0 cs := Blk.mid8 (pre := []) (mid := cs) (post := []) (by simpa using h) rfl
section
variable {ty : TypeId} {fs : Array Field} {cs : List Value}
theorem res_c1 (hu : Tryz.prog.underlying ty = some (.struct fs)) (hi : (Tryz.prog.info? ty).map (·.size) = some cs.length) {fn : Func} {t : Tmp} (h : fn.results = #[.cell t ty]) {tmps : Array Value} {c : Nat} (hq : tmps.getD t undef = .pointer (some ⟨c, 0, none⟩)) {w : World} (hb : Blk w c cs ty) :
  (results fn tmps).run Tryz.prog w = .ok (.agg cs.toArray) w := by
 have := run_loadVar_mid (P := Tryz.prog) w c 0 ty cs _ (Blk.all8 hb) hu rfl hi
 have hq' : tmps[t]?.getD undef = .pointer (some ⟨c, 0, none⟩) := by simpa using hq
 simp [results, h, hq', this, Sem.run_bind, asAddr]
theorem res_c2 (hu : Tryz.prog.underlying ty = some (.struct fs)) (hi : (Tryz.prog.info? ty).map (·.size) = some cs.length) {fn : Func} {t u : Tmp} (h : fn.results = #[.cell t ty, .tmp u]) {tmps : Array Value} {c : Nat} (hq : tmps.getD t undef = .pointer (some ⟨c, 0, none⟩)) {w : World} (hb : Blk w c cs ty) :
  (results fn tmps).run Tryz.prog w = .ok (.tuple #[.agg cs.toArray, tmps.getD u undef]) w := by
 have := run_loadVar_mid (P := Tryz.prog) w c 0 ty cs _ (Blk.all8 hb) hu rfl hi
 have hq' : tmps[t]?.getD undef = .pointer (some ⟨c, 0, none⟩) := by simpa using hq
 simp [results, h, hq', this, Sem.run_bind, asAddr]
theorem wpList_loadS (hu : Tryz.prog.underlying ty = some (.struct fs)) (hi : (Tryz.prog.info? ty).map (·.size) = some cs.length) {ops : Array Oper} {rest : List Oper} {o : Oper} {a : Act} {w : World} {Q : Exit -> Act -> World -> Prop} (hgd : o.guard = none) (x : Operand) (ho : o.op = .load ty x)
  {b k : Nat} (hr : w.rangeAt b k cs) (hx : a.eval x = .pointer (some ⟨b, k, none⟩)) (hn : wpList Tryz.prog ops Q rest (a.put o.dst (.agg cs.toArray)) w) : wpList Tryz.prog ops Q (o :: rest) a w :=
 wpList_load_mid hgd ty x ho b k hx cs _ hr hu rfl hi hn
theorem wpList_storeS (hi : (Tryz.prog.info? ty).map (·.size) = some cs.length) {ops : Array Oper} {rest : List Oper} {o : Oper} {a : Act} {w : World} {Q : Exit -> Act -> World -> Prop} (hgd : o.guard = none) (x y : Operand) (ho : o.op = .store ty x y)
  {c : Nat} {z : List Value} (hz : z.length = cs.length) (h1 : cs.toArray.all (·.oneCell') = true) (hb : Blk w c z ty) (hx : a.eval x = .pointer (some ⟨c, 0, none⟩)) (hy : a.eval y = .agg cs.toArray) (h : wpList Tryz.prog ops Q rest (a.put o.dst undef) (w.setRow c cs.toArray)) : wpList Tryz.prog ops Q (o :: rest) a w :=
 wpList_plain hgd fun _ hK => wp_store_row ty x y ho c cs.toArray hx hy ty z.toArray hb (by rw [hi, List.size_toArray]) (by rw [List.size_toArray, List.size_toArray, hz]) h1 (hK _ _ h)
end
open Go.RowKit
def flv (f : Fl) : Value := .agg #[.bool f.1, .bool f.2.1, .bool f.2.2.1, .bool f.2.2.2.1, .bool f.2.2.2.2.1, .bool f.2.2.2.2.2]
def rfv (f : Fl) : Value := .agg #[.bool f.1, .bool f.2.1, .bool f.2.2.1, .bool f.2.2.2.1, .bool f.2.2.2.2.1, .bool f.2.2.2.2.2, .bool f.2.2.2.1]
theorem inR_any (n most : Int) (p : Bool) (hm : 0 <= most) (w : World) : Calls Tryz.prog 46 #[.int .i64 n, .int .i64 most, .bool p] w fun e w' => e = .returned (.bool (rng n most p)) /\ w = w' := by
 unfold rng
 go_enter Tryz.func46, Tryz.ntmps46
 cases p with
 | true =>
  go_wp2
  all_goals go_ret
  all_goals simp
  all_goals (try (rw [Bool.eq_iff_iff]; simp))
  all_goals (try omega)
 | false =>
  go_wp2
  all_goals go_ret
  all_goals simp
  all_goals (try (rw [Bool.eq_iff_iff]; simp))
  all_goals (try omega)
theorem rinR_any (n most : Int) (p : Bool) (hm : 0 <= most) (w : World) : Calls Tryz.prog 48 #[.int .i64 n, .int .i64 most, .bool p] w fun e w' => e = .returned (.bool (rng n most p)) /\ w = w' := by
 unfold rng
 go_enter Tryz.func48, Tryz.ntmps48
 cases p with
 | true =>
  go_wp2
  all_goals go_ret
  all_goals simp
  all_goals (try (rw [Bool.eq_iff_iff]; simp))
  all_goals (try omega)
 | false =>
  go_wp2
  all_goals go_ret
  all_goals simp
  all_goals (try (rw [Bool.eq_iff_iff]; simp))
  all_goals (try omega)
theorem info_fl : (Tryz.prog.info? 82).map (·.size) = some 6 := by kernel_rfl
theorem info_rfl : (Tryz.prog.info? 74).map (·.size) = some 7 := by kernel_rfl
theorem flds_any (k : Int) (w : World) : Calls Tryz.prog 36 #[.int .i64 k] w fun e w' => e = .returned (.tuple #[flv (flds k), .bool (decide (1 <= k /\ k <= 11))]) /\ Ext w w' := by
 go_enter Tryz.func36, Tryz.ntmps36
 go_upto_region 1 with fail
 by_cases h1 : k = 1
 ·subst h1
  go_wp2_with fail
  exact bodyPost_ret (res_c2 Tryz.underlying82 (by rw [info_fl]; rfl) rfl rfl (Blk.new w _ _)) rfl ⟨rfl, (Ext.refl w).alloc _⟩
 by_cases h2 : k = 2
 ·subst h2
  go_wp2_with fail
  exact bodyPost_ret (res_c2 Tryz.underlying82 (by rw [info_fl]; rfl) rfl rfl (Blk.new w _ _)) rfl ⟨rfl, (Ext.refl w).alloc _⟩
 by_cases h3 : k = 3
 ·subst h3
  go_wp2_with fail
  exact bodyPost_ret (res_c2 Tryz.underlying82 (by rw [info_fl]; rfl) rfl rfl (Blk.new w _ _)) rfl ⟨rfl, (Ext.refl w).alloc _⟩
 by_cases h4 : k = 4
 ·subst h4
  go_wp2_with fail
  exact bodyPost_ret (res_c2 Tryz.underlying82 (by rw [info_fl]; rfl) rfl rfl (Blk.new w _ _)) rfl ⟨rfl, (Ext.refl w).alloc _⟩
 by_cases h5 : k = 5
 ·subst h5
  go_wp2_with fail
  exact bodyPost_ret (res_c2 Tryz.underlying82 (by rw [info_fl]; rfl) rfl rfl (Blk.new w _ _)) rfl ⟨rfl, (Ext.refl w).alloc _⟩
 by_cases h6 : k = 6
 ·subst h6
  go_wp2_with fail
  exact bodyPost_ret (res_c2 Tryz.underlying82 (by rw [info_fl]; rfl) rfl rfl (Blk.new w _ _)) rfl ⟨rfl, (Ext.refl w).alloc _⟩
 by_cases h7 : k = 7
 ·subst h7
  go_wp2_with fail
  exact bodyPost_ret (res_c2 Tryz.underlying82 (by rw [info_fl]; rfl) rfl rfl (Blk.new w _ _)) rfl ⟨rfl, (Ext.refl w).alloc _⟩
 by_cases h8 : k = 8
 ·subst h8
  go_wp2_with fail
  exact bodyPost_ret (res_c2 Tryz.underlying82 (by rw [info_fl]; rfl) rfl rfl (Blk.new w _ _)) rfl ⟨rfl, (Ext.refl w).alloc _⟩
 by_cases h9 : k = 9
 ·subst h9
  go_wp2_with fail
  exact bodyPost_ret (res_c2 Tryz.underlying82 (by rw [info_fl]; rfl) rfl rfl (Blk.new w _ _)) rfl ⟨rfl, (Ext.refl w).alloc _⟩
 by_cases h10 : k = 10
 ·subst h10
  go_wp2_with fail
  exact bodyPost_ret (res_c2 Tryz.underlying82 (by rw [info_fl]; rfl) rfl rfl (Blk.new w _ _)) rfl ⟨rfl, (Ext.refl w).alloc _⟩
 by_cases h11 : k = 11
 ·subst h11
  go_wp2_with fail
  exact bodyPost_ret (res_c2 Tryz.underlying82 (by rw [info_fl]; rfl) rfl rfl (Blk.new w _ _)) rfl ⟨rfl, (Ext.refl w).alloc _⟩
 have HE : Hid (flds k = (false, false, false, false, false, false)) := Lib.hid (by
  unfold flds
  rw [if_neg h1, if_neg h2, if_neg (by omega), if_neg h5, if_neg h7, if_neg h8, if_neg (by omega), if_neg h10])
 have HB : Hid (decide (1 <= k /\ k <= 11) = false) := Lib.hid (by rw [decide_eq_false_iff_not]; omega)
 go_wp2_with fail
 exact bodyPost_ret (res_c2 Tryz.underlying82 (by rw [info_fl]; rfl) rfl rfl (Blk.new w _ _)) rfl ⟨(by rw [HE.out, HB.out]; rfl), (Ext.refl w).alloc _⟩
theorem rflds_any (k : Int) (w : World) : Calls Tryz.prog 33 #[.int .i64 k] w fun e w' => e = .returned (rfv (flds k)) /\ Ext w w' := by
 go_enter Tryz.func33, Tryz.ntmps33
 go_upto_region 1 with fail
 by_cases h1 : k = 1
 ·subst h1
  go_wp2_with fail
  exact bodyPost_ret (res_c1 Tryz.underlying74 (by rw [info_rfl]; rfl) rfl rfl (Blk.new w _ _)) rfl ⟨rfl, (Ext.refl w).alloc _⟩
 by_cases h2 : k = 2
 ·subst h2
  go_wp2_with fail
  exact bodyPost_ret (res_c1 Tryz.underlying74 (by rw [info_rfl]; rfl) rfl rfl (Blk.new w _ _)) rfl ⟨rfl, (Ext.refl w).alloc _⟩
 by_cases h3 : k = 3
 ·subst h3
  go_wp2_with fail
  exact bodyPost_ret (res_c1 Tryz.underlying74 (by rw [info_rfl]; rfl) rfl rfl (Blk.new w _ _)) rfl ⟨rfl, (Ext.refl w).alloc _⟩
 by_cases h4 : k = 4
 ·subst h4
  go_wp2_with fail
  exact bodyPost_ret (res_c1 Tryz.underlying74 (by rw [info_rfl]; rfl) rfl rfl (Blk.new w _ _)) rfl ⟨rfl, (Ext.refl w).alloc _⟩
 by_cases h5 : k = 5
 ·subst h5
  go_wp2_with fail
  exact bodyPost_ret (res_c1 Tryz.underlying74 (by rw [info_rfl]; rfl) rfl rfl (Blk.new w _ _)) rfl ⟨rfl, (Ext.refl w).alloc _⟩
 by_cases h6 : k = 6
 ·subst h6
  go_wp2_with fail
  exact bodyPost_ret (res_c1 Tryz.underlying74 (by rw [info_rfl]; rfl) rfl rfl (Blk.new w _ _)) rfl ⟨rfl, (Ext.refl w).alloc _⟩
 by_cases h7 : k = 7
 ·subst h7
  go_wp2_with fail
  exact bodyPost_ret (res_c1 Tryz.underlying74 (by rw [info_rfl]; rfl) rfl rfl (Blk.new w _ _)) rfl ⟨rfl, (Ext.refl w).alloc _⟩
 by_cases h8 : k = 8
 ·subst h8
  go_wp2_with fail
  exact bodyPost_ret (res_c1 Tryz.underlying74 (by rw [info_rfl]; rfl) rfl rfl (Blk.new w _ _)) rfl ⟨rfl, (Ext.refl w).alloc _⟩
 by_cases h9 : k = 9
 ·subst h9
  go_wp2_with fail
  exact bodyPost_ret (res_c1 Tryz.underlying74 (by rw [info_rfl]; rfl) rfl rfl (Blk.new w _ _)) rfl ⟨rfl, (Ext.refl w).alloc _⟩
 by_cases h10 : k = 10
 ·subst h10
  go_wp2_with fail
  exact bodyPost_ret (res_c1 Tryz.underlying74 (by rw [info_rfl]; rfl) rfl rfl (Blk.new w _ _)) rfl ⟨rfl, (Ext.refl w).alloc _⟩
 by_cases h11 : k = 11
 ·subst h11
  go_wp2_with fail
  exact bodyPost_ret (res_c1 Tryz.underlying74 (by rw [info_rfl]; rfl) rfl rfl (Blk.new w _ _)) rfl ⟨rfl, (Ext.refl w).alloc _⟩
 have HE : Hid (flds k = (false, false, false, false, false, false)) := Lib.hid (by
  unfold flds
  rw [if_neg h1, if_neg h2, if_neg (by omega), if_neg h5, if_neg h7, if_neg h8, if_neg (by omega), if_neg h10])
 go_wp2_with fail
 exact bodyPost_ret (res_c1 Tryz.underlying74 (by rw [info_rfl]; rfl) rfl rfl (Blk.new w _ _)) rfl ⟨(by rw [HE.out]; rfl), (Ext.refl w).alloc _⟩
open Go.RowKit
theorem info_Ad : (Tryz.prog.info? 72).map (·.size) = some 17 := by kernel_rfl
theorem info_Ev : (Tryz.prog.info? 31).map (·.size) = some 8 := by kernel_rfl
theorem AdsIn.len {w : World} {sl : Value} {l : List Adr} (h : AdsIn w sl l) : ∃ a cap, sl = .slice a l.length cap := by
 obtain ⟨a, cap, h1, _⟩ := h
 exact ⟨a, cap, h1⟩
theorem AdsIn.get {w : World} {a : Option Addr} {cap : Nat} {l : List Adr} (h : AdsIn w (.slice a l.length cap) l) {k : Nat} {x : Adr} (hk : l[k]? = some x) : ∃ b off, a = some ⟨b, off, none⟩ /\ b < w.heap.size /\ okA x /\ w.rangeAt b (off + k * 17) (ac x).toList /\ l.length <= cap := by
 obtain ⟨a', cap', h1, h2, h3, h4⟩ := h
 have hlt := (List.getElem?_eq_some_iff.1 hk).1
 cases h1
 obtain ⟨b, off, e, hb, hc⟩ := h4 (by omega)
 exact ⟨b, off, e, hb, h3 x (List.mem_of_getElem? hk), hc k x hk, h2⟩
theorem validE_eq (e : Ev) : validE e = (decide (1 <= e.k /\ e.k <= 11) && rng e.c 1048575 (flds e.k).1 && rng e.a 64 (flds e.k).2.1 && rng e.r 255 (flds e.k).2.2.2.2.1 && rng e.d.size 2000 (flds e.k).2.2.2.2.2 && rng e.ads.length 16 (flds e.k).2.2.2.1
  && (decide (e.n = 0) || (flds e.k).2.2.1) && (!e.v6 || (flds e.k).2.2.2.1) && e.ads.all validA) := rfl
theorem vev_any (ev : Ev) (sl : Value) (ho : okE ev) {w : World} (hA : AdsIn w sl ev.ads) : Calls Tryz.prog 26 #[.agg (evl ev sl).toArray] w fun e w' => e = .returned (.bool (validE ev)) /\ Ext w w' := by
 have HV := Lib.hid (validE_eq ev)
 have KF := Lib.hid (fun w => flds_any ev.k w)
 obtain ⟨a, cap, rfl⟩ := hA.len
 have hal : (ev.ads.length : Int) <= 9223372036854775807 := by have := ho.2.2; unfold maxLen at this; omega
 have K1 := Lib.hid (fun w => inR_any ev.c 1048575 (flds ev.k).1 (by decide) w)
 have K2 := Lib.hid (fun w => inR_any ev.a 64 (flds ev.k).2.1 (by decide) w)
 have K3 := Lib.hid (fun w => inR_any ev.r 255 (flds ev.k).2.2.2.2.1 (by decide) w)
 have K4 := Lib.hid (fun w => inR_any ev.d.size 2000 (flds ev.k).2.2.2.2.2 (by decide) w)
 have K5 := Lib.hid (fun w => inR_any ev.ads.length 16 (flds ev.k).2.2.2.1 (by decide) w)
 obtain ⟨k, c, at_, n, v6, rs, d, ads⟩ := ev
 simp only at *
 unfold evl flv at *
 simp only at *
 generalize flds k = f at *
 obtain ⟨f1, f2, f3, f4, f5, f6⟩ := f
 simp only at *
 generalize rng c 1048575 f1 = r1 at *
 generalize rng at_ 64 f2 = r2 at *
 generalize rng rs 255 f5 = r3 at *
 generalize rng d.size 2000 f6 = r4 at *
 generalize rng ads.length 16 f4 = r5 at *
 generalize hok : decide (1 <= k /\ k <= 11) = ok at *
 clear hok
 have HA := Lib.hid hA
 clear hA ho
 go_enter Tryz.func26, Tryz.ntmps26
 go_upto_region 1 with fail
 have hx1 := (Ext.refl w).alloc (.cells #[.int .i64 k, .int .i64 c, .int .i64 at_, .int .u64 n, .bool v6, .int .i64 rs, .string d, .slice a ads.length cap] 31)
 have hE := Blk.new w #[.int .i64 k, .int .i64 c, .int .i64 at_, .int .u64 n, .bool v6, .int .i64 rs, .string d, .slice a ads.length cap] 31
 generalize w.alloc (.cells #[.int .i64 k, .int .i64 c, .int .i64 at_, .int .u64 n, .bool v6, .int .i64 rs, .string d, .slice a ads.length cap] 31) = w1 at *
 generalize w.heap.size = eb at hE ⊢
 have c0 : w1.cell? ⟨eb, 0, none⟩ = some (.int .i64 k) := hE.cell rfl
 go_upto_region 2 with (go_at_call 36; refine (KF.out _).mono ?_; rintro e w2 ⟨rfl, hx2⟩)
 have hxa := (Ext.refl w2).alloc (.cells #[.bool f1, .bool f2, .bool f3, .bool f4, .bool f5, .bool f6] 82)
 have hF := Blk.new w2 #[.bool f1, .bool f2, .bool f3, .bool f4, .bool f5, .bool f6] 82
 have hx := (hx1.trans hx2).trans hxa
 replace hE := Blk.ext (Blk.ext hE hx2) hxa
 clear hx1 hx2 hxa c0 KF
 generalize w2.alloc (.cells #[.bool f1, .bool f2, .bool f3, .bool f4, .bool f5, .bool f6] 82) = w3 at *
 generalize w2.heap.size = fb at hF ⊢
 have e1 : w3.cell? ⟨eb, 1, none⟩ = some (.int .i64 c) := hE.cell rfl
 have e2 : w3.cell? ⟨eb, 2, none⟩ = some (.int .i64 at_) := hE.cell rfl
 have e3 : w3.cell? ⟨eb, 3, none⟩ = some (.int .u64 n) := hE.cell rfl
 have e4 : w3.cell? ⟨eb, 4, none⟩ = some (.bool v6) := hE.cell rfl
 have e5 : w3.cell? ⟨eb, 5, none⟩ = some (.int .i64 rs) := hE.cell rfl
 have e6 : w3.cell? ⟨eb, 6, none⟩ = some (.string d) := hE.cell rfl
 have e7 : w3.cell? ⟨eb, 7, none⟩ = some (.slice a ads.length cap) := hE.cell rfl
 have g0 : w3.cell? ⟨fb, 0, none⟩ = some (.bool f1) := hF.cell rfl
 have g1 : w3.cell? ⟨fb, 1, none⟩ = some (.bool f2) := hF.cell rfl
 have g2 : w3.cell? ⟨fb, 2, none⟩ = some (.bool f3) := hF.cell rfl
 have g3 : w3.cell? ⟨fb, 3, none⟩ = some (.bool f4) := hF.cell rfl
 have g4 : w3.cell? ⟨fb, 4, none⟩ = some (.bool f5) := hF.cell rfl
 have g5 : w3.cell? ⟨fb, 5, none⟩ = some (.bool f6) := hF.cell rfl
 cases ok
 case false =>
  go_wp2_with (first | (go_at_call 46; with_reducible refine (K1.out _).mono ?_; rintro e w9 ⟨rfl, rfl⟩) | (go_at_call 46; with_reducible refine (K2.out _).mono ?_; rintro e w9 ⟨rfl, rfl⟩) | (go_at_call 46; with_reducible refine (K3.out _).mono ?_; rintro e w9 ⟨rfl, rfl⟩) | (go_at_call 46; with_reducible refine (K4.out _).mono ?_; rintro e w9 ⟨rfl, rfl⟩) | (go_at_call 46; with_reducible refine (K5.out _).mono ?_; rintro e w9 ⟨rfl, rfl⟩))
  go_ret
  exact ⟨by rw [HV.out]; simp, hx⟩
 cases r1
 case false =>
  go_wp2_with (first | (go_at_call 46; with_reducible refine (K1.out _).mono ?_; rintro e w9 ⟨rfl, rfl⟩) | (go_at_call 46; with_reducible refine (K2.out _).mono ?_; rintro e w9 ⟨rfl, rfl⟩) | (go_at_call 46; with_reducible refine (K3.out _).mono ?_; rintro e w9 ⟨rfl, rfl⟩) | (go_at_call 46; with_reducible refine (K4.out _).mono ?_; rintro e w9 ⟨rfl, rfl⟩) | (go_at_call 46; with_reducible refine (K5.out _).mono ?_; rintro e w9 ⟨rfl, rfl⟩))
  go_ret
  exact ⟨by rw [HV.out]; simp, hx⟩
 cases r2
 case false =>
  go_wp2_with (first | (go_at_call 46; with_reducible refine (K1.out _).mono ?_; rintro e w9 ⟨rfl, rfl⟩) | (go_at_call 46; with_reducible refine (K2.out _).mono ?_; rintro e w9 ⟨rfl, rfl⟩) | (go_at_call 46; with_reducible refine (K3.out _).mono ?_; rintro e w9 ⟨rfl, rfl⟩) | (go_at_call 46; with_reducible refine (K4.out _).mono ?_; rintro e w9 ⟨rfl, rfl⟩) | (go_at_call 46; with_reducible refine (K5.out _).mono ?_; rintro e w9 ⟨rfl, rfl⟩))
  go_ret
  exact ⟨by rw [HV.out]; simp, hx⟩
 cases r3
 case false =>
  go_wp2_with (first | (go_at_call 46; with_reducible refine (K1.out _).mono ?_; rintro e w9 ⟨rfl, rfl⟩) | (go_at_call 46; with_reducible refine (K2.out _).mono ?_; rintro e w9 ⟨rfl, rfl⟩) | (go_at_call 46; with_reducible refine (K3.out _).mono ?_; rintro e w9 ⟨rfl, rfl⟩) | (go_at_call 46; with_reducible refine (K4.out _).mono ?_; rintro e w9 ⟨rfl, rfl⟩) | (go_at_call 46; with_reducible refine (K5.out _).mono ?_; rintro e w9 ⟨rfl, rfl⟩))
  go_ret
  exact ⟨by rw [HV.out]; simp, hx⟩
 cases r4
 case false =>
  go_wp2_with (first | (go_at_call 46; with_reducible refine (K1.out _).mono ?_; rintro e w9 ⟨rfl, rfl⟩) | (go_at_call 46; with_reducible refine (K2.out _).mono ?_; rintro e w9 ⟨rfl, rfl⟩) | (go_at_call 46; with_reducible refine (K3.out _).mono ?_; rintro e w9 ⟨rfl, rfl⟩) | (go_at_call 46; with_reducible refine (K4.out _).mono ?_; rintro e w9 ⟨rfl, rfl⟩) | (go_at_call 46; with_reducible refine (K5.out _).mono ?_; rintro e w9 ⟨rfl, rfl⟩))
  go_ret
  exact ⟨by rw [HV.out]; simp, hx⟩
 cases r5
 case false =>
  go_wp2_with (first | (go_at_call 46; with_reducible refine (K1.out _).mono ?_; rintro e w9 ⟨rfl, rfl⟩) | (go_at_call 46; with_reducible refine (K2.out _).mono ?_; rintro e w9 ⟨rfl, rfl⟩) | (go_at_call 46; with_reducible refine (K3.out _).mono ?_; rintro e w9 ⟨rfl, rfl⟩) | (go_at_call 46; with_reducible refine (K4.out _).mono ?_; rintro e w9 ⟨rfl, rfl⟩) | (go_at_call 46; with_reducible refine (K5.out _).mono ?_; rintro e w9 ⟨rfl, rfl⟩))
  go_ret
  exact ⟨by rw [HV.out]; simp, hx⟩
 obtain ⟨bad, hbad⟩ : ∃ bad : Bool, bad = ((!(n == 0) && !f3) || (v6 && !f4)) := ⟨_, rfl⟩
 have HB := Lib.hid hbad
 have HV2 : Hid (validE ⟨k, c, at_, n, v6, rs, d, ads⟩ = (!bad && ads.all validA)) := Lib.hid (by
  rw [HV.out, HB.out]
  by_cases q : n = 0 <;> cases f3 <;> cases v6 <;> cases f4 <;> simp [q])
 clear HV hbad
 go_upto_region 2 with fail
 go_upto_if 38 with (first | (go_at_call 46; with_reducible refine (K1.out _).mono ?_; rintro e w9 ⟨rfl, rfl⟩) | (go_at_call 46; with_reducible refine (K2.out _).mono ?_; rintro e w9 ⟨rfl, rfl⟩) | (go_at_call 46; with_reducible refine (K3.out _).mono ?_; rintro e w9 ⟨rfl, rfl⟩) | (go_at_call 46; with_reducible refine (K4.out _).mono ?_; rintro e w9 ⟨rfl, rfl⟩) | (go_at_call 46; with_reducible refine (K5.out _).mono ?_; rintro e w9 ⟨rfl, rfl⟩))
 go_upto_region 4 with fail
 go_cut [0, 73] from 5 to 72 (fun _ v wc => v = .bool bad /\ wc = w3)
 case first =>
  cases f3 <;> cases v6 <;> cases f4
  all_goals (go_wp2_with (first | (go_at_call 46; with_reducible refine (K1.out _).mono ?_; rintro e w9 ⟨rfl, rfl⟩) | (go_at_call 46; with_reducible refine (K2.out _).mono ?_; rintro e w9 ⟨rfl, rfl⟩) | (go_at_call 46; with_reducible refine (K3.out _).mono ?_; rintro e w9 ⟨rfl, rfl⟩) | (go_at_call 46; with_reducible refine (K4.out _).mono ?_; rintro e w9 ⟨rfl, rfl⟩) | (go_at_call 46; with_reducible refine (K5.out _).mono ?_; rintro e w9 ⟨rfl, rfl⟩)))
  all_goals go_meet
  all_goals (refine ⟨?_, rfl⟩; rw [HB.out])
  all_goals simp_all
 case rest =>
  obtain ⟨rfl, hwe⟩ := hcut
  replace hwe := hwe.symm
  subst hwe
  clear K1 K2 K3 K4 K5 HB e1 e2 e3 e4 e5 e6 g0 g1 g2 g3 g4 g5 hF
  cases bad
  case true =>
   go_wp2_with fail
   go_ret
   exact ⟨by rw [HV2.out]; rfl, hx⟩
  go_wp2_with fail
  have HA3 := Lib.hid (HA.out.ext hx)
  go_loopw [77] (fun i wr => ∃ k : Nat, i = .int .i64 k /\ k <= ads.length /\ (∀ x ∈ ads.take k, validA x = true) /\ Ext w3 wr) (fun i _ => ads.length - (intOf i).toNat)
  case atStart => exact ⟨0, rfl, Nat.zero_le _, fun x h => by simp at h, Ext.refl _⟩
  case round =>
   obtain ⟨j, rfl, hj, hall, hxr⟩ := hrel
   have HALL := Lib.hid hall
   clear hall
   by_cases hlt : j < ads.length
   ·have hlt' : (j : Int) < ads.length := by omega
    obtain ⟨x, hjx⟩ : ∃ x, ads[j]? = some x := ⟨ads[j]'hlt, List.getElem?_eq_getElem hlt⟩
    obtain ⟨ab, off, rfl, hab, hokx, hrx, hcap⟩ := (HA3.out.ext hxr).get hjx
    have HJX := Lib.hid hjx
    clear hjx
    have hbz := Blk.new wr (ac zadr) 72
    have KV := Lib.hid (fun w => valid_any x hokx w)
    have hj1 : IntKind.i64.wrap ((j : Int) + 1) = ((j + 1 : Nat) : Int) := by rw [IntWalk.i64_in _ (by omega)]; omega
    go_upto_region 9 with (first | refine wpList_loadS (cs := (ac x).toList) Tryz.underlying72 (by rw [info_Ad, Array.length_toList, ac_size hokx]) rfl _ rfl hrx rfl ?_ | refine wpList_store_A rfl _ _ rfl okA_zadr hokx hbz rfl rfl ?_)
    change Code.wp _ _ _ _ ((wr.alloc (.cells (ac zadr) 72)).setRow wr.heap.size (ac x))
    rw [World.setRow_alloc_new]
    have hb := Blk.new wr (ac x) 72
    have hxw := hxr.alloc (.cells (ac x) 72)
    clear hbz hrx
    generalize wr.alloc (.cells (ac x) 72) = w4 at *
    generalize wr.heap.size = b4 at hb ⊢
    cases hv : validA x
    case false =>
     have KV2 := Lib.hid KV.out
     rw [hv] at KV2
     go_wp2_with (first | refine wpList_load_A rfl _ rfl hokx hb rfl ?_ | (go_at_call 47; refine (KV2.out _).mono ?_; rintro e w5 ⟨rfl, hx5⟩))
     go_ret
     refine ⟨?_, (hx.trans hxw).trans hx5⟩
     have hf : ads.all validA = false := by
      rw [List.all_eq_false]
      exact ⟨x, List.mem_of_getElem? HJX.out, by rw [hv]; simp⟩
     rw [HV2.out, hf]; rfl
    have KV2 := Lib.hid KV.out
    rw [hv] at KV2
    have HVX := Lib.hid hv
    clear hv KV
    go_wp2_with (first | refine wpList_load_A rfl _ rfl hokx hb rfl ?_ | (go_at_call 47; refine (KV2.out _).mono ?_; rintro e w5 ⟨rfl, hx5⟩))
    refine ⟨⟨j + 1, by go_num, by omega, fun y hy => ?_, hxw.trans hx5⟩, ?_⟩
    ·have hjl : j < ads.length := hlt
     rw [List.take_add_one, HJX.out] at hy
     rcases List.mem_append.1 hy with q | q
     ·exact HALL.out y q
     ·simp at q; rw [q]; exact HVX.out
    ·simp [intOf]; omega
   ·obtain rfl : j = ads.length := by omega
    go_wp2_with fail
    go_ret
    exact ⟨by rw [HV2.out, List.all_eq_true.2 (fun x hx => HALL.out x (by rw [List.take_length]; exact hx))]; rfl, hx.trans hxr⟩
end Go.Proofs.YtmdlgfnibjcgmaaGreatDoor
