/-
  Several texts joined: IpE, Uni, IpEq, SeA.
-/
import Derived.DeepKeys
import Derived.Test.YtmdlgfnibjcgmaaGreatDoorK02
import Derived.OrdersHeld
import Derived.Tactics
import Derived.KernelRfl
import Derived.ProofKit
import Derived.Test.YtmdlgfnibjcgmaaGreatDoorK05
import Derived.Test.YtmdlgfnibjcgmaaGreatDoorK10
import Derived.Test.YtmdlgfnibjcgmaaGreatDoorK15
set_option maxHeartbeats 4000000
set_option maxRecDepth 10000
set_option linter.unusedVariables false
set_option linter.unusedSimpArgs false
namespace Go.Proofs.YtmdlgfnibjcgmaaGreatDoor
open Go.RowKit
section
variable {P : Program} {ops : Array Oper} {Q : Exit -> Act -> World -> Prop} {md : Region.Mode} {S : World -> Prop}
def Outcome (P : Program) (S : World -> Prop) (v : Value) : Result Next -> Prop
 | .ok (.value u) w' => u = v /\ S w'
 | .ok (.enter f args) w' => Calls P f args w' fun e w'' => e = .returned v /\ S w''
 | .ok (.row row args) w' => Rows P row args w' fun u w'' => u = v /\ S w''
 | _ => False
def DoesIf (P : Program) (ops : Array Oper) (S : World -> Prop) (o : Oper) (v : Value) (a : Act) : Prop :=
 (Region.wanted o (yielded ops a.tmps) = true /\ ∀ w, S w -> Outcome P S v ((execOp a.eval o).run P w)) ∨
 (Region.wanted o (yielded ops a.tmps) = false /\ v = undef)
theorem DoesIf.value {o : Oper} {v : Value} {a : Act} (hw : Region.wanted o (yielded ops a.tmps) = true) (h : ∀ w, S w -> (execOp a.eval o).run P w = .ok (.value v) w) : DoesIf P ops S o v a :=
 .inl ⟨hw, fun w hS => by rw [h w hS]; exact ⟨rfl, hS⟩⟩
theorem DoesIf.call {o : Oper} {v : Value} {a : Act} {f : FuncId} {args : Array Value} (hw : Region.wanted o (yielded ops a.tmps) = true) (h : ∀ w, (execOp a.eval o).run P w = .ok (.enter f args) w)
  (hc : ∀ w, S w -> Calls P f args w fun e w' => e = .returned v /\ S w') : DoesIf P ops S o v a :=
 .inl ⟨hw, fun w hS => by rw [h w]; exact hc w hS⟩
theorem DoesIf.skip {o : Oper} {a : Act} (hw : Region.wanted o (yielded ops a.tmps) = false) : DoesIf P ops S o undef a := .inr ⟨hw, rfl⟩
theorem DoesIf.wpOp {i : Nat} {o : Oper} {v : Value} {a : Act} (hi : ops[i]? = some o) (hy : DoesIf P ops S o v a)
  {K : Act -> World -> Prop} {w : World} (hS : S w) (h : ∀ w', S w' -> K (a.put o.dst v) w') : wpOp P ops Q i K a w := by
 unfold Go.wpOp
 simp only [hi]
 rcases hy with ⟨hw, hv⟩ | ⟨hw, rfl⟩
 ·simp only [hw, if_true, Oper.wp]
  left
  have hv := hv w hS
  generalize (execOp a.eval o).run P w = r at *
  unfold Outcome at hv
  split at hv
  ·obtain ⟨rfl, hs⟩ := hv; exact h _ hs
  ·exact Calls.mono hv fun e w'' he => by obtain ⟨rfl, hs⟩ := he; exact h _ hs
  ·exact Rows.mono hv fun u w'' he => by obtain ⟨rfl, hs⟩ := he; exact h _ hs
  ·exact hv.elim
 ·simp only [hw, Bool.false_eq_true, if_false]; exact h _ hS
end
open Go.RowKit
theorem mapM_isSome {α β : Type} {f : α -> Option β} : ∀ {l : List α}, (∀ x ∈ l, (f x).isSome = true) -> (l.mapM f).isSome = true
 | [], _ => rfl
 | x :: l, h => by
  obtain ⟨y, hy⟩ := Option.isSome_iff_exists.1 (h x (by simp))
  obtain ⟨ys, hys⟩ := Option.isSome_iff_exists.1 (mapM_isSome (l := l) fun z hz => h z (by simp [hz]))
  simp [List.mapM_cons, hy, hys]
theorem keyLits_bool (d : Nat) (b : Bool) : Tryz.prog.keyLits (d + 1) 4 [.bool b] = some [.bool b] := by
 simp only [Program.keyLits, Tryz.underlying4]
theorem keyLits_u8 (d : Nat) {z : Int} (h : 0 <= z /\ z < 256) : Tryz.prog.keyLits (d + 1) 5 [.int .u8 z] = some [.int .u8 z] := by
 have hw : (Lit.int .u8 z).wf = true := by
  simp only [Lit.wf, Bool.and_eq_true, decide_eq_true_eq, IntKind.min, IntKind.max, IntKind.bits, IntKind.signed]
  simp
  omega
 simp only [Program.keyLits, Tryz.underlying5, hw, and_self, if_true]
theorem keyLits_16 (d : Nat) {l : List Int} (h : l.length = 16) (hb : ∀ x ∈ l, 0 <= x /\ x < 256) : (Tryz.prog.keyLits (d + 2) 70 (l.map (Value.int .u8))).isSome = true := by
 unfold Program.keyLits
 have c : (l.map (Value.int .u8)).length = Tryz.prog.cellsOf 70 := by rw [cells_16, List.length_map, h]
 simp only [Tryz.underlying70]
 rw [if_pos c, Option.isSome_map]
 refine mapM_isSome (l := List.range 16) (f := fun i => Tryz.prog.keyLits (d + 1) 5 (((l.map (Value.int .u8)).drop (i * Tryz.prog.cellsOf 5)).take (Tryz.prog.cellsOf 5))) fun i hi => ?_
 show (Tryz.prog.keyLits (d + 1) 5 (((l.map (Value.int .u8)).drop (i * Tryz.prog.cellsOf 5)).take (Tryz.prog.cellsOf 5))).isSome = true
 rw [cells_u8]
 have hi := List.mem_range.1 hi
 have e : ((l.map (Value.int .u8)).drop (i * 1)).take 1 = [.int .u8 (l.getD i 0)] := by
  apply List.ext_getElem?
  intro j
  rcases j with _ | j
  ·simp [List.getD_eq_getElem?_getD, List.getElem?_eq_getElem (show i < l.length by omega), List.getElem?_take, List.getElem?_drop]
  ·simp [List.getElem?_take]
 rw [e, keyLits_u8 d (hb _ (by rw [List.getD_eq_getElem?_getD, List.getElem?_eq_getElem (show i < l.length by omega)]; exact List.getElem_mem _))]
 rfl
theorem keyLits_A {a : Adr} (ha : okA a) : (Tryz.prog.keyLits 4 72 (ac a).toList).isSome = true := by
 unfold Program.keyLits
 have hl : (ac a).toList.length = 17 := by rw [Array.length_toList]; exact ac_size ha
 have e : (ac a).toList = .bool a.1 :: a.2.map (Value.int .u8) := rfl
 simp only [Tryz.underlying72]
 rw [if_pos ⟨by rw [hl, cells_A], by kernel_rfl⟩, Option.isSome_map]
 refine mapM_isSome fun f hf => ?_
 simp only [List.mem_cons, List.not_mem_nil, or_false, List.toList_toArray] at hf
 rcases hf with rfl | rfl
 ·show (Tryz.prog.keyLits 3 4 (((ac a).toList.drop 0).take (Tryz.prog.cellsOf 4))).isSome = true
  rw [cells_b, e]
  show (Tryz.prog.keyLits 3 4 [.bool a.1]).isSome = true
  rw [keyLits_bool]; rfl
 ·show (Tryz.prog.keyLits 3 70 (((ac a).toList.drop 1).take (Tryz.prog.cellsOf 70))).isSome = true
  rw [cells_16, e, List.drop_succ_cons, List.drop_zero, List.take_of_length_le (by rw [List.length_map, ha.1]; exact Nat.le_refl _)]
  exact keyLits_16 1 ha.1 ha.2
theorem key24 : Tryz.prog.keyTypeAt 3 72 = true := by kernel_rfl
theorem formed_A {a : Adr} (ha : okA a) : (av a).formed Tryz.prog 72 = true := by
 simp only [Value.formed, Tryz.underlying72, cells_A, ac_size ha, beq_self_eq_true]
theorem equal_A {a b : Adr} (ha : okA a) (hb : okA b) (h : a = b) (W : World) : (Op.equal 72 (.agg (ac a)) (.agg (ac b))).run Tryz.prog W = .ok true W := by
 subst h
 obtain ⟨la, hla⟩ := Option.isSome_iff_exists.1 (keyLits_A ha)
 obtain ⟨r, hr, hi⟩ := run_equalIn_deep (P := Tryz.prog) 9997 3 72 key24 W 4 4 (av a) (av a) la la (formed_A ha) (formed_A ha) hla hla
 rw [hi.2 rfl] at hr
 exact hr
theorem noGuard_A : Tryz.prog.eqGuardType Tryz.prog.depth 72 = false := by kernel_rfl
theorem exec_eqA {o : Oper} {f : Act} (x y : Operand) {t : TypeId} (ho : o.op = .binOp .eql 72 x y t) {a b : Adr} (ha : okA a) (hb : okA b) (h : a = b) (hx : f.eval x = .agg (ac a)) (hy : f.eval y = .agg (ac b)) (w : World) :
  (execOp f.eval o).run Tryz.prog w = .ok (.value (.bool true)) w := by
 unfold execOp
 rw [ho]
 have e := equal_A ha hb h w
 have e1 : (eqGuard .eql 72 x y (.agg (ac a)) (.agg (ac b))).run Tryz.prog w = .ok () w := by
  simp [eqGuard, noGuard_A, Sem.run_bind]
 have e2 : (binOp .eql 72 (.agg (ac a)) (.agg (ac b))).run Tryz.prog w = .ok (.bool true) w := by
  simp only [binOp, Sem.run_bind, e, Result.andThen_ok, Sem.run_pure]
 simp only [hx, hy, Sem.run_bind, e1, e2, Result.andThen_ok, Sem.run_pure]
open Go.RowKit
theorem wpList_eqA {ops : Array Oper} {rest : List Oper} {o : Oper} {f : Act} {w : World} {Q : Exit -> Act -> World -> Prop} (hgd : o.guard = none) (x y : Operand) {t : TypeId} (ho : o.op = .binOp .eql 72 x y t) {a : Adr} (ha : okA a) (hx : f.eval x = .agg (ac a)) (hy : f.eval y = .agg (ac a))
  (h : wpList Tryz.prog ops Q rest (f.put o.dst (.bool true)) w) : wpList Tryz.prog ops Q (o :: rest) f w :=
 wpList_plain hgd fun K hK => by
  unfold Oper.wp
  rw [exec_eqA x y ho ha ha rfl hx hy w]
  exact hK _ _ h
theorem exec_loadS {o : Oper} {f : Act} (x : Operand) {ty : TypeId} (ho : o.op = .load ty x) {b k : Nat} (hx : f.eval x = .pointer (some ⟨b, k, none⟩)) {fs : Array Field} {cs : List Value} (hu : Tryz.prog.underlying ty = some (.struct fs)) (hi : (Tryz.prog.info? ty).map (·.size) = some cs.length) {w : World} (hr : w.rangeAt b k cs) :
  (execOp f.eval o).run Tryz.prog w = .ok (.value (.agg cs.toArray)) w := by
 unfold execOp
 rw [ho]
 have e := run_loadAt_mid (P := Tryz.prog) w b k ty cs _ hr hu rfl hi
 simp only [hx, Sem.run_bind, e, Result.andThen_ok, Sem.run_pure]
theorem eqA1 (a : Adr) (ha : okA a) (w : World) : Calls Tryz.prog 54 #[av a, av a] w fun e w' => e = .returned (.bool true) /\ Ext w w' := by
 unfold av
 go_enter Tryz.func54, Tryz.ntmps54
 go_upto_region 1 with fail
 have hx := ((Ext.refl w).alloc (.cells (ac a) 72)).alloc (.cells (ac a) 72)
 have hb1 := (Blk.new w (ac a) 72).ext ((Ext.refl _).alloc (.cells (ac a) 72))
 have hb2 := Blk.new (w.alloc (.cells (ac a) 72)) (ac a) 72
 rw [World.size_alloc] at hb2
 generalize (w.alloc (.cells (ac a) 72)).alloc (.cells (ac a) 72) = w0 at *
 generalize hbw : w.heap.size = b at *
 replace hbw := Nat.le_of_eq hbw
 go_wp2_with (first | refine wpList_load_A rfl _ rfl ha hb1 rfl ?_ | refine wpList_load_A rfl _ rfl ha hb2 rfl ?_ | refine wpList_eqA rfl _ _ rfl ha rfl rfl ?_)
 go_ret
 exact ⟨rfl, hx⟩
theorem eqAs (l : List Adr) (s1 s2 : Value) {w : World} (h1 : AdsIn w s1 l) (h2 : AdsIn w s2 l) (hl : l.length <= maxLen) :
  Calls Tryz.prog 53 #[s1, s2, .func (.func 54) #[] #[]] w fun e w' => e = .returned (.bool true) /\ Ext w w' := by
 obtain ⟨a1, c1, rfl⟩ := h1.len
 obtain ⟨a2, c2, rfl⟩ := h2.len
 have HA1 := Lib.hid h1
 have HA2 := Lib.hid h2
 clear h1 h2
 unfold maxLen at hl
 go_enter Tryz.func53, Tryz.ntmps53
 go_wp2_with fail
 go_loopw [7] (fun i wr => ∃ k : Nat, i = .int .i64 k /\ k <= l.length /\ Ext w wr) (fun i _ => l.length - (intOf i).toNat)
 case atStart => exact ⟨0, rfl, Nat.zero_le _, Ext.refl _⟩
 case round =>
  obtain ⟨j, rfl, hj, hxr⟩ := hrel
  by_cases hlt : j < l.length
  ·have hlt' : (j : Int) < l.length := by omega
   obtain ⟨x, hjx⟩ : ∃ x, l[j]? = some x := ⟨l[j]'hlt, List.getElem?_eq_getElem hlt⟩
   obtain ⟨b1, o1, rfl, hb1, hokx, hq1, hcap1⟩ := (HA1.out.ext hxr).get hjx
   obtain ⟨b2, o2, rfl, hb2, _, hq2, hcap2⟩ := (HA2.out.ext hxr).get hjx
   have hr1 := fun (w' : World) (h : Ext wr w') => rangeAt_ext hq1 hb1 h
   have hr2 := fun (w' : World) (h : Ext wr w') => rangeAt_ext hq2 hb2 h
   clear hjx hq1 hq2 HA1 HA2
   have hj1 : IntKind.i64.wrap ((j : Int) + 1) = ((j + 1 : Nat) : Int) := by rw [IntWalk.i64_in _ (by omega)]; omega
   have hsz : (Tryz.prog.info? 72).map (·.size) = some (ac x).toList.length := by rw [info_A, Array.length_toList, ac_size hokx]
   have HSZ := Lib.hid hsz
   clear hsz
   go_upto_region 6 with fail
   refine wp_region_rgu 9 wr (by kernel_rfl) (by kernel_rfl) (Ext.refl _) ?_
   simp only [List.take_succ_cons, List.take_zero]
   iterate 4
    first
     | (apply goV_skip (by intro u; rfl))
     | (apply goV_val _ (by intro u; rfl); · (intro u w hSw hF; go_simp; try with_reducible rfl))
    try simp only [aput, List.set]
   apply goV_val (.agg (ac x).toList.toArray) (by intro u; rfl) (fun u w' hSw hF => exec_loadS (cs := (ac x).toList) _ rfl rfl Tryz.underlying72 HSZ.out (hr1 w' hSw))
   try simp only [aput, List.set]
   iterate 3
    first
     | (apply goV_skip (by intro u; rfl))
     | (apply goV_val _ (by intro u; rfl); · (intro u w hSw hF; go_simp; try with_reducible rfl))
    try simp only [aput, List.set]
   apply goV_val (.agg (ac x).toList.toArray) (by intro u; rfl) (fun u w' hSw hF => exec_loadS (cs := (ac x).toList) _ rfl rfl Tryz.underlying72 HSZ.out (hr2 w' hSw))
   try simp only [aput, List.set]
   intro u w2 hx2 hh
   clear hh
   dsimp only
   simp only [List.drop_succ_cons, List.drop_zero]
   clear hr1 hr2
   have KE := Lib.hid (eqA1 x hokx w2)
   have e0 : (ac x).toList.toArray = ac x := by simp
   rw [e0]
   clear e0
   go_wp2_with (go_at_call 54; refine KE.out.mono ?_; rintro e w3 ⟨rfl, hx3⟩)
   refine ⟨⟨j + 1, by go_num, by omega, (hxr.trans hx2).trans hx3⟩, ?_⟩
   simp [intOf]; omega
  ·obtain rfl : j = l.length := by omega
   go_wp2_with fail
   go_ret
   exact ⟨rfl, hxr⟩
theorem eqAl (l : List Adr) (s1 s2 : Value) {w : World} (h1 : AdsIn w s1 l) (h2 : AdsIn w s2 l) (hl : l.length <= maxLen) :
  Calls Tryz.prog 31 #[s1, s2] w fun e w' => e = .returned (.bool true) /\ Ext w w' := by
 have KE := Lib.hid (eqAs l s1 s2 h1 h2 hl)
 clear h1 h2
 go_enter Tryz.func31, Tryz.ntmps31
 go_wp2_with (go_at_call 53; refine KE.out.mono ?_; rintro e w3 ⟨rfl, hx3⟩)
 go_ret
 exact ⟨rfl, hx3⟩
theorem eqE1 (e : Ev) (s1 s2 : Value) {w : World} (h1 : AdsIn w s1 e.ads) (h2 : AdsIn w s2 e.ads) (hl : e.ads.length <= maxLen) :
  Calls Tryz.prog 16 #[.agg (evl e s1).toArray, .agg (evl e s2).toArray] w fun e w' => e = .returned (.bool true) /\ Ext w w' := by
 obtain ⟨a1, c1, rfl⟩ := h1.len
 obtain ⟨a2, c2, rfl⟩ := h2.len
 have KE := Lib.hid (fun (w' : World) (k : Ext w w') => eqAl e.ads _ _ (h1.ext k) (h2.ext k) hl)
 clear h1 h2
 obtain ⟨k, c, at_, n, v6, rs, d, ads⟩ := e
 unfold evl at *
 simp only at *
 go_enter Tryz.func16, Tryz.ntmps16
 go_upto_region 1 with fail
 have hx := ((Ext.refl w).alloc (.cells #[.int .i64 k, .int .i64 c, .int .i64 at_, .int .u64 n, .bool v6, .int .i64 rs, .string d, .slice a1 ads.length c1] 31)).alloc (.cells #[.int .i64 k, .int .i64 c, .int .i64 at_, .int .u64 n, .bool v6, .int .i64 rs, .string d, .slice a2 ads.length c2] 31)
 have hb1 := (Blk.new w #[.int .i64 k, .int .i64 c, .int .i64 at_, .int .u64 n, .bool v6, .int .i64 rs, .string d, .slice a1 ads.length c1] 31).ext ((Ext.refl _).alloc (.cells #[.int .i64 k, .int .i64 c, .int .i64 at_, .int .u64 n, .bool v6, .int .i64 rs, .string d, .slice a2 ads.length c2] 31))
 have hb2 := Blk.new (w.alloc (.cells #[.int .i64 k, .int .i64 c, .int .i64 at_, .int .u64 n, .bool v6, .int .i64 rs, .string d, .slice a1 ads.length c1] 31)) #[.int .i64 k, .int .i64 c, .int .i64 at_, .int .u64 n, .bool v6, .int .i64 rs, .string d, .slice a2 ads.length c2] 31
 rw [World.size_alloc] at hb2
 generalize (w.alloc (.cells #[.int .i64 k, .int .i64 c, .int .i64 at_, .int .u64 n, .bool v6, .int .i64 rs, .string d, .slice a1 ads.length c1] 31)).alloc (.cells #[.int .i64 k, .int .i64 c, .int .i64 at_, .int .u64 n, .bool v6, .int .i64 rs, .string d, .slice a2 ads.length c2] 31) = w0 at *
 generalize hbw : w.heap.size = b at *
 replace hbw := Nat.le_of_eq hbw
 have KQ := Lib.hid (KE.out _ hx)
 have e0 : w0.cell? ⟨b, 0, none⟩ = some (.int .i64 k) := hb1.cell rfl
 have e1 : w0.cell? ⟨b, 1, none⟩ = some (.int .i64 c) := hb1.cell rfl
 have e2 : w0.cell? ⟨b, 2, none⟩ = some (.int .i64 at_) := hb1.cell rfl
 have e3 : w0.cell? ⟨b, 3, none⟩ = some (.int .u64 n) := hb1.cell rfl
 have e4 : w0.cell? ⟨b, 4, none⟩ = some (.bool v6) := hb1.cell rfl
 have e5 : w0.cell? ⟨b, 5, none⟩ = some (.int .i64 rs) := hb1.cell rfl
 have e6 : w0.cell? ⟨b, 6, none⟩ = some (.string d) := hb1.cell rfl
 have e7 : w0.cell? ⟨b, 7, none⟩ = some (.slice a1 ads.length c1) := hb1.cell rfl
 have g0 : w0.cell? ⟨b + 1, 0, none⟩ = some (.int .i64 k) := hb2.cell rfl
 have g1 : w0.cell? ⟨b + 1, 1, none⟩ = some (.int .i64 c) := hb2.cell rfl
 have g2 : w0.cell? ⟨b + 1, 2, none⟩ = some (.int .i64 at_) := hb2.cell rfl
 have g3 : w0.cell? ⟨b + 1, 3, none⟩ = some (.int .u64 n) := hb2.cell rfl
 have g4 : w0.cell? ⟨b + 1, 4, none⟩ = some (.bool v6) := hb2.cell rfl
 have g5 : w0.cell? ⟨b + 1, 5, none⟩ = some (.int .i64 rs) := hb2.cell rfl
 have g6 : w0.cell? ⟨b + 1, 6, none⟩ = some (.string d) := hb2.cell rfl
 have g7 : w0.cell? ⟨b + 1, 7, none⟩ = some (.slice a2 ads.length c2) := hb2.cell rfl
 go_wp2_with (go_at_call 31; refine KQ.out.mono ?_; rintro e w3 ⟨rfl, hx3⟩)
 go_ret
 exact ⟨rfl, hx.trans hx3⟩
theorem eqEs (l : List Ev) (s1 s2 : Value) {w : World} (h1 : EvsIn w s1 l) (h2 : EvsIn w s2 l) (hl : l.length <= maxLen) :
  Calls Tryz.prog 15 #[s1, s2, .func (.func 16) #[] #[]] w fun e w' => e = .returned (.bool true) /\ Ext w w' := by
 obtain ⟨a1, c1, rfl⟩ := h1.len
 obtain ⟨a2, c2, rfl⟩ := h2.len
 have HA1 := Lib.hid h1
 have HA2 := Lib.hid h2
 clear h1 h2
 unfold maxLen at hl
 go_enter Tryz.func15, Tryz.ntmps15
 go_wp2_with fail
 go_loopw [7] (fun i wr => ∃ k : Nat, i = .int .i64 k /\ k <= l.length /\ Ext w wr) (fun i _ => l.length - (intOf i).toNat)
 case atStart => exact ⟨0, rfl, Nat.zero_le _, Ext.refl _⟩
 case round =>
  obtain ⟨j, rfl, hj, hxr⟩ := hrel
  by_cases hlt : j < l.length
  ·have hlt' : (j : Int) < l.length := by omega
   obtain ⟨x, hjx⟩ : ∃ x, l[j]? = some x := ⟨l[j]'hlt, List.getElem?_eq_getElem hlt⟩
   obtain ⟨b1, o1, v1, rfl, hb1, hokx, hv1, hq1, hcap1⟩ := (HA1.out.ext hxr).get hjx
   obtain ⟨b2, o2, v2, rfl, hb2, _, hv2, hq2, hcap2⟩ := (HA2.out.ext hxr).get hjx
   have hr1 := fun (w' : World) (h : Ext wr w') => rangeAt_ext hq1 hb1 h
   have hr2 := fun (w' : World) (h : Ext wr w') => rangeAt_ext hq2 hb2 h
   clear hjx hq1 hq2 HA1 HA2
   have hj1 : IntKind.i64.wrap ((j : Int) + 1) = ((j + 1 : Nat) : Int) := by rw [IntWalk.i64_in _ (by omega)]; omega
   go_upto_region 6 with fail
   refine wp_region_rgu 9 wr (by kernel_rfl) (by kernel_rfl) (Ext.refl _) ?_
   simp only [List.take_succ_cons, List.take_zero]
   iterate 4
    first
     | (apply goV_skip (by intro u; rfl))
     | (apply goV_val _ (by intro u; rfl); · (intro u w hSw hF; go_simp; try with_reducible rfl))
    try simp only [aput, List.set]
   apply goV_val (.agg (evl x v1).toArray) (by intro u; rfl) (fun u w' hSw hF => exec_loadS (cs := (evl x v1)) _ rfl rfl Tryz.underlying31 info_Ev (hr1 w' hSw))
   try simp only [aput, List.set]
   iterate 3
    first
     | (apply goV_skip (by intro u; rfl))
     | (apply goV_val _ (by intro u; rfl); · (intro u w hSw hF; go_simp; try with_reducible rfl))
    try simp only [aput, List.set]
   apply goV_val (.agg (evl x v2).toArray) (by intro u; rfl) (fun u w' hSw hF => exec_loadS (cs := (evl x v2)) _ rfl rfl Tryz.underlying31 info_Ev (hr2 w' hSw))
   try simp only [aput, List.set]
   intro u w2 hx2 hh
   clear hh
   dsimp only
   simp only [List.drop_succ_cons, List.drop_zero]
   clear hr1 hr2
   have KE := Lib.hid (eqE1 x v1 v2 (hv1.ext hx2) (hv2.ext hx2) hokx.2.2)
   go_wp2_with (go_at_call 16; refine KE.out.mono ?_; rintro e w3 ⟨rfl, hx3⟩)
   refine ⟨⟨j + 1, by go_num, by omega, (hxr.trans hx2).trans hx3⟩, ?_⟩
   simp [intOf]; omega
  ·obtain rfl : j = l.length := by omega
   go_wp2_with fail
   go_ret
   exact ⟨rfl, hxr⟩
end Go.Proofs.YtmdlgfnibjcgmaaGreatDoor
