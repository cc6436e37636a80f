/-
  IpCompareIsOrder.
-/
import Derived.Test.YtbbdcodhgbgekaaDoorIpB
import Derived.Test.YtbbdcodhgbgekaaDoorIpAw
import Derived.Test.YtbbdcodhgbgekaaDoorUni
import Derived.Test.YtbbdcodhgbgekaaDoorIpE
set_option linter.unusedSimpArgs false
set_option linter.unusedVariables false
namespace Go.Proofs.YtbbdcodhgbgekaaDoor
open Go.RowKit

theorem does_load_A {ops : Array Oper} {S : World → Prop} {o : Oper} {f : Act} (hw : Region.wanted o (yielded ops f.tmps) = true) (x : Operand) (ho : o.op = .load 24 x)
    {b : Nat} {a : Adr} (ha : okA a) (hb : ∀ w, S w → Blk w b (ac a).toList 24) (hx : f.eval x = .pointer (some ⟨b, 0, none⟩)) : DoesIf Tryd.prog ops S o (.agg (ac a)) f :=
  .value hw fun w hS => by
    have e := load_A ha (hb w hS)
    unfold execOp
    rw [ho]
    simp only [hx, Sem.run_bind, e, Result.andThen_ok, Sem.run_pure]


theorem goU_loadA {ops : Array Oper} {Q : Exit → Act → World → Prop} {S : World → Prop} {o : Oper} {rest : List Oper} {f : Act} (hw : Region.wanted o (yielded ops f.tmps) = true) (x : Operand) (ho : o.op = .load 24 x)
    {b : Nat} {a : Adr} (ha : okA a) (hb : ∀ w, S w → Blk w b (ac a).toList 24) (hx : f.eval x = .pointer (some ⟨b, 0, none⟩)) (k : goU Tryd.prog ops Q S rest (f.put o.dst (.agg (ac a)))) : goU Tryd.prog ops Q S (o :: rest) f :=
  ⟨_, does_load_A hw x ho ha hb hx, k⟩

def modI (v n : Int) : Int := wrap64 ((IntKind.u64.wrap v).tmod (IntKind.u64.wrap n))
theorem mod_any (v : Int) (n : Int) (w : World) (hn : IntKind.u64.wrap n ≠ 0) : Calls Tryd.prog 22 #[.int .i64 v, .int .i64 n] w fun e w' => e = .returned (.int .i64 (modI v n)) ∧ Ext w w' := by
  go_enter Tryd.func22, Tryd.ntmps22
  go_wp2
  all_goals go_ret
  all_goals exact ⟨rfl, Ext.refl _⟩

theorem cmpFrom_self (a : Adr) : ∀ f i, cmpFrom a a f i = 0
  | 0, i => by rw [cmpFrom]
  | f + 1, i => by rw [cmpFrom]; simp [cmpFrom_self a f]
theorem cmpFrom_neg (a b : Adr) : ∀ f i, cmpFrom b a f i = - cmpFrom a b f i
  | 0, i => by simp [cmpFrom]
  | f + 1, i => by
    rw [cmpFrom, cmpFrom, cmpFrom_neg a b f]
    rcases Int.lt_trichotomy (X a i) (X b i) with h | h | h
    · simp [h, show X b i ≠ X a i by omega, show X a i ≠ X b i by omega, show ¬ X b i < X a i by omega]
    · simp [h]
    · simp [h, show X b i ≠ X a i by omega, show X a i ≠ X b i by omega, show ¬ X a i < X b i by omega]
theorem cmpFrom_trans (a b c : Adr) : ∀ f i, cmpFrom a b f i ≤ 0 → cmpFrom b c f i ≤ 0 → cmpFrom a c f i ≤ 0
  | 0, i => by simp [cmpFrom]
  | f + 1, i => by
    have ih := cmpFrom_trans a b c f (i + 1)
    simp only [cmpFrom]
    split <;> split <;> split <;> (try split) <;> (try split) <;> (try split) <;> first | omega | (intros; omega) | exact ih
theorem cmpA_self (a : Adr) : cmpA a a = 0 := by unfold cmpA; rw [if_pos rfl, cmpFrom_self]
theorem cmpA_neg (a b : Adr) : cmpA b a = - cmpA a b := by
  unfold cmpA
  by_cases h : a.1 = b.1
  · rw [if_pos h, if_pos h.symm, cmpFrom_neg]
  · rw [if_neg h, if_neg (fun e => h e.symm)]
    cases ha : a.1 <;> cases hb : b.1 <;> simp_all
theorem cmpA_trans (a b c : Adr) (h1 : cmpA a b ≤ 0) (h2 : cmpA b c ≤ 0) : cmpA a c ≤ 0 := by
  unfold cmpA at *
  cases ha : a.1 <;> cases hb : b.1 <;> cases hc : c.1 <;> simp_all <;> exact cmpFrom_trans _ _ _ _ _ h1 h2

theorem cmpFrom_bd (a b : Adr) : ∀ f i, -1 ≤ cmpFrom a b f i ∧ cmpFrom a b f i ≤ 1
  | 0, i => by simp [cmpFrom]
  | f + 1, i => by
    rw [cmpFrom]
    have := cmpFrom_bd a b f (i + 1)
    split
    · omega
    · split
      · omega
      · exact this
theorem cmpA_bd (a b : Adr) : -1 ≤ cmpA a b ∧ cmpA a b ≤ 1 := by
  unfold cmpA
  split
  · exact cmpFrom_bd _ _ _ _
  · split <;> omega
set_option maxRecDepth 8000 in
set_option maxHeartbeats 2000000 in
theorem IpCompareIsOrder_walk (a b c : Adr) (k : Int) (ha : okA a) (hb : okA b) (hc : okA c) (hk : (Lit.int .i64 k).wf = true) (w : World) (henv : Env w) (htabs : Tabs w) :
    Calls Tryd.prog 7 #[av a, av b, av c, .int .i64 k] w fun e w' => e = .returned (.bool true) ∧ Ext w w' := by
  unfold av
  go_enter Tryd.func7, Tryd.ntmps7
  go_upto_region 1 with fail
  have hx : Ext w (((w.alloc (.cells (ac a) 24)).alloc (.cells (ac b) 24)).alloc (.cells (ac c) 24)) := (((Ext.refl w).alloc _).alloc _).alloc _
  have hA := ((ABox.new ha w).blk.ext ((Ext.refl _).alloc (.cells (ac b) 24))).ext ((Ext.refl _).alloc (.cells (ac c) 24))
  have hB := (ABox.new hb (w.alloc (.cells (ac a) 24))).blk.ext ((Ext.refl _).alloc (.cells (ac c) 24))
  have hC := (ABox.new hc ((w.alloc (.cells (ac a) 24)).alloc (.cells (ac b) 24))).blk
  have e1 : ∀ (w : World) o, (w.alloc o).heap.size = w.heap.size + 1 := fun w o => by show (w.heap.push o).size = _; simp
  rw [e1] at hB
  rw [e1, e1] at hC
  generalize ((w.alloc (.cells (ac a) 24)).alloc (.cells (ac b) 24)).alloc (.cells (ac c) 24) = wr at *
  generalize w.heap.size = p at *
  have hca : ∀ {w0 : World} (x y : Adr) (hx : okA x) (hy : okA y) w', Ext w0 w' → Calls Tryd.prog 24 #[av x, av y] w' fun e w'' => e = .returned (.int .i64 (cmpA x y)) ∧ Ext w0 w'' := fun x y hx hy w' h => (compare_any x y hx hy w').mono fun e w2 he => ⟨he.1, h.trans he.2⟩
  have hcr : ∀ {w0 : World} (x y : Adr) (hx : okA x) (hy : okA y) w', Ext w0 w' → Calls Tryd.prog 25 #[av x, av y] w' fun e w'' => e = .returned (.int .i64 (cmpA x y)) ∧ Ext w0 w'' := fun x y hx hy w' h => (rCompare_any x y hx hy w').mono fun e w2 he => ⟨he.1, h.trans he.2⟩
  have hcan : ∀ w', Ext wr w' → Calls Tryd.prog 24 #[av b, av a] w' fun e w'' => e = .returned (.int .i64 (- cmpA a b)) ∧ Ext wr w'' := by rw [← cmpA_neg]; exact hca b a hb ha
  have hcaa : ∀ w', Ext wr w' → Calls Tryd.prog 24 #[av a, av a] w' fun e w'' => e = .returned (.int .i64 0) ∧ Ext wr w'' := by rw [← cmpA_self a]; exact hca a a ha ha
  have hbd := cmpA_bd a b
  have hng : IntKind.i64.wrap (-cmpA a b) = -cmpA a b := IntWalk.i64_in _ (by omega)
  refine wp_region_uni (S := fun w' => Ext wr w') (by kernel_rfl) (by kernel_rfl) (by kernel_rfl) (fun _ _ t _ _ h => by cases t <;> exact h) (Ext.refl _).drew ?_
  apply goU_loadA (by rfl) _ rfl ha (fun w' h => hA.ext h) rfl
  try simp only [Act.put, List.setIfInBounds_toArray, List.set_cons_zero, List.set_cons_succ]
  apply goU_loadA (by rfl) _ rfl hb (fun w' h => hB.ext h) rfl
  try simp only [Act.put, List.setIfInBounds_toArray, List.set_cons_zero, List.set_cons_succ]
  apply goU_call (by rfl) (hca a b ha hb)
  · (intro w; go_simp; try with_reducible rfl)
  try simp only [Act.put, List.setIfInBounds_toArray, List.set_cons_zero, List.set_cons_succ]
  apply goU_loadA (by rfl) _ rfl ha (fun w' h => hA.ext h) rfl
  try simp only [Act.put, List.setIfInBounds_toArray, List.set_cons_zero, List.set_cons_succ]
  apply goU_loadA (by rfl) _ rfl hb (fun w' h => hB.ext h) rfl
  try simp only [Act.put, List.setIfInBounds_toArray, List.set_cons_zero, List.set_cons_succ]
  apply goU_call (by rfl) (hcr a b ha hb)
  · (intro w; go_simp; try with_reducible rfl)
  try simp only [Act.put, List.setIfInBounds_toArray, List.set_cons_zero, List.set_cons_succ]
  apply goU_val (by rfl)
  · (intro w hSw; go_simp; try with_reducible rfl)
  try simp only [Act.put, List.setIfInBounds_toArray, List.set_cons_zero, List.set_cons_succ]
  apply goU_val (by rfl)
  · (intro w hSw; go_simp; try with_reducible rfl)
  try simp only [Act.put, List.setIfInBounds_toArray, List.set_cons_zero, List.set_cons_succ]
  apply goU_loadA (by rfl) _ rfl hb (fun w' h => hB.ext h) rfl
  try simp only [Act.put, List.setIfInBounds_toArray, List.set_cons_zero, List.set_cons_succ]
  apply goU_loadA (by rfl) _ rfl ha (fun w' h => hA.ext h) rfl
  try simp only [Act.put, List.setIfInBounds_toArray, List.set_cons_zero, List.set_cons_succ]
  apply goU_call (by rfl) (hcan)
  · (intro w; go_simp; try with_reducible rfl)
  try simp only [Act.put, List.setIfInBounds_toArray, List.set_cons_zero, List.set_cons_succ]
  apply goU_loadA (by rfl) _ rfl ha (fun w' h => hA.ext h) rfl
  try simp only [Act.put, List.setIfInBounds_toArray, List.set_cons_zero, List.set_cons_succ]
  apply goU_loadA (by rfl) _ rfl hb (fun w' h => hB.ext h) rfl
  try simp only [Act.put, List.setIfInBounds_toArray, List.set_cons_zero, List.set_cons_succ]
  apply goU_call (by rfl) (hcr a b ha hb)
  · (intro w; go_simp; try with_reducible rfl)
  try simp only [Act.put, List.setIfInBounds_toArray, List.set_cons_zero, List.set_cons_succ]
  apply goU_val (by rfl)
  · (intro w hSw; go_simp; try with_reducible rfl)
  try simp only [Act.put, List.setIfInBounds_toArray, List.set_cons_zero, List.set_cons_succ]
  apply goU_val (by rfl)
  · (intro w hSw; go_simp; try with_reducible rfl)
  try simp only [Act.put, List.setIfInBounds_toArray, List.set_cons_zero, List.set_cons_succ]
  apply goU_val (by rfl)
  · (intro w hSw; go_simp; try with_reducible rfl)
  try simp only [Act.put, List.setIfInBounds_toArray, List.set_cons_zero, List.set_cons_succ]
  apply goU_val (by rfl)
  · (intro w hSw; go_simp; try with_reducible rfl)
  try simp only [Act.put, List.setIfInBounds_toArray, List.set_cons_zero, List.set_cons_succ]
  apply goU_loadA (by rfl) _ rfl ha (fun w' h => hA.ext h) rfl
  try simp only [Act.put, List.setIfInBounds_toArray, List.set_cons_zero, List.set_cons_succ]
  apply goU_loadA (by rfl) _ rfl ha (fun w' h => hA.ext h) rfl
  try simp only [Act.put, List.setIfInBounds_toArray, List.set_cons_zero, List.set_cons_succ]
  apply goU_call (by rfl) (hcaa)
  · (intro w; go_simp; try with_reducible rfl)
  try simp only [Act.put, List.setIfInBounds_toArray, List.set_cons_zero, List.set_cons_succ]
  apply goU_val (by rfl)
  · (intro w hSw; go_simp; try with_reducible rfl)
  try simp only [Act.put, List.setIfInBounds_toArray, List.set_cons_zero, List.set_cons_succ]
  apply goU_val (by rfl)
  · (intro w hSw; go_simp; try with_reducible rfl)
  try simp only [Act.put, List.setIfInBounds_toArray, List.set_cons_zero, List.set_cons_succ]
  intro w3 hx3
  have hA3 := hA.ext hx3
  have hB3 := hB.ext hx3
  have hC3 := hC.ext hx3
  have hxx := hx.trans hx3
  by_cases h1 : cmpA a b ≤ 0
  · have d1 : decide (cmpA a b ≤ 0) = true := decide_eq_true h1
    by_cases h2 : cmpA b c ≤ 0
    · have d2 : decide (cmpA b c ≤ 0) = true := decide_eq_true h2
      have h3 := cmpA_trans a b c h1 h2
      have d3 : decide (0 < cmpA a c) = false := decide_eq_false (by omega)
      go_upto_region 6 with (first | refine wpList_load_Ag (by rfl) _ rfl ha hA3 rfl ?_ | refine wpList_load_Ag (by rfl) _ rfl hb hB3 rfl ?_ | refine wpList_load_Ag (by rfl) _ rfl hc hC3 rfl ?_ | (go_at_call 24; (first | with_reducible refine (compare_any a b ha hb _).mono ?_ | with_reducible refine (compare_any b c hb hc _).mono ?_ | with_reducible refine (compare_any a c ha hc _).mono ?_); rintro e w4 ⟨rfl, hx4⟩; have hA3 := hA3.ext hx4; have hB3 := hB3.ext hx4; have hC3 := hC3.ext hx4; have hxx := hxx.trans hx4) | (go_at_call 22; refine (mod_any k 130 _ (by decide)).mono ?_; rintro e w4 ⟨rfl, hx4⟩; have hA3 := hA3.ext hx4; have hxx := hxx.trans hx4))
      clear hca hcr hcan hcaa
      have hba : ∀ w', Ext w4 w' → Calls Tryd.prog 9 #[] w' fun e w'' => e = .returned (.bool true) ∧ Ext w4 w'' := fun w' h => (awake_any w' (henv.ext (hxx.trans h)) (htabs.ext (hxx.trans h))).mono fun e w2 he => ⟨he.1, h.trans he.2⟩
      have hbb : ∀ (i : Int) w', Ext w4 w' → Calls Tryd.prog 26 #[av a, .int .i64 i] w' fun e w'' => e = .returned (.int .i64 (bitA a i)) ∧ Ext w4 w'' := fun i w' h => (bit_any a ha i w').mono fun e w2 he => ⟨he.1, h.trans he.2⟩
      have hbr : ∀ (i : Int) w', Ext w4 w' → Calls Tryd.prog 27 #[av a, .int .i64 i] w' fun e w'' => e = .returned (.int .i64 (bitA a i)) ∧ Ext w4 w'' := fun i w' h => (rBit_any a ha i w').mono fun e w2 he => ⟨he.1, h.trans he.2⟩
      refine wp_region_uni (S := fun w' => Ext w4 w') (by kernel_rfl) (by kernel_rfl) (by kernel_rfl) (fun _ _ t _ _ h => by cases t <;> exact h) (Ext.refl _).drew ?_
      apply goU_call (by rfl) hba
      · (intro w; go_simp; try with_reducible rfl)
      try simp only [Act.put, List.setIfInBounds_toArray, List.set_cons_zero, List.set_cons_succ]
      apply goU_val (by rfl)
      · (intro w hSw; go_simp; try with_reducible rfl)
      try simp only [Act.put, List.setIfInBounds_toArray, List.set_cons_zero, List.set_cons_succ]
      apply goU_loadA (by rfl) _ rfl ha (fun w' h => hA3.ext h) rfl
      try simp only [Act.put, List.setIfInBounds_toArray, List.set_cons_zero, List.set_cons_succ]
      apply goU_val (by rfl)
      · (intro w hSw; go_simp; try with_reducible rfl)
      try simp only [Act.put, List.setIfInBounds_toArray, List.set_cons_zero, List.set_cons_succ]
      apply goU_call (by rfl) (hbb k)
      · (intro w; go_simp; try with_reducible rfl)
      try simp only [Act.put, List.setIfInBounds_toArray, List.set_cons_zero, List.set_cons_succ]
      apply goU_loadA (by rfl) _ rfl ha (fun w' h => hA3.ext h) rfl
      try simp only [Act.put, List.setIfInBounds_toArray, List.set_cons_zero, List.set_cons_succ]
      apply goU_val (by rfl)
      · (intro w hSw; go_simp; try with_reducible rfl)
      try simp only [Act.put, List.setIfInBounds_toArray, List.set_cons_zero, List.set_cons_succ]
      apply goU_call (by rfl) (hbr k)
      · (intro w; go_simp; try with_reducible rfl)
      try simp only [Act.put, List.setIfInBounds_toArray, List.set_cons_zero, List.set_cons_succ]
      apply goU_val (by rfl)
      · (intro w hSw; go_simp; try with_reducible rfl)
      try simp only [Act.put, List.setIfInBounds_toArray, List.set_cons_zero, List.set_cons_succ]
      apply goU_val (by rfl)
      · (intro w hSw; go_simp; try with_reducible rfl)
      try simp only [Act.put, List.setIfInBounds_toArray, List.set_cons_zero, List.set_cons_succ]
      apply goU_val (by rfl)
      · (intro w hSw; go_simp; try with_reducible rfl)
      try simp only [Act.put, List.setIfInBounds_toArray, List.set_cons_zero, List.set_cons_succ]
      apply goU_loadA (by rfl) _ rfl ha (fun w' h => hA3.ext h) rfl
      try simp only [Act.put, List.setIfInBounds_toArray, List.set_cons_zero, List.set_cons_succ]
      apply goU_val (by rfl)
      · (intro w hSw; go_simp; try with_reducible rfl)
      try simp only [Act.put, List.setIfInBounds_toArray, List.set_cons_zero, List.set_cons_succ]
      apply goU_call (by rfl) (hbb _)
      · (intro w; go_simp; try with_reducible rfl)
      try simp only [Act.put, List.setIfInBounds_toArray, List.set_cons_zero, List.set_cons_succ]
      apply goU_loadA (by rfl) _ rfl ha (fun w' h => hA3.ext h) rfl
      try simp only [Act.put, List.setIfInBounds_toArray, List.set_cons_zero, List.set_cons_succ]
      apply goU_val (by rfl)
      · (intro w hSw; go_simp; try with_reducible rfl)
      try simp only [Act.put, List.setIfInBounds_toArray, List.set_cons_zero, List.set_cons_succ]
      apply goU_call (by rfl) (hbr _)
      · (intro w; go_simp; try with_reducible rfl)
      try simp only [Act.put, List.setIfInBounds_toArray, List.set_cons_zero, List.set_cons_succ]
      apply goU_val (by rfl)
      · (intro w hSw; go_simp; try with_reducible rfl)
      try simp only [Act.put, List.setIfInBounds_toArray, List.set_cons_zero, List.set_cons_succ]
      apply goU_val (by rfl)
      · (intro w hSw; go_simp; try with_reducible rfl)
      try simp only [Act.put, List.setIfInBounds_toArray, List.set_cons_zero, List.set_cons_succ]
      apply goU_val (by rfl)
      · (intro w hSw; go_simp; try with_reducible rfl)
      try simp only [Act.put, List.setIfInBounds_toArray, List.set_cons_zero, List.set_cons_succ]
      intro w5 hx5
      go_wp2
      go_ret
      exact ⟨rfl, hxx.trans hx5⟩
    · have d2 : decide (cmpA b c ≤ 0) = false := decide_eq_false h2
      go_upto_region 6 with (first | refine wpList_load_Ag (by rfl) _ rfl ha hA3 rfl ?_ | refine wpList_load_Ag (by rfl) _ rfl hb hB3 rfl ?_ | refine wpList_load_Ag (by rfl) _ rfl hc hC3 rfl ?_ | (go_at_call 24; (first | with_reducible refine (compare_any a b ha hb _).mono ?_ | with_reducible refine (compare_any b c hb hc _).mono ?_ | with_reducible refine (compare_any a c ha hc _).mono ?_); rintro e w4 ⟨rfl, hx4⟩; have hA3 := hA3.ext hx4; have hB3 := hB3.ext hx4; have hC3 := hC3.ext hx4; have hxx := hxx.trans hx4) | (go_at_call 22; refine (mod_any k 130 _ (by decide)).mono ?_; rintro e w4 ⟨rfl, hx4⟩; have hA3 := hA3.ext hx4; have hxx := hxx.trans hx4))
      clear hca hcr hcan hcaa
      have hba : ∀ w', Ext w4 w' → Calls Tryd.prog 9 #[] w' fun e w'' => e = .returned (.bool true) ∧ Ext w4 w'' := fun w' h => (awake_any w' (henv.ext (hxx.trans h)) (htabs.ext (hxx.trans h))).mono fun e w2 he => ⟨he.1, h.trans he.2⟩
      have hbb : ∀ (i : Int) w', Ext w4 w' → Calls Tryd.prog 26 #[av a, .int .i64 i] w' fun e w'' => e = .returned (.int .i64 (bitA a i)) ∧ Ext w4 w'' := fun i w' h => (bit_any a ha i w').mono fun e w2 he => ⟨he.1, h.trans he.2⟩
      have hbr : ∀ (i : Int) w', Ext w4 w' → Calls Tryd.prog 27 #[av a, .int .i64 i] w' fun e w'' => e = .returned (.int .i64 (bitA a i)) ∧ Ext w4 w'' := fun i w' h => (rBit_any a ha i w').mono fun e w2 he => ⟨he.1, h.trans he.2⟩
      refine wp_region_uni (S := fun w' => Ext w4 w') (by kernel_rfl) (by kernel_rfl) (by kernel_rfl) (fun _ _ t _ _ h => by cases t <;> exact h) (Ext.refl _).drew ?_
      apply goU_call (by rfl) hba
      · (intro w; go_simp; try with_reducible rfl)
      try simp only [Act.put, List.setIfInBounds_toArray, List.set_cons_zero, List.set_cons_succ]
      apply goU_val (by rfl)
      · (intro w hSw; go_simp; try with_reducible rfl)
      try simp only [Act.put, List.setIfInBounds_toArray, List.set_cons_zero, List.set_cons_succ]
      apply goU_loadA (by rfl) _ rfl ha (fun w' h => hA3.ext h) rfl
      try simp only [Act.put, List.setIfInBounds_toArray, List.set_cons_zero, List.set_cons_succ]
      apply goU_val (by rfl)
      · (intro w hSw; go_simp; try with_reducible rfl)
      try simp only [Act.put, List.setIfInBounds_toArray, List.set_cons_zero, List.set_cons_succ]
      apply goU_call (by rfl) (hbb k)
      · (intro w; go_simp; try with_reducible rfl)
      try simp only [Act.put, List.setIfInBounds_toArray, List.set_cons_zero, List.set_cons_succ]
      apply goU_loadA (by rfl) _ rfl ha (fun w' h => hA3.ext h) rfl
      try simp only [Act.put, List.setIfInBounds_toArray, List.set_cons_zero, List.set_cons_succ]
      apply goU_val (by rfl)
      · (intro w hSw; go_simp; try with_reducible rfl)
      try simp only [Act.put, List.setIfInBounds_toArray, List.set_cons_zero, List.set_cons_succ]
      apply goU_call (by rfl) (hbr k)
      · (intro w; go_simp; try with_reducible rfl)
      try simp only [Act.put, List.setIfInBounds_toArray, List.set_cons_zero, List.set_cons_succ]
      apply goU_val (by rfl)
      · (intro w hSw; go_simp; try with_reducible rfl)
      try simp only [Act.put, List.setIfInBounds_toArray, List.set_cons_zero, List.set_cons_succ]
      apply goU_val (by rfl)
      · (intro w hSw; go_simp; try with_reducible rfl)
      try simp only [Act.put, List.setIfInBounds_toArray, List.set_cons_zero, List.set_cons_succ]
      apply goU_val (by rfl)
      · (intro w hSw; go_simp; try with_reducible rfl)
      try simp only [Act.put, List.setIfInBounds_toArray, List.set_cons_zero, List.set_cons_succ]
      apply goU_loadA (by rfl) _ rfl ha (fun w' h => hA3.ext h) rfl
      try simp only [Act.put, List.setIfInBounds_toArray, List.set_cons_zero, List.set_cons_succ]
      apply goU_val (by rfl)
      · (intro w hSw; go_simp; try with_reducible rfl)
      try simp only [Act.put, List.setIfInBounds_toArray, List.set_cons_zero, List.set_cons_succ]
      apply goU_call (by rfl) (hbb _)
      · (intro w; go_simp; try with_reducible rfl)
      try simp only [Act.put, List.setIfInBounds_toArray, List.set_cons_zero, List.set_cons_succ]
      apply goU_loadA (by rfl) _ rfl ha (fun w' h => hA3.ext h) rfl
      try simp only [Act.put, List.setIfInBounds_toArray, List.set_cons_zero, List.set_cons_succ]
      apply goU_val (by rfl)
      · (intro w hSw; go_simp; try with_reducible rfl)
      try simp only [Act.put, List.setIfInBounds_toArray, List.set_cons_zero, List.set_cons_succ]
      apply goU_call (by rfl) (hbr _)
      · (intro w; go_simp; try with_reducible rfl)
      try simp only [Act.put, List.setIfInBounds_toArray, List.set_cons_zero, List.set_cons_succ]
      apply goU_val (by rfl)
      · (intro w hSw; go_simp; try with_reducible rfl)
      try simp only [Act.put, List.setIfInBounds_toArray, List.set_cons_zero, List.set_cons_succ]
      apply goU_val (by rfl)
      · (intro w hSw; go_simp; try with_reducible rfl)
      try simp only [Act.put, List.setIfInBounds_toArray, List.set_cons_zero, List.set_cons_succ]
      apply goU_val (by rfl)
      · (intro w hSw; go_simp; try with_reducible rfl)
      try simp only [Act.put, List.setIfInBounds_toArray, List.set_cons_zero, List.set_cons_succ]
      intro w5 hx5
      go_wp2
      go_ret
      exact ⟨rfl, hxx.trans hx5⟩
  · have d1 : decide (cmpA a b ≤ 0) = false := decide_eq_false h1
    go_upto_region 6 with (first | refine wpList_load_Ag (by rfl) _ rfl ha hA3 rfl ?_ | refine wpList_load_Ag (by rfl) _ rfl hb hB3 rfl ?_ | refine wpList_load_Ag (by rfl) _ rfl hc hC3 rfl ?_ | (go_at_call 24; (first | with_reducible refine (compare_any a b ha hb _).mono ?_ | with_reducible refine (compare_any b c hb hc _).mono ?_ | with_reducible refine (compare_any a c ha hc _).mono ?_); rintro e w4 ⟨rfl, hx4⟩; have hA3 := hA3.ext hx4; have hB3 := hB3.ext hx4; have hC3 := hC3.ext hx4; have hxx := hxx.trans hx4) | (go_at_call 22; refine (mod_any k 130 _ (by decide)).mono ?_; rintro e w4 ⟨rfl, hx4⟩; have hA3 := hA3.ext hx4; have hxx := hxx.trans hx4))
    clear hca hcr hcan hcaa
    have hba : ∀ w', Ext w4 w' → Calls Tryd.prog 9 #[] w' fun e w'' => e = .returned (.bool true) ∧ Ext w4 w'' := fun w' h => (awake_any w' (henv.ext (hxx.trans h)) (htabs.ext (hxx.trans h))).mono fun e w2 he => ⟨he.1, h.trans he.2⟩
    have hbb : ∀ (i : Int) w', Ext w4 w' → Calls Tryd.prog 26 #[av a, .int .i64 i] w' fun e w'' => e = .returned (.int .i64 (bitA a i)) ∧ Ext w4 w'' := fun i w' h => (bit_any a ha i w').mono fun e w2 he => ⟨he.1, h.trans he.2⟩
    have hbr : ∀ (i : Int) w', Ext w4 w' → Calls Tryd.prog 27 #[av a, .int .i64 i] w' fun e w'' => e = .returned (.int .i64 (bitA a i)) ∧ Ext w4 w'' := fun i w' h => (rBit_any a ha i w').mono fun e w2 he => ⟨he.1, h.trans he.2⟩
    refine wp_region_uni (S := fun w' => Ext w4 w') (by kernel_rfl) (by kernel_rfl) (by kernel_rfl) (fun _ _ t _ _ h => by cases t <;> exact h) (Ext.refl _).drew ?_
    apply goU_call (by rfl) hba
    · (intro w; go_simp; try with_reducible rfl)
    try simp only [Act.put, List.setIfInBounds_toArray, List.set_cons_zero, List.set_cons_succ]
    apply goU_val (by rfl)
    · (intro w hSw; go_simp; try with_reducible rfl)
    try simp only [Act.put, List.setIfInBounds_toArray, List.set_cons_zero, List.set_cons_succ]
    apply goU_loadA (by rfl) _ rfl ha (fun w' h => hA3.ext h) rfl
    try simp only [Act.put, List.setIfInBounds_toArray, List.set_cons_zero, List.set_cons_succ]
    apply goU_val (by rfl)
    · (intro w hSw; go_simp; try with_reducible rfl)
    try simp only [Act.put, List.setIfInBounds_toArray, List.set_cons_zero, List.set_cons_succ]
    apply goU_call (by rfl) (hbb k)
    · (intro w; go_simp; try with_reducible rfl)
    try simp only [Act.put, List.setIfInBounds_toArray, List.set_cons_zero, List.set_cons_succ]
    apply goU_loadA (by rfl) _ rfl ha (fun w' h => hA3.ext h) rfl
    try simp only [Act.put, List.setIfInBounds_toArray, List.set_cons_zero, List.set_cons_succ]
    apply goU_val (by rfl)
    · (intro w hSw; go_simp; try with_reducible rfl)
    try simp only [Act.put, List.setIfInBounds_toArray, List.set_cons_zero, List.set_cons_succ]
    apply goU_call (by rfl) (hbr k)
    · (intro w; go_simp; try with_reducible rfl)
    try simp only [Act.put, List.setIfInBounds_toArray, List.set_cons_zero, List.set_cons_succ]
    apply goU_val (by rfl)
    · (intro w hSw; go_simp; try with_reducible rfl)
    try simp only [Act.put, List.setIfInBounds_toArray, List.set_cons_zero, List.set_cons_succ]
    apply goU_val (by rfl)
    · (intro w hSw; go_simp; try with_reducible rfl)
    try simp only [Act.put, List.setIfInBounds_toArray, List.set_cons_zero, List.set_cons_succ]
    apply goU_val (by rfl)
    · (intro w hSw; go_simp; try with_reducible rfl)
    try simp only [Act.put, List.setIfInBounds_toArray, List.set_cons_zero, List.set_cons_succ]
    apply goU_loadA (by rfl) _ rfl ha (fun w' h => hA3.ext h) rfl
    try simp only [Act.put, List.setIfInBounds_toArray, List.set_cons_zero, List.set_cons_succ]
    apply goU_val (by rfl)
    · (intro w hSw; go_simp; try with_reducible rfl)
    try simp only [Act.put, List.setIfInBounds_toArray, List.set_cons_zero, List.set_cons_succ]
    apply goU_call (by rfl) (hbb _)
    · (intro w; go_simp; try with_reducible rfl)
    try simp only [Act.put, List.setIfInBounds_toArray, List.set_cons_zero, List.set_cons_succ]
    apply goU_loadA (by rfl) _ rfl ha (fun w' h => hA3.ext h) rfl
    try simp only [Act.put, List.setIfInBounds_toArray, List.set_cons_zero, List.set_cons_succ]
    apply goU_val (by rfl)
    · (intro w hSw; go_simp; try with_reducible rfl)
    try simp only [Act.put, List.setIfInBounds_toArray, List.set_cons_zero, List.set_cons_succ]
    apply goU_call (by rfl) (hbr _)
    · (intro w; go_simp; try with_reducible rfl)
    try simp only [Act.put, List.setIfInBounds_toArray, List.set_cons_zero, List.set_cons_succ]
    apply goU_val (by rfl)
    · (intro w hSw; go_simp; try with_reducible rfl)
    try simp only [Act.put, List.setIfInBounds_toArray, List.set_cons_zero, List.set_cons_succ]
    apply goU_val (by rfl)
    · (intro w hSw; go_simp; try with_reducible rfl)
    try simp only [Act.put, List.setIfInBounds_toArray, List.set_cons_zero, List.set_cons_succ]
    apply goU_val (by rfl)
    · (intro w hSw; go_simp; try with_reducible rfl)
    try simp only [Act.put, List.setIfInBounds_toArray, List.set_cons_zero, List.set_cons_succ]
    intro w5 hx5
    go_wp2
    go_ret
    exact ⟨rfl, hxx.trans hx5⟩
end Go.Proofs.YtbbdcodhgbgekaaDoor
