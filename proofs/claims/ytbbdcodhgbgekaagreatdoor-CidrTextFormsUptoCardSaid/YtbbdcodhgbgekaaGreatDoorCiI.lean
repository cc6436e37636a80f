/-
  Contracts of gen.SomeAddr and gen.Prefix.
-/
import Derived.Test.YtbbdcodhgbgekaaGreatDoorCiH
import Derived.Test.YtbbdcodhgbgekaaGreatDoorRgT
set_option linter.unusedSimpArgs false
set_option linter.unusedVariables false
namespace Go.Proofs.YtbbdcodhgbgekaaGreatDoor
open Go.RowKit
theorem goW_loadA {ops : Array Oper} {Q : Exit → Act → World → Prop} {md : Region.Mode} {w0 : World} {t : TypeId} {n : Nat} {C : List Value} {o : Oper} {rest : List Oper} {i : Nat} {plan : List Yld2} {A : (Nat → Value) → Act} (hw : ∀ u, Region.wanted o (yielded ops (A u).tmps) = true) (x : Operand) (ho : o.op = .load 24 x)
    {b : Nat} {a : Adr} (ha : okA a) (hb : ∀ w, Ext w0 w → Blk w b (ac a).toList 24) (hx : ∀ u, (A u).eval x = .pointer (some ⟨b, 0, none⟩))
    (k : goW Tryz.prog ops Q md (GrowTo w0.heap.size t n C) w0 rest (i + 1) (plan ++ [.val (.agg (ac a))]) (fun u => (A u).put o.dst (.agg (ac a)))) : goW Tryz.prog ops Q md (GrowTo w0.heap.size t n C) w0 (o :: rest) i plan A :=
  goW_val GrowTo.ok _ hw (fun u w hx' _ => by
    have e := load_A ha (hb w hx')
    unfold execOp
    rw [ho]
    simp only [hx, Sem.run_bind, e, Result.andThen_ok, Sem.run_pure]) k
set_option maxRecDepth 8000 in
set_option maxHeartbeats 4000000 in
theorem some_any (a : Adr) (ha : okA a) (w : World) : Calls Tryz.prog 16 #[av a] w fun e w' => ∃ b, okA b ∧ e = .returned (av b) ∧ Ext w w' := by
  have GA := Lib.hid gaddr_any
  have VA := Lib.hid (fun w => vadr_any a ha w)
  have hv := okA_vadr ha
  unfold av
  go_enter Tryz.func16, Tryz.ntmps16
  go_upto_region 1 with fail
  rw [← ac_zadr]
  have hx := ((Ext.refl w).alloc (.cells (ac a) 24)).alloc (.cells (ac zadr) 24)
  have hb := (ABox.new ha w).ext ha ((Ext.refl _).alloc (.cells (ac zadr) 24))
  have hr := Blk.new (w.alloc (.cells (ac a) 24)) (ac zadr) 24
  rw [World.size_alloc] at hr
  generalize (w.alloc (.cells (ac a) 24)).alloc (.cells (ac zadr) 24) = w2 at *
  have hxs : w.heap.size ≤ w.heap.size + 1 := by omega
  have c7 := hb.num 7 8 rfl (by decide)
  have c0 := hb.num 0 1 rfl (by decide)
  have c1 := hb.num 1 2 rfl (by decide)
  have hblk := hb.blk
  have b7 := X_bd ha 7
  have b0 := X_bd ha 0
  have b1 := X_bd ha 1
  generalize X a 7 = x7 at *
  generalize X a 0 = x0 at *
  generalize X a 1 = x1 at *
  have hm5 : (x7.tmod 5) = x7 % 5 := by rw [Int.tmod_eq_emod_of_nonneg (by omega)]
  generalize hr5 : x7 % 5 = r at *
  cases h0 : (r == 0)
  case true =>
    go_wp2_with (first | refine wpList_load_A rfl _ rfl ha hblk rfl ?_ | refine wpList_store_A rfl _ _ rfl okA_zadr ha hr rfl rfl ?_)
    refine bodyPost_ret (res_A rfl rfl ha (hr.row _)) rfl ⟨_, ha, rfl, hx.setRow hxs _⟩
  cases h1 : (r == 1)
  case true =>
    go_wp2_with (first | refine wpList_load_A rfl _ rfl ha hblk rfl ?_ | (go_at_call 20; refine (VA.out _).mono ?_; rintro e w3 ⟨rfl, hx3⟩; have hr3 := hr.ext hx3; have hxx := hx.trans hx3) | refine wpList_store_A rfl _ _ rfl okA_zadr hv hr3 rfl rfl ?_)
    refine bodyPost_ret (res_A rfl rfl hv (hr3.row _)) rfl ⟨_, hv, rfl, hxx.setRow hxs _⟩
  go_wp2_with (first | (go_at_call 38; refine (GA.out _ _).mono ?_; rintro e w3 ⟨g, hg, rfl, hx3⟩; have hr3 := hr.ext hx3; have hxx := hx.trans hx3) | refine wpList_store_A rfl _ _ rfl okA_zadr hg hr3 rfl rfl ?_)
  refine bodyPost_ret (res_A rfl rfl hg (hr3.row _)) rfl ⟨_, hg, rfl, hxx.setRow hxs _⟩
theorem trunc_idem {a : Adr} (ha : okA a) (n : Int) : truncA (truncA a n) n = truncA a n := by
  refine adr_ext (okA_trunc (okA_trunc ha n) n) (okA_trunc ha n) rfl fun q hq j hj => ?_
  rw [X_trunc _ n hq, mask_bt (X_bd (okA_trunc ha n) _) (keepN_le _ _) hj, X_trunc a n hq, mask_bt (X_bd ha _) (keepN_le _ _) hj]
  split <;> rfl
theorem mask0 {x : Int} (h : 0 ≤ x ∧ x < 256) : maskB x 0 = 0 := by unfold maskB; simp; omega
theorem trunc_validA {a : Adr} (ha : okA a) {n : Int} (h1 : n ≤ bitLen a) : validA (truncA a n) = true := by
  cases hf : a.1 with
  | true => unfold validA truncA; rw [hf]; rfl
  | false =>
    refine (validA_iff (okA_trunc ha n) hf).2 fun j h4 hj => ?_
    rw [X_trunc a n hj]
    have hk : keepN n j = 0 := by
      unfold bitLen at h1; rw [hf] at h1; simp at h1
      unfold keepN; omega
    rw [hk, mask0 (X_bd ha _)]
theorem trunc_validP {a : Adr} (ha : okA a) {n : Int} (h0 : 0 ≤ n) (h1 : n ≤ bitLen a) : validP (truncA a n, n) = true := by
  unfold validP
  have e : bitLen (truncA a n) = bitLen a := rfl
  simp only [trunc_validA ha h1, trunc_idem ha n, e, decide_eq_true h0, decide_eq_true h1, decide_true, Bool.true_and]
theorem prefixOf_ok {a : Adr} (hv : validA a = true) {n : Int} (h0 : 0 ≤ n) (h1 : n ≤ bitLen a) : prefixOf a n = ((truncA a n, n), true) := by
  unfold prefixOf; rw [if_pos ⟨hv, h0, h1⟩]
/-- some valid prefix comes back -/
def GenP (w : World) (e : Ending) (w' : World) : Prop := ∃ q, okP q ∧ validP q = true ∧ e = .returned (pv q) ∧ Ext w w'
set_option maxRecDepth 8000 in
set_option maxHeartbeats 4000000 in
theorem gprefix_any (p : Pfx) (hp : okP p) (w : World) : Calls Tryz.prog 7 #[pv p] w fun e w' => GenP w e w' := by
  have SA := Lib.hid (fun w => some_any p.1 hp.1 w)
  unfold pv
  go_enter Tryz.func7, Tryz.ntmps7
  go_upto_region 1 with fail
  rw [← pc_zero]
  have hx := ((Ext.refl w).alloc (.cells (pc p) 26)).alloc (.cells (pc zpfx) 26)
  have hb1 := (Blk.new w (pc p) 26).ext ((Ext.refl _).alloc (.cells (pc zpfx) 26))
  have hb2 := Blk.new (w.alloc (.cells (pc p) 26)) (pc zpfx) 26
  rw [World.size_alloc] at hb2
  generalize (w.alloc (.cells (pc p) 26)).alloc (.cells (pc zpfx) 26) = w0 at *
  generalize hbw : w.heap.size = b at *
  replace hbw := Nat.le_of_eq hbw
  go_wp2_with (first | refine wpList_load_PA rfl _ rfl hp hb1 rfl ?_ | (go_at_call 16; refine (SA.out _).mono ?_; rintro e w1 ⟨s, hs, rfl, hx1⟩; have VA := Lib.hid (fun w => vadr_any s hs w)) | (go_at_call 20; refine (VA.out _).mono ?_; rintro e w2 ⟨rfl, hx2⟩; refine Hid.out ?_))
  refine Lib.hid ?_
  have hxx2 := (hx.trans hx1).trans hx2
  have hb1_2 := (hb1.ext hx1).ext hx2
  have hb2_2 := (hb2.ext hx1).ext hx2
  have hv := okA_vadr hs
  have hval := valid_vadr s
  clear hx hx1 hx2 hb1 hb2 VA
  generalize vadr s = v at *
  have hbf := Blk.new w2 (ac zadr) 24
  go_upto_region 2 with (refine wpList_store_A rfl _ _ rfl okA_zadr hv hbf rfl rfl ?_)
  change Code.wp _ _ _ _ ((w2.alloc (.cells (ac zadr) 24)).setRow w2.heap.size (ac v))
  rw [World.setRow_alloc_new]
  have hB3 := Blk.new w2 (ac v) 24
  have hx3 := hxx2.alloc (.cells (ac v) 24)
  have hnx := (Ext.refl w2).alloc (.cells (ac v) 24)
  clear hbf
  generalize w2.alloc (.cells (ac v) 24) = w3 at *
  generalize w2.heap.size = b3 at *
  have hP3 := hb1_2.ext hnx
  have hR3 := hb2_2.ext hnx
  clear hnx hxx2 hb1_2 hb2_2
  have hbl := bitLen_pos v
  have hmb := modI_bd p.2 (n := bitLen v + 1) (by omega) (by omega)
  have K1 := fun (w' : World) (h : Ext w3 w') => rBitLen_any v hv w'
  have K2 := fun (w' : World) (h : Ext w3 w') => mod_any p.2 (bitLen v + 1) w' (u64_ne (by omega) (by omega))
  have K3 := fun (w' : World) (h : Ext w3 w') => rprefix_any v hv (modI p.2 (bitLen v + 1)) (by unfold i64ok; omega) w'
  rw [prefixOf_ok hval hmb.1 (by omega)] at K3
  have hq : okP (truncA v (modI p.2 (bitLen v + 1)), modI p.2 (bitLen v + 1)) := ⟨okA_trunc hv _, by unfold i64ok; omega⟩
  have hqv : validP (truncA v (modI p.2 (bitLen v + 1)), modI p.2 (bitLen v + 1)) = true := trunc_validP hv hmb.1 (by omega)
  have HQV := Lib.hid hqv
  have F := fun (w' : World) (h : Ext w3 w') => PBlk.bits hp (hP3.ext h)
  have hL1 : IntKind.i64.wrap (bitLen v + 1) = bitLen v + 1 := IntWalk.i64_in _ (by omega)
  have hBA : ∀ w', Ext w3 w' → Blk w' b3 (ac v).toList 24 := fun w' h => hB3.ext h
  clear hqv hB3
  generalize bitLen v = L at *
  generalize modI p.2 (L + 1) = n at *
  generalize p.2 = pn at *
  generalize hqq : ((truncA v n, n) : Pfx) = q at *
  refine wp_region_rw (GrowTo w3.heap.size 26 18 (pc q).toList) w3 GrowTo.ok (by kernel_rfl) (by kernel_rfl) (Ext.refl _) ?_
  first
    | (apply goW_skip (by intro u; rfl))
    | (apply goW_loadA (by intro u; rfl) _ rfl hv hBA (by intro u; rfl))
  try simp only [Act.put, List.setIfInBounds_toArray, List.set_cons_zero, List.set_cons_succ]
  first
    | (apply goW_skip (by intro u; rfl))
    | (apply goW_val GrowTo.ok _ (by intro u; rfl); · (intro u w hSw hF; go_simp; try with_reducible rfl))
  try simp only [Act.put, List.setIfInBounds_toArray, List.set_cons_zero, List.set_cons_succ]
  first
    | (apply goW_skip (by intro u; rfl))
    | (apply goW_val GrowTo.ok (.int .i64 pn) (by intro u; rfl); · (intro u w hSw hF; have c0 := F w hSw; go_simp))
  try simp only [Act.put, List.setIfInBounds_toArray, List.set_cons_zero, List.set_cons_succ]
  first
    | (apply goW_skip (by intro u; rfl))
    | (apply goW_loadA (by intro u; rfl) _ rfl hv hBA (by intro u; rfl))
  try simp only [Act.put, List.setIfInBounds_toArray, List.set_cons_zero, List.set_cons_succ]
  first
    | (apply goW_skip (by intro u; rfl))
    | (apply goW_call GrowTo.ok (by intro u; rfl) K1; · (intro u w hSw hF; go_simp; try with_reducible rfl))
  try simp only [Act.put, List.setIfInBounds_toArray, List.set_cons_zero, List.set_cons_succ]
  first
    | (apply goW_skip (by intro u; rfl))
    | (apply goW_val GrowTo.ok _ (by intro u; rfl); · (intro u w hSw hF; go_simp; try with_reducible rfl))
  try simp only [Act.put, List.setIfInBounds_toArray, List.set_cons_zero, List.set_cons_succ]
  first
    | (apply goW_skip (by intro u; rfl))
    | (apply goW_call GrowTo.ok (by intro u; rfl) K2; · (intro u w hSw hF; go_simp; try with_reducible rfl))
  try simp only [Act.put, List.setIfInBounds_toArray, List.set_cons_zero, List.set_cons_succ]
  first
    | (apply goW_skip (by intro u; rfl))
    | (apply goW_call GrowTo.ok (by intro u; rfl) K3; · (intro u w hSw hF; go_simp; try with_reducible rfl))
  try simp only [Act.put, List.setIfInBounds_toArray, List.set_cons_zero, List.set_cons_succ]
  first
    | (apply goW_skip (by intro u; rfl))
    | (apply goW_val GrowTo.ok _ (by intro u; rfl); · (intro u w hSw hF; go_simp; try with_reducible rfl))
  try simp only [Act.put, List.setIfInBounds_toArray, List.set_cons_zero, List.set_cons_succ]
  first
    | (apply goW_skip (by intro u; rfl))
    | (apply goW_val GrowTo.ok _ (by intro u; rfl); · (intro u w hSw hF; go_simp; try with_reducible rfl))
  try simp only [Act.put, List.setIfInBounds_toArray, List.set_cons_zero, List.set_cons_succ]
  first
    | (apply goW_skip (by intro u; rfl))
    | (apply goW_val GrowTo.ok _ (by intro u; rfl); · (intro u w hSw hF; go_simp; try with_reducible rfl))
  try simp only [Act.put, List.setIfInBounds_toArray, List.set_cons_zero, List.set_cons_succ]
  apply goW_rel (VNew w3.heap.size 26 18) (VNew.ok (by rw [Array.length_toList, pc_size hq])) (by intro u; rfl)
  · intro u w hSw hF
    go_simp
    exact ⟨GrowTo.ok.ofExt _ _ hSw ((Ext.refl _).alloc _), w.heap.size, rfl, hSw.size, _, rfl, Blk.new _ _ _⟩
  try simp only [Act.put, List.setIfInBounds_toArray, List.set_cons_zero, List.set_cons_succ]
  apply goW_storeT (n := 18) 11 _ _ rfl (pc_size hq) (by rw [info_P, pc_size hq]) (pc_one q) (by decide) rfl (by intro u; rfl) (by intro u; rfl) (by intro u; rfl)
  try simp only [Act.put, List.setIfInBounds_toArray, List.set_cons_zero, List.set_cons_succ]
  first
    | (apply goW_skip (by intro u; rfl))
    | (apply goW_val GrowTo.ok _ (by intro u; rfl); · (intro u w hSw hF; go_simp; try with_reducible rfl))
  try simp only [Act.put, List.setIfInBounds_toArray, List.set_cons_zero, List.set_cons_succ]
  intro u w4 hx4 hh
  obtain ⟨b5, hu, hb5, -⟩ := holdsAt2_get (j := 11) hh (by simp) rfl
  have hcon := holdsAt2_get (j := 12) hh (by simp) rfl b5 hu
  simp only [Nat.zero_add, Nat.reduceAdd, hu]
  have hR4 := hR3.ext hx4
  go_wp2_with (first | refine wpList_load_P rfl _ rfl hq hcon rfl ?_ | refine wpList_store_P rfl _ _ rfl okP_zpfx hq hR4 rfl rfl ?_)
  refine bodyPost_ret (res_P rfl rfl hq (hR4.row _)) rfl ⟨q, hq, HQV.out, rfl, (hx3.trans hx4).setRow (by omega) _⟩
end Go.Proofs.YtbbdcodhgbgekaaGreatDoor
