/-
  Several texts joined: IpEq, RgA, Rgs, IpFn.
-/
import Derived.DeepKeys
import Derived.Test.YtpdoddelnahlnaaGreatDoorK03
import Derived.Test.YtpdoddelnahlnaaGreatDoorK18
import Derived.Test.YtpdoddelnahlnaaGreatDoorK09
import Derived.Test.YtpdoddelnahlnaaGreatDoorK04
/-
  '==' of an address and itself, whatever it holds.
-/
set_option linter.unusedSimpArgs false
set_option linter.unusedVariables false
namespace Go.Proofs.YtpdoddelnahlnaaGreatDoor
open Go.RowKit

theorem mapM_isSome {α β : Type} {f : α → Option β} : ∀ {l : List α}, (∀ x ∈ l, (f x).isSome = true) → (l.mapM f).isSome = true
  | [], _ => rfl
  | x :: l, h => by
    obtain ⟨y, hy⟩ := Option.isSome_iff_exists.1 (h x (by simp))
    obtain ⟨ys, hys⟩ := Option.isSome_iff_exists.1 (mapM_isSome (l := l) fun z hz => h z (by simp [hz]))
    simp [List.mapM_cons, hy, hys]
theorem keyLits_bool (d : Nat) (b : Bool) : Tryz.prog.keyLits (d + 1) 4 [.bool b] = some [.bool b] := by
  simp only [Program.keyLits, Tryz.underlying4]
theorem keyLits_u8 (d : Nat) {z : Int} (h : 0 ≤ z ∧ z < 256) : Tryz.prog.keyLits (d + 1) 5 [.int .u8 z] = some [.int .u8 z] := by
  have hw : (Lit.int .u8 z).wf = true := by
    simp only [Lit.wf, Bool.and_eq_true, decide_eq_true_eq, IntKind.min, IntKind.max, IntKind.bits, IntKind.signed]
    simp
    omega
  simp only [Program.keyLits, Tryz.underlying5, hw, and_self, if_true]
theorem keyLits_16 (d : Nat) {l : List Int} (h : l.length = 16) (hb : ∀ x ∈ l, 0 ≤ x ∧ x < 256) : (Tryz.prog.keyLits (d + 2) 28 (l.map (Value.int .u8))).isSome = true := by
  unfold Program.keyLits
  have c : (l.map (Value.int .u8)).length = Tryz.prog.cellsOf 28 := by rw [cells_16, List.length_map, h]
  simp only [Tryz.underlying28]
  rw [if_pos c, Option.isSome_map]
  refine mapM_isSome (l := List.range 16) (f := fun i => Tryz.prog.keyLits (d + 1) 5 (((l.map (Value.int .u8)).drop (i * Tryz.prog.cellsOf 5)).take (Tryz.prog.cellsOf 5))) fun i hi => ?_
  show (Tryz.prog.keyLits (d + 1) 5 (((l.map (Value.int .u8)).drop (i * Tryz.prog.cellsOf 5)).take (Tryz.prog.cellsOf 5))).isSome = true
  rw [cells_u8]
  have hi := List.mem_range.1 hi
  have e : ((l.map (Value.int .u8)).drop (i * 1)).take 1 = [.int .u8 (l.getD i 0)] := by
    apply List.ext_getElem?
    intro j
    rcases j with _ | j
    · simp [List.getD_eq_getElem?_getD, List.getElem?_eq_getElem (show i < l.length by omega), List.getElem?_take, List.getElem?_drop]
    · simp [List.getElem?_take]
  rw [e, keyLits_u8 d (hb _ (by rw [List.getD_eq_getElem?_getD, List.getElem?_eq_getElem (show i < l.length by omega)]; exact List.getElem_mem _))]
  rfl
set_option maxRecDepth 8000 in
theorem keyLits_A {a : Adr} (ha : okA a) : (Tryz.prog.keyLits 4 30 (ac a).toList).isSome = true := by
  unfold Program.keyLits
  have hl : (ac a).toList.length = 17 := by rw [Array.length_toList]; exact ac_size ha
  have e : (ac a).toList = .bool a.1 :: a.2.map (Value.int .u8) := rfl
  simp only [Tryz.underlying30]
  rw [if_pos ⟨by rw [hl, cells_A], by kernel_rfl⟩, Option.isSome_map]
  refine mapM_isSome fun f hf => ?_
  simp only [List.mem_cons, List.not_mem_nil, or_false, List.toList_toArray] at hf
  rcases hf with rfl | rfl
  · show (Tryz.prog.keyLits 3 4 (((ac a).toList.drop 0).take (Tryz.prog.cellsOf 4))).isSome = true
    rw [cells_b, e]
    show (Tryz.prog.keyLits 3 4 [.bool a.1]).isSome = true
    rw [keyLits_bool]; rfl
  · show (Tryz.prog.keyLits 3 28 (((ac a).toList.drop 1).take (Tryz.prog.cellsOf 28))).isSome = true
    rw [cells_16, e, List.drop_succ_cons, List.drop_zero, List.take_of_length_le (by rw [List.length_map, ha.1]; exact Nat.le_refl _)]
    exact keyLits_16 1 ha.1 ha.2
theorem key24 : Tryz.prog.keyTypeAt 3 30 = true := by kernel_rfl
theorem formed_A {a : Adr} (ha : okA a) : (av a).formed Tryz.prog 30 = true := by
  simp only [Value.formed, Tryz.underlying30, cells_A, ac_size ha, beq_self_eq_true]
theorem equal_A {a b : Adr} (ha : okA a) (hb : okA b) (h : a = b) (W : World) : (Op.equal 30 (.agg (ac a)) (.agg (ac b))).run Tryz.prog W = .ok true W := by
  subst h
  obtain ⟨la, hla⟩ := Option.isSome_iff_exists.1 (keyLits_A ha)
  obtain ⟨r, hr, hi⟩ := run_equalIn_deep (P := Tryz.prog) 9997 3 30 key24 W 4 4 (av a) (av a) la la (formed_A ha) (formed_A ha) hla hla
  rw [hi.2 rfl] at hr
  exact hr
theorem noGuard_A : Tryz.prog.eqGuardType Tryz.prog.depth 30 = false := by kernel_rfl
theorem exec_eqA {o : Oper} {f : Act} (x y : Operand) {t : TypeId} (ho : o.op = .binOp .eql 30 x y t) {a b : Adr} (ha : okA a) (hb : okA b) (h : a = b) (hx : f.eval x = .agg (ac a)) (hy : f.eval y = .agg (ac b)) (w : World) :
    (execOp f.eval o).run Tryz.prog w = .ok (.value (.bool true)) w := by
  unfold execOp
  rw [ho]
  have e := equal_A ha hb h w
  have e1 : (eqGuard .eql 30 x y (.agg (ac a)) (.agg (ac b))).run Tryz.prog w = .ok () w := by
    simp [eqGuard, noGuard_A, Sem.run_bind]
  have e2 : (binOp .eql 30 (.agg (ac a)) (.agg (ac b))).run Tryz.prog w = .ok (.bool true) w := by
    simp only [binOp, Sem.run_bind, e, Result.andThen_ok, Sem.run_pure]
  simp only [hx, hy, Sem.run_bind, e1, e2, Result.andThen_ok, Sem.run_pure]
theorem goU_eqA {ops : Array Oper} {Q : Exit → Act → World → Prop} {S : World → Prop} {o : Oper} {rest : List Oper} {f : Act} (hw : Region.wanted o (yielded ops f.tmps) = true) (x y : Operand) {t : TypeId} (ho : o.op = .binOp .eql 30 x y t)
    {a b : Adr} (ha : okA a) (hb : okA b) (h : a = b) (hx : f.eval x = .agg (ac a)) (hy : f.eval y = .agg (ac b)) (k : goU Tryz.prog ops Q S rest (f.put o.dst (.bool true))) : goU Tryz.prog ops Q S (o :: rest) f :=
  ⟨_, .value hw (fun w _ => exec_eqA x y ho ha hb h hx hy w), k⟩
end Go.Proofs.YtpdoddelnahlnaaGreatDoor
/-
  Loads and '==' of addresses in drawn regions.
-/
set_option linter.unusedSimpArgs false
set_option linter.unusedVariables false
namespace Go.Proofs.YtpdoddelnahlnaaGreatDoor
open Go.RowKit
section
variable {ops : Array Oper} {Q : Exit → Act → World → Prop} {md : Region.Mode} {w0 : World}
theorem goV_loadA {o : Oper} {rest : List Oper} {i : Nat} {plan : List Yld} {A : (Nat → Value) → Act} (hw : ∀ u, Region.wanted o (yielded ops (A u).tmps) = true) (x : Operand) (ho : o.op = .load 30 x)
    {b : Nat} {a : Adr} (ha : okA a) (hb : ∀ w, Ext w0 w → Blk w b (ac a).toList 30) (hx : ∀ u, (A u).eval x = .pointer (some ⟨b, 0, none⟩))
    (k : goV Tryz.prog ops Q md w0 rest (i + 1) (plan ++ [.val (.agg (ac a))]) (fun u => (A u).put o.dst (.agg (ac a)))) : goV Tryz.prog ops Q md w0 (o :: rest) i plan A :=
  goV_val _ hw (fun u w hx' _ => by
    have e := load_A ha (hb w hx')
    unfold execOp
    rw [ho]
    simp only [hx, Sem.run_bind, e, Result.andThen_ok, Sem.run_pure]) k
theorem goV_eqA {o : Oper} {rest : List Oper} {i : Nat} {plan : List Yld} {A : (Nat → Value) → Act} (hw : ∀ u, Region.wanted o (yielded ops (A u).tmps) = true) (x y : Operand) {t : TypeId} (ho : o.op = .binOp .eql 30 x y t)
    {a b : Adr} (ha : okA a) (hb : okA b) (h : a = b) (hx : ∀ u, (A u).eval x = .agg (ac a)) (hy : ∀ u, (A u).eval y = .agg (ac b))
    (k : goV Tryz.prog ops Q md w0 rest (i + 1) (plan ++ [.val (.bool true)]) (fun u => (A u).put o.dst (.bool true))) : goV Tryz.prog ops Q md w0 (o :: rest) i plan A :=
  goV_val _ hw (fun u w _ _ => exec_eqA x y ho ha hb h (hx u) (hy u) w) k
end
end Go.Proofs.YtpdoddelnahlnaaGreatDoor
/-
  The walk of Rg in a region that runs as it is written.
-/
set_option linter.unusedSimpArgs false
set_option linter.unusedVariables false
namespace Go.Proofs.YtpdoddelnahlnaaGreatDoor
section
variable {P : Program} {ops : Array Oper} {Q : Exit → Act → World → Prop} {md : Region.Mode} {w0 : World}
theorem wpList_of_goV : ∀ (l : List Oper) (i : Nat) (plan : List Yld) (A : (Nat → Value) → Act), goV P ops Q md w0 l i plan A → plan.length = i → (∀ s ∈ plan, s.ok) →
    (∀ u u' : Nat → Value, (∀ j, j < i → u j = u' j) → A u = A u') → ∀ u w, Ext w0 w → (∀ (j : Nat) (s : Yld), plan[j]? = some s → s.V (u j) w) → wpList P ops Q l (A u) w
  | [], i, plan, A, h, hp, hok, hA, u, w, hx, hV => h u w hx (holdsAt_all fun j _ s hs => hV j s hs)
  | o :: l, i, plan, A, h, hp, hok, hA, u, w, hx, hV => by
    obtain ⟨s, hs, h1, h2⟩ := h
    have ho := h1 u w hx (holdsAt_all fun j _ s hs => hV j s hs)
    have next : ∀ x w', Ext w w' → s.V x w' → wpList P ops Q l ((A u).put o.dst x) w' := fun x w' hx' hv => by
      have hu : A u = A (fun j => if j = i then x else u j) := hA _ _ fun j hj => by simp only [if_neg (show ¬ j = i by omega)]
      have := wpList_of_goV l (i + 1) (plan ++ [s]) _ h2 (by rw [List.length_append, hp]; rfl) (fun t ht => by
        rcases List.mem_append.1 ht with ht | ht
        · exact hok t ht
        · rw [List.mem_singleton] at ht; rw [ht]; exact hs) (fun u u' huu => by
        rw [hA u u' (fun j hj => huu j (by omega)), huu i (by omega)]) (fun j => if j = i then x else u j) w' (hx.trans hx') (fun j t ht => by
        rcases Nat.lt_trichotomy j plan.length with hj | hj | hj
        · rw [List.getElem?_append_left hj] at ht
          simp only [if_neg (show ¬ j = i by omega)]
          exact (hok t (List.mem_of_getElem? ht)).stay _ _ _ (hV j t ht) hx'
        · rw [List.getElem?_append_right (by omega), show j - plan.length = 0 by omega] at ht
          cases ht
          simp only [if_pos (show j = i by omega)]; exact hv
        · rw [List.getElem?_append_right (by omega)] at ht
          obtain ⟨q, hq⟩ : ∃ q, j - plan.length = q + 1 := ⟨j - plan.length - 1, by omega⟩
          rw [hq] at ht; simp at ht)
      simp only [if_true, Yld.at_eq hs hv] at this
      rw [← hu] at this
      exact this
    unfold wpList
    rcases ho with ⟨hw, hv⟩ | ⟨hw, hv⟩
    · simp only [hw, if_true, Oper.wp]
      left
      generalize (execOp (A u).eval o).run P w = r at *
      unfold OutV at hv
      split at hv
      · exact next _ _ hv.1 hv.2
      · exact Calls.mono hv.2 fun e w'' he => by
          obtain ⟨x, rfl, k1, k2⟩ := he
          exact next _ _ (hv.1.trans k1) k2
      · exact Rows.mono hv.2 fun x w'' he => next _ _ (hv.1.trans he.1) he.2
      · exact hv.elim
    · simp only [hw, Bool.false_eq_true, if_false]; exact next _ _ (Ext.refl _) hv
theorem wp_region_rgs {id : Nat} {l : List Oper} {a : Act} {w : World} (h : goV P l.toArray Q .any w l 0 [] (fun _ => a)) : (Code.region id l.toArray false).wp P Q a w :=
  wp_region_lit (wpList_of_goV l 0 [] _ h rfl (fun s hs => by cases hs) (fun _ _ _ => rfl) (fun _ => undef) w (Ext.refl _) (fun j s hs => by simp at hs))
end
end Go.Proofs.YtpdoddelnahlnaaGreatDoor
/-
  Contract of ip.Format at IPv6 addresses.
-/
set_option linter.unusedSimpArgs false
set_option linter.unusedVariables false
namespace Go.Proofs.YtpdoddelnahlnaaGreatDoor
open Go.RowKit Go.Joins

set_option maxRecDepth 8000 in
set_option maxHeartbeats 4000000 in
theorem format6_any (a : Adr) (ha : okA a) (hf : a.1 = true) (w : World) (htabs : Tabs w) :
    Calls Tryz.prog 41 #[av a] w fun e w' => e = .returned (.string (txt (fmtA a))) ∧ Ext w w' := by
  have hv : validA a = true := by unfold validA; rw [hf]; rfl
  have hfm : fmtA a = tail6 a.2 (best a.2 8).1 (best a.2 8).2 9 0 := by unfold fmtA; rw [hv, hf]; rfl
  have hbb := best_bd a.2 8 (Nat.le_refl _)
  have hut : upto a.2 8 = if (best a.2 8).1 < 0 then -1 else (best a.2 8).1 + (best a.2 8).2 := rfl
  have hlong := fun w => longest_any a ha w
  obtain ⟨F, hF⟩ : ∃ F, (best a.2 8).1 = F := ⟨_, rfl⟩
  obtain ⟨M, hM⟩ : ∃ M, (best a.2 8).2 = M := ⟨_, rfl⟩
  obtain ⟨T, hT⟩ : ∃ T, upto a.2 8 = T := ⟨_, rfl⟩
  have hcase : (F = -1 ∧ M = 1 ∧ T = -1) ∨ (0 ≤ F ∧ F < 8 ∧ 2 ≤ M ∧ F + M ≤ 8 ∧ T = F + M) := by
    rw [← hF, ← hM, ← hT, hut]
    rcases hbb with h | ⟨h1, h2, h3, h4⟩
    · left; rw [h]; exact ⟨rfl, rfl, rfl⟩
    · right; rw [if_neg (by omega)]; exact ⟨h1, h2, h3, h4, rfl⟩
  rw [hF, hM] at hfm
  rw [hF, hT] at hlong
  have HFM := Lib.hid hfm; clear hfm hbb hut hF hM hT
  have HL := Lib.hid hlong; clear hlong
  obtain ⟨i0, hi, hz0, hz1, hz2⟩ := info_parts info8
  have HI := Lib.hid hi; have HZ0 := Lib.hid hz0; have HZ1 := Lib.hid hz1; have HZ2 := Lib.hid hz2
  clear hi hz0 hz1 hz2
  have hcall := fun w => valid_any a ha w
  rw [hv] at hcall
  have HC := Lib.hid hcall; clear hcall hv
  have HCS := Lib.hid hcase
  have hT1 : -1 ≤ T := by omega
  have hT2 : T ≤ 8 := by omega
  clear hcase
  unfold av
  go_enter Tryz.func41, Tryz.ntmps41
  go_upto_region 1 with fail
  have hx := (Ext.refl w).alloc (.cells (ac a) 30)
  have hb := ABox.new ha w
  generalize hwq : w.alloc (.cells (ac a) 30) = w0 at *
  clear hwq
  go_wp2_with (first | refine wpList_load_A rfl _ rfl ha hb.blk rfl ?_ | (go_at_call 36; refine (HC.out _).mono ?_; rintro e w1 ⟨rfl, hx1⟩; refine Hid.out ?_))
  refine Lib.hid ?_
  have hb1 := hb.ext ha hx1
  have hx11 := hx.trans hx1
  clear hb hx hx1
  have hfam := hb1.fam
  rw [hf] at hfam
  go_wp2_with (first | refine wpList_load_A rfl _ rfl ha hb1.blk rfl ?_ | (go_at_call 70; refine (HL.out _).mono ?_; rintro e w2 ⟨rfl, hx2⟩; refine Hid.out ?_))
  refine Lib.hid ?_
  have hb2 := hb1.ext ha hx2
  have hx22 := hx11.trans hx2
  have ht2 := htabs.ext hx22
  have hB0 : w.heap.size < w2.heap.size := hb2.lt
  clear hb1 hx11 hx2 hfam
  go_wp2_with fail
  go_loopw [3, 8] (fun v c wr => ∃ (i : Nat) (pr : List UInt8) (fuel : Nat), i ≤ 8 ∧ c = .int .i64 i ∧ wr.ownsRow w2.heap.size 5 1 v pr.length (bcells pr) ∧ pr.length ≤ 5 * i ∧ ABox wr w.heap.size a ∧ Ext w2 wr ∧ Hid (fmtA a = pr ++ tail6 a.2 F M fuel i) ∧ 9 ≤ fuel + i) (fun _ c _ => 8 - (intOf c).toNat)
  case atStart => exact ⟨0, [], 9, Nat.zero_le _, rfl, World.ownsRow_nil _ _ _ _, Nat.le_refl _, hb2, Ext.refl _, HFM, Nat.le_refl _⟩
  case round =>
    obtain ⟨i, pr, fuel, hi, rfl, hown, hpl, hb, hx, hT, hfu⟩ := hrel
    have hsz := hx.size
    obtain ⟨va, vc, rfl⟩ := own_sliceX hown
    by_cases hlt : i < 8
    · have hlt' : (i : Int) < 8 := by omega
      obtain ⟨fuel, rfl⟩ : ∃ f, fuel = f + 1 := ⟨fuel - 1, by omega⟩
      by_cases hiF : (i : Int) = F
      · have hiFb : ((i : Int) == F) = true := by rw [beq_iff_eq]; exact hiF
        have HTX : Hid (fmtA a = pr ++ ([58, 58] ++ tail6 a.2 F M fuel (i + M.toNat))) := Lib.hid (by rw [hT.out, tail6_at hlt hiF])
        have hTm : T = (i : Int) + M ∧ 2 ≤ M ∧ (i : Int) + M ≤ 8 := by have := HCS.out; omega
        obtain ⟨m, hm⟩ : ∃ m : Nat, M = m := ⟨M.toNat, by omega⟩
        have hTi : T = ((i + m : Nat) : Int) := by omega
        have HTI := Lib.hid hTi
        have hm2 : 2 ≤ m ∧ i + m ≤ 8 := by omega
        have HM := Lib.hid hm
        clear hTi hTm hm hiF
        have hT3 : 2 ≤ T := by have := HTI.out; omega
        go_wp2_with (at_builtin; refine Lib.wpList_append_own_string _ rfl _ _ 22 9 rfl w2.heap.size 5 i0 Tryz.underlying22 Tryz.underlying9 HI.out HZ0.out HZ1.out HZ2.out _ _ _ rfl hown ⟨#[58, 58]⟩ rfl ?c3 ?c4 ?c5 ?_)
        case c3 => show pr.length + 2 ≤ maxLen; unfold maxLen; omega
        case c4 => show pr.length + 2 ≤ _; omega
        case c5 => omega
        intro v' w7 hown' hgrow _
        have hlv := hown.lt
        have hx7 : Ext w2 w7 := Ext.grown hx hgrow (fun g hg => (hlv g hg).1)
        have hb7 : ABox w7 w.heap.size a := .of_blk ha ((hb.blk).keep (Keep.of_grown hgrow) (fun hm => by
          cases ho : (Value.slice va pr.length vc).ownBlock with
          | none => rw [ho] at hm; simp at hm
          | some g => rw [ho] at hm; simp at hm; have := (hlv g ho).1; omega))
        obtain ⟨vb, vd, rfl⟩ := own_sliceX hown'
        have hown7 : w7.ownsRow w2.heap.size 5 1 (.slice vb (pr.length + 2) vd) (pr ++ [58, 58]).length (bcells (pr ++ [58, 58])) := by
          rw [List.length_append, bcells_app]; exact hown'
        have HO7 := Lib.hid hown7; clear hown7 hown' hown hgrow hx hb
        go_wp2_with fail
        go_roundw
        case rel =>
          refine ⟨i + m, pr ++ [58, 58], fuel, hm2.2, by (have := HTI.out; first | rfl | (congr 1; done) | (congr 1; omega)), HO7.out, by simp; omega, hb7, hx7, Lib.hid ?_, by omega⟩
          rw [HTX.out, HM.out]; simp
        case measure => have := HTI.out; simp [intOf]; omega
      · have hiFb : ((i : Int) == F) = false := by rw [beq_eq_false_iff_ne]; exact hiF
        have htx : fmtA a = pr ++ ((if 0 < i ∧ (i : Int) ≠ F + M then [58] else []) ++ hexT (grp a.2 i).toNat ++ tail6 a.2 F M fuel (i + 1)) := by rw [hT.out, tail6_no hlt hiF]
        by_cases hcol : 0 < i ∧ (i : Int) ≠ F + M
        · rw [if_pos hcol] at htx
          have HTX := Lib.hid htx; clear htx
          have hi0 : (0 : Int) < i := by omega
          have hi0d : decide ((0 : Int) < i) = true := decide_eq_true hi0
          have hiT : ((i : Int) != T) = true := by rw [bne_iff_ne]; have := HCS.out; omega
          clear hcol hiF
          go_upto_region 22 with (at_builtin; refine wpList_append_own _ rfl _ _ 22 rfl w2.heap.size 5 i0 (.int .u8 0) 1 1 Tryz.underlying22 HI.out HZ0.out HZ1.out HZ2.out rfl (by decide) _ _ _ rfl (hown.alloc _) ⟨wr.heap.size, 0, none⟩ 1 1 [.int .u8 58] rfl rfl ?c1 ?c2 ?c3 ?c4 ?c5 ?_)
          case c1 =>
            intro j u hj
            have B1 := Blk.new wr #[Value.int .u8 58] 5
            have e1 : (⟨wr.heap.size, 0, none⟩ : Addr).add j = ⟨wr.heap.size, j, none⟩ := by unfold Addr.add; split <;> simp_all
            rw [e1]
            exact B1.cell hj
          case c2 => simp [Value.oneCell']
          case c3 => unfold maxLen; omega
          case c4 => omega
          case c5 => first | omega | (rw [World.size_alloc]; omega)
          intro v' w7 hown' hgrow _
          have hlv := hown.lt
          have hx7 : Ext w2 w7 := Ext.grown (hx.alloc _) hgrow (fun g hg => (hlv g hg).1)
          have hb7 : ABox w7 w.heap.size a := .of_blk ha (((hb.blk).alloc _).keep (Keep.of_grown hgrow) (fun hm => by
            cases ho : (Value.slice va pr.length vc).ownBlock with
            | none => rw [ho] at hm; simp at hm
            | some g => rw [ho] at hm; simp at hm; have := (hlv g ho).1; omega))
          obtain ⟨vb, vd, rfl⟩ := own_sliceX hown'
          have hown7 : w7.ownsRow w2.heap.size 5 1 (.slice vb (pr.length + 1) vd) (pr ++ [58]).length (bcells (pr ++ [58])) := by
            rw [List.length_append, bcells_app]; exact hown'
          clear hown' hown hgrow hx hb hlv
          go_upto_region 22 with fail
          have hcall := group_any a ha i hlt w7
          have hgb := grp_bd ha i
          obtain ⟨N, hN⟩ : ∃ N : Nat, grp a.2 i = N := ⟨(grp a.2 i).toNat, by omega⟩
          rw [hN] at hcall hgb
          have HNN : Hid ((grp a.2 i).toNat = N) := Lib.hid (by omega)
          clear hN
          have HC3 := Lib.hid hcall
          have hNl : N < 65536 := by omega
          have hhl := hexT_len hNl
          have hoX := Lib.hid (hown7)
          have hBW := Lib.hid (hx7).size
          have Hh := Lib.hid hx7; have Hb := Lib.hid hb7
          have hhb := (hb7).blk
          clear hcall hown7 hx7 hb7
          go_wp2_with (first | refine wpList_load_A rfl _ rfl ha hhb rfl ?_ | (go_at_call 72; refine HC3.out.mono ?_; rintro e w8 ⟨rfl, hx8⟩) | (go_at_call 71; refine (appendHex_any N hNl w8 w2.heap.size (pr ++ [58]).length _ _ (ownsRow_keep hoX.out (hx8.keep []) (by simp)) (by first | omega | (simp; omega)) (Nat.le_trans hBW.out hx8.size) (ht2.ext (Hh.out.trans hx8)).tz).mono ?_; rintro e w9 ⟨v9, rfl, ho9, hg9⟩; obtain ⟨v10, v11, rfl⟩ := own_sliceX ho9))
          go_roundw
          case rel =>
            have hlv := hoX.out.lt
            have hx9 : Ext w2 w9 := Ext.grown (Hh.out.trans hx8) hg9 (fun g hg => (hlv g hg).1)
            refine ⟨i + 1, pr ++ [58] ++ hexT N, fuel, by omega, by go_num, ?_, by (first | omega | (simp; omega)), .of_blk ha (((Hb.out.ext ha hx8).blk).keep (Keep.of_grown hg9) (fun hm => ?_)), hx9, Lib.hid ?_, by omega⟩
            · rw [List.length_append, bcells_app]; first | exact ho9 | (simp only [List.length_append, List.length_cons, List.length_nil] at ho9 ⊢; exact ho9)
            · cases ho : (Value.slice vb (pr.length + 1) vd).ownBlock with
              | none => rw [ho] at hm; simp at hm
              | some g => rw [ho] at hm; simp at hm; have := (hlv g ho).1; omega
            · rw [HTX.out, HNN.out]; simp
          case measure => simp [intOf]; omega
        · rw [if_neg hcol, List.nil_append] at htx
          have HTX := Lib.hid htx; clear htx
          by_cases hi0 : (0 : Int) < i
          · have hi0d : decide ((0 : Int) < i) = true := decide_eq_true hi0
            have hiT : ((i : Int) != T) = false := by rw [bne_eq_false_iff_eq]; have := HCS.out; omega
            clear hcol hiF
            go_upto_region 22 with fail
            have hcall := group_any a ha i hlt wr
            have hgb := grp_bd ha i
            obtain ⟨N, hN⟩ : ∃ N : Nat, grp a.2 i = N := ⟨(grp a.2 i).toNat, by omega⟩
            rw [hN] at hcall hgb
            have HNN : Hid ((grp a.2 i).toNat = N) := Lib.hid (by omega)
            clear hN
            have HC3 := Lib.hid hcall
            have hNl : N < 65536 := by omega
            have hhl := hexT_len hNl
            have hoX := Lib.hid (hown)
            have hBW := Lib.hid (hx).size
            have Hh := Lib.hid hx; have Hb := Lib.hid hb
            have hhb := (hb).blk
            clear hcall hown hx hb
            go_wp2_with (first | refine wpList_load_A rfl _ rfl ha hhb rfl ?_ | (go_at_call 72; refine HC3.out.mono ?_; rintro e w8 ⟨rfl, hx8⟩) | (go_at_call 71; refine (appendHex_any N hNl w8 w2.heap.size (pr).length _ _ (ownsRow_keep hoX.out (hx8.keep []) (by simp)) (by first | omega | (simp; omega)) (Nat.le_trans hBW.out hx8.size) (ht2.ext (Hh.out.trans hx8)).tz).mono ?_; rintro e w9 ⟨v9, rfl, ho9, hg9⟩; obtain ⟨v10, v11, rfl⟩ := own_sliceX ho9))
            go_roundw
            case rel =>
              have hlv := hoX.out.lt
              have hx9 : Ext w2 w9 := Ext.grown (Hh.out.trans hx8) hg9 (fun g hg => (hlv g hg).1)
              refine ⟨i + 1, pr ++ hexT N, fuel, by omega, by go_num, ?_, by (first | omega | (simp; omega)), .of_blk ha (((Hb.out.ext ha hx8).blk).keep (Keep.of_grown hg9) (fun hm => ?_)), hx9, Lib.hid ?_, by omega⟩
              · rw [List.length_append, bcells_app]; first | exact ho9 | (simp only [List.length_append, List.length_cons, List.length_nil] at ho9 ⊢; exact ho9)
              · cases ho : (Value.slice va pr.length vc).ownBlock with
                | none => rw [ho] at hm; simp at hm
                | some g => rw [ho] at hm; simp at hm; have := (hlv g ho).1; omega
              · rw [HTX.out, HNN.out]; simp
            case measure => simp [intOf]; omega
          · have hi0d : decide ((0 : Int) < i) = false := decide_eq_false hi0
            clear hcol hiF
            go_upto_region 22 with fail
            have hcall := group_any a ha i hlt wr
            have hgb := grp_bd ha i
            obtain ⟨N, hN⟩ : ∃ N : Nat, grp a.2 i = N := ⟨(grp a.2 i).toNat, by omega⟩
            rw [hN] at hcall hgb
            have HNN : Hid ((grp a.2 i).toNat = N) := Lib.hid (by omega)
            clear hN
            have HC3 := Lib.hid hcall
            have hNl : N < 65536 := by omega
            have hhl := hexT_len hNl
            have hoX := Lib.hid (hown)
            have hBW := Lib.hid (hx).size
            have Hh := Lib.hid hx; have Hb := Lib.hid hb
            have hhb := (hb).blk
            clear hcall hown hx hb
            go_wp2_with (first | refine wpList_load_A rfl _ rfl ha hhb rfl ?_ | (go_at_call 72; refine HC3.out.mono ?_; rintro e w8 ⟨rfl, hx8⟩) | (go_at_call 71; refine (appendHex_any N hNl w8 w2.heap.size (pr).length _ _ (ownsRow_keep hoX.out (hx8.keep []) (by simp)) (by first | omega | (simp; omega)) (Nat.le_trans hBW.out hx8.size) (ht2.ext (Hh.out.trans hx8)).tz).mono ?_; rintro e w9 ⟨v9, rfl, ho9, hg9⟩; obtain ⟨v10, v11, rfl⟩ := own_sliceX ho9))
            go_roundw
            case rel =>
              have hlv := hoX.out.lt
              have hx9 : Ext w2 w9 := Ext.grown (Hh.out.trans hx8) hg9 (fun g hg => (hlv g hg).1)
              refine ⟨i + 1, pr ++ hexT N, fuel, by omega, by go_num, ?_, by (first | omega | (simp; omega)), .of_blk ha (((Hb.out.ext ha hx8).blk).keep (Keep.of_grown hg9) (fun hm => ?_)), hx9, Lib.hid ?_, by omega⟩
              · rw [List.length_append, bcells_app]; first | exact ho9 | (simp only [List.length_append, List.length_cons, List.length_nil] at ho9 ⊢; exact ho9)
              · cases ho : (Value.slice va pr.length vc).ownBlock with
                | none => rw [ho] at hm; simp at hm
                | some g => rw [ho] at hm; simp at hm; have := (hlv g ho).1; omega
              · rw [HTX.out, HNN.out]; simp
            case measure => simp [intOf]; omega
    · obtain rfl : i = 8 := by omega
      have hcv := own_str hown Tryz.underlying22 Tryz.underlying5 Tryz.underlying9
      have E : Hid (fmtA a = pr) := Lib.hid (by rw [hT.out, tail6_end (Nat.le_refl _), List.append_nil])
      have HOW := Lib.hid hown; clear hown
      go_wp2_with fail
      go_ret
      exact ⟨by rw [E.out]; rfl, hx22.trans hx⟩

theorem format_any (a : Adr) (ha : okA a) (hv : validA a = true) (w : World) (htabs : Tabs w) :
    Calls Tryz.prog 41 #[av a] w fun e w' => e = .returned (.string (txt (fmtA a))) ∧ Ext w w' := by
  cases hf : a.1 with
  | true => exact format6_any a ha hf w htabs
  | false => exact format4_any a ha hf hv w htabs
end Go.Proofs.YtpdoddelnahlnaaGreatDoor
