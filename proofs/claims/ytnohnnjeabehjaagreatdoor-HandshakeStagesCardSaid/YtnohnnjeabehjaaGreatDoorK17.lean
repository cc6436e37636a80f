/-
  Several texts joined: HoT, IpH.
-/
import Derived.DeepKeys2
import Derived.Test.YtnohnnjeabehjaaGreatDoorK08
import Derived.Test.YtnohnnjeabehjaaGreatDoorK04
import Derived.Test.YtnohnnjeabehjaaGreatDoorK07
set_option maxHeartbeats 4000000
set_option maxRecDepth 30000
set_option linter.unusedVariables false
set_option linter.unusedSimpArgs false
namespace Go.Proofs.YtnohnnjeabehjaaGreatDoor
open Go.RowKit
abbrev Tgt := ByteArray × Adr × Int
def i64ok (z : Int) : Prop := -9223372036854775808 <= z /\ z <= 9223372036854775807
def okT (t : Tgt) : Prop := okA t.2.1 /\ i64ok t.2.2 /\ t.1.size <= maxLen
def tc (t : Tgt) : Array Value := (Value.string t.1 :: ((ac t.2.1).toList ++ [Value.int .i64 t.2.2])).toArray
abbrev tv (t : Tgt) : Value := .agg (tc t)
def ztgt : Tgt := (⟨#[]⟩, zadr, 0)
theorem okT_ztgt : okT ztgt := ⟨okA_zadr, by unfold i64ok ztgt; simp only; omega, Nat.zero_le _⟩
theorem ac_len {a : Adr} (ha : okA a) : (ac a).toList.length = 17 := by rw [Array.length_toList, ac_size ha]
theorem tc_list (t : Tgt) : (tc t).toList = Value.string t.1 :: ((ac t.2.1).toList ++ [Value.int .i64 t.2.2]) := rfl
theorem tc_size {t : Tgt} (ht : okT t) : (tc t).size = 19 := by
 unfold tc; rw [List.size_toArray, List.length_cons, List.length_append, ac_len ht.1]; rfl
theorem tc_one (t : Tgt) : (tc t).all (·.oneCell') = true := by
 rw [Array.all_eq_true_iff_forall_mem]
 intro v hv
 rw [← Array.mem_toList_iff, tc_list, List.mem_cons, List.mem_append] at hv
 rcases hv with hv | hv | hv
 ·subst hv; rfl
 ·exact Array.all_eq_true_iff_forall_mem.1 (ac_one t.2.1) v (by simpa using hv)
 ·simp at hv; subst hv; rfl
theorem tc_zero : tc ztgt = #[.string ⟨#[]⟩, .bool false, .int .u8 0, .int .u8 0, .int .u8 0, .int .u8 0, .int .u8 0, .int .u8 0, .int .u8 0, .int .u8 0, .int .u8 0, .int .u8 0, .int .u8 0, .int .u8 0, .int .u8 0, .int .u8 0, .int .u8 0, .int .u8 0, .int .i64 0] := rfl
theorem info_T : (Tryz.prog.info? 43).map (·.size) = some 19 := by kernel_rfl
abbrev TBlk (w : World) (b : Nat) (t : Tgt) : Prop := Blk w b (tc t).toList 43
theorem TBlk.name {w : World} {b : Nat} {t : Tgt} (h : TBlk w b t) : w.cell? ⟨b, 0, none⟩ = some (.string t.1) := h.cell rfl
theorem TBlk.fam {w : World} {b : Nat} {t : Tgt} (h : TBlk w b t) : w.cell? ⟨b, 1, none⟩ = some (.bool t.2.1.1) := h.cell rfl
theorem TBlk.port {w : World} {b : Nat} {t : Tgt} (ht : okT t) (h : TBlk w b t) : w.cell? ⟨b, 18, none⟩ = some (.int .i64 t.2.2) := h.cell (by
 rw [tc_list, List.getElem?_cons_succ, List.getElem?_append_right (by rw [ac_len ht.1]; omega), ac_len ht.1]; rfl)
theorem TBlk.range {w : World} {b : Nat} {t : Tgt} (h : TBlk w b t) : w.rangeAt b 1 (ac t.2.1).toList := fun j v hj => by
 rw [Nat.add_comm]
 refine h.cell ?_
 rw [tc_list, List.getElem?_cons_succ, List.getElem?_append_left (List.getElem?_eq_some_iff.1 hj).1]; exact hj
theorem load_T {w : World} {b : Nat} {t : Tgt} (ht : okT t) (h : TBlk w b t) : (Instr.loadAt 43 (.pointer (some ⟨b, 0, none⟩))).run Tryz.prog w = .ok (.agg (tc t)) w := by
 have := run_loadAt_mid (P := Tryz.prog) w b 0 43 (tc t).toList _ (fun j v hj => by rw [Nat.zero_add]; exact h.cell hj) Tryz.underlying43 rfl (by rw [info_T, Array.length_toList, tc_size ht])
 simpa using this
theorem loadV_T {w : World} {b : Nat} {t : Tgt} (ht : okT t) (h : TBlk w b t) : (loadVar 43 ⟨b, 0, none⟩).run Tryz.prog w = .ok (.agg (tc t)) w := by
 have := run_loadVar_mid (P := Tryz.prog) w b 0 43 (tc t).toList _ (fun j v hj => by rw [Nat.zero_add]; exact h.cell hj) Tryz.underlying43 rfl (by rw [info_T, Array.length_toList, tc_size ht])
 simpa using this
theorem load_TA {w : World} {b : Nat} {t : Tgt} (ht : okT t) (h : TBlk w b t) : (Instr.loadAt 41 (.pointer (some ⟨b, 1, none⟩))).run Tryz.prog w = .ok (.agg (ac t.2.1)) w := by
 have := run_loadAt_mid (P := Tryz.prog) w b 1 41 (ac t.2.1).toList _ h.range Tryz.underlying41 rfl (by rw [info_A, ac_len ht.1])
 simpa using this
theorem wpList_store_T {ops : Array Oper} {rest : List Oper} {o : Oper} {f : Act} {w : World} {Q : Exit -> Act -> World -> Prop} (hgd : o.guard = none) (x y : Operand) (ho : o.op = .store 43 x y)
  {c : Nat} {t0 t : Tgt} (h0 : okT t0) (ht : okT t) (hb : TBlk w c t0) (hx : f.eval x = .pointer (some ⟨c, 0, none⟩)) (hy : f.eval y = .agg (tc t)) (h : wpList Tryz.prog ops Q rest (f.put o.dst undef) (w.setRow c (tc t))) : wpList Tryz.prog ops Q (o :: rest) f w :=
 wpList_plain hgd fun _ hK => wp_store_row 43 x y ho c (tc t) hx hy 43 (tc t0) hb (by rw [info_T, tc_size ht]) (by rw [tc_size ht, tc_size h0]) (tc_one t) (hK _ _ h)
theorem wpList_load_T {ops : Array Oper} {rest : List Oper} {o : Oper} {f : Act} {w : World} {Q : Exit -> Act -> World -> Prop} (hgd : o.guard = none) (x : Operand) (ho : o.op = .load 43 x)
  {b : Nat} {t : Tgt} (ht : okT t) (hb : TBlk w b t) (hx : f.eval x = .pointer (some ⟨b, 0, none⟩)) (h : wpList Tryz.prog ops Q rest (f.put o.dst (.agg (tc t))) w) : wpList Tryz.prog ops Q (o :: rest) f w :=
 wpList_load_mid hgd 43 x ho b 0 hx (tc t).toList _ (fun j v hj => by rw [Nat.zero_add]; exact hb.cell hj) Tryz.underlying43 rfl (by rw [info_T, Array.length_toList, tc_size ht]) h
theorem wpList_load_TA {ops : Array Oper} {rest : List Oper} {o : Oper} {f : Act} {w : World} {Q : Exit -> Act -> World -> Prop} (hgd : o.guard = none) (x : Operand) (ho : o.op = .load 41 x)
  {b : Nat} {t : Tgt} (ht : okT t) (hb : TBlk w b t) (hx : f.eval x = .pointer (some ⟨b, 1, none⟩)) (h : wpList Tryz.prog ops Q rest (f.put o.dst (.agg (ac t.2.1))) w) : wpList Tryz.prog ops Q (o :: rest) f w :=
 wpList_load_mid hgd 41 x ho b 1 hx (ac t.2.1).toList _ hb.range Tryz.underlying41 rfl (by rw [info_A, ac_len ht.1]) h
theorem res_T2 {fn : Func} {t u : Tmp} (h : fn.results = #[.cell t 43, .tmp u]) {tmps : Array Value} {c : Nat} (hq : tmps.getD t undef = .pointer (some ⟨c, 0, none⟩)) {w : World} {p : Tgt} (hp : okT p) (hb : TBlk w c p) :
  (results fn tmps).run Tryz.prog w = .ok (.tuple #[.agg (tc p), tmps.getD u undef]) w := by
 have := loadV_T hp hb
 have hq' : tmps[t]?.getD undef = .pointer (some ⟨c, 0, none⟩) := by simpa using hq
 simp [results, h, hq', this, Sem.run_bind, asAddr]
theorem res_T {fn : Func} {t : Tmp} (h : fn.results = #[.cell t 43]) {tmps : Array Value} {c : Nat} (hq : tmps.getD t undef = .pointer (some ⟨c, 0, none⟩)) {w : World} {p : Tgt} (hp : okT p) (hb : TBlk w c p) :
  (results fn tmps).run Tryz.prog w = .ok (.agg (tc p)) w := by
 have := loadV_T hp hb
 have hq' : tmps[t]?.getD undef = .pointer (some ⟨c, 0, none⟩) := by simpa using hq
 simp [results, h, hq', this, Sem.run_bind, asAddr]
theorem ac_inj {a b : Adr} (h : (ac a).toList = (ac b).toList) : a = b := by
 obtain ⟨f, l⟩ := a
 obtain ⟨g, m⟩ := b
 have h' : Value.bool f :: l.map (Value.int .u8) = Value.bool g :: m.map (Value.int .u8) := h
 injection h' with h1 h2
 have e : l = m := (List.map_inj_right (fun x y h => by cases h; rfl)).1 h2
 cases h1
 rw [e]
theorem tc_inj {p q : Tgt} (hp : okT p) (hq : okT q) (h : (tc p).toList = (tc q).toList) : p = q := by
 rw [tc_list, tc_list] at h
 injection h with h1 h2
 have h3 := List.append_inj h2 (by rw [ac_len hp.1, ac_len hq.1])
 have e1 := ac_inj h3.1
 have e2 : p.2.2 = q.2.2 := by have := h3.2; simp at this; exact this
 injection h1 with h1
 exact Prod.ext h1 (Prod.ext e1 e2)
theorem equal_of_keys {t : TypeId} {k m : Nat} (hk : Tryz.prog.keyTypeAt k t = true) (hm : Tryz.prog.tiled m t = true) {cx cy : Array Value} {D : Nat} (hfx : (Value.agg cx).formed Tryz.prog t = true) (hfy : (Value.agg cy).formed Tryz.prog t = true)
  (hx : (Tryz.prog.keyLits D t cx.toList).isSome = true) (hy : (Tryz.prog.keyLits D t cy.toList).isSome = true) (d : Nat) (W : World) : ∃ r : Bool, (Op.equalIn (d + k) t (.agg cx) (.agg cy)).run Tryz.prog W = .ok r W /\ (r = true ↔ cx.toList = cy.toList) := by
 obtain ⟨lx, hlx⟩ := Option.isSome_iff_exists.1 hx
 obtain ⟨ly, hly⟩ := Option.isSome_iff_exists.1 hy
 obtain ⟨r, hr, hi⟩ := run_equalIn_deep (P := Tryz.prog) d k t hk W D D (.agg cx) (.agg cy) lx ly hfx hfy hlx hly
 refine ⟨r, hr, fun h => ?_, fun h => hi.2 ?_⟩
 ·rw [cells_of_lits m t hm D _ lx hlx, cells_of_lits m t hm D _ ly hly, hi.1 h]
 ·rw [h, hly] at hlx
  exact (Option.some.inj hlx).symm
theorem bool_of {r : Bool} {p : Prop} [Decidable p] (h : r = true ↔ p) : r = decide p := by
 by_cases hp : p
 ·rw [decide_eq_true hp]; exact h.2 hp
 ·rw [decide_eq_false hp]
  cases r with
  | false => rfl
  | true => exact absurd (h.1 rfl) hp
theorem tiled24 : Tryz.prog.tiled 3 41 = true := by kernel_rfl
theorem equal_Ad {a b : Adr} (ha : okA a) (hb : okA b) (W : World) : (Op.equal 41 (.agg (ac a)) (.agg (ac b))).run Tryz.prog W = .ok (decide (a = b)) W := by
 obtain ⟨r, hr, hi⟩ := equal_of_keys (t := 41) (k := 3) (m := 3) key24 tiled24 (formed_A ha) (formed_A hb) (D := 4) (keyLits_A ha) (keyLits_A hb) 9997 W
 rw [bool_of (p := a = b) (hi.trans ⟨ac_inj, fun h => by rw [h]⟩)] at hr
 exact hr
theorem keyLits_i64 (d : Nat) {z : Int} (h : i64ok z) : Tryz.prog.keyLits (d + 1) 3 [.int .i64 z] = some [.int .i64 z] := by
 have hw : (Lit.int .i64 z).wf = true := by
  unfold i64ok at h
  simp only [Lit.wf, Bool.and_eq_true, decide_eq_true_eq, IntKind.min, IntKind.max, IntKind.bits, IntKind.signed]
  simp
  omega
 simp only [Program.keyLits, Tryz.underlying3, hw, and_self, if_true]
theorem keyLits_str (d : Nat) {s : ByteArray} (h : s.size <= maxLen) : Tryz.prog.keyLits (d + 1) 9 [.string s] = some [.string s.data.toList] := by
 simp only [Program.keyLits, Tryz.underlying9, h, if_true]
theorem cells_T : Tryz.prog.cellsOf 43 = 19 := by kernel_rfl
theorem cells_int : Tryz.prog.cellsOf 3 = 1 := by kernel_rfl
theorem cells_str : Tryz.prog.cellsOf 9 = 1 := by kernel_rfl
theorem keyLits_T {p : Tgt} (hp : okT p) : (Tryz.prog.keyLits 5 43 (tc p).toList).isSome = true := by
 unfold Program.keyLits
 have hl : (tc p).toList.length = 19 := by rw [Array.length_toList]; exact tc_size hp
 simp only [Tryz.underlying43]
 rw [if_pos ⟨by rw [hl, cells_T], by kernel_rfl⟩, Option.isSome_map]
 refine mapM_isSome fun f hf => ?_
 simp only [List.mem_cons, List.not_mem_nil, or_false, List.toList_toArray] at hf
 rcases hf with rfl | rfl | rfl
 ·show (Tryz.prog.keyLits 4 9 (((tc p).toList.drop 0).take (Tryz.prog.cellsOf 9))).isSome = true
  rw [cells_str, tc_list, List.drop_zero, List.take_succ_cons, List.take_zero, keyLits_str 3 hp.2.2]; rfl
 ·show (Tryz.prog.keyLits 4 41 (((tc p).toList.drop 1).take (Tryz.prog.cellsOf 41))).isSome = true
  rw [cells_A, tc_list, List.drop_succ_cons, List.drop_zero, List.take_left' (ac_len hp.1)]
  exact keyLits_A hp.1
 ·show (Tryz.prog.keyLits 4 3 (((tc p).toList.drop 18).take (Tryz.prog.cellsOf 3))).isSome = true
  rw [cells_int, tc_list, List.drop_succ_cons, List.drop_left' (ac_len hp.1)]
  show (Tryz.prog.keyLits 4 3 [.int .i64 p.2.2]).isSome = true
  rw [keyLits_i64 3 hp.2.1]; rfl
theorem key26 : Tryz.prog.keyTypeAt 4 43 = true := by kernel_rfl
theorem formed_T {p : Tgt} (hp : okT p) : (tv p).formed Tryz.prog 43 = true := by
 simp only [Value.formed, Tryz.underlying43, cells_T, tc_size hp, beq_self_eq_true]
theorem tiled26 : Tryz.prog.tiled 4 43 = true := by kernel_rfl
theorem equal_Td {p q : Tgt} (hp : okT p) (hq : okT q) (W : World) : (Op.equal 43 (.agg (tc p)) (.agg (tc q))).run Tryz.prog W = .ok (decide (p = q)) W := by
 obtain ⟨r, hr, hi⟩ := equal_of_keys (t := 43) (k := 4) (m := 4) key26 tiled26 (formed_T hp) (formed_T hq) (D := 5) (keyLits_T hp) (keyLits_T hq) 9996 W
 rw [bool_of (p := p = q) (hi.trans ⟨tc_inj hp hq, fun h => by rw [h]⟩)] at hr
 exact hr
theorem noGuard_T : Tryz.prog.eqGuardType Tryz.prog.depth 43 = false := by kernel_rfl
theorem exec_eqAd {o : Oper} {f : Act} (x y : Operand) {t : TypeId} (ho : o.op = .binOp .eql 41 x y t) {a b : Adr} (ha : okA a) (hb : okA b) (hx : f.eval x = .agg (ac a)) (hy : f.eval y = .agg (ac b)) (w : World) :
  (execOp f.eval o).run Tryz.prog w = .ok (.value (.bool (decide (a = b)))) w := by
 unfold execOp
 rw [ho]
 have e := equal_Ad ha hb w
 have e1 : (eqGuard .eql 41 x y (.agg (ac a)) (.agg (ac b))).run Tryz.prog w = .ok () w := by
  simp [eqGuard, noGuard_A, Sem.run_bind]
 have e2 : (binOp .eql 41 (.agg (ac a)) (.agg (ac b))).run Tryz.prog w = .ok (.bool (decide (a = b))) w := by
  simp only [binOp, Sem.run_bind, e, Result.andThen_ok, Sem.run_pure]
 simp only [hx, hy, Sem.run_bind, e1, e2, Result.andThen_ok, Sem.run_pure]
theorem exec_eqTd {o : Oper} {f : Act} (x y : Operand) {t : TypeId} (ho : o.op = .binOp .eql 43 x y t) {p q : Tgt} (hp : okT p) (hq : okT q) (hx : f.eval x = .agg (tc p)) (hy : f.eval y = .agg (tc q)) (w : World) :
  (execOp f.eval o).run Tryz.prog w = .ok (.value (.bool (decide (p = q)))) w := by
 unfold execOp
 rw [ho]
 have e := equal_Td hp hq w
 have e1 : (eqGuard .eql 43 x y (.agg (tc p)) (.agg (tc q))).run Tryz.prog w = .ok () w := by
  simp [eqGuard, noGuard_T, Sem.run_bind]
 have e2 : (binOp .eql 43 (.agg (tc p)) (.agg (tc q))).run Tryz.prog w = .ok (.bool (decide (p = q))) w := by
  simp only [binOp, Sem.run_bind, e, Result.andThen_ok, Sem.run_pure]
 simp only [hx, hy, Sem.run_bind, e1, e2, Result.andThen_ok, Sem.run_pure]
section
variable {ops : Array Oper} {Q : Exit -> Act -> World -> Prop} {md : Region.Mode} {w0 : World} {o : Oper} {rest : List Oper} {i : Nat} {plan : List Yld} {A : (Nat -> Value) -> Act}
theorem goV_loadT (hw : ∀ u, Region.wanted o (yielded ops (A u).tmps) = true) (x : Operand) (ho : o.op = .load 43 x)
  {b : Nat} {p : Tgt} (hp : okT p) (hb : ∀ w, Ext w0 w -> TBlk w b p) (hx : ∀ u, (A u).eval x = .pointer (some ⟨b, 0, none⟩))
  (k : goV Tryz.prog ops Q md w0 rest (i + 1) (plan ++ [.val (.agg (tc p))]) (fun u => (A u).put o.dst (.agg (tc p)))) : goV Tryz.prog ops Q md w0 (o :: rest) i plan A :=
 goV_val _ hw (fun u w hx' _ => by
  have e := load_T hp (hb w hx')
  unfold execOp
  rw [ho]
  simp only [hx, Sem.run_bind, e, Result.andThen_ok, Sem.run_pure]) k
theorem goV_loadTA (hw : ∀ u, Region.wanted o (yielded ops (A u).tmps) = true) (x : Operand) (ho : o.op = .load 41 x)
  {b : Nat} {p : Tgt} (hp : okT p) (hb : ∀ w, Ext w0 w -> TBlk w b p) (hx : ∀ u, (A u).eval x = .pointer (some ⟨b, 1, none⟩))
  (k : goV Tryz.prog ops Q md w0 rest (i + 1) (plan ++ [.val (.agg (ac p.2.1))]) (fun u => (A u).put o.dst (.agg (ac p.2.1)))) : goV Tryz.prog ops Q md w0 (o :: rest) i plan A :=
 goV_val _ hw (fun u w hx' _ => by
  have e := load_TA hp (hb w hx')
  unfold execOp
  rw [ho]
  simp only [hx, Sem.run_bind, e, Result.andThen_ok, Sem.run_pure]) k
theorem goV_eqAd (hw : ∀ u, Region.wanted o (yielded ops (A u).tmps) = true) (x y : Operand) {t : TypeId} (ho : o.op = .binOp .eql 41 x y t)
  {a b : Adr} (ha : okA a) (hb : okA b) {r : Bool} (h : decide (a = b) = r) (hx : ∀ u, (A u).eval x = .agg (ac a)) (hy : ∀ u, (A u).eval y = .agg (ac b))
  (k : goV Tryz.prog ops Q md w0 rest (i + 1) (plan ++ [.val (.bool r)]) (fun u => (A u).put o.dst (.bool r))) : goV Tryz.prog ops Q md w0 (o :: rest) i plan A :=
 goV_val _ hw (fun u w _ _ => by rw [← h]; exact exec_eqAd x y ho ha hb (hx u) (hy u) w) k
theorem goV_eqTd (hw : ∀ u, Region.wanted o (yielded ops (A u).tmps) = true) (x y : Operand) {t : TypeId} (ho : o.op = .binOp .eql 43 x y t)
  {p q : Tgt} (hp : okT p) (hq : okT q) {r : Bool} (h : decide (p = q) = r) (hx : ∀ u, (A u).eval x = .agg (tc p)) (hy : ∀ u, (A u).eval y = .agg (tc q))
  (k : goV Tryz.prog ops Q md w0 rest (i + 1) (plan ++ [.val (.bool r)]) (fun u => (A u).put o.dst (.bool r))) : goV Tryz.prog ops Q md w0 (o :: rest) i plan A :=
 goV_val _ hw (fun u w _ _ => by rw [← h]; exact exec_eqTd x y ho hp hq (hx u) (hy u) w) k
end
open Go.RowKit Go.Joins
theorem parse4_some {s : ByteArray} {b : List Int} (h : parse4 s = some b) : b.length = 4 /\ ∀ x ∈ b, 0 <= x /\ x < 256 := by
 rw [parse4_eq] at h
 split at h
 ·rename_i h1
  cases h
  refine ⟨by simp [h1.1], fun x hx => ?_⟩
  obtain ⟨y, hy, rfl⟩ := List.mem_map.1 hx
  have := h1.2
  unfold okDec at this; rw [List.all_eq_true] at this
  have h2 := this y hy
  have h3 := dec_bd y
  simp at h2; omega
 ·cases h
theorem okA_p4A (s : ByteArray) : okA (p4A s).1 := by
 unfold p4A
 cases h : parse4 s with
 | none => exact okA_zadr
 | some b =>
  have := parse4_some h
  show okA (v4 _ _ _ _)
  rw [v4_getD this.1]
  refine ⟨by simp [this.1], fun x hx => ?_⟩
  rcases List.mem_append.1 hx with hx | hx
  ·exact this.2 x hx
  ·simp at hx; omega
theorem p4A_snd (s : ByteArray) : (p4A s).2 = (parse4 s).isSome := by unfold p4A; cases parse4 s <;> rfl
theorem rparseG_any (s : ByteArray) (last : Bool) (w : World) (hs : s.size < 4294967281) :
  Calls Tryz.prog 222 #[.string s, .bool last] w fun e w' => ∃ v : Value, e = .returned (.tuple #[v, .bool (parseG s last).isSome]) /\ (∀ l, parseG s last = some l -> w'.ownsRow w.heap.size 239 1 v l.length (l.map (Value.int .u16))) /\ Ext w w' := by
 obtain ⟨i0, hi, hz0, hz1, hz2⟩ := info_parts infoU
 have HI := Lib.hid hi; have HZ0 := Lib.hid hz0; have HZ1 := Lib.hid hz1; have HZ2 := Lib.hid hz2
 clear hi hz0 hz1 hz2
 go_enter Tryz.func222, Tryz.ntmps222
 by_cases hz : (s.size : Int) < 1
 ·have e : parseG s last = some [] := by unfold parseG; rw [if_pos (by omega)]
  rw [e]; go_wp2; go_ret2
  exact ⟨_, rfl, fun l h => by cases h; exact World.ownsRow_nil _ _ _ _, Ext.refl _⟩
 have hpz : ∀ x ∈ parts 58 s, x.size <= s.size := fun x hx => parts_size hx
 have hsplit := fun w => rsplit_any s 58 w hs
 have hpe : parseG s last = groups last (parts 58 s) := by unfold parseG; rw [if_neg (by omega)]
 have hpn := @parts_le 58 s
 generalize parts 58 s = ps at *
 rw [hpe]
 have HS := Lib.hid hsplit; have HPZ := Lib.hid hpz
 clear hpe hsplit hpz
 go_wp2_with (go_at_call 80; refine (HS.out _).mono ?_; rintro e w3 ⟨b, cap, rfl, hbl, hsc, hcap, hx3⟩; refine Hid.out ?_)
 refine Lib.hid ?_
 have hbw0 := Lib.hid hsc.1
 have hpn2 : (ps.length : Int) < 8589934592 := by omega
 go_wp2_with fail
 go_loopw [4, 5, 6, 8, 9, 10, 11] (fun _ _ v c _ _ _ wr => ∃ (k : Nat) (out : List Int), k <= ps.length /\ c = .int .i64 k /\ out.length <= 2 * k /\ wr.ownsRow w3.heap.size 239 1 v out.length (out.map (Value.int .u16)) /\ StrCells wr b ps /\ Ext w wr /\ Ext w3 wr /\ Hid (groups last ps = (groups last (ps.drop k)).map (out ++ ·)))
  (fun _ _ _ c _ _ _ _ => ps.length - (intOf c).toNat)
 case atStart => exact ⟨0, [], Nat.zero_le _, rfl, Nat.le_refl _, World.ownsRow_nil _ _ _ _, hsc, hx3, Ext.refl _, Lib.hid (by rw [List.drop_zero]; cases groups last ps <;> rfl)⟩
 case round =>
  obtain ⟨k, out, hk, rfl, hol, hown, hsc, hx, hy, hG⟩ := hrel
  by_cases hlt : k < ps.length
  ·have hlt' : (k : Int) < ps.length := by omega
   obtain ⟨x, hxk⟩ : ∃ x, ps[k]? = some x := ⟨ps[k], List.getElem?_eq_getElem _⟩
   have hcell := hsc.2 k x hxk
   have HX := Lib.hid hxk; clear hxk
   have hxz := HPZ.out x (List.mem_of_getElem? HX.out)
   have hcall := rparse4_any x wr (by omega)
   rw [p4A_snd] at hcall
   have HC := Lib.hid hcall; clear hcall
   have hA := okA_p4A x
   have Ho := Lib.hid hown; clear hown
   go_wp2_with (first | (go_at_call 204; refine HC.out.mono ?_; rintro e w4 ⟨rfl, hx4⟩; refine Hid.out ?_))
   refine Lib.hid ?_
   generalize hob : (parse4 x).isSome = ob at *
   have HOB := Lib.hid hob; clear hob
   have hown4 : w4.ownsRow w3.heap.size 239 1 _ out.length (out.map (Value.int .u16)) := ownsRow_keep Ho.out (hx4.keep []) (by simp)
   have hsc4 := hsc.ext hx4
   have hx44 := hx.trans hx4
   have hy44 := hy.trans hx4
   clear hsc hx hy Ho
   have hb5 := Blk.new w4 (ac zadr) 41
   go_upto_region 9 with (refine wpList_store_A rfl _ _ rfl okA_zadr hA hb5 rfl rfl ?_)
   change Code.wp _ _ _ _ ((w4.alloc (.cells (ac zadr) 41)).setRow w4.heap.size (ac (p4A x).1))
   rw [World.setRow_alloc_new]
   have hb6 := Blk.new w4 (ac (p4A x).1) 41
   have hx6 := hx44.alloc (.cells (ac (p4A x).1) 41)
   have hy6 := hy44.alloc (.cells (ac (p4A x).1) 41)
   have hsc6 := hsc4.ext ((Ext.refl w4).alloc (.cells (ac (p4A x).1) 41))
   have hown6 := hown4.alloc (.cells (ac (p4A x).1) 41)
   clear hb5 hsc4 hx44 hy44 hown4 hx4
   generalize w4.alloc (.cells (ac (p4A x).1) 41) = w6 at *
   generalize w4.heap.size = n6 at *
   have hsz6 := hy6.size
   have hbw : b < w3.heap.size := hbw0.out
   have hww : w.heap.size <= w3.heap.size := hx3.size
   have hl6 : (out.length : Int) <= 17179869184 := by omega
   by_cases hsp : ob = true /\ last = true /\ k + 1 = ps.length
   ·obtain ⟨h1, h2, h3⟩ := hsp
    subst h1 h2
    have hk1 : ((k : Int) == (ps.length : Int) - 1) = true := by rw [beq_iff_eq]; omega
    obtain ⟨l4, hb⟩ : ∃ l4, parse4 x = some l4 := Option.isSome_iff_exists.1 HOB.out
    have hg : groups true ps = some (out ++ [l4.getD 0 0 * 256 + l4.getD 1 0, l4.getD 2 0 * 256 + l4.getD 3 0]) := by
     rw [hG.out, groups_special HX.out h3 hb]; rfl
    have HG := Lib.hid hg; clear hg
    obtain ⟨hl4, hl4b⟩ := parse4_some hb
    obtain ⟨y0, y1, y2, y3, rfl⟩ : ∃ y0 y1 y2 y3, l4 = [y0, y1, y2, y3] := by
     match l4, hl4 with
     | [a, b, c, d], _ => exact ⟨a, b, c, d, rfl⟩
    have hq : (p4A x).1 = v4 y0 y1 y2 y3 := by unfold p4A; rw [hb]; rfl
    rw [hq] at hb6
    clear hb hq
    have b0 := hl4b y0 (by simp)
    have b1 := hl4b y1 (by simp)
    have b2 := hl4b y2 (by simp)
    have b3 := hl4b y3 (by simp)
    have d0 : w6.cell? ⟨n6, 1, none⟩ = some (.int .u8 y0) := hb6.cell rfl
    have d1 : w6.cell? ⟨n6, 2, none⟩ = some (.int .u8 y1) := hb6.cell rfl
    have d2 : w6.cell? ⟨n6, 3, none⟩ = some (.int .u8 y2) := hb6.cell rfl
    have d3 : w6.cell? ⟨n6, 4, none⟩ = some (.int .u8 y3) := hb6.cell rfl
    have o1 := or_u16 b0.1 b0.2 b1.1 b1.2
    have o2 := or_u16 b2.1 b2.2 b3.1 b3.2
    simp only [List.getD_cons_zero, List.getD_cons_succ] at HG
    go_wp2_with (at_builtin; refine wpList_append_own _ rfl _ _ 233 rfl w3.heap.size 239 i0 (.int .u16 0) 1 2 Tryz.underlying233 HI.out HZ0.out HZ1.out HZ2.out rfl (by decide) _ _ _ rfl (hown6.alloc _) ⟨w6.heap.size, 0, none⟩ 2 2 [.int .u16 (y0 * 256 + y1), .int .u16 (y2 * 256 + y3)] rfl rfl ?c1 ?c2 ?c3 ?c4 ?c5 ?_)
    first
     | (case c1 =>
       intro j u hj
       have B1 := Blk.new w6 #[Value.int IntKind.u16 (y0 * 256 + y1), Value.int IntKind.u16 (y2 * 256 + y3)] 239
       have e1 : (⟨w6.heap.size, 0, none⟩ : Addr).add j = ⟨w6.heap.size, j, none⟩ := by unfold Addr.add; split <;> simp_all
       rw [e1]
       exact B1.cell hj)
     | skip
    case c2 => simp [Value.oneCell']
    case c3 => unfold maxLen; omega
    case c4 => omega
    case c5 => first | omega | (rw [World.size_alloc]; omega) | (simp; omega)
    intro v' w7 hown' hgrow _
    have Ho' := Lib.hid hown'; clear hown'
    have Hg := Lib.hid hgrow; clear hgrow
    have hlt2 := hown6.lt
    have Hl := Lib.hid hlt2; clear hlt2
    have Ho := Lib.hid hown6; clear hown6
    go_wp2_with fail
    go_roundw
    case rel =>
     refine ⟨k + 1, out ++ [y0 * 256 + y1, y2 * 256 + y3], by omega, by go_num, by simp; omega, ?_, ?_, ?_, ?_, Lib.hid ?_⟩
     ·rw [List.length_append, List.map_append]; exact Ho'.out
     ·exact hsc6.grown (fun g hg e => by have := (Hl.out g hg).1; omega) Hg.out
     ·exact Ext.grown (hx6.alloc _) Hg.out (fun g hg => by have := (Hl.out g hg).1; omega)
     ·exact Ext.grown (hy6.alloc _) Hg.out (fun g hg => (Hl.out g hg).1)
     ·rw [HG.out, h3, List.drop_length, groups]; simp
    case measure => simp [intOf]; omega
   ·have hgx := groups_hex (last := last) HX.out (by rw [HOB.out]; exact hsp)
    have HGX := Lib.hid hgx; clear hgx
    have hsz := hxz
    have hcases : ob = false ∨ (ob = true /\ last = false) ∨ (ob = true /\ last = true /\ ((k : Int) == (ps.length : Int) - 1) = false) := by
     cases ob
     ·exact .inl rfl
     ·cases last
      ·exact .inr (.inl ⟨rfl, rfl⟩)
      ·exact .inr (.inr ⟨rfl, rfl, by rw [beq_eq_false_iff_ne]; intro h; exact hsp ⟨rfl, rfl, by omega⟩⟩)
    clear hsp
    have hcellx := hsc6.2 k x HX.out
    have hcl := hexg_any x w6 (by unfold maxLen; omega)
    have hgb := hexg_bd x
    by_cases hbad : hexg x < 0
    ·have hg : groups last ps = none := by rw [hG.out, HGX.out, if_pos hbad]; rfl
     have HG := Lib.hid hg; clear hg HGX
     generalize hexg x = g at *
     have HCL := Lib.hid hcl; clear hcl
     rcases hcases with rfl | ⟨rfl, rfl⟩ | ⟨rfl, rfl, hk1⟩
     all_goals go_wp2_with (first | (go_at_call 226; refine HCL.out.mono ?_; rintro e w8 ⟨rfl, rfl⟩))
     all_goals go_ret2
     all_goals (refine ⟨_, (by rw [HG.out]; rfl), ?_, hx6⟩; intro l h; rw [HG.out] at h; cases h)
    ·have hgr := HGX.out
     rw [if_neg hbad] at hgr
     have HGR := Lib.hid hgr; clear hgr HGX
     generalize hexg x = g at *
     have HCL := Lib.hid hcl; clear hcl
     have HE16 : Hid (IntKind.u16.wrap g = g) := Lib.hid (by rw [IntKind.wrap_u16]; omega)
     have Hown6 := Lib.hid hown6; clear hown6
     have hgb0 : 0 <= g := by omega
     have hgd : decide (g < 0) = false := decide_eq_false (by omega)
     have hgb1 : g < 65536 := hgb.2
     clear hgb hbad
     rcases hcases with rfl | ⟨rfl, rfl⟩ | ⟨rfl, rfl, hk1⟩
     all_goals go_upto_region 14 with (first | (go_at_call 226; refine HCL.out.mono ?_; rintro e w8 ⟨rfl, rfl⟩))
     all_goals (
      have e16 := HE16.out
      have hown9 := Hown6.out
      clear Hown6
      go_wp2_with (at_builtin; refine wpList_append_own _ rfl _ _ 233 rfl w3.heap.size 239 i0 (.int .u16 0) 1 2 Tryz.underlying233 HI.out HZ0.out HZ1.out HZ2.out rfl (by decide) _ _ _ rfl (hown9.alloc _) ⟨w6.heap.size, 0, none⟩ 1 1 [.int .u16 g] rfl rfl ?c1 ?c2 ?c3 ?c4 ?c5 ?_)
      first
       | (case c1 =>
         intro j u hj
         have B1 := Blk.new w6 #[Value.int IntKind.u16 g] 239
         have e1 : (⟨w6.heap.size, 0, none⟩ : Addr).add j = ⟨w6.heap.size, j, none⟩ := by unfold Addr.add; split <;> simp_all
         rw [e1]
         exact B1.cell hj)
       | skip
      case c2 => simp [Value.oneCell']
      case c3 => unfold maxLen; omega
      case c4 => omega
      case c5 => first | omega | (rw [World.size_alloc]; omega) | (simp; omega)
      intro v' w7 hown' hgrow _
      have Ho' := Lib.hid hown'; clear hown'
      have Hg := Lib.hid hgrow; clear hgrow
      have hlt2 := hown9.lt
      have Hl := Lib.hid hlt2; clear hlt2
      have Ho := Lib.hid hown9; clear hown9
      go_wp2_with fail
      go_roundw
      case rel =>
       refine ⟨k + 1, out ++ [g], by omega, by go_num, by simp; omega, ?_, ?_, ?_, ?_, Lib.hid ?_⟩
       ·rw [List.length_append, List.map_append]; exact Ho'.out
       ·exact hsc6.grown (fun g hg e => by have := (Hl.out g hg).1; omega) Hg.out
       ·exact Ext.grown (hx6.alloc _) Hg.out (fun g hg => by have := (Hl.out g hg).1; omega)
       ·exact Ext.grown (hy6.alloc _) Hg.out (fun g hg => (Hl.out g hg).1)
       ·rw [hG.out, HGR.out, Option.map_map]
        congr 1
        funext l
        simp
      case measure => simp [intOf]; omega)
  ·obtain rfl : k = ps.length := by omega
   have hlt' : ¬ ((ps.length : Nat) : Int) < ps.length := by omega
   have e : groups last ps = some out := by rw [hG.out, List.drop_length, groups]; simp
   have E := Lib.hid e; clear e
   have Ho := Lib.hid hown; clear hown
   go_wp2_with fail
   go_ret2
   exact ⟨_, by rw [E.out]; rfl, fun l h => by rw [E.out] at h; cases h; exact ownsRow_le Ho.out hx3.size, hx⟩
end Go.Proofs.YtnohnnjeabehjaaGreatDoor
