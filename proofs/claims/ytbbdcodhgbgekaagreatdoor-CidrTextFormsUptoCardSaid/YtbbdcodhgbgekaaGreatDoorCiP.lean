/-
  Prefixes as values: loads, stores, '=='.
-/
import Derived.Test.YtbbdcodhgbgekaaGreatDoorRgA
import Derived.Test.YtbbdcodhgbgekaaGreatDoorRgs
import Derived.Test.YtbbdcodhgbgekaaGreatDoorIpVb
import Derived.DeepKeys2
set_option linter.unusedSimpArgs false
set_option linter.unusedVariables false
namespace Go.Proofs.YtbbdcodhgbgekaaGreatDoor
open Go.RowKit

abbrev Pfx := Adr × Int
def i64ok (z : Int) : Prop := -9223372036854775808 ≤ z ∧ z ≤ 9223372036854775807
def okP (p : Pfx) : Prop := okA p.1 ∧ i64ok p.2
def pc (p : Pfx) : Array Value := ((ac p.1).toList ++ [Value.int .i64 p.2]).toArray
abbrev pv (p : Pfx) : Value := .agg (pc p)
def zpfx : Pfx := (zadr, 0)
theorem okP_zpfx : okP zpfx := ⟨okA_zadr, by unfold i64ok zpfx; omega⟩
theorem ac_len {a : Adr} (ha : okA a) : (ac a).toList.length = 17 := by rw [Array.length_toList, ac_size ha]
theorem pc_size {p : Pfx} (hp : okP p) : (pc p).size = 18 := by
  unfold pc; rw [List.size_toArray, List.length_append, ac_len hp.1]; rfl
theorem pc_list (p : Pfx) : (pc p).toList = (ac p.1).toList ++ [Value.int .i64 p.2] := rfl
theorem pc_one (p : Pfx) : (pc p).all (·.oneCell') = true := by
  rw [Array.all_eq_true_iff_forall_mem]
  intro v hv
  rw [← Array.mem_toList_iff, pc_list, List.mem_append] at hv
  rcases hv with hv | hv
  · exact Array.all_eq_true_iff_forall_mem.1 (ac_one p.1) v (by simpa using hv)
  · simp at hv; subst hv; rfl
theorem pc_zero : pc zpfx = #[.bool false, .int .u8 0, .int .u8 0, .int .u8 0, .int .u8 0, .int .u8 0, .int .u8 0, .int .u8 0, .int .u8 0, .int .u8 0, .int .u8 0, .int .u8 0, .int .u8 0, .int .u8 0, .int .u8 0, .int .u8 0, .int .u8 0, .int .i64 0] := rfl
theorem info_P : (Tryz.prog.info? 26).map (·.size) = some 18 := by kernel_rfl
/-- block b holds the prefix p -/
abbrev PBlk (w : World) (b : Nat) (p : Pfx) : Prop := Blk w b (pc p).toList 26
theorem PBlk.fam {w : World} {b : Nat} {p : Pfx} (h : PBlk w b p) : w.cell? ⟨b, 0, none⟩ = some (.bool p.1.1) := h.cell rfl
theorem PBlk.bits {w : World} {b : Nat} {p : Pfx} (hp : okP p) (h : PBlk w b p) : w.cell? ⟨b, 17, none⟩ = some (.int .i64 p.2) := h.cell (by
  rw [pc_list, List.getElem?_append_right (by rw [ac_len hp.1]; omega), ac_len hp.1]; rfl)
theorem PBlk.range {w : World} {b : Nat} {p : Pfx} (h : PBlk w b p) : w.rangeAt b 0 (ac p.1).toList := fun j v hj => by
  rw [Nat.zero_add]
  refine h.cell ?_
  rw [pc_list, List.getElem?_append_left (List.getElem?_eq_some_iff.1 hj).1]; exact hj
theorem load_P {w : World} {b : Nat} {p : Pfx} (hp : okP p) (h : PBlk w b p) : (Instr.loadAt 26 (.pointer (some ⟨b, 0, none⟩))).run Tryz.prog w = .ok (.agg (pc p)) w := by
  have := run_loadAt_mid (P := Tryz.prog) w b 0 26 (pc p).toList _ (fun j v hj => by rw [Nat.zero_add]; exact h.cell hj) Tryz.underlying26 rfl (by rw [info_P, Array.length_toList, pc_size hp])
  simpa using this
theorem loadV_P {w : World} {b : Nat} {p : Pfx} (hp : okP p) (h : PBlk w b p) : (loadVar 26 ⟨b, 0, none⟩).run Tryz.prog w = .ok (.agg (pc p)) w := by
  have := run_loadVar_mid (P := Tryz.prog) w b 0 26 (pc p).toList _ (fun j v hj => by rw [Nat.zero_add]; exact h.cell hj) Tryz.underlying26 rfl (by rw [info_P, Array.length_toList, pc_size hp])
  simpa using this
theorem load_PA {w : World} {b : Nat} {p : Pfx} (hp : okP p) (h : PBlk w b p) : (Instr.loadAt 24 (.pointer (some ⟨b, 0, none⟩))).run Tryz.prog w = .ok (.agg (ac p.1)) w := by
  have := run_loadAt_mid (P := Tryz.prog) w b 0 24 (ac p.1).toList _ h.range Tryz.underlying24 rfl (by rw [info_A, ac_len hp.1])
  simpa using this
theorem wpList_store_P {ops : Array Oper} {rest : List Oper} {o : Oper} {f : Act} {w : World} {Q : Exit → Act → World → Prop} (hgd : o.guard = none) (x y : Operand) (ho : o.op = .store 26 x y)
    {c : Nat} {p0 p : Pfx} (h0 : okP p0) (hp : okP p) (hb : PBlk w c p0) (hx : f.eval x = .pointer (some ⟨c, 0, none⟩)) (hy : f.eval y = .agg (pc p)) (h : wpList Tryz.prog ops Q rest (f.put o.dst undef) (w.setRow c (pc p))) : wpList Tryz.prog ops Q (o :: rest) f w :=
  wpList_plain hgd fun _ hK => wp_store_row 26 x y ho c (pc p) hx hy 26 (pc p0) hb (by rw [info_P, pc_size hp]) (by rw [pc_size hp, pc_size h0]) (pc_one p) (hK _ _ h)
theorem wpList_load_P {ops : Array Oper} {rest : List Oper} {o : Oper} {f : Act} {w : World} {Q : Exit → Act → World → Prop} (hgd : o.guard = none) (x : Operand) (ho : o.op = .load 26 x)
    {b : Nat} {p : Pfx} (hp : okP p) (hb : PBlk w b p) (hx : f.eval x = .pointer (some ⟨b, 0, none⟩)) (h : wpList Tryz.prog ops Q rest (f.put o.dst (.agg (pc p))) w) : wpList Tryz.prog ops Q (o :: rest) f w :=
  wpList_load_mid hgd 26 x ho b 0 hx (pc p).toList _ (fun j v hj => by rw [Nat.zero_add]; exact hb.cell hj) Tryz.underlying26 rfl (by rw [info_P, Array.length_toList, pc_size hp]) h
theorem wpList_load_PA {ops : Array Oper} {rest : List Oper} {o : Oper} {f : Act} {w : World} {Q : Exit → Act → World → Prop} (hgd : o.guard = none) (x : Operand) (ho : o.op = .load 24 x)
    {b : Nat} {p : Pfx} (hp : okP p) (hb : PBlk w b p) (hx : f.eval x = .pointer (some ⟨b, 0, none⟩)) (h : wpList Tryz.prog ops Q rest (f.put o.dst (.agg (ac p.1))) w) : wpList Tryz.prog ops Q (o :: rest) f w :=
  wpList_load_mid hgd 24 x ho b 0 hx (ac p.1).toList _ hb.range Tryz.underlying24 rfl (by rw [info_A, ac_len hp.1]) h
theorem res_P2 {fn : Func} {t u : Tmp} (h : fn.results = #[.cell t 26, .tmp u]) {tmps : Array Value} {c : Nat} (hq : tmps.getD t undef = .pointer (some ⟨c, 0, none⟩)) {w : World} {p : Pfx} (hp : okP p) (hb : PBlk w c p) :
    (results fn tmps).run Tryz.prog w = .ok (.tuple #[.agg (pc p), tmps.getD u undef]) w := by
  have := loadV_P hp hb
  have hq' : tmps[t]?.getD undef = .pointer (some ⟨c, 0, none⟩) := by simpa using hq
  simp [results, h, hq', this, Sem.run_bind, asAddr]
theorem res_P {fn : Func} {t : Tmp} (h : fn.results = #[.cell t 26]) {tmps : Array Value} {c : Nat} (hq : tmps.getD t undef = .pointer (some ⟨c, 0, none⟩)) {w : World} {p : Pfx} (hp : okP p) (hb : PBlk w c p) :
    (results fn tmps).run Tryz.prog w = .ok (.agg (pc p)) w := by
  have := loadV_P hp hb
  have hq' : tmps[t]?.getD undef = .pointer (some ⟨c, 0, none⟩) := by simpa using hq
  simp [results, h, hq', this, Sem.run_bind, asAddr]
/-! '==' -/
theorem ac_inj {a b : Adr} (h : (ac a).toList = (ac b).toList) : a = b := by
  obtain ⟨f, l⟩ := a
  obtain ⟨g, m⟩ := b
  have h' : Value.bool f :: l.map (Value.int .u8) = Value.bool g :: m.map (Value.int .u8) := h
  injection h' with h1 h2
  have e : l = m := (List.map_inj_right (fun x y h => by cases h; rfl)).1 h2
  cases h1
  rw [e]
theorem pc_inj {p q : Pfx} (hp : okP p) (hq : okP q) (h : (pc p).toList = (pc q).toList) : p = q := by
  rw [pc_list, pc_list] at h
  have h2 := List.append_inj h (by rw [ac_len hp.1, ac_len hq.1])
  have e1 := ac_inj h2.1
  have e2 : p.2 = q.2 := by have := h2.2; simp at this; exact this
  exact Prod.ext e1 e2
theorem equal_of_keys {t : TypeId} {k m : Nat} (hk : Tryz.prog.keyTypeAt k t = true) (hm : Tryz.prog.tiled m t = true) {cx cy : Array Value} {D : Nat} (hfx : (Value.agg cx).formed Tryz.prog t = true) (hfy : (Value.agg cy).formed Tryz.prog t = true)
    (hx : (Tryz.prog.keyLits D t cx.toList).isSome = true) (hy : (Tryz.prog.keyLits D t cy.toList).isSome = true) (d : Nat) (W : World) : ∃ r : Bool, (Op.equalIn (d + k) t (.agg cx) (.agg cy)).run Tryz.prog W = .ok r W ∧ (r = true ↔ cx.toList = cy.toList) := by
  obtain ⟨lx, hlx⟩ := Option.isSome_iff_exists.1 hx
  obtain ⟨ly, hly⟩ := Option.isSome_iff_exists.1 hy
  obtain ⟨r, hr, hi⟩ := run_equalIn_deep (P := Tryz.prog) d k t hk W D D (.agg cx) (.agg cy) lx ly hfx hfy hlx hly
  refine ⟨r, hr, fun h => ?_, fun h => hi.2 ?_⟩
  · rw [cells_of_lits m t hm D _ lx hlx, cells_of_lits m t hm D _ ly hly, hi.1 h]
  · rw [h, hly] at hlx
    exact (Option.some.inj hlx).symm
theorem bool_of {r : Bool} {p : Prop} [Decidable p] (h : r = true ↔ p) : r = decide p := by
  by_cases hp : p
  · rw [decide_eq_true hp]; exact h.2 hp
  · rw [decide_eq_false hp]
    cases r with
    | false => rfl
    | true => exact absurd (h.1 rfl) hp
theorem tiled24 : Tryz.prog.tiled 3 24 = true := by kernel_rfl
theorem equal_Ad {a b : Adr} (ha : okA a) (hb : okA b) (W : World) : (Op.equal 24 (.agg (ac a)) (.agg (ac b))).run Tryz.prog W = .ok (decide (a = b)) W := by
  obtain ⟨r, hr, hi⟩ := equal_of_keys (t := 24) (k := 3) (m := 3) key24 tiled24 (formed_A ha) (formed_A hb) (D := 4) (keyLits_A ha) (keyLits_A hb) 9997 W
  rw [bool_of (p := a = b) (hi.trans ⟨ac_inj, fun h => by rw [h]⟩)] at hr
  exact hr
theorem keyLits_i64 (d : Nat) {z : Int} (h : i64ok z) : Tryz.prog.keyLits (d + 1) 3 [.int .i64 z] = some [.int .i64 z] := by
  have hw : (Lit.int .i64 z).wf = true := by
    unfold i64ok at h
    simp only [Lit.wf, Bool.and_eq_true, decide_eq_true_eq, IntKind.min, IntKind.max, IntKind.bits, IntKind.signed]
    simp
    omega
  simp only [Program.keyLits, Tryz.underlying3, hw, and_self, if_true]
theorem cells_P : Tryz.prog.cellsOf 26 = 18 := by kernel_rfl
theorem cells_int : Tryz.prog.cellsOf 3 = 1 := by kernel_rfl
set_option maxRecDepth 8000 in
theorem keyLits_P {p : Pfx} (hp : okP p) : (Tryz.prog.keyLits 5 26 (pc p).toList).isSome = true := by
  unfold Program.keyLits
  have hl : (pc p).toList.length = 18 := by rw [Array.length_toList]; exact pc_size hp
  simp only [Tryz.underlying26]
  rw [if_pos ⟨by rw [hl, cells_P], by kernel_rfl⟩, Option.isSome_map]
  refine mapM_isSome fun f hf => ?_
  simp only [List.mem_cons, List.not_mem_nil, or_false, List.toList_toArray] at hf
  rcases hf with rfl | rfl
  · show (Tryz.prog.keyLits 4 24 (((pc p).toList.drop 0).take (Tryz.prog.cellsOf 24))).isSome = true
    rw [cells_A, List.drop_zero, pc_list, List.take_left' (ac_len hp.1)]
    exact keyLits_A hp.1
  · show (Tryz.prog.keyLits 4 3 (((pc p).toList.drop 17).take (Tryz.prog.cellsOf 3))).isSome = true
    rw [cells_int, pc_list, List.drop_left' (ac_len hp.1)]
    show (Tryz.prog.keyLits 4 3 [.int .i64 p.2]).isSome = true
    rw [keyLits_i64 3 hp.2]; rfl
theorem key26 : Tryz.prog.keyTypeAt 4 26 = true := by kernel_rfl
theorem formed_P {p : Pfx} (hp : okP p) : (pv p).formed Tryz.prog 26 = true := by
  simp only [Value.formed, Tryz.underlying26, cells_P, pc_size hp, beq_self_eq_true]
theorem tiled26 : Tryz.prog.tiled 4 26 = true := by kernel_rfl
theorem equal_Pd {p q : Pfx} (hp : okP p) (hq : okP q) (W : World) : (Op.equal 26 (.agg (pc p)) (.agg (pc q))).run Tryz.prog W = .ok (decide (p = q)) W := by
  obtain ⟨r, hr, hi⟩ := equal_of_keys (t := 26) (k := 4) (m := 4) key26 tiled26 (formed_P hp) (formed_P hq) (D := 5) (keyLits_P hp) (keyLits_P hq) 9996 W
  rw [bool_of (p := p = q) (hi.trans ⟨pc_inj hp hq, fun h => by rw [h]⟩)] at hr
  exact hr
theorem noGuard_P : Tryz.prog.eqGuardType Tryz.prog.depth 26 = false := by kernel_rfl
theorem exec_eqAd {o : Oper} {f : Act} (x y : Operand) {t : TypeId} (ho : o.op = .binOp .eql 24 x y t) {a b : Adr} (ha : okA a) (hb : okA b) (hx : f.eval x = .agg (ac a)) (hy : f.eval y = .agg (ac b)) (w : World) :
    (execOp f.eval o).run Tryz.prog w = .ok (.value (.bool (decide (a = b)))) w := by
  unfold execOp
  rw [ho]
  have e := equal_Ad ha hb w
  have e1 : (eqGuard .eql 24 x y (.agg (ac a)) (.agg (ac b))).run Tryz.prog w = .ok () w := by
    simp [eqGuard, noGuard_A, Sem.run_bind]
  have e2 : (binOp .eql 24 (.agg (ac a)) (.agg (ac b))).run Tryz.prog w = .ok (.bool (decide (a = b))) w := by
    simp only [binOp, Sem.run_bind, e, Result.andThen_ok, Sem.run_pure]
  simp only [hx, hy, Sem.run_bind, e1, e2, Result.andThen_ok, Sem.run_pure]
theorem exec_eqPd {o : Oper} {f : Act} (x y : Operand) {t : TypeId} (ho : o.op = .binOp .eql 26 x y t) {p q : Pfx} (hp : okP p) (hq : okP q) (hx : f.eval x = .agg (pc p)) (hy : f.eval y = .agg (pc q)) (w : World) :
    (execOp f.eval o).run Tryz.prog w = .ok (.value (.bool (decide (p = q)))) w := by
  unfold execOp
  rw [ho]
  have e := equal_Pd hp hq w
  have e1 : (eqGuard .eql 26 x y (.agg (pc p)) (.agg (pc q))).run Tryz.prog w = .ok () w := by
    simp [eqGuard, noGuard_P, Sem.run_bind]
  have e2 : (binOp .eql 26 (.agg (pc p)) (.agg (pc q))).run Tryz.prog w = .ok (.bool (decide (p = q))) w := by
    simp only [binOp, Sem.run_bind, e, Result.andThen_ok, Sem.run_pure]
  simp only [hx, hy, Sem.run_bind, e1, e2, Result.andThen_ok, Sem.run_pure]
section
variable {ops : Array Oper} {Q : Exit → Act → World → Prop} {md : Region.Mode} {w0 : World} {o : Oper} {rest : List Oper} {i : Nat} {plan : List Yld} {A : (Nat → Value) → Act}
theorem goV_loadP (hw : ∀ u, Region.wanted o (yielded ops (A u).tmps) = true) (x : Operand) (ho : o.op = .load 26 x)
    {b : Nat} {p : Pfx} (hp : okP p) (hb : ∀ w, Ext w0 w → PBlk w b p) (hx : ∀ u, (A u).eval x = .pointer (some ⟨b, 0, none⟩))
    (k : goV Tryz.prog ops Q md w0 rest (i + 1) (plan ++ [.val (.agg (pc p))]) (fun u => (A u).put o.dst (.agg (pc p)))) : goV Tryz.prog ops Q md w0 (o :: rest) i plan A :=
  goV_val _ hw (fun u w hx' _ => by
    have e := load_P hp (hb w hx')
    unfold execOp
    rw [ho]
    simp only [hx, Sem.run_bind, e, Result.andThen_ok, Sem.run_pure]) k
theorem goV_loadPA (hw : ∀ u, Region.wanted o (yielded ops (A u).tmps) = true) (x : Operand) (ho : o.op = .load 24 x)
    {b : Nat} {p : Pfx} (hp : okP p) (hb : ∀ w, Ext w0 w → PBlk w b p) (hx : ∀ u, (A u).eval x = .pointer (some ⟨b, 0, none⟩))
    (k : goV Tryz.prog ops Q md w0 rest (i + 1) (plan ++ [.val (.agg (ac p.1))]) (fun u => (A u).put o.dst (.agg (ac p.1)))) : goV Tryz.prog ops Q md w0 (o :: rest) i plan A :=
  goV_val _ hw (fun u w hx' _ => by
    have e := load_PA hp (hb w hx')
    unfold execOp
    rw [ho]
    simp only [hx, Sem.run_bind, e, Result.andThen_ok, Sem.run_pure]) k
theorem goV_eqAd (hw : ∀ u, Region.wanted o (yielded ops (A u).tmps) = true) (x y : Operand) {t : TypeId} (ho : o.op = .binOp .eql 24 x y t)
    {a b : Adr} (ha : okA a) (hb : okA b) {r : Bool} (h : decide (a = b) = r) (hx : ∀ u, (A u).eval x = .agg (ac a)) (hy : ∀ u, (A u).eval y = .agg (ac b))
    (k : goV Tryz.prog ops Q md w0 rest (i + 1) (plan ++ [.val (.bool r)]) (fun u => (A u).put o.dst (.bool r))) : goV Tryz.prog ops Q md w0 (o :: rest) i plan A :=
  goV_val _ hw (fun u w _ _ => by rw [← h]; exact exec_eqAd x y ho ha hb (hx u) (hy u) w) k
theorem goV_eqPd (hw : ∀ u, Region.wanted o (yielded ops (A u).tmps) = true) (x y : Operand) {t : TypeId} (ho : o.op = .binOp .eql 26 x y t)
    {p q : Pfx} (hp : okP p) (hq : okP q) {r : Bool} (h : decide (p = q) = r) (hx : ∀ u, (A u).eval x = .agg (pc p)) (hy : ∀ u, (A u).eval y = .agg (pc q))
    (k : goV Tryz.prog ops Q md w0 rest (i + 1) (plan ++ [.val (.bool r)]) (fun u => (A u).put o.dst (.bool r))) : goV Tryz.prog ops Q md w0 (o :: rest) i plan A :=
  goV_val _ hw (fun u w _ _ => by rw [← h]; exact exec_eqPd x y ho hp hq (hx u) (hy u) w) k
end
end Go.Proofs.YtbbdcodhgbgekaaGreatDoor
