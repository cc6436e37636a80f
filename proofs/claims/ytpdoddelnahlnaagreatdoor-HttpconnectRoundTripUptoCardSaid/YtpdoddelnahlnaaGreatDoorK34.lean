/-
  Several texts joined: HcS, HcN.
-/
import Derived.Test.YtpdoddelnahlnaaGreatDoorK33
import Derived.Test.YtpdoddelnahlnaaGreatDoorK26
/-
  Requests and parsers as values and blocks.
-/
set_option linter.unusedSimpArgs false
set_option linter.unusedVariables false
namespace Go.Proofs.YtpdoddelnahlnaaGreatDoor
open Go.RowKit
/-! blocks in parts -/
theorem Blk.mid {w : World} {b : Nat} {pre mid post : List Value} {t : TypeId} (h : Blk w b (pre ++ (mid ++ post)) t) {o : Nat} (ho : pre.length = o) : w.rangeAt b o mid := fun j v hj => by
  refine h.cell ?_
  have hl := (List.getElem?_eq_some_iff.1 hj).1
  rw [List.getElem?_append_right (by omega), show o + j - pre.length = j by omega, List.getElem?_append_left hl]; exact hj
theorem Blk.one {w : World} {b : Nat} {pre post : List Value} {v : Value} {t : TypeId} (h : Blk w b (pre ++ (v :: post)) t) {o : Nat} (ho : pre.length = o) : w.cell? ⟨b, o, none⟩ = some v := h.cell (by
  rw [List.getElem?_append_right (by omega), show o - pre.length = 0 by omega]; rfl)
theorem Blk.setOne {w : World} {b : Nat} {pre post : List Value} {v : Value} {t : TypeId} (h : Blk w b (pre ++ (v :: post)) t) {o : Nat} (ho : pre.length = o) (x : Value) : Blk (w.setCell ⟨b, o, none⟩ x) b (pre ++ (x :: post)) t := by
  have := h.set o x
  rw [List.set_append_right _ _ (by omega), show o - pre.length = 0 by omega] at this
  exact this
theorem Blk.setMid {w : World} {b : Nat} {pre mid new post : List Value} {t : TypeId} (h : Blk w b (pre ++ (mid ++ post)) t) {o : Nat} (ho : pre.length = o) (hl : new.length = mid.length) : Blk (w.setCells b o new) b (pre ++ (new ++ post)) t := by
  have := Blk.setCells new o w _ (by simp only [List.length_append]; omega) h
  rw [List.take_left' ho, List.append_assoc, show o + new.length = pre.length + mid.length by omega, ← List.drop_drop, List.drop_left, List.drop_left] at this
  exact this
theorem Blk.there {w : World} {b : Nat} {pre mid post : List Value} {t : TypeId} (h : Blk w b (pre ++ (mid ++ post)) t) {o n : Nat} (ho : pre.length = o) (hn : mid.length = n) : w.there b o n := fun j hj => ⟨by
  have := h.mid ho j (mid[j]'(by omega)) (List.getElem?_eq_getElem _)
  rw [this]; rfl, h.free _⟩
theorem Keep.setCells {S : List Nat} {a : World} {b : Nat} (hb : b ∈ S ∨ a.heap.size ≤ b) : ∀ (vs : List Value) (o : Nat) (w : World), Keep S a w → Keep S a (w.setCells b o vs)
  | [], _, _, h => h
  | v :: r, o, w, h => Keep.setCells hb r (o + 1) _ (h.setCell (p := ⟨b, o, none⟩) hb v)
/-! requests -/
def crl (h : Cr) : List Value := (tc h.1).toList ++ [.bool h.2.1, .string h.2.2.1, .string h.2.2.2]
def crc (h : Cr) : Array Value := (crl h).toArray
abbrev cv (h : Cr) : Value := .agg (crc h)
theorem tc_len {t : Tgt} (ht : okT t) : (tc t).toList.length = 19 := by rw [Array.length_toList, tc_size ht]
theorem crl_len {h : Cr} (ho : okC h) : (crl h).length = 22 := by unfold crl; rw [List.length_append, tc_len ho.1]; rfl
theorem crc_size {h : Cr} (ho : okC h) : (crc h).size = 22 := by unfold crc; rw [List.size_toArray, crl_len ho]
theorem crc_list (h : Cr) : (crc h).toList = crl h := rfl
theorem tl_one (t : Tgt) : ∀ v ∈ (tc t).toList, v.oneCell' = true := fun v hv => Array.all_eq_true_iff_forall_mem.1 (tc_one t) v (by simpa using hv)
theorem crl_one (h : Cr) : ∀ v ∈ crl h, v.oneCell' = true := by
  intro v hv
  unfold crl at hv
  rcases List.mem_append.1 hv with hv | hv
  · exact tl_one _ v hv
  · simp only [List.mem_cons, List.not_mem_nil, or_false] at hv
    rcases hv with rfl | rfl | rfl <;> rfl
theorem crc_one (h : Cr) : (crc h).all (·.oneCell') = true := all_oneCell_toArray (crl_one h)
/-- block b holds the request h -/
abbrev RBlk (w : World) (b : Nat) (h : Cr) : Prop := Blk w b (crl h) 46
theorem info_C : (Tryz.prog.info? 46).map (·.size) = some 22 := by kernel_rfl
theorem crl_u (h : Cr) : crl h = ((tc h.1).toList ++ [.bool h.2.1]) ++ (.string h.2.2.1 :: [.string h.2.2.2]) := by unfold crl; simp
theorem crl_p (h : Cr) : crl h = ((tc h.1).toList ++ [.bool h.2.1, .string h.2.2.1]) ++ (.string h.2.2.2 :: []) := by unfold crl; simp
theorem RBlk.has {w : World} {b : Nat} {h : Cr} (ho : okC h) (hb : RBlk w b h) : w.cell? ⟨b, 19, none⟩ = some (.bool h.2.1) := Blk.one (pre := (tc h.1).toList) hb (tc_len ho.1)
theorem RBlk.user {w : World} {b : Nat} {h : Cr} (ho : okC h) (hb : RBlk w b h) : w.cell? ⟨b, 20, none⟩ = some (.string h.2.2.1) := by
  unfold RBlk at hb; rw [crl_u] at hb; exact Blk.one hb (by rw [List.length_append, tc_len ho.1]; rfl)
theorem RBlk.pass {w : World} {b : Nat} {h : Cr} (ho : okC h) (hb : RBlk w b h) : w.cell? ⟨b, 21, none⟩ = some (.string h.2.2.2) := by
  unfold RBlk at hb; rw [crl_p] at hb; exact Blk.one hb (by rw [List.length_append, tc_len ho.1]; rfl)
theorem RBlk.setHas {w : World} {b : Nat} {h : Cr} (ho : okC h) (hb : RBlk w b h) (x : Bool) : RBlk (w.setCell ⟨b, 19, none⟩ (.bool x)) b (h.1, x, h.2.2) := Blk.setOne (pre := (tc h.1).toList) hb (tc_len ho.1) _
theorem RBlk.setUser {w : World} {b : Nat} {h : Cr} (ho : okC h) (hb : RBlk w b h) (x : ByteArray) : RBlk (w.setCell ⟨b, 20, none⟩ (.string x)) b (h.1, h.2.1, x, h.2.2.2) := by
  unfold RBlk at *; rw [crl_u] at hb ⊢; exact Blk.setOne hb (by rw [List.length_append, tc_len ho.1]; rfl) _
theorem RBlk.setPass {w : World} {b : Nat} {h : Cr} (ho : okC h) (hb : RBlk w b h) (x : ByteArray) : RBlk (w.setCell ⟨b, 21, none⟩ (.string x)) b (h.1, h.2.1, h.2.2.1, x) := by
  unfold RBlk at *; rw [crl_p] at hb ⊢; exact Blk.setOne hb (by rw [List.length_append, tc_len ho.1]; rfl) _
theorem RBlk.setTgt {w : World} {b : Nat} {h : Cr} (ho : okC h) (hb : RBlk w b h) {t : Tgt} (ht : okT t) : RBlk (w.setCells b 0 (tc t).toList) b (t, h.2) :=
  Blk.setMid (pre := []) (mid := (tc h.1).toList) hb rfl (by rw [tc_len ht, tc_len ho.1])
theorem load_C {w : World} {b o : Nat} {h : Cr} (ho : okC h) (hr : w.rangeAt b o (crl h)) : (Instr.loadAt 46 (.pointer (some ⟨b, o, none⟩))).run Tryz.prog w = .ok (.agg (crc h)) w := by
  have := run_loadAt_mid (P := Tryz.prog) w b o 46 (crl h) _ hr Tryz.underlying46 rfl (by rw [info_C, crl_len ho])
  simpa [crc] using this
theorem loadV_C {w : World} {b : Nat} {h : Cr} (ho : okC h) (hb : RBlk w b h) : (loadVar 46 ⟨b, 0, none⟩).run Tryz.prog w = .ok (.agg (crc h)) w := by
  have := run_loadVar_mid (P := Tryz.prog) w b 0 46 (crl h) _ (Blk.mid (pre := []) (mid := crl h) (post := []) (by simpa using hb) rfl) Tryz.underlying46 rfl (by rw [info_C, crl_len ho])
  simpa [crc] using this
theorem RBlk.range {w : World} {b : Nat} {h : Cr} (hb : RBlk w b h) : w.rangeAt b 0 (crl h) := Blk.mid (pre := []) (mid := crl h) (post := []) (by simpa using hb) rfl
theorem wpList_load_C {ops : Array Oper} {rest : List Oper} {o : Oper} {f : Act} {w : World} {Q : Exit → Act → World → Prop} (hgd : o.guard = none) (x : Operand) (ho : o.op = .load 46 x)
    {b k : Nat} {h : Cr} (hc : okC h) (hr : w.rangeAt b k (crl h)) (hx : f.eval x = .pointer (some ⟨b, k, none⟩)) (hn : wpList Tryz.prog ops Q rest (f.put o.dst (.agg (crc h))) w) : wpList Tryz.prog ops Q (o :: rest) f w :=
  wpList_load_mid hgd 46 x ho b k hx (crl h) _ hr Tryz.underlying46 rfl (by rw [info_C, crl_len hc]) hn
theorem wpList_store_C {ops : Array Oper} {rest : List Oper} {o : Oper} {f : Act} {w : World} {Q : Exit → Act → World → Prop} (hgd : o.guard = none) (x y : Operand) (ho : o.op = .store 46 x y)
    {c : Nat} {h0 h : Cr} (hc0 : okC h0) (hc : okC h) (hb : RBlk w c h0) (hx : f.eval x = .pointer (some ⟨c, 0, none⟩)) (hy : f.eval y = .agg (crc h)) (hn : wpList Tryz.prog ops Q rest (f.put o.dst undef) (w.setRow c (crc h))) : wpList Tryz.prog ops Q (o :: rest) f w :=
  wpList_plain hgd fun _ hK => wp_store_row 46 x y ho c (crc h) hx hy 46 (crc h0) hb (by rw [info_C, crc_size hc]) (by rw [crc_size hc, crc_size hc0]) (crc_one h) (hK _ _ hn)
/-- a target stored anywhere in a block -/
theorem wpList_store_Tm {ops : Array Oper} {rest : List Oper} {o : Oper} {f : Act} {w : World} {Q : Exit → Act → World → Prop} (hgd : o.guard = none) (x y : Operand) (ho : o.op = .store 32 x y)
    {c k : Nat} {t : Tgt} (ht : okT t) (hb : w.there c k 19) (hx : f.eval x = .pointer (some ⟨c, k, none⟩)) (hy : f.eval y = .agg (tc t)) (h : wpList Tryz.prog ops Q rest (f.put o.dst undef) (w.setCells c k (tc t).toList)) : wpList Tryz.prog ops Q (o :: rest) f w :=
  wpList_store_mid hgd 32 x y ho c k (tc t) hx hy (by rw [tc_size ht]; exact hb) (by rw [info_T, tc_size ht]) (tc_one t) h
theorem RBlk.thereT {w : World} {b : Nat} {h : Cr} (ho : okC h) (hb : RBlk w b h) : w.there b 0 19 := Blk.there (pre := []) (mid := (tc h.1).toList) hb rfl (tc_len ho.1)
theorem res_C3 {fn : Func} {t u v : Tmp} (h : fn.results = #[.cell t 46, .tmp u, .tmp v]) {tmps : Array Value} {c : Nat} (hq : tmps.getD t undef = .pointer (some ⟨c, 0, none⟩)) {w : World} {p : Cr} (hp : okC p) (hb : RBlk w c p) :
    (results fn tmps).run Tryz.prog w = .ok (.tuple #[.agg (crc p), tmps.getD u undef, tmps.getD v undef]) w := by
  have := loadV_C hp hb
  have hq' : tmps[t]?.getD undef = .pointer (some ⟨c, 0, none⟩) := by simpa using hq
  simp [results, h, hq', this, Sem.run_bind, asAddr]
/-! parsers -/
def pcl (n : Int) (h : Cr) (s : Bool) : List Value := .int .i64 n :: (crl h ++ [.bool s])
def pcc (n : Int) (h : Cr) (s : Bool) : Array Value := (pcl n h s).toArray
/-- block b holds a parser -/
abbrev PBlk (w : World) (b : Nat) (n : Int) (h : Cr) (s : Bool) : Prop := Blk w b (pcl n h s) 69
theorem pcl_t (n : Int) (h : Cr) (s : Bool) : pcl n h s = [.int .i64 n] ++ ((tc h.1).toList ++ [.bool h.2.1, .string h.2.2.1, .string h.2.2.2, .bool s]) := by unfold pcl crl; simp
theorem pcl_h (n : Int) (h : Cr) (s : Bool) : pcl n h s = (.int .i64 n :: (tc h.1).toList) ++ (.bool h.2.1 :: [.string h.2.2.1, .string h.2.2.2, .bool s]) := by unfold pcl crl; simp
theorem pcl_u (n : Int) (h : Cr) (s : Bool) : pcl n h s = (.int .i64 n :: ((tc h.1).toList ++ [.bool h.2.1])) ++ (.string h.2.2.1 :: [.string h.2.2.2, .bool s]) := by unfold pcl crl; simp
theorem pcl_p (n : Int) (h : Cr) (s : Bool) : pcl n h s = (.int .i64 n :: ((tc h.1).toList ++ [.bool h.2.1, .string h.2.2.1])) ++ (.string h.2.2.2 :: [.bool s]) := by unfold pcl crl; simp
theorem pcl_s (n : Int) (h : Cr) (s : Bool) : pcl n h s = (.int .i64 n :: crl h) ++ (.bool s :: []) := by unfold pcl; simp
section
variable {w : World} {b : Nat} {n : Int} {h : Cr} {s : Bool}
theorem PBlk.num (hb : PBlk w b n h s) : w.cell? ⟨b, 0, none⟩ = some (.int .i64 n) := hb.cell rfl
theorem PBlk.seen (ho : okC h) (hb : PBlk w b n h s) : w.cell? ⟨b, 23, none⟩ = some (.bool s) := by
  unfold PBlk at hb; rw [pcl_s] at hb; exact Blk.one hb (by rw [List.length_cons, crl_len ho])
theorem PBlk.has8 (ho : okC h) (hb : PBlk w b n h s) : w.cell? ⟨b, 20, none⟩ = some (.bool h.2.1) := by
  unfold PBlk at hb; rw [pcl_h] at hb; exact Blk.one hb (by rw [List.length_cons, tc_len ho.1])
theorem PBlk.user8 (ho : okC h) (hb : PBlk w b n h s) : w.cell? ⟨b, 21, none⟩ = some (.string h.2.2.1) := by
  unfold PBlk at hb; rw [pcl_u] at hb; exact Blk.one hb (by rw [List.length_cons, List.length_append, tc_len ho.1]; rfl)
theorem PBlk.pass8 (ho : okC h) (hb : PBlk w b n h s) : w.cell? ⟨b, 22, none⟩ = some (.string h.2.2.2) := by
  unfold PBlk at hb; rw [pcl_p] at hb; exact Blk.one hb (by rw [List.length_cons, List.length_append, tc_len ho.1]; rfl)
theorem PBlk.setN (hb : PBlk w b n h s) (x : Int) : PBlk (w.setCell ⟨b, 0, none⟩ (.int .i64 x)) b x h s := Blk.setOne (pre := []) hb rfl _
theorem PBlk.setHas (ho : okC h) (hb : PBlk w b n h s) (x : Bool) : PBlk (w.setCell ⟨b, 20, none⟩ (.bool x)) b n (h.1, x, h.2.2) s := by
  unfold PBlk at *; rw [pcl_h] at hb ⊢; exact Blk.setOne hb (by rw [List.length_cons, tc_len ho.1]) _
theorem PBlk.setUser (ho : okC h) (hb : PBlk w b n h s) (x : ByteArray) : PBlk (w.setCell ⟨b, 21, none⟩ (.string x)) b n (h.1, h.2.1, x, h.2.2.2) s := by
  unfold PBlk at *; rw [pcl_u] at hb ⊢; exact Blk.setOne hb (by rw [List.length_cons, List.length_append, tc_len ho.1]; rfl) _
theorem PBlk.setPass (ho : okC h) (hb : PBlk w b n h s) (x : ByteArray) : PBlk (w.setCell ⟨b, 22, none⟩ (.string x)) b n (h.1, h.2.1, h.2.2.1, x) s := by
  unfold PBlk at *; rw [pcl_p] at hb ⊢; exact Blk.setOne hb (by rw [List.length_cons, List.length_append, tc_len ho.1]; rfl) _
theorem PBlk.setSeen (ho : okC h) (hb : PBlk w b n h s) (x : Bool) : PBlk (w.setCell ⟨b, 23, none⟩ (.bool x)) b n h x := by
  unfold PBlk at *; rw [pcl_s] at hb ⊢; exact Blk.setOne hb (by rw [List.length_cons, crl_len ho]) _
theorem PBlk.setTgt (ho : okC h) (hb : PBlk w b n h s) {t : Tgt} (ht : okT t) : PBlk (w.setCells b 1 (tc t).toList) b n (t, h.2) s := by
  unfold PBlk at *; rw [pcl_t] at hb ⊢; exact Blk.setMid hb rfl (by rw [tc_len ht, tc_len ho.1])
theorem PBlk.thereT (ho : okC h) (hb : PBlk w b n h s) : w.there b 1 19 := by
  unfold PBlk at hb; rw [pcl_t] at hb; exact Blk.there hb rfl (tc_len ho.1)
theorem PBlk.range (hb : PBlk w b n h s) : w.rangeAt b 1 (crl h) := Blk.mid (pre := [.int .i64 n]) (mid := crl h) (post := [.bool s]) hb rfl
end
/-! '==' -/
theorem crl_inj {p q : Cr} (hp : okC p) (hq : okC q) (h : (crc p).toList = (crc q).toList) : p = q := by
  rw [crc_list, crc_list] at h
  unfold crl at h
  have h1 := List.append_inj h (by rw [tc_len hp.1, tc_len hq.1])
  have e1 := tc_inj hp.1 hq.1 h1.1
  have h2 := h1.2
  simp only [List.cons.injEq, Value.bool.injEq, Value.string.injEq, and_true] at h2
  exact Prod.ext e1 (Prod.ext h2.1 (Prod.ext h2.2.1 h2.2.2))
theorem cells_C : Tryz.prog.cellsOf 46 = 22 := by kernel_rfl
theorem cells_bool : Tryz.prog.cellsOf 4 = 1 := by kernel_rfl
set_option maxRecDepth 8000 in
theorem keyLits_C {p : Cr} (hp : okC p) : (Tryz.prog.keyLits 6 46 (crc p).toList).isSome = true := by
  unfold Program.keyLits
  have hl : (crc p).toList.length = 22 := by rw [Array.length_toList]; exact crc_size hp
  have ht := tc_len hp.1
  simp only [Tryz.underlying46]
  rw [if_pos ⟨by rw [hl, cells_C], by kernel_rfl⟩, Option.isSome_map]
  refine mapM_isSome fun f hf => ?_
  simp only [List.mem_cons, List.not_mem_nil, or_false, List.toList_toArray] at hf
  rcases hf with rfl | rfl | rfl | rfl
  · show (Tryz.prog.keyLits 5 32 (((crc p).toList.drop 0).take (Tryz.prog.cellsOf 32))).isSome = true
    rw [cells_T, List.drop_zero, crc_list]
    unfold crl
    rw [List.take_left' ht]
    exact keyLits_T hp.1
  · show (Tryz.prog.keyLits 5 4 (((crc p).toList.drop 19).take (Tryz.prog.cellsOf 4))).isSome = true
    rw [cells_bool, crc_list]
    unfold crl
    rw [List.drop_left' ht]
    show (Tryz.prog.keyLits 5 4 [.bool p.2.1]).isSome = true
    rw [keyLits_bool]; rfl
  · show (Tryz.prog.keyLits 5 9 (((crc p).toList.drop 20).take (Tryz.prog.cellsOf 9))).isSome = true
    rw [cells_str, crc_list, crl_u, List.drop_left' (by rw [List.length_append, ht]; rfl)]
    show (Tryz.prog.keyLits 5 9 [.string p.2.2.1]).isSome = true
    rw [keyLits_str 4 hp.2.1]; rfl
  · show (Tryz.prog.keyLits 5 9 (((crc p).toList.drop 21).take (Tryz.prog.cellsOf 9))).isSome = true
    rw [cells_str, crc_list, crl_p, List.drop_left' (by rw [List.length_append, ht]; rfl)]
    show (Tryz.prog.keyLits 5 9 [.string p.2.2.2]).isSome = true
    rw [keyLits_str 4 hp.2.2]; rfl
theorem keyC : Tryz.prog.keyTypeAt 5 46 = true := by kernel_rfl
theorem formed_C {p : Cr} (hp : okC p) : (cv p).formed Tryz.prog 46 = true := by
  simp only [Value.formed, Tryz.underlying46, cells_C, crc_size hp, beq_self_eq_true]
theorem tiledC : Tryz.prog.tiled 5 46 = true := by kernel_rfl
theorem equal_Cd {p q : Cr} (hp : okC p) (hq : okC q) (W : World) : (Op.equal 46 (.agg (crc p)) (.agg (crc q))).run Tryz.prog W = .ok (decide (p = q)) W := by
  obtain ⟨r, hr, hi⟩ := equal_of_keys (t := 46) (k := 5) (m := 5) keyC tiledC (formed_C hp) (formed_C hq) (D := 6) (keyLits_C hp) (keyLits_C hq) 9995 W
  rw [bool_of (p := p = q) (hi.trans ⟨crl_inj hp hq, fun h => by rw [h]⟩)] at hr
  exact hr
theorem noGuard_C : Tryz.prog.eqGuardType Tryz.prog.depth 46 = false := by kernel_rfl
theorem exec_eqC {o : Oper} {f : Act} (x y : Operand) {t : TypeId} (ho : o.op = .binOp .eql 46 x y t) {p q : Cr} (hp : okC p) (hq : okC q) (hx : f.eval x = .agg (crc p)) (hy : f.eval y = .agg (crc q)) (w : World) :
    (execOp f.eval o).run Tryz.prog w = .ok (.value (.bool (decide (p = q)))) w := by
  unfold execOp
  rw [ho]
  have e := equal_Cd hp hq w
  have e1 : (eqGuard .eql 46 x y (.agg (crc p)) (.agg (crc q))).run Tryz.prog w = .ok () w := by
    simp [eqGuard, noGuard_C, Sem.run_bind]
  have e2 : (binOp .eql 46 (.agg (crc p)) (.agg (crc q))).run Tryz.prog w = .ok (.bool (decide (p = q))) w := by
    simp only [binOp, Sem.run_bind, e, Result.andThen_ok, Sem.run_pure]
  simp only [hx, hy, Sem.run_bind, e1, e2, Result.andThen_ok, Sem.run_pure]
section
variable {ops : Array Oper} {Q : Exit → Act → World → Prop} {md : Region.Mode} {w0 : World} {o : Oper} {rest : List Oper} {i : Nat} {plan : List Yld} {A : (Nat → Value) → Act}
theorem goV_loadC (hw : ∀ u, Region.wanted o (yielded ops (A u).tmps) = true) (x : Operand) (ho : o.op = .load 46 x)
    {b : Nat} {p : Cr} (hp : okC p) (hb : ∀ w, Ext w0 w → RBlk w b p) (hx : ∀ u, (A u).eval x = .pointer (some ⟨b, 0, none⟩))
    (k : goV Tryz.prog ops Q md w0 rest (i + 1) (plan ++ [.val (.agg (crc p))]) (fun u => (A u).put o.dst (.agg (crc p)))) : goV Tryz.prog ops Q md w0 (o :: rest) i plan A :=
  goV_val _ hw (fun u w hx' _ => by
    have e := load_C hp (RBlk.range (hb w hx'))
    unfold execOp
    rw [ho]
    simp only [hx, Sem.run_bind, e, Result.andThen_ok, Sem.run_pure]) k
theorem goV_eqCd (hw : ∀ u, Region.wanted o (yielded ops (A u).tmps) = true) (x y : Operand) {t : TypeId} (ho : o.op = .binOp .eql 46 x y t)
    {p q : Cr} (hp : okC p) (hq : okC q) {r : Bool} (h : decide (p = q) = r) (hx : ∀ u, (A u).eval x = .agg (crc p)) (hy : ∀ u, (A u).eval y = .agg (crc q))
    (k : goV Tryz.prog ops Q md w0 rest (i + 1) (plan ++ [.val (.bool r)]) (fun u => (A u).put o.dst (.bool r))) : goV Tryz.prog ops Q md w0 (o :: rest) i plan A :=
  goV_val _ hw (fun u w _ _ => by rw [← h]; exact exec_eqC x y ho hp hq (hx u) (hy u) w) k
end
end Go.Proofs.YtpdoddelnahlnaaGreatDoor
/-
  Plain Lean: splits and prefixes by the first space; header lines.
-/
set_option linter.unusedSimpArgs false
set_option linter.unusedVariables false
namespace Go.Proofs.YtpdoddelnahlnaaGreatDoor
theorem list_cut {s : ByteArray} {c : UInt8} (h : idxB s c < s.size) : s.data.toList = (s.extract 0 (idxB s c)).data.toList ++ c :: (s.extract (idxB s c + 1) s.size).data.toList := by
  have hl := size_list s
  have ef : s.data.toList.take s.size = s.data.toList := List.take_of_length_le (by omega)
  rw [data_extract, data_extract, List.drop_zero, ef]
  have hc : s.data.toList[idxB s c]'(by omega) = c := by
    have := idxL_at c s.data.toList (by unfold idxB at h; omega)
    rw [List.getD_eq_getElem?_getD, List.getElem?_eq_getElem (by unfold idxB at h; omega), Option.getD_some] at this
    exact this
  have h3 := List.take_append_drop (idxB s c) s.data.toList
  rw [List.drop_eq_getElem_cons (by omega), hc] at h3
  exact h3.symm
theorem list_no {s : ByteArray} {c : UInt8} : ∀ x ∈ (s.extract 0 (idxB s c)).data.toList, x ≠ c := by
  intro x hx
  rw [data_extract, List.drop_zero] at hx
  obtain ⟨j, hj, e⟩ := List.mem_iff_getElem.1 hx
  rw [List.length_take] at hj
  have := idxL_no c s.data.toList j (by unfold idxB at hj; omega)
  rw [List.getElem_take] at e
  rw [List.getD_eq_getElem?_getD, List.getElem?_eq_getElem (by omega), Option.getD_some, e] at this
  exact this
theorem list_none {s : ByteArray} {c : UInt8} (h : ¬ idxB s c < s.size) : ∀ x ∈ s.data.toList, x ≠ c := by
  intro x hx
  obtain ⟨j, hj, e⟩ := List.mem_iff_getElem.1 hx
  have hl := size_list s
  have := idxL_no c s.data.toList j (by unfold idxB at h; omega)
  rw [List.getD_eq_getElem?_getD, List.getElem?_eq_getElem (by omega), Option.getD_some, e] at this
  exact this
theorem BA_mk (s : ByteArray) : (⟨s.data.toList.toArray⟩ : ByteArray) = s := BA_ext rfl
theorem parts_cut (c : UInt8) (s : ByteArray) : parts c s = if (cutB s c).2.2 = true then (cutB s c).1 :: parts c (cutB s c).2.1 else [s] := by
  unfold cutB
  by_cases h : idxB s c < s.size
  · rw [if_pos h, if_pos rfl]
    unfold parts
    rw [list_cut h, splitc_hit _ list_no]
    simp only [List.map_cons, BA_mk]
  · rw [if_neg h, if_neg (by simp)]
    unfold parts
    rw [splitc_none (list_none h)]
    simp only [List.map_cons, List.map_nil, BA_mk]
theorem cut_none {s : ByteArray} {c : UInt8} (h : ∀ x ∈ s.data.toList, x ≠ c) : (cutB s c).2.2 = false := by
  have : ¬ idxB s c < s.size := fun q => by
    have := list_cut q
    exact h c (by rw [this]; simp) rfl
  unfold cutB; rw [if_neg this]
/-- the method, two ways -/
theorem pre_cut (s : ByteArray) : Lib.hasPrefix s.data.toList connS.data.toList = ((cutB s 32).2.2 && decide ((cutB s 32).1 = connW)) := by
  have hw : connS.data.toList = connW.data.toList ++ [32] := by decide
  have hn : ∀ x ∈ connW.data.toList, x ≠ 32 := by decide
  unfold Lib.hasPrefix cutB
  by_cases h : idxB s 32 < s.size
  · rw [if_pos h]
    simp only [Bool.true_and]
    have e := list_cut h
    have hno := list_no (s := s) (c := 32)
    generalize s.extract 0 (idxB s 32) = a at *
    generalize s.extract (idxB s 32 + 1) s.size = r at *
    rw [e, hw]
    by_cases q : a = connW
    · rw [decide_eq_true q, q, List.isPrefixOf_iff_prefix]
      exact ⟨r.data.toList, by simp⟩
    · rw [decide_eq_false q]
      cases hp : (connW.data.toList ++ [32]).isPrefixOf (a.data.toList ++ 32 :: r.data.toList) with
      | false => rfl
      | true =>
        exfalso
        obtain ⟨t, ht⟩ := List.isPrefixOf_iff_prefix.1 hp
        have h1 := splitc_hit (c := 32) r.data.toList hno
        rw [← ht, List.append_assoc, show ([32] ++ t : List UInt8) = 32 :: t from rfl, splitc_hit t hn] at h1
        injection h1 with h1 _
        exact q (BA_ext h1.symm)
  · rw [if_neg h]
    simp only [Bool.false_and]
    cases hp : connS.data.toList.isPrefixOf s.data.toList with
    | false => rfl
    | true =>
      exfalso
      obtain ⟨t, ht⟩ := List.isPrefixOf_iff_prefix.1 hp
      exact list_none h 32 (by rw [← ht, hw]; simp) rfl
theorem pre_tl {s : ByteArray} (h : Lib.hasPrefix s.data.toList connS.data.toList = true) : (⟨(Lib.trimPrefix s.data.toList connS.data.toList).toArray⟩ : ByteArray) = tl32 s := by
  have h2 := h
  rw [pre_cut, Bool.and_eq_true, decide_eq_true_eq] at h2
  unfold tl32
  unfold cutB at *
  by_cases q : idxB s 32 < s.size
  · rw [if_pos q] at *
    have e := list_cut q
    simp only at h2 ⊢
    refine BA_ext ?_
    unfold Lib.trimPrefix
    rw [if_pos h]
    have hz : (connS.data.toList).length = (s.extract 0 (idxB s 32)).data.toList.length + 1 := by rw [h2.2]; rfl
    show List.drop _ s.data.toList = _
    rw [hz]
    conv => lhs; rw [e]
    rw [List.drop_append, List.drop_of_length_le (by omega), show (s.extract 0 (idxB s 32)).data.toList.length + 1 - (s.extract 0 (idxB s 32)).data.toList.length = 1 by omega]; rfl
  · rw [if_neg q] at h2; exact absurd h2.1 (by simp)
/-- the request line, as the document's parser sees it -/
def okRr (s : ByteArray) : Bool := decide ((parts 32 s).length = 3) && decide ((parts 32 s).getD 0 ⟨#[]⟩ = connW) && (decide ((parts 32 s).getD 2 ⟨#[]⟩ = v11) || decide ((parts 32 s).getD 2 ⟨#[]⟩ = v10)) && (tgtP ((parts 32 s).getD 1 ⟨#[]⟩)).2
theorem rr_eq (s : ByteArray) : (if okRr s = true then some (tgtP ((parts 32 s).getD 1 ⟨#[]⟩)).1 else none) = rqP s := by
  unfold rqP okRr okRq tl32
  rw [parts_cut 32 s]
  cases h1 : (cutB s 32).2.2 with
  | false => simp
  | true =>
    rw [if_pos rfl, parts_cut 32 (cutB s 32).2.1]
    generalize (cutB s 32).2.1 = r at *
    generalize (cutB s 32).1 = a at *
    cases h2 : (cutB r 32).2.2 with
    | false => simp
    | true =>
      rw [if_pos rfl, parts_cut 32 (cutB r 32).2.1]
      generalize (cutB r 32).1 = b at *
      generalize hv : (cutB r 32).2.1 = v at *
      cases h3 : (cutB v 32).2.2 with
      | false => simp
      | true =>
        have n1 : v ≠ v11 := fun e => by rw [e] at h3; exact absurd h3 (by decide +kernel)
        have n0 : v ≠ v10 := fun e => by rw [e] at h3; exact absurd h3 (by decide +kernel)
        rw [if_pos rfl]
        obtain ⟨y, ys, hy⟩ : ∃ y ys, parts 32 (cutB v 32).2.1 = y :: ys := by
          cases hp : parts 32 (cutB v 32).2.1 with
          | nil => exact absurd (List.map_eq_nil_iff.1 hp) (splitc_ne8 32 _)
          | cons y ys => exact ⟨y, ys, rfl⟩
        rw [hy]
        simp [n1, n0]
theorem parts_len_le (c : UInt8) (s : ByteArray) : (parts c s).length ≤ s.size + 1 := by
  unfold parts
  rw [List.length_map, size_list]
  generalize s.data.toList = l
  induction l with
  | nil => simp [splitc]
  | cons x l ih =>
    rw [splitc]
    split
    · simp only [List.length_cons]; omega
    · split
      · simp
      · rename_i y ys e; rw [e] at ih; simp only [List.length_cons] at *; omega
/-! headers -/
theorem allB_extract {p : Int → Bool} {s : ByteArray} {k : Nat} (hk : k ≤ s.size) : allB p (s.extract 0 k) (s.extract 0 k).size = allB p s k := by
  have hz : (s.extract 0 k).size = k := by rw [ByteArray.size_extract]; omega
  rw [hz]
  have : ∀ j, j ≤ k → allB p (s.extract 0 k) j = allB p s j := by
    intro j
    induction j with
    | zero => intro _; rfl
    | succ j ih => intro hj; rw [allB, allB, ih (by omega), B_extract _ _ _ _ (by omega), Nat.zero_add]
  exact this k (Nat.le_refl _)
def vname8 (s : ByteArray) : Bool := decide (1 ≤ s.size) && allB hch s s.size
theorem hdP_cut (s : ByteArray) : hdP s = if (cutB s 58).2.2 = true ∧ vname8 (cutB s 58).1 = true then some ((cutB s 58).1, trimB (cutB s 58).2.1) else none := by
  unfold hdP cutB
  by_cases h : idxB s 58 < s.size
  · rw [if_pos h]
    simp only
    unfold vname8
    rw [allB_extract (by omega), show (s.extract 0 (idxB s 58)).size = idxB s 58 by rw [ByteArray.size_extract]; omega]
    by_cases q : 0 < idxB s 58 ∧ allB hch s (idxB s 58) = true
    · rw [if_pos ⟨q.1, h, q.2⟩, if_pos ⟨trivial, by rw [Bool.and_eq_true, decide_eq_true_eq]; exact ⟨q.1, q.2⟩⟩]
    · rw [if_neg (fun k => q ⟨k.1, k.2.2⟩), if_neg (fun k => q (by have := k.2; rw [Bool.and_eq_true, decide_eq_true_eq] at this; exact ⟨this.1, this.2⟩))]
  · rw [if_neg (fun q => h q.2.1), if_neg h, if_neg (by simp)]
theorem hch_iff (x : Int) : hch x = true ↔ (97 ≤ x ∧ x ≤ 122) ∨ (65 ≤ x ∧ x ≤ 90) ∨ (48 ≤ x ∧ x ≤ 57) ∨ x = 45 := by
  unfold hch lch lowI
  rw [decide_eq_true_eq]
  split <;> omega
end Go.Proofs.YtpdoddelnahlnaaGreatDoor
