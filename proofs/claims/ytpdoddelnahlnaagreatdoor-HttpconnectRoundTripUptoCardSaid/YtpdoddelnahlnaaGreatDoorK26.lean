/-
  Several texts joined: IpVb, HoT.
-/
import Derived.Test.YtpdoddelnahlnaaGreatDoorK25
import Derived.Test.YtpdoddelnahlnaaGreatDoorK22
import Derived.Test.YtpdoddelnahlnaaGreatDoorK19
import Derived.DeepKeys2
/-
  Contract of gen.ValidAddr.
-/
set_option linter.unusedSimpArgs false
set_option linter.unusedVariables false
namespace Go.Proofs.YtpdoddelnahlnaaGreatDoor
open Go.RowKit
theorem valid_v4b (a b c d : Int) : validA (v4 a b c d) = true := by simp [validA, v4]

theorem Blk.setCells {b : Nat} {t : TypeId} : ∀ (vs : List Value) (o : Nat) (w : World) (cs : List Value), o + vs.length ≤ cs.length → Blk w b cs t → Blk (w.setCells b o vs) b (cs.take o ++ vs ++ cs.drop (o + vs.length)) t
  | [], o, w, cs, _, h => by
    rw [World.setCells, List.append_nil, List.length_nil, Nat.add_zero, List.take_append_drop]; exact h
  | v :: r, o, w, cs, hl, h => by
    have h1 := h.set o v
    have h2 := Blk.setCells r (o + 1) _ _ (by rw [List.length_set]; simp at hl; omega) h1
    rw [World.setCells]
    have ho : o < cs.length := by simp at hl; omega
    have e1 : (cs.set o v).take (o + 1) = cs.take o ++ [v] := by
      rw [List.take_add_one, List.take_set_of_le (Nat.le_refl _), List.getElem?_set, if_pos rfl, if_pos ho]; rfl
    have e2 : (cs.set o v).drop (o + 1 + r.length) = cs.drop (o + (v :: r).length) := by
      rw [List.drop_set_of_lt (by omega), List.length_cons, show o + 1 + r.length = o + (r.length + 1) by omega]
    rw [e1, e2, List.append_assoc, List.append_assoc] at h2
    rw [List.append_assoc]
    exact h2
theorem Ext.setCells {a : World} {b : Nat} (hb : a.heap.size ≤ b) : ∀ (vs : List Value) (o : Nat) (w : World), Ext a w → Ext a (w.setCells b o vs)
  | [], _, _, h => h
  | v :: r, o, w, h => Ext.setCells hb r (o + 1) _ (h.setCell hb v)
theorem heap_setCells (b c : Nat) : ∀ (vs : List Value) (hne : c ≠ b) (o : Nat) {w : World}, (w.setCells b o vs).heap[c]? = w.heap[c]?
  | [], _, _, _ => rfl
  | v :: r, hne, o, w => by rw [World.setCells, heap_setCells b c r hne (o + 1), Below.heap_setCell _ _ _ _ hne]
def vadr (a : Adr) : Adr := if a.1 = true then a else v4 (X a 0) (X a 1) (X a 2) (X a 3)
theorem okA_vadr {a : Adr} (ha : okA a) : okA (vadr a) := by
  unfold vadr
  split
  · exact ha
  · exact okA_v4 (X_bd ha _) (X_bd ha _) (X_bd ha _) (X_bd ha _)
theorem valid_vadr (a : Adr) : validA (vadr a) = true := by
  unfold vadr
  split
  · rename_i h; unfold validA; rw [h]; rfl
  · exact valid_v4b _ _ _ _
theorem ac_v4 (x y z t : Int) : ac (v4 x y z t) = #[.bool false, .int .u8 x, .int .u8 y, .int .u8 z, .int .u8 t, .int .u8 0, .int .u8 0, .int .u8 0, .int .u8 0, .int .u8 0, .int .u8 0, .int .u8 0, .int .u8 0, .int .u8 0, .int .u8 0, .int .u8 0, .int .u8 0] := rfl
theorem info_16 : (Tryz.prog.info? 28).map (·.size) = some 16 := by kernel_rfl
theorem there_A {w : World} {b : Nat} {a : Adr} (ha : okA a) (h : Blk w b (ac a).toList 30) : w.there b 1 16 := fun j hj => ⟨by
  have := h.cell (i := 1 + j) (v := .int .u8 (X a j)) (by rw [Array.getElem?_toList]; exact ac_at ha hj)
  rw [this]; rfl, h.free _⟩
theorem wpList_store_B {ops : Array Oper} {rest : List Oper} {o : Oper} {f : Act} {w : World} {Q : Exit → Act → World → Prop} (zs : List Int) (hgd : o.guard = none) (x y : Operand) (ho : o.op = .store 28 x y)
    {c : Nat} {a0 : Adr} (h0 : okA a0) (hb : Blk w c (ac a0).toList 30) (hs : zs.length = 16) (hx : f.eval x = .pointer (some ⟨c, 1, none⟩)) (hy : f.eval y = .agg (zs.map (Value.int .u8)).toArray)
    (h : wpList Tryz.prog ops Q rest (f.put o.dst undef) (w.setCells c 1 (zs.map (Value.int .u8)))) : wpList Tryz.prog ops Q (o :: rest) f w :=
  wpList_store_mid hgd 28 x y ho c 1 (zs.map (Value.int .u8)).toArray hx hy (by rw [List.size_toArray, List.length_map, hs]; exact there_A h0 hb) (by rw [info_16, List.size_toArray, List.length_map, hs]) (all_oneCell_toArray fun v hv => by
    obtain ⟨z, _, rfl⟩ := List.mem_map.1 hv; rfl) h
theorem Blk.store16 {w : World} {b : Nat} {a : Adr} (ha : okA a) (h : Blk w b (ac a).toList 30) {zs : List Int} (hz : zs.length = 16) : Blk (w.setCells b 1 (zs.map (Value.int .u8))) b (ac (a.1, zs)).toList 30 := by
  have hal : (ac a).toList.length = 17 := by rw [Array.length_toList, ac_size ha]
  have h2 := Blk.setCells (zs.map (Value.int .u8)) 1 w (ac a).toList (by rw [hal, List.length_map, hz]; decide) h
  rw [List.drop_of_length_le (by rw [hal, List.length_map, hz]; decide), List.append_nil] at h2
  exact h2
theorem tail6_len {l : List Int} (hg : ∀ i, grp l i < 65536) (f m : Int) : ∀ k i, (tail6 l f m k i).length ≤ 5 * k
  | 0, _ => by simp [tail6]
  | k + 1, i => by
    rw [tail6]
    have h1 := hexT_len (n := (grp l i).toNat) (by have := hg i; omega)
    split
    · simp
    · split
      · have := tail6_len hg f m k (i + m.toNat)
        simp only [List.length_append, List.length_cons, List.length_nil]; omega
      · have := tail6_len hg f m k (i + 1)
        simp only [List.length_append]
        split <;> simp only [List.length_cons, List.length_nil] <;> omega
theorem fmtA_len {a : Adr} (ha : okA a) : (fmtA a).length ≤ 45 := by
  unfold fmtA
  split
  · simp
  · split
    · exact tail6_len (fun i => (grp_bd ha i).2) _ _ _ _
    · have h : ∀ j, (Lib.decDigits (a.2.getD j 0).toNat).length ≤ 3 := fun j => dd_len 2 _ (by have := X_bd ha j; unfold X at this; omega)
      have h0 := h 0; have h1 := h 1; have h2 := h 2; have h3 := h 3
      unfold fmt4
      simp only [List.length_append, List.length_cons, List.length_nil]; omega
theorem ac_set {a : Adr} (j : Nat) (z : Int) : (ac a).toList.set (1 + j) (.int .u8 z) = (ac (a.1, a.2.set j z)).toList := by
  unfold ac
  rw [Nat.add_comm 1 j]
  simp only [List.set_cons_succ, List.map_set]
theorem okA_set {a : Adr} (ha : okA a) (j : Nat) : okA (a.1, a.2.set j 0) := by
  refine ⟨by rw [List.length_set]; exact ha.1, fun x hx => ?_⟩
  rcases List.mem_or_eq_of_mem_set hx with h | rfl
  · exact ha.2 x h
  · decide
end Go.Proofs.YtpdoddelnahlnaaGreatDoor
/-
  Targets as values: loads, stores, '=='.
-/
set_option linter.unusedSimpArgs false
set_option linter.unusedVariables false
namespace Go.Proofs.YtpdoddelnahlnaaGreatDoor
open Go.RowKit

abbrev Tgt := ByteArray × Adr × Int
def i64ok (z : Int) : Prop := -9223372036854775808 ≤ z ∧ z ≤ 9223372036854775807
def okT (t : Tgt) : Prop := okA t.2.1 ∧ i64ok t.2.2 ∧ t.1.size ≤ maxLen
def tc (t : Tgt) : Array Value := (Value.string t.1 :: ((ac t.2.1).toList ++ [Value.int .i64 t.2.2])).toArray
abbrev tv (t : Tgt) : Value := .agg (tc t)
def ztgt : Tgt := (⟨#[]⟩, zadr, 0)
theorem okT_ztgt : okT ztgt := ⟨okA_zadr, by unfold i64ok ztgt; simp only; omega, Nat.zero_le _⟩
theorem ac_len {a : Adr} (ha : okA a) : (ac a).toList.length = 17 := by rw [Array.length_toList, ac_size ha]
theorem tc_list (t : Tgt) : (tc t).toList = Value.string t.1 :: ((ac t.2.1).toList ++ [Value.int .i64 t.2.2]) := rfl
theorem tc_size {t : Tgt} (ht : okT t) : (tc t).size = 19 := by
  unfold tc; rw [List.size_toArray, List.length_cons, List.length_append, ac_len ht.1]; rfl
theorem tc_one (t : Tgt) : (tc t).all (·.oneCell') = true := by
  rw [Array.all_eq_true_iff_forall_mem]
  intro v hv
  rw [← Array.mem_toList_iff, tc_list, List.mem_cons, List.mem_append] at hv
  rcases hv with hv | hv | hv
  · subst hv; rfl
  · exact Array.all_eq_true_iff_forall_mem.1 (ac_one t.2.1) v (by simpa using hv)
  · simp at hv; subst hv; rfl
theorem tc_zero : tc ztgt = #[.string ⟨#[]⟩, .bool false, .int .u8 0, .int .u8 0, .int .u8 0, .int .u8 0, .int .u8 0, .int .u8 0, .int .u8 0, .int .u8 0, .int .u8 0, .int .u8 0, .int .u8 0, .int .u8 0, .int .u8 0, .int .u8 0, .int .u8 0, .int .u8 0, .int .i64 0] := rfl
theorem info_T : (Tryz.prog.info? 32).map (·.size) = some 19 := by kernel_rfl
/-- block b holds the target t -/
abbrev TBlk (w : World) (b : Nat) (t : Tgt) : Prop := Blk w b (tc t).toList 32
theorem TBlk.name {w : World} {b : Nat} {t : Tgt} (h : TBlk w b t) : w.cell? ⟨b, 0, none⟩ = some (.string t.1) := h.cell rfl
theorem TBlk.fam {w : World} {b : Nat} {t : Tgt} (h : TBlk w b t) : w.cell? ⟨b, 1, none⟩ = some (.bool t.2.1.1) := h.cell rfl
theorem TBlk.port {w : World} {b : Nat} {t : Tgt} (ht : okT t) (h : TBlk w b t) : w.cell? ⟨b, 18, none⟩ = some (.int .i64 t.2.2) := h.cell (by
  rw [tc_list, List.getElem?_cons_succ, List.getElem?_append_right (by rw [ac_len ht.1]; omega), ac_len ht.1]; rfl)
theorem TBlk.range {w : World} {b : Nat} {t : Tgt} (h : TBlk w b t) : w.rangeAt b 1 (ac t.2.1).toList := fun j v hj => by
  rw [Nat.add_comm]
  refine h.cell ?_
  rw [tc_list, List.getElem?_cons_succ, List.getElem?_append_left (List.getElem?_eq_some_iff.1 hj).1]; exact hj
theorem load_T {w : World} {b : Nat} {t : Tgt} (ht : okT t) (h : TBlk w b t) : (Instr.loadAt 32 (.pointer (some ⟨b, 0, none⟩))).run Tryz.prog w = .ok (.agg (tc t)) w := by
  have := run_loadAt_mid (P := Tryz.prog) w b 0 32 (tc t).toList _ (fun j v hj => by rw [Nat.zero_add]; exact h.cell hj) Tryz.underlying32 rfl (by rw [info_T, Array.length_toList, tc_size ht])
  simpa using this
theorem loadV_T {w : World} {b : Nat} {t : Tgt} (ht : okT t) (h : TBlk w b t) : (loadVar 32 ⟨b, 0, none⟩).run Tryz.prog w = .ok (.agg (tc t)) w := by
  have := run_loadVar_mid (P := Tryz.prog) w b 0 32 (tc t).toList _ (fun j v hj => by rw [Nat.zero_add]; exact h.cell hj) Tryz.underlying32 rfl (by rw [info_T, Array.length_toList, tc_size ht])
  simpa using this
theorem load_TA {w : World} {b : Nat} {t : Tgt} (ht : okT t) (h : TBlk w b t) : (Instr.loadAt 30 (.pointer (some ⟨b, 1, none⟩))).run Tryz.prog w = .ok (.agg (ac t.2.1)) w := by
  have := run_loadAt_mid (P := Tryz.prog) w b 1 30 (ac t.2.1).toList _ h.range Tryz.underlying30 rfl (by rw [info_A, ac_len ht.1])
  simpa using this
theorem wpList_store_T {ops : Array Oper} {rest : List Oper} {o : Oper} {f : Act} {w : World} {Q : Exit → Act → World → Prop} (hgd : o.guard = none) (x y : Operand) (ho : o.op = .store 32 x y)
    {c : Nat} {t0 t : Tgt} (h0 : okT t0) (ht : okT t) (hb : TBlk w c t0) (hx : f.eval x = .pointer (some ⟨c, 0, none⟩)) (hy : f.eval y = .agg (tc t)) (h : wpList Tryz.prog ops Q rest (f.put o.dst undef) (w.setRow c (tc t))) : wpList Tryz.prog ops Q (o :: rest) f w :=
  wpList_plain hgd fun _ hK => wp_store_row 32 x y ho c (tc t) hx hy 32 (tc t0) hb (by rw [info_T, tc_size ht]) (by rw [tc_size ht, tc_size h0]) (tc_one t) (hK _ _ h)
theorem wpList_load_T {ops : Array Oper} {rest : List Oper} {o : Oper} {f : Act} {w : World} {Q : Exit → Act → World → Prop} (hgd : o.guard = none) (x : Operand) (ho : o.op = .load 32 x)
    {b : Nat} {t : Tgt} (ht : okT t) (hb : TBlk w b t) (hx : f.eval x = .pointer (some ⟨b, 0, none⟩)) (h : wpList Tryz.prog ops Q rest (f.put o.dst (.agg (tc t))) w) : wpList Tryz.prog ops Q (o :: rest) f w :=
  wpList_load_mid hgd 32 x ho b 0 hx (tc t).toList _ (fun j v hj => by rw [Nat.zero_add]; exact hb.cell hj) Tryz.underlying32 rfl (by rw [info_T, Array.length_toList, tc_size ht]) h
theorem wpList_load_TA {ops : Array Oper} {rest : List Oper} {o : Oper} {f : Act} {w : World} {Q : Exit → Act → World → Prop} (hgd : o.guard = none) (x : Operand) (ho : o.op = .load 30 x)
    {b : Nat} {t : Tgt} (ht : okT t) (hb : TBlk w b t) (hx : f.eval x = .pointer (some ⟨b, 1, none⟩)) (h : wpList Tryz.prog ops Q rest (f.put o.dst (.agg (ac t.2.1))) w) : wpList Tryz.prog ops Q (o :: rest) f w :=
  wpList_load_mid hgd 30 x ho b 1 hx (ac t.2.1).toList _ hb.range Tryz.underlying30 rfl (by rw [info_A, ac_len ht.1]) h
theorem res_T2 {fn : Func} {t u : Tmp} (h : fn.results = #[.cell t 32, .tmp u]) {tmps : Array Value} {c : Nat} (hq : tmps.getD t undef = .pointer (some ⟨c, 0, none⟩)) {w : World} {p : Tgt} (hp : okT p) (hb : TBlk w c p) :
    (results fn tmps).run Tryz.prog w = .ok (.tuple #[.agg (tc p), tmps.getD u undef]) w := by
  have := loadV_T hp hb
  have hq' : tmps[t]?.getD undef = .pointer (some ⟨c, 0, none⟩) := by simpa using hq
  simp [results, h, hq', this, Sem.run_bind, asAddr]
theorem res_T {fn : Func} {t : Tmp} (h : fn.results = #[.cell t 32]) {tmps : Array Value} {c : Nat} (hq : tmps.getD t undef = .pointer (some ⟨c, 0, none⟩)) {w : World} {p : Tgt} (hp : okT p) (hb : TBlk w c p) :
    (results fn tmps).run Tryz.prog w = .ok (.agg (tc p)) w := by
  have := loadV_T hp hb
  have hq' : tmps[t]?.getD undef = .pointer (some ⟨c, 0, none⟩) := by simpa using hq
  simp [results, h, hq', this, Sem.run_bind, asAddr]
/-! '==' -/
theorem ac_inj {a b : Adr} (h : (ac a).toList = (ac b).toList) : a = b := by
  obtain ⟨f, l⟩ := a
  obtain ⟨g, m⟩ := b
  have h' : Value.bool f :: l.map (Value.int .u8) = Value.bool g :: m.map (Value.int .u8) := h
  injection h' with h1 h2
  have e : l = m := (List.map_inj_right (fun x y h => by cases h; rfl)).1 h2
  cases h1
  rw [e]
theorem tc_inj {p q : Tgt} (hp : okT p) (hq : okT q) (h : (tc p).toList = (tc q).toList) : p = q := by
  rw [tc_list, tc_list] at h
  injection h with h1 h2
  have h3 := List.append_inj h2 (by rw [ac_len hp.1, ac_len hq.1])
  have e1 := ac_inj h3.1
  have e2 : p.2.2 = q.2.2 := by have := h3.2; simp at this; exact this
  injection h1 with h1
  exact Prod.ext h1 (Prod.ext e1 e2)
theorem equal_of_keys {t : TypeId} {k m : Nat} (hk : Tryz.prog.keyTypeAt k t = true) (hm : Tryz.prog.tiled m t = true) {cx cy : Array Value} {D : Nat} (hfx : (Value.agg cx).formed Tryz.prog t = true) (hfy : (Value.agg cy).formed Tryz.prog t = true)
    (hx : (Tryz.prog.keyLits D t cx.toList).isSome = true) (hy : (Tryz.prog.keyLits D t cy.toList).isSome = true) (d : Nat) (W : World) : ∃ r : Bool, (Op.equalIn (d + k) t (.agg cx) (.agg cy)).run Tryz.prog W = .ok r W ∧ (r = true ↔ cx.toList = cy.toList) := by
  obtain ⟨lx, hlx⟩ := Option.isSome_iff_exists.1 hx
  obtain ⟨ly, hly⟩ := Option.isSome_iff_exists.1 hy
  obtain ⟨r, hr, hi⟩ := run_equalIn_deep (P := Tryz.prog) d k t hk W D D (.agg cx) (.agg cy) lx ly hfx hfy hlx hly
  refine ⟨r, hr, fun h => ?_, fun h => hi.2 ?_⟩
  · rw [cells_of_lits m t hm D _ lx hlx, cells_of_lits m t hm D _ ly hly, hi.1 h]
  · rw [h, hly] at hlx
    exact (Option.some.inj hlx).symm
theorem bool_of {r : Bool} {p : Prop} [Decidable p] (h : r = true ↔ p) : r = decide p := by
  by_cases hp : p
  · rw [decide_eq_true hp]; exact h.2 hp
  · rw [decide_eq_false hp]
    cases r with
    | false => rfl
    | true => exact absurd (h.1 rfl) hp
theorem tiled24 : Tryz.prog.tiled 3 30 = true := by kernel_rfl
theorem equal_Ad {a b : Adr} (ha : okA a) (hb : okA b) (W : World) : (Op.equal 30 (.agg (ac a)) (.agg (ac b))).run Tryz.prog W = .ok (decide (a = b)) W := by
  obtain ⟨r, hr, hi⟩ := equal_of_keys (t := 30) (k := 3) (m := 3) key24 tiled24 (formed_A ha) (formed_A hb) (D := 4) (keyLits_A ha) (keyLits_A hb) 9997 W
  rw [bool_of (p := a = b) (hi.trans ⟨ac_inj, fun h => by rw [h]⟩)] at hr
  exact hr
theorem keyLits_i64 (d : Nat) {z : Int} (h : i64ok z) : Tryz.prog.keyLits (d + 1) 3 [.int .i64 z] = some [.int .i64 z] := by
  have hw : (Lit.int .i64 z).wf = true := by
    unfold i64ok at h
    simp only [Lit.wf, Bool.and_eq_true, decide_eq_true_eq, IntKind.min, IntKind.max, IntKind.bits, IntKind.signed]
    simp
    omega
  simp only [Program.keyLits, Tryz.underlying3, hw, and_self, if_true]
theorem keyLits_str (d : Nat) {s : ByteArray} (h : s.size ≤ maxLen) : Tryz.prog.keyLits (d + 1) 9 [.string s] = some [.string s.data.toList] := by
  simp only [Program.keyLits, Tryz.underlying9, h, if_true]
theorem cells_T : Tryz.prog.cellsOf 32 = 19 := by kernel_rfl
theorem cells_int : Tryz.prog.cellsOf 3 = 1 := by kernel_rfl
theorem cells_str : Tryz.prog.cellsOf 9 = 1 := by kernel_rfl
set_option maxRecDepth 8000 in
theorem keyLits_T {p : Tgt} (hp : okT p) : (Tryz.prog.keyLits 5 32 (tc p).toList).isSome = true := by
  unfold Program.keyLits
  have hl : (tc p).toList.length = 19 := by rw [Array.length_toList]; exact tc_size hp
  simp only [Tryz.underlying32]
  rw [if_pos ⟨by rw [hl, cells_T], by kernel_rfl⟩, Option.isSome_map]
  refine mapM_isSome fun f hf => ?_
  simp only [List.mem_cons, List.not_mem_nil, or_false, List.toList_toArray] at hf
  rcases hf with rfl | rfl | rfl
  · show (Tryz.prog.keyLits 4 9 (((tc p).toList.drop 0).take (Tryz.prog.cellsOf 9))).isSome = true
    rw [cells_str, tc_list, List.drop_zero, List.take_succ_cons, List.take_zero, keyLits_str 3 hp.2.2]; rfl
  · show (Tryz.prog.keyLits 4 30 (((tc p).toList.drop 1).take (Tryz.prog.cellsOf 30))).isSome = true
    rw [cells_A, tc_list, List.drop_succ_cons, List.drop_zero, List.take_left' (ac_len hp.1)]
    exact keyLits_A hp.1
  · show (Tryz.prog.keyLits 4 3 (((tc p).toList.drop 18).take (Tryz.prog.cellsOf 3))).isSome = true
    rw [cells_int, tc_list, List.drop_succ_cons, List.drop_left' (ac_len hp.1)]
    show (Tryz.prog.keyLits 4 3 [.int .i64 p.2.2]).isSome = true
    rw [keyLits_i64 3 hp.2.1]; rfl
theorem key26 : Tryz.prog.keyTypeAt 4 32 = true := by kernel_rfl
theorem formed_T {p : Tgt} (hp : okT p) : (tv p).formed Tryz.prog 32 = true := by
  simp only [Value.formed, Tryz.underlying32, cells_T, tc_size hp, beq_self_eq_true]
theorem tiled26 : Tryz.prog.tiled 4 32 = true := by kernel_rfl
theorem equal_Td {p q : Tgt} (hp : okT p) (hq : okT q) (W : World) : (Op.equal 32 (.agg (tc p)) (.agg (tc q))).run Tryz.prog W = .ok (decide (p = q)) W := by
  obtain ⟨r, hr, hi⟩ := equal_of_keys (t := 32) (k := 4) (m := 4) key26 tiled26 (formed_T hp) (formed_T hq) (D := 5) (keyLits_T hp) (keyLits_T hq) 9996 W
  rw [bool_of (p := p = q) (hi.trans ⟨tc_inj hp hq, fun h => by rw [h]⟩)] at hr
  exact hr
theorem noGuard_T : Tryz.prog.eqGuardType Tryz.prog.depth 32 = false := by kernel_rfl
theorem exec_eqAd {o : Oper} {f : Act} (x y : Operand) {t : TypeId} (ho : o.op = .binOp .eql 30 x y t) {a b : Adr} (ha : okA a) (hb : okA b) (hx : f.eval x = .agg (ac a)) (hy : f.eval y = .agg (ac b)) (w : World) :
    (execOp f.eval o).run Tryz.prog w = .ok (.value (.bool (decide (a = b)))) w := by
  unfold execOp
  rw [ho]
  have e := equal_Ad ha hb w
  have e1 : (eqGuard .eql 30 x y (.agg (ac a)) (.agg (ac b))).run Tryz.prog w = .ok () w := by
    simp [eqGuard, noGuard_A, Sem.run_bind]
  have e2 : (binOp .eql 30 (.agg (ac a)) (.agg (ac b))).run Tryz.prog w = .ok (.bool (decide (a = b))) w := by
    simp only [binOp, Sem.run_bind, e, Result.andThen_ok, Sem.run_pure]
  simp only [hx, hy, Sem.run_bind, e1, e2, Result.andThen_ok, Sem.run_pure]
theorem exec_eqTd {o : Oper} {f : Act} (x y : Operand) {t : TypeId} (ho : o.op = .binOp .eql 32 x y t) {p q : Tgt} (hp : okT p) (hq : okT q) (hx : f.eval x = .agg (tc p)) (hy : f.eval y = .agg (tc q)) (w : World) :
    (execOp f.eval o).run Tryz.prog w = .ok (.value (.bool (decide (p = q)))) w := by
  unfold execOp
  rw [ho]
  have e := equal_Td hp hq w
  have e1 : (eqGuard .eql 32 x y (.agg (tc p)) (.agg (tc q))).run Tryz.prog w = .ok () w := by
    simp [eqGuard, noGuard_T, Sem.run_bind]
  have e2 : (binOp .eql 32 (.agg (tc p)) (.agg (tc q))).run Tryz.prog w = .ok (.bool (decide (p = q))) w := by
    simp only [binOp, Sem.run_bind, e, Result.andThen_ok, Sem.run_pure]
  simp only [hx, hy, Sem.run_bind, e1, e2, Result.andThen_ok, Sem.run_pure]
section
variable {ops : Array Oper} {Q : Exit → Act → World → Prop} {md : Region.Mode} {w0 : World} {o : Oper} {rest : List Oper} {i : Nat} {plan : List Yld} {A : (Nat → Value) → Act}
theorem goV_loadT (hw : ∀ u, Region.wanted o (yielded ops (A u).tmps) = true) (x : Operand) (ho : o.op = .load 32 x)
    {b : Nat} {p : Tgt} (hp : okT p) (hb : ∀ w, Ext w0 w → TBlk w b p) (hx : ∀ u, (A u).eval x = .pointer (some ⟨b, 0, none⟩))
    (k : goV Tryz.prog ops Q md w0 rest (i + 1) (plan ++ [.val (.agg (tc p))]) (fun u => (A u).put o.dst (.agg (tc p)))) : goV Tryz.prog ops Q md w0 (o :: rest) i plan A :=
  goV_val _ hw (fun u w hx' _ => by
    have e := load_T hp (hb w hx')
    unfold execOp
    rw [ho]
    simp only [hx, Sem.run_bind, e, Result.andThen_ok, Sem.run_pure]) k
theorem goV_loadTA (hw : ∀ u, Region.wanted o (yielded ops (A u).tmps) = true) (x : Operand) (ho : o.op = .load 30 x)
    {b : Nat} {p : Tgt} (hp : okT p) (hb : ∀ w, Ext w0 w → TBlk w b p) (hx : ∀ u, (A u).eval x = .pointer (some ⟨b, 1, none⟩))
    (k : goV Tryz.prog ops Q md w0 rest (i + 1) (plan ++ [.val (.agg (ac p.2.1))]) (fun u => (A u).put o.dst (.agg (ac p.2.1)))) : goV Tryz.prog ops Q md w0 (o :: rest) i plan A :=
  goV_val _ hw (fun u w hx' _ => by
    have e := load_TA hp (hb w hx')
    unfold execOp
    rw [ho]
    simp only [hx, Sem.run_bind, e, Result.andThen_ok, Sem.run_pure]) k
theorem goV_eqAd (hw : ∀ u, Region.wanted o (yielded ops (A u).tmps) = true) (x y : Operand) {t : TypeId} (ho : o.op = .binOp .eql 30 x y t)
    {a b : Adr} (ha : okA a) (hb : okA b) {r : Bool} (h : decide (a = b) = r) (hx : ∀ u, (A u).eval x = .agg (ac a)) (hy : ∀ u, (A u).eval y = .agg (ac b))
    (k : goV Tryz.prog ops Q md w0 rest (i + 1) (plan ++ [.val (.bool r)]) (fun u => (A u).put o.dst (.bool r))) : goV Tryz.prog ops Q md w0 (o :: rest) i plan A :=
  goV_val _ hw (fun u w _ _ => by rw [← h]; exact exec_eqAd x y ho ha hb (hx u) (hy u) w) k
theorem goV_eqTd (hw : ∀ u, Region.wanted o (yielded ops (A u).tmps) = true) (x y : Operand) {t : TypeId} (ho : o.op = .binOp .eql 32 x y t)
    {p q : Tgt} (hp : okT p) (hq : okT q) {r : Bool} (h : decide (p = q) = r) (hx : ∀ u, (A u).eval x = .agg (tc p)) (hy : ∀ u, (A u).eval y = .agg (tc q))
    (k : goV Tryz.prog ops Q md w0 rest (i + 1) (plan ++ [.val (.bool r)]) (fun u => (A u).put o.dst (.bool r))) : goV Tryz.prog ops Q md w0 (o :: rest) i plan A :=
  goV_val _ hw (fun u w _ _ => by rw [← h]; exact exec_eqTd x y ho hp hq (hx u) (hy u) w) k
end
end Go.Proofs.YtpdoddelnahlnaaGreatDoor
