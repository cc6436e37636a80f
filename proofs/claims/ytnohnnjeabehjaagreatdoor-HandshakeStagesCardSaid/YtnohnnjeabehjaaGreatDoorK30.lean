/-
  Several texts joined: HtO, HuB, HuC, HoG, HcX, HcFm.
-/
import Derived.Lib.AppendStr
import Derived.Test.YtnohnnjeabehjaaGreatDoorK12
import Derived.Test.YtnohnnjeabehjaaGreatDoorK26
import Derived.Test.YtnohnnjeabehjaaGreatDoorK29
import Derived.WalkSpells
import Derived.Test.YtnohnnjeabehjaaGreatDoorK25
import Derived.Test.YtnohnnjeabehjaaGreatDoorK20
import Derived.Deep.CutBlock
import Derived.Test.YtnohnnjeabehjaaGreatDoorK28
import Derived.Lib.IndexLaws
set_option maxHeartbeats 8000000
set_option maxRecDepth 8000
set_option linter.unusedVariables false
set_option linter.unusedSimpArgs false
namespace Go.Proofs.YtnohnnjeabehjaaGreatDoor
open Go.RowKit Go.Joins
theorem add_off (g o j : Nat) : (⟨g, o, none⟩ : Addr).add j = ⟨g, o + j, none⟩ := by unfold Addr.add; split <;> simp_all
theorem wpList_appA {ops : Array Oper} {rest : List Oper} {o : Oper} {f : Act} {w : World} {Q : Exit -> Act -> World -> Prop} (hgd : o.guard = none) (x y : Operand) (ho : o.op = .call { callee := .builtin .append, args := #[x, y], argTypes := #[33, 33] })
  {base : Nat} {v : Value} {out : List UInt8} (hown : w.ownsRow base 5 1 v out.length (bcells out)) (hx : f.eval x = v) {g off m cap : Nat} {ns : List UInt8} (hm : ns.length = m) (hc : ∀ j u, (bcells ns)[j]? = some u -> w.cell? ⟨g, off + j, none⟩ = some u) (hy : f.eval y = .slice (some ⟨g, off, none⟩) m cap)
  (hl : out.length + m <= 100000000000000) (hbase : base <= w.heap.size)
  (h : ∀ a cap w', w'.ownsRow base 5 1 (.slice a (out ++ ns).length cap) (out ++ ns).length (bcells (out ++ ns)) -> w.grownBy w' v.ownBlock -> wpList Tryz.prog ops Q rest (f.put o.dst (.slice a (out ++ ns).length cap)) w') : wpList Tryz.prog ops Q (o :: rest) f w := by
 obtain ⟨i0, hi, hz0, hz1, hz2⟩ := info_parts info8
 subst hm
 refine wpList_append_own _ hgd x y 33 ho base 5 i0 (.int .u8 0) 1 1 Tryz.underlying33 hi hz0 hz1 hz2 rfl (by decide) v out.length _ hx hown ⟨g, off, none⟩ ns.length cap (bcells ns) hy (by simp [bcells]) (fun j u hj => ?_) (fun u hu => ?_) (by unfold maxLen; omega) (by omega) hbase fun v' w' h1 h2 _ => ?_
 ·rw [add_off]
  exact hc j u hj
 ·unfold bcells at hu
  obtain ⟨c, _, rfl⟩ := List.mem_map.1 hu
  rfl
 ·obtain ⟨a, cap', rfl⟩ := own_sliceX h1
  rw [← List.length_append] at h1 ⊢
  refine h a cap' w' ?_ h2
  rw [bcells_app]; exact h1
theorem wpList_appS {ops : Array Oper} {rest : List Oper} {o : Oper} {f : Act} {w : World} {Q : Exit -> Act -> World -> Prop} (hgd : o.guard = none) (x y : Operand) (ho : o.op = .call { callee := .builtin .append, args := #[x, y], argTypes := #[33, 9] })
  {base : Nat} {v : Value} {out : List UInt8} (hown : w.ownsRow base 5 1 v out.length (bcells out)) (hx : f.eval x = v) {s : ByteArray} (hy : f.eval y = .string s)
  (hl : out.length + s.size <= 100000000000000) (hbase : base <= w.heap.size)
  (h : ∀ a cap w', w'.ownsRow base 5 1 (.slice a (out ++ s.data.toList).length cap) (out ++ s.data.toList).length (bcells (out ++ s.data.toList)) -> w.grownBy w' v.ownBlock -> wpList Tryz.prog ops Q rest (f.put o.dst (.slice a (out ++ s.data.toList).length cap)) w') : wpList Tryz.prog ops Q (o :: rest) f w := by
 obtain ⟨i0, hi, hz0, hz1, hz2⟩ := info_parts info8
 refine Lib.wpList_append_own_string _ hgd x y 33 9 ho base 5 i0 Tryz.underlying33 (by kernel_rfl) hi hz0 hz1 hz2 v out.length _ hx hown s hy (by unfold maxLen; omega) (by omega) hbase fun v' w' h1 h2 _ => ?_
 obtain ⟨a, cap', rfl⟩ := own_sliceX h1
 have e : out.length + s.size = (out ++ s.data.toList).length := by rw [List.length_append, size_list]
 rw [e] at h1 ⊢
 refine h a cap' w' ?_ h2
 rw [bcells_app]; exact h1
def u8l (l : List Int) : List UInt8 := l.map fun x => UInt8.ofNat x.toNat
theorem u8l_cells {l : List Int} (h : ∀ x ∈ l, 0 <= x /\ x < 256) : bcells (u8l l) = l.map (Value.int .u8) := by
 unfold bcells u8l
 rw [List.map_map]
 refine List.map_congr_left fun x hx => ?_
 have := u8_back (h x hx).1 (h x hx).2
 simp only [Function.comp]
 rw [this]
theorem u8l_len (l : List Int) : (u8l l).length = l.length := by unfold u8l; rw [List.length_map]
theorem TBlk.octet {w : World} {b : Nat} {t : Tgt} (h : TBlk w b t) {j : Nat} {x : Int} (hx : t.2.1.2[j]? = some x) : w.cell? ⟨b, 2 + j, none⟩ = some (.int .u8 x) := by
 have e := TBlk.range h (1 + j) (.int .u8 x) (by
  unfold ac
  simp only [List.getElem?_cons]
  rw [if_neg (by omega)]
  simp [hx])
 rw [show 1 + (1 + j) = 2 + j by omega] at e
 exact e
theorem txt_u8l (l : List Int) : txt (u8l l) = strOfNums l := BA_ext (by rw [strOfNums_data]; rfl)
theorem hd_app (c : Int) (l : List Int) (a b : Int) : txt (([] ++ u8l [c]) ++ u8l l ++ u8l [a, b]) = str1 c ++ strOfNums l ++ str2 a b := by
 rw [← txt_u8l l]
 refine BA_ext ?_
 rw [data_append, data_append]
 rfl
theorem nm_app (c d : Int) (s : ByteArray) (a b : Int) : txt (([] ++ u8l [c, d]) ++ s.data.toList ++ u8l [a, b]) = str2 c d ++ s ++ str2 a b := by
 refine BA_ext ?_
 rw [data_append, data_append]
 rfl
open Go.RowKit Go.Joins
def rlL (f : Bool) : List Value := [.bool true, .string ⟨#[]⟩] ++ ((Cx.pc (pz f)).toList ++ [.int .i64 0, .int .i64 65535])
def rl2 : List Value := rlL false ++ rlL true
def rlZL : List Value := [.bool false, .string ⟨#[]⟩] ++ ((Cx.pc Cx.zpfx).toList ++ [.int .i64 0, .int .i64 0])
def rlZ : Value := .agg rlZL.toArray
theorem infoRl : (Tryz.prog.info? 113).map (fun i => (i.zero, i.size, i.bytes)) = some (some rlZ, 22, 72) := by kernel_rfl
theorem rl2_one : ∀ u ∈ rl2, u.oneCell' = true := by
 have : rl2.all (fun u => u.oneCell') = true := by decide +kernel
 exact List.all_eq_true.1 this
theorem rl2_len : rl2.length = 2 * 22 := by decide +kernel
theorem rlL_len (f : Bool) : (rlL f).length = 22 := by cases f <;> decide +kernel
def RlV (w : World) (base : Nat) (v : Value) : Prop := ∃ g cap, v = .slice (some ⟨g, 0, none⟩) 2 cap /\ w.ownsRow base 113 22 v 2 rl2
theorem RlV.of_own {w : World} {base : Nat} {v : Value} (h : w.ownsRow base 113 22 v 2 rl2) : RlV w base v := by
 rcases h.2 with ⟨_, h0⟩ | ⟨g, cap, cur, hv, _⟩
 ·omega
 ·exact ⟨g, cap, hv, h⟩
theorem RlV.ext {w w' : World} {base : Nat} {v : Value} (h : RlV w base v) (k : Ext w w') : RlV w' base v := by
 obtain ⟨g, cap, hv, ho⟩ := h
 exact ⟨g, cap, hv, own_ext ho k⟩
theorem rl2_at (k : Nat) (hk : k < 2) (j : Nat) (u : Value) (h : (rlL (decide (k = 1)))[j]? = some u) : rl2[k * 22 + j]? = some u := by
 have hj : j < 22 := by
  have := (List.getElem?_eq_some_iff.1 h).1
  rw [rlL_len] at this; exact this
 unfold rl2
 rcases (by omega : k = 0 ∨ k = 1) with rfl | rfl
 ·rw [List.getElem?_append_left (by rw [rlL_len]; omega)]
  simpa using h
 ·rw [List.getElem?_append_right (by rw [rlL_len]; omega), rlL_len, show 1 * 22 + j - 22 = j by omega]
  simpa using h
theorem own_rule {w : World} {base g cap : Nat} (h : w.ownsRow base 113 22 (.slice (some ⟨g, 0, none⟩) 2 cap) 2 rl2) {k : Nat} (hk : k < 2) : w.rangeAt g (k * 22) (rlL (decide (k = 1))) := fun j v hj => by
 have := World.ownsRow.cells h (g := g) rfl (k * 22 + j) v (rl2_at k hk j v hj)
 rw [add_off, Nat.zero_add] at this
 exact this
theorem own_keep1 {t : Nat} {w w' : World} {base : Nat} {e T : TypeId} {size : Nat} {v : Value} {n : Nat} {xs cs : List Value} (h : w.ownsRow base e size v n xs) (k : Keep [t] w w') (hb : Blk w t cs T) (hne : T ≠ e) : w'.ownsRow base e size v n xs := by
 have ho := own_ne h hb hne
 refine ⟨h.1, ?_⟩
 rcases h.2 with h1 | ⟨g, cap, cur, hv, h1, hg, h2⟩
 ·exact .inl h1
 ·refine .inr ⟨g, cap, cur, hv, h1, ?_, h2⟩
  rw [k.block g (Array.getElem?_eq_some_iff.1 hg).1 (fun hm => ?_), hg]
  rw [List.mem_singleton] at hm
  subst hm
  rw [hv] at ho
  exact ho rfl
theorem grules_any (w : World) : Calls Tryz.prog 50 #[.slice none 0 0, .int .i64 4, .bool true] w fun e w' => ∃ v, e = .returned v /\ RlV w' w.heap.size v /\ Ext w w' := by
 obtain ⟨i0, hi, hz0, hz1, hz2⟩ := info_parts infoRl
 have HI := Lib.hid hi; have HZ0 := Lib.hid hz0; have HZ1 := Lib.hid hz1; have HZ2 := Lib.hid hz2
 clear hi hz0 hz1 hz2
 go_enter Tryz.func50, Tryz.ntmps50
 go_wp2_with fail
 go_loop [7, 8] (fun v i => v = .slice none 0 0 /\ i = .int .i64 0) (fun _ i => 0)
 case atStart => exact ⟨rfl, rfl⟩
 case round =>
  obtain ⟨rfl, rfl⟩ := hrel
  go_upto_region 7 with fail
  go_wp2_with (at_builtin; refine wpList_append_own _ rfl _ _ 60 rfl w.heap.size 113 i0 rlZ 22 72 Tryz.underlying60 HI.out HZ0.out HZ1.out HZ2.out rfl (by decide) (.slice none 0 0) 0 [] rfl (World.ownsRow_nil _ _ _ _) ⟨w.heap.size, 0, none⟩ 2 2 rl2 rfl rl2_len (fun j u hj => by rw [add_off, Nat.zero_add]; exact (Blk.new w rl2.toArray 113).cell hj) rl2_one (by unfold maxLen; omega) (by omega) (by rw [World.size_alloc]; omega) ?_; intro v' w1 hown hg _)
  go_ret
  exact ⟨_, rfl, RlV.of_own hown, Ext.grown ((Ext.refl w).alloc _) hg (fun g hg => by cases hg)⟩
theorem clone_any (v : Value) {w : World} {base : Nat} (hv : RlV w base v) : Calls Tryz.prog 94 #[v] w fun e w' => ∃ v', e = .returned v' /\ RlV w' w.heap.size v' /\ Ext w w' := by
 obtain ⟨g, cap, rfl, hown⟩ := hv
 obtain ⟨i0, hi, hz0, hz1, hz2⟩ := info_parts infoRl
 have HI := Lib.hid hi; have HZ0 := Lib.hid hz0; have HZ1 := Lib.hid hz1; have HZ2 := Lib.hid hz2
 have HO := Lib.hid hown
 clear hi hz0 hz1 hz2 hown
 have q22 : ∀ (w : World) (a : Option Addr) (n c n' c' : Nat), (binOp .eql 60 (.slice a n c) (.slice none n' c')).run Tryz.prog w = .ok (.bool a.isNone) w := fun w a n c n' c' => Lib.run_eql_slice_nil w _ _ a n c n' c' Tryz.underlying60
 go_enter Tryz.func94, Tryz.ntmps94
 go_upto_region 3 with fail
 go_wp2_with (at_builtin; refine wpList_append_own _ rfl _ _ 60 rfl w.heap.size 113 i0 rlZ 22 72 Tryz.underlying60 HI.out HZ0.out HZ1.out HZ2.out rfl (by decide) _ 0 [] rfl (World.ownsRow_made w #[] 0 (Nat.le_refl _) (Nat.zero_le _) rfl) ⟨g, 0, none⟩ 2 cap rl2 rfl rl2_len (fun j u hj => World.ownsRow.cells (HO.out.alloc _) (g := g) rfl j u hj) rl2_one (by unfold maxLen; omega) (by omega) (by rw [World.size_alloc]; omega) ?_; intro v' w1 hown hg _)
 go_ret
 exact ⟨_, rfl, RlV.of_own hown, Ext.grown ((Ext.refl w).alloc _) hg (fun g hg => by cases hg; exact Nat.le_refl _)⟩
open Go.RowKit Go.Joins
abbrev RB (w : World) (b : Nat) (f : Bool) : Prop := Blk w b (rlL f) 113
theorem info_Rl : (Tryz.prog.info? 113).map (·.size) = some 22 := by kernel_rfl
theorem rlL_one (f : Bool) : (rlL f).toArray.all (·.oneCell') = true := by cases f <;> decide +kernel
theorem RB.pre {w : World} {b : Nat} {f : Bool} (h : RB w b f) : w.rangeAt b 2 (Cx.pc (pz f)).toList := Blk.mid (pre := [.bool true, .string ⟨#[]⟩]) (mid := (Cx.pc (pz f)).toList) (post := [.int .i64 0, .int .i64 65535]) h rfl
theorem wpList_load_Pm {ops : Array Oper} {rest : List Oper} {o : Oper} {a : Act} {w : World} {Q : Exit -> Act -> World -> Prop} (hgd : o.guard = none) (x : Operand) (ho : o.op = .load 111 x)
  {b k : Nat} {p : Cx.Pfx} (hp : Cx.okP p) (hr : w.rangeAt b k (Cx.pc p).toList) (hx : a.eval x = .pointer (some ⟨b, k, none⟩)) (hn : wpList Tryz.prog ops Q rest (a.put o.dst (Cx.pv p)) w) : wpList Tryz.prog ops Q (o :: rest) a w :=
 wpList_load_mid hgd 111 x ho b k hx (Cx.pc p).toList _ hr Tryz.underlying111 rfl (by rw [Cx.info_P, Array.length_toList, Cx.pc_size hp]) hn
theorem wpList_load_R {ops : Array Oper} {rest : List Oper} {o : Oper} {a : Act} {w : World} {Q : Exit -> Act -> World -> Prop} (hgd : o.guard = none) (x : Operand) (ho : o.op = .load 113 x)
  {b k : Nat} {f : Bool} (hr : w.rangeAt b k (rlL f)) (hx : a.eval x = .pointer (some ⟨b, k, none⟩)) (hn : wpList Tryz.prog ops Q rest (a.put o.dst (.agg (rlL f).toArray)) w) : wpList Tryz.prog ops Q (o :: rest) a w :=
 wpList_load_mid hgd 113 x ho b k hx (rlL f) _ hr Tryz.underlying113 rfl (by rw [info_Rl, rlL_len]) hn
theorem RB.range {w : World} {b : Nat} {f : Bool} (h : RB w b f) : w.rangeAt b 0 (rlL f) := Blk.mid (pre := []) (mid := rlL f) (post := []) (by simpa using h) rfl
theorem wpList_store_R {ops : Array Oper} {rest : List Oper} {o : Oper} {a : Act} {w : World} {Q : Exit -> Act -> World -> Prop} (hgd : o.guard = none) (x y : Operand) (ho : o.op = .store 113 x y)
  {c : Nat} {z : List Value} (hz : z.length = 22) {f : Bool} (hb : Blk w c z 113) (hx : a.eval x = .pointer (some ⟨c, 0, none⟩)) (hy : a.eval y = .agg (rlL f).toArray) (h : wpList Tryz.prog ops Q rest (a.put o.dst undef) (w.setRow c (rlL f).toArray)) : wpList Tryz.prog ops Q (o :: rest) a w :=
 wpList_plain hgd fun _ hK => wp_store_row 113 x y ho c (rlL f).toArray hx hy 113 z.toArray hb (by rw [info_Rl, List.size_toArray, rlL_len]) (by rw [List.size_toArray, List.size_toArray, rlL_len, hz]) (rlL_one f) (hK _ _ h)
theorem vrule_any (f : Bool) (w : World) : Calls Tryz.prog 96 #[.agg (rlL f).toArray] w fun e w' => e = .returned (.bool true) /\ Ext w w' := by
 have KV0 := fun w => Cx.cvalid_any (pz f) (okP_pz f) w
 rw [valid_pz] at KV0
 have KV := Lib.hid KV0
 clear KV0
 go_enter Tryz.func96, Tryz.ntmps96
 go_upto_region 1 with fail
 have hb : RB _ w.heap.size f := Blk.new w (rlL f).toArray 113
 have hx := (Ext.refl w).alloc (.cells (rlL f).toArray 113)
 generalize w.alloc (.cells (rlL f).toArray 113) = w0 at *
 generalize w.heap.size = b at *
 have c1 : w0.cell? ⟨b, 1, none⟩ = some (.string ⟨#[]⟩) := Blk.cell hb rfl
 have c20 : w0.cell? ⟨b, 20, none⟩ = some (.int .i64 0) := Blk.cell hb (by cases f <;> rfl)
 have c21 : w0.cell? ⟨b, 21, none⟩ = some (.int .i64 65535) := Blk.cell hb (by cases f <;> rfl)
 have hr := RB.pre hb
 go_wp2_with (first | refine wpList_load_Pm rfl _ rfl (okP_pz f) hr rfl ?_ | (go_at_call 121; refine (KV.out _).mono ?_; rintro e w1 ⟨rfl, hx1⟩))
 go_ret
 exact ⟨rfl, hx.trans hx1⟩
section
variable {ops : Array Oper} {Q : Exit -> Act -> World -> Prop} {md : Region.Mode} {w0 : World} {o : Oper} {rest : List Oper} {i : Nat} {plan : List Yld} {A : (Nat -> Value) -> Act}
theorem exec_load_Pm {o : Oper} {a : Act} (x : Operand) (ho : o.op = .load 111 x) {b k : Nat} {p : Cx.Pfx} (hp : Cx.okP p) (hx : a.eval x = .pointer (some ⟨b, k, none⟩)) {w : World} (hr : w.rangeAt b k (Cx.pc p).toList) :
  (execOp a.eval o).run Tryz.prog w = .ok (.value (Cx.pv p)) w := by
 have e := run_loadAt_mid (P := Tryz.prog) w b k 111 (Cx.pc p).toList _ hr Tryz.underlying111 rfl (by rw [Cx.info_P, Array.length_toList, Cx.pc_size hp])
 unfold execOp
 rw [ho]
 simp only [hx, Sem.run_bind, e, Result.andThen_ok, Sem.run_pure]
theorem goV_loadPm (hw : ∀ u, Region.wanted o (yielded ops (A u).tmps) = true) (x : Operand) (ho : o.op = .load 111 x)
  {b k : Nat} {p : Cx.Pfx} (hp : Cx.okP p) (hb : ∀ w, Ext w0 w -> w.rangeAt b k (Cx.pc p).toList) (hx : ∀ u, (A u).eval x = .pointer (some ⟨b, k, none⟩))
  (n : goV Tryz.prog ops Q md w0 rest (i + 1) (plan ++ [.val (Cx.pv p)]) (fun u => (A u).put o.dst (Cx.pv p))) : goV Tryz.prog ops Q md w0 (o :: rest) i plan A :=
 goV_val _ hw (fun u w hx' _ => exec_load_Pm x ho hp (hx u) (hb w hx')) n
end
theorem infoN : (Tryz.prog.info? 3).map (fun i => (i.zero, i.size, i.bytes)) = some (some (.int .i64 0), 1, 8) := by kernel_rfl
def AclRel (w : World) (base x t : Nat) (v : Value) (k : Nat) (wr : World) : Prop :=
 ∃ a b : Value, TrB wr t a b k /\ (k <= 0 -> a = .pointer none) /\ (k <= 1 -> b = .pointer none) /\ Blk wr x [v, .pointer (some ⟨t, 0, none⟩)] 138 /\ wr.ownsRow base 113 22 v 2 rl2 /\ Ext w wr
def AclP (w : World) (e : Ending) (w' : World) : Prop := ∃ x : Nat, e = .returned (.tuple #[.pointer (some ⟨x, 0, none⟩), .int .i64 0]) /\ Ext w w'
theorem aclnew_any (v : Value) {w : World} {base : Nat} (hv : RlV w base v) : Calls Tryz.prog 70 #[v] w fun e w' => AclP w e w' := by
 have KC := Lib.hid (clone_any v hv)
 have KT := Lib.hid tnew_any
 have KV := Lib.hid vrule_any
 obtain ⟨g, cap, rfl, hown⟩ := hv
 clear hown
 go_enter Tryz.func70, Tryz.ntmps70
 go_upto_region 4 with (first | (go_at_call 94; refine KC.out.mono ?_; rintro e w1 ⟨v1, rfl, hv1, hx1⟩; obtain ⟨g1, cap1, rfl, hown1⟩ := hv1) | (go_at_call 95; refine (KT.out _).mono ?_; rintro e w2 ⟨rfl, hx2, ht2⟩))
 have hown2 := own_ext hown1 hx2
 have hB := Blk.new w2 #[.slice (some ⟨g1, 0, none⟩) 2 cap1, .pointer (some ⟨w1.heap.size, 0, none⟩)] 138
 have hx3 := (Ext.refl w2).alloc (.cells #[.slice (some ⟨g1, 0, none⟩) 2 cap1, .pointer (some ⟨w1.heap.size, 0, none⟩)] 138)
 have ht3 := Blk.ext ht2 hx3
 have hown3 := own_ext hown2 hx3
 have hxx := (hx1.trans hx2).trans hx3
 have hlt := Blk.lt ht2
 have htw : w.heap.size <= w1.heap.size := hx1.size
 have hxt : w2.heap.size ≠ w1.heap.size := by omega
 have hxw : w.heap.size <= w2.heap.size := by omega
 generalize w2.alloc (.cells #[.slice (some ⟨g1, 0, none⟩) 2 cap1, .pointer (some ⟨w1.heap.size, 0, none⟩)] 138) = w3 at *
 clear hown1 hown2 hx1 hx2 ht2 hx3 KC KT
 generalize w1.heap.size = t at *
 generalize w2.heap.size = x at *
 have cx : w3.cell? ⟨x, 0, none⟩ = some (.slice (some ⟨g1, 0, none⟩) 2 cap1) := hB.cell rfl
 go_wp2_with fail
 clear cx
 go_loopw [22] (fun i wr => ∃ k : Nat, k <= 2 /\ i = .int .i64 k /\ AclRel w w.heap.size x t (.slice (some ⟨g1, 0, none⟩) 2 cap1) k wr) (fun i _ => 2 - (intOf i).toNat)
 case atStart => exact ⟨0, Nat.zero_le _, rfl, _, _, ht3, fun _ => rfl, fun _ => rfl, hB, hown3, hxx⟩
 case round =>
  clear ht3 hB hown3 hxx hlt
  obtain ⟨k, hk, rfl, a, b, ht, ha, hb0, hB, hown, hxx⟩ := hrel
  by_cases hlt : k < 2
  ·have hlt' : (k : Int) < 2 := by omega
   have hr := own_rule hown hlt
   generalize hfk : decide (k = 1) = f at *
   have hlr : ∀ w4 : World, Blk (w4.alloc (.cells rlZL.toArray 113)) w4.heap.size rlZL 113 := fun w4 => Blk.new w4 rlZL.toArray 113
   have hbz := hlr wr
   have hr2 : (wr.alloc (.cells rlZL.toArray 113)).rangeAt g1 (k * 22) (rlL f) := fun j u hj => by
    rw [← hr j u hj]
    exact ((Ext.refl wr).alloc (.cells rlZL.toArray 113)).cell (World.block_lt_of_cell? _ _ (hr j u hj))
   go_upto_region 7 with (first | refine wpList_load_R rfl _ rfl hr rfl ?_ | refine wpList_store_R rfl _ _ rfl rfl hbz rfl rfl ?_)
   change Code.wp _ _ _ _ ((wr.alloc (.cells rlZL.toArray 113)).setRow wr.heap.size (rlL f).toArray)
   rw [World.setRow_alloc_new]
   have hx4 := (Ext.refl wr).alloc (.cells (rlL f).toArray 113)
   have hRB : RB _ wr.heap.size f := Blk.new wr (rlL f).toArray 113
   have ht4 := Blk.ext ht hx4
   have hB4 := Blk.ext hB hx4
   have hown4 := own_ext hown hx4
   have hxx4 := hxx.trans hx4
   have hroot : rootV f a b = .pointer none := by
    rcases (by omega : k = 0 ∨ k = 1) with rfl | rfl
    ·have e : f = false := by rw [← hfk]; decide
     subst e; exact ha (Nat.le_refl _)
    ·have e : f = true := by rw [← hfk]; decide
     subst e; exact hb0 (Nat.le_refl _)
   have hbt : wr.heap.size ≠ t := by have := Blk.lt ht; omega
   have HR := Lib.hid hroot
   have HF := Lib.hid hfk
   have HB0 := Lib.hid hb0
   clear hx4 ht hB hown hxx hlr hbz hr2 hr hroot hfk ha hb0
   generalize wr.alloc (.cells (rlL f).toArray 113) = w4 at *
   generalize wr.heap.size = rb at *
   have hrg := RB.range hRB
   go_upto_region 9 with (first | refine wpList_load_R rfl _ rfl hrg rfl ?_ | (go_at_call 96; refine (KV.out f _).mono ?_; rintro e w5 ⟨rfl, hx5⟩))
   replace hRB := Blk.ext hRB hx5
   replace ht4 := Blk.ext ht4 hx5
   replace hB4 := Blk.ext hB4 hx5
   replace hown4 := own_ext hown4 hx5
   replace hxx4 := hxx4.trans hx5
   clear hrg hx5
   have c1 : w5.cell? ⟨rb, 1, none⟩ = some (.string ⟨#[]⟩) := Blk.cell hRB rfl
   go_upto_region 10 with fail
   clear c1
   have KG := fun (w' : World) (h : Ext w5 w') => tget_any t (pz f) (okP_pz f) rfl (valid_pz f) (Blk.ext ht4 h) HR.out
   have F1 : ∀ w', Ext w5 w' -> w'.cell? ⟨x, 1, none⟩ = some (.pointer (some ⟨t, 0, none⟩)) := fun w' h => Blk.cell (Blk.ext hB4 h) rfl
   have F2 : ∀ w', Ext w5 w' -> w'.rangeAt rb 2 (Cx.pc (pz f)).toList := fun w' h => RB.pre (Blk.ext hRB h)
   have hpz := okP_pz f
   refine wp_region_rg w5 (by kernel_rfl) (by kernel_rfl) (Ext.refl _) ?_
   iterate 3
    first
     | (apply goV_skip (by intro u; rfl))
     | (apply goV_val _ (by intro u; rfl); · (intro u w hSw hF; go_simp; try with_reducible rfl))
    try simp only [aput, List.set]
   first
    | (apply goV_skip (by intro u; rfl))
    | (apply goV_val (.pointer (some ⟨t, 0, none⟩)) (by intro u; rfl); · (intro u w hSw hF; have c0 := F1 w hSw; go_simp))
   try simp only [aput, List.set]
   first
    | (apply goV_skip (by intro u; rfl))
    | (apply goV_val _ (by intro u; rfl); · (intro u w hSw hF; go_simp; try with_reducible rfl))
   try simp only [aput, List.set]
   apply goV_loadPm (by intro u; rfl) _ rfl hpz F2 (by intro u; rfl)
   try simp only [aput, List.set]
   first
    | (apply goV_skip (by intro u; rfl))
    | (apply goV_call (by intro u; rfl) KG; · (intro u w hSw hF; go_simp; try with_reducible rfl))
   try simp only [aput, List.set]
   iterate 5
    first
     | (apply goV_skip (by intro u; rfl))
     | (apply goV_val _ (by intro u; rfl); · (intro u w hSw hF; go_simp; try with_reducible rfl))
    try simp only [aput, List.set]
   intro u w6 hx6 _
   replace hRB := Blk.ext hRB hx6
   replace ht4 := Blk.ext ht4 hx6
   replace hB4 := Blk.ext hB4 hx6
   replace hown4 := own_ext hown4 hx6
   replace hxx4 := hxx4.trans hx6
   clear KG F1 F2 hx6
   go_upto_region 11 with fail
   have S1 : ∀ w' : World, (w'.cell? ⟨x, 1, none⟩ = some (.pointer (some ⟨t, 0, none⟩)) /\ w'.rangeAt rb 2 (Cx.pc (pz f)).toList) -> w'.cell? ⟨x, 1, none⟩ = some (.pointer (some ⟨t, 0, none⟩)) := fun _ h => h.1
   have hS0 : ∀ {w' : World}, Blk w' x [.slice (some ⟨g1, 0, none⟩) 2 cap1, .pointer (some ⟨t, 0, none⟩)] 138 -> RB w' rb f -> (w'.cell? ⟨x, 1, none⟩ = some (.pointer (some ⟨t, 0, none⟩)) /\ w'.rangeAt rb 2 (Cx.pc (pz f)).toList) := fun h1 h2 => ⟨Blk.cell h1 rfl, RB.pre h2⟩
   have d6 : Ext w6 w6.drew := (Ext.refl w6).drew
   replace hRB := Blk.ext hRB d6
   replace ht4 := Blk.ext ht4 d6
   replace hB4 := Blk.ext hB4 d6
   replace hown4 := own_ext hown4 d6
   replace hxx4 := hxx4.trans d6
   refine wp_region_rge (fun w' => w'.cell? ⟨x, 1, none⟩ = some (.pointer (some ⟨t, 0, none⟩)) /\ w'.rangeAt rb 2 (Cx.pc (pz f)).toList) [8, 9, 10] [0, 1, 2, 3, 4, 5, 6, 7, 8, 9, 10] (by kernel_rfl) (by kernel_rfl) (hS0 hB4 hRB) ?_
   clear d6
   generalize w6.drew = w7 at *
   iterate 3
    first
     | (apply goE_skip rfl rfl (by rfl))
     | (apply goE_val _ rfl rfl (by rfl); · (intro w hSw; go_simp; try with_reducible rfl))
    try simp only [aput, List.set]
   first
    | (apply goE_skip rfl rfl (by rfl))
    | (apply goE_val (.pointer (some ⟨t, 0, none⟩)) rfl rfl (by rfl); · (intro w hSw; have c0 := S1 w hSw; go_simp))
   try simp only [aput, List.set]
   first
    | (apply goE_skip rfl rfl (by rfl))
    | (apply goE_val _ rfl rfl (by rfl); · (intro w hSw; go_simp; try with_reducible rfl))
   try simp only [aput, List.set]
   apply goE_val (Cx.pv (pz f)) rfl rfl (by rfl) (fun w' h => exec_load_Pm _ rfl hpz rfl h.2)
   try simp only [aput, List.set]
   iterate 2
    first
     | (apply goE_skip rfl rfl (by rfl))
     | (apply goE_val _ rfl rfl (by rfl); · (intro w hSw; go_simp; try with_reducible rfl))
    try simp only [aput, List.set]
   apply goE_eff rfl rfl
   go_wp2
   have hx8 := (Ext.refl w7).alloc (.cells #[.int .i64 k] 3)
   refine ⟨rfl, rfl, hS0 (Blk.ext hB4 hx8) (Blk.ext hRB hx8), ?_⟩
   have hL := Blk.new w7 #[.int .i64 k] 3
   replace hRB := Blk.ext hRB hx8
   replace ht4 := Blk.ext ht4 hx8
   replace hB4 := Blk.ext hB4 hx8
   replace hown4 := own_ext hown4 hx8
   replace hxx4 := hxx4.trans hx8
   clear hx8
   generalize w7.alloc (.cells #[.int .i64 k] 3) = w8 at *
   generalize w7.heap.size = lb at *
   obtain ⟨i0, hi, hz0, hz1, hz2⟩ := info_parts infoN
   apply goE_eff rfl rfl
   refine wpList_append_own _ rfl _ _ 22 rfl w8.heap.size 3 i0 (.int .i64 0) 1 8 Tryz.underlying22 hi hz0 hz1 hz2 rfl (by decide) (.slice none 0 0) 0 [] rfl (World.ownsRow_nil _ _ _ _) ⟨lb, 0, none⟩ 1 1 [.int .i64 k] rfl rfl (fun j u hj => by rw [add_off, Nat.zero_add]; exact hL.cell hj) (by intro u hu; rw [List.mem_singleton] at hu; subst hu; rfl) (by unfold maxLen; omega) (by omega) (Nat.le_refl _) ?_
   intro v' w9 hown9 hg9 _
   have hx9 : Ext w8 w9 := Ext.grown (Ext.refl w8) hg9 (fun g hg => by cases hg)
   obtain ⟨va, vc, rfl⟩ := own_sliceX hown9
   replace hRB := Blk.ext hRB hx9
   replace ht4 := Blk.ext ht4 hx9
   replace hB4 := Blk.ext hB4 hx9
   replace hown4 := own_ext hown4 hx9
   replace hxx4 := hxx4.trans hx9
   clear hx9 hL hown9 hg9 hi hz0 hz1 hz2
   refine effQ_end rfl (hS0 hB4 hRB) ?_
   have KI := Lib.hid (tins_any t f va (0 + 1) vc (n := (k : Int)) (by omega) ht4 HR.out)
   apply goE_eff rfl rfl
   go_wp2_with (go_at_call 98; refine KI.out.mono ?_; rintro e w10 ⟨m, rfl, hk10, ht10⟩)
   have hB10 : Blk w10 x [.slice (some ⟨g1, 0, none⟩) 2 cap1, .pointer (some ⟨t, 0, none⟩)] 138 := Blk.keep hB4 hk10 (by simp; exact hxt)
   have hRB10 : RB w10 rb f := Blk.keep hRB hk10 (by simp; exact hbt)
   refine ⟨rfl, rfl, hS0 hB10 hRB10, ?_⟩
   have hown10 := own_keep1 hown4 hk10 ht4 (by decide)
   have hxx10 : Ext w w10 := Keep.ext ((hxx4.keep [t]).trans hk10) (fun y hy => by rw [List.mem_singleton] at hy; subst hy; exact htw)
   unfold goE
   clear KI S1 hB4 hRB ht4 hown4 hxx4 hk10 hS0 hRB10
   go_wp2_with fail
   go_roundw
   case rel =>
    refine ⟨k + 1, by omega, by go_num, _, _, ht10, fun h => by omega, fun h => ?_, hB10, hown10, hxx10⟩
    have e : k = 0 := by omega
    have e2 : f = false := by rw [← HF.out, e]; rfl
    subst e2
    exact HB0.out (by omega)
   case measure => simp [intOf]; omega
  ·obtain rfl : k = 2 := by omega
   have hnl : ¬ ((2 : Nat) : Int) < 2 := by omega
   go_wp2_with fail
   exact bodyPost_ret (res2t rfl) rfl ⟨x, rfl, hxx⟩
open Go.RowKit
def modI (v n : Int) : Int := wrap64 ((IntKind.u64.wrap v).tmod (IntKind.u64.wrap n))
theorem mod_any (v : Int) (n : Int) (w : World) (hn : IntKind.u64.wrap n ≠ 0) : Calls Tryz.prog 21 #[.int .i64 v, .int .i64 n] w fun e w' => e = .returned (.int .i64 (modI v n)) /\ Ext w w' := by
 go_enter Tryz.func21, Tryz.ntmps21
 go_wp2
 all_goals go_ret
 all_goals exact ⟨rfl, Ext.refl _⟩
theorem modI_bd (v : Int) {n : Int} (h0 : 0 < n) (h1 : n <= 9223372036854775807) : 0 <= modI v n /\ modI v n < n := by
 unfold modI
 have e : IntKind.u64.wrap n = n := by rw [IntKind.wrap_u64]; omega
 rw [e]
 exact cut_bd v n h0 h1
theorem u64_ne {n : Int} (h0 : 0 < n) (h1 : n <= 9223372036854775807) : IntKind.u64.wrap n ≠ 0 := by
 rw [IntKind.wrap_u64]; omega
theorem gaddr_any (n : Int) (w : World) : Calls Tryz.prog 37 #[.int .i64 n] w fun e w' => ∃ a, okA a /\ validA a = true /\ e = .returned (av a) /\ Ext w w' := by
 have M1 := Lib.hid (fun w => mod_any n 14 w (by decide))
 go_enter Tryz.func37, Tryz.ntmps37
 go_upto_region 1 with fail
 rw [← ac_zadr]
 have hx := (Ext.refl w).alloc (.cells (ac zadr) 41)
 have hr := Blk.new w (ac zadr) 41
 generalize w.alloc (.cells (ac zadr) 41) = w2 at *
 go_wp2_with (go_at_call 21; refine (M1.out _).mono ?_; rintro e w1 ⟨rfl, hx1'⟩; refine Hid.out ?_)
 refine Lib.hid ?_
 have hr1 := hr.ext hx1'
 have hx1 := hx.trans hx1'
 clear hr hx hx1' M1
 generalize modI n 14 = M at *
 have hkb : 0 <= n / 16 % 256 /\ n / 16 % 256 < 256 := by omega
 have c8 : (0 : Int) <= 8 /\ (8 : Int) < 256 := by omega
 have c4 : (0 : Int) <= 4 /\ (4 : Int) < 256 := by omega
 have c9 : (0 : Int) <= 9 /\ (9 : Int) < 256 := by omega
 have c1 : (0 : Int) <= 1 /\ (1 : Int) < 256 := by omega
 have c2 : (0 : Int) <= 2 /\ (2 : Int) < 256 := by omega
 have c3 : (0 : Int) <= 3 /\ (3 : Int) < 256 := by omega
 have c10 : (0 : Int) <= 10 /\ (10 : Int) < 256 := by omega
 have c0 : (0 : Int) <= 0 /\ (0 : Int) < 256 := by omega
 have c127 : (0 : Int) <= 127 /\ (127 : Int) < 256 := by omega
 cases h0 : (M == 0)
 case true =>
  go_wp2_with (first | (go_at_call 57; refine (rV4_any (a := 8) (b := 8) (c := 8) (d := 8) c8 c8 c8 c8 _).mono ?_; rintro e w3 ⟨rfl, hx3⟩; have hr3 := hr1.ext hx3; have hxx := hx1.trans hx3) | refine wpList_store_A rfl _ _ rfl okA_zadr (okA_v4 c8 c8 c8 c8) hr3 rfl rfl ?_)
  refine bodyPost_ret (res_A rfl rfl (okA_v4 c8 c8 c8 c8) (hr3.row _)) rfl ⟨_, okA_v4 c8 c8 c8 c8, rfl, rfl, hxx.setRow (Nat.le_refl _) _⟩
 cases h1 : (M == 1)
 case true =>
  go_wp2_with (first | (go_at_call 57; refine (rV4_any (a := 8) (b := 8) (c := 4) (d := 4) c8 c8 c4 c4 _).mono ?_; rintro e w3 ⟨rfl, hx3⟩; have hr3 := hr1.ext hx3; have hxx := hx1.trans hx3) | refine wpList_store_A rfl _ _ rfl okA_zadr (okA_v4 c8 c8 c4 c4) hr3 rfl rfl ?_)
  refine bodyPost_ret (res_A rfl rfl (okA_v4 c8 c8 c4 c4) (hr3.row _)) rfl ⟨_, okA_v4 c8 c8 c4 c4, rfl, rfl, hxx.setRow (Nat.le_refl _) _⟩
 cases h2 : (M == 2)
 case true =>
  go_wp2_with (first | (go_at_call 57; refine (rV4_any (a := 9) (b := 1) (c := 2) (d := 3) c9 c1 c2 c3 _).mono ?_; rintro e w3 ⟨rfl, hx3⟩; have hr3 := hr1.ext hx3; have hxx := hx1.trans hx3) | refine wpList_store_A rfl _ _ rfl okA_zadr (okA_v4 c9 c1 c2 c3) hr3 rfl rfl ?_)
  refine bodyPost_ret (res_A rfl rfl (okA_v4 c9 c1 c2 c3) (hr3.row _)) rfl ⟨_, okA_v4 c9 c1 c2 c3, rfl, rfl, hxx.setRow (Nat.le_refl _) _⟩
 cases h3 : (M == 3)
 case true =>
  go_wp2_with (first | (go_at_call 57; refine (rV4_any (a := 10) (b := 0) (c := 0) (d := 1) c10 c0 c0 c1 _).mono ?_; rintro e w3 ⟨rfl, hx3⟩; have hr3 := hr1.ext hx3; have hxx := hx1.trans hx3) | refine wpList_store_A rfl _ _ rfl okA_zadr (okA_v4 c10 c0 c0 c1) hr3 rfl rfl ?_)
  refine bodyPost_ret (res_A rfl rfl (okA_v4 c10 c0 c0 c1) (hr3.row _)) rfl ⟨_, okA_v4 c10 c0 c0 c1, rfl, rfl, hxx.setRow (Nat.le_refl _) _⟩
 cases h4 : (M == 4)
 case true =>
  go_wp2_with (first | (go_at_call 57; refine (rV4_any (a := 127) (b := 0) (c := 0) (d := 1) c127 c0 c0 c1 _).mono ?_; rintro e w3 ⟨rfl, hx3⟩; have hr3 := hr1.ext hx3; have hxx := hx1.trans hx3) | refine wpList_store_A rfl _ _ rfl okA_zadr (okA_v4 c127 c0 c0 c1) hr3 rfl rfl ?_)
  refine bodyPost_ret (res_A rfl rfl (okA_v4 c127 c0 c0 c1) (hr3.row _)) rfl ⟨_, okA_v4 c127 c0 c0 c1, rfl, rfl, hxx.setRow (Nat.le_refl _) _⟩
 cases h5 : (M == 5)
 case true =>
  go_wp2_with (first | (go_at_call 57; refine (rV4_any (a := 8) (b := 9) (c := 0) (d := (n / 16 % 256)) c8 c9 c0 hkb _).mono ?_; rintro e w3 ⟨rfl, hx3⟩; have hr3 := hr1.ext hx3; have hxx := hx1.trans hx3) | refine wpList_store_A rfl _ _ rfl okA_zadr (okA_v4 c8 c9 c0 hkb) hr3 rfl rfl ?_)
  refine bodyPost_ret (res_A rfl rfl (okA_v4 c8 c9 c0 hkb) (hr3.row _)) rfl ⟨_, okA_v4 c8 c9 c0 hkb, rfl, rfl, hxx.setRow (Nat.le_refl _) _⟩
 cases h6 : (M == 6)
 case true =>
  have hok : okA ((true, [32, 1, 13, 184, 0, 0, 0, 0, 0, 0, 0, 0, 0, 0, 0, n / 16 % 256]) : Adr) := ⟨rfl, fun x hx => by simp at hx; omega⟩
  go_wp2_with (first | refine wpList_store_A rfl _ _ rfl okA_zadr hok hr1 rfl rfl ?_)
  refine bodyPost_ret (res_A rfl rfl hok (hr1.row _)) rfl ⟨_, hok, rfl, rfl, hx1.setRow (Nat.le_refl _) _⟩
 cases h7 : (M == 7)
 case true =>
  have hok : okA ((true, [42, 0, 0, 0, 0, 0, 0, 0, 0, 0, 0, 0, 0, 0, 0, 5]) : Adr) := ⟨rfl, fun x hx => by simp at hx; omega⟩
  go_wp2_with (first | refine wpList_store_A rfl _ _ rfl okA_zadr hok hr1 rfl rfl ?_)
  refine bodyPost_ret (res_A rfl rfl hok (hr1.row _)) rfl ⟨_, hok, rfl, rfl, hx1.setRow (Nat.le_refl _) _⟩
 cases h8 : (M == 8)
 case true =>
  have hok : okA ((true, [254, 128, 0, 0, 0, 0, 0, 0, 0, 0, 0, 0, 0, 0, 0, 1]) : Adr) := ⟨rfl, fun x hx => by simp at hx; omega⟩
  go_wp2_with (first | refine wpList_store_A rfl _ _ rfl okA_zadr hok hr1 rfl rfl ?_)
  refine bodyPost_ret (res_A rfl rfl hok (hr1.row _)) rfl ⟨_, hok, rfl, rfl, hx1.setRow (Nat.le_refl _) _⟩
 cases h9 : (M == 9)
 case true =>
  have hok : okA ((true, [0, 0, 0, 0, 0, 0, 0, 0, 0, 0, 255, 255, 8, 8, 8, 8]) : Adr) := ⟨rfl, fun x hx => by simp at hx; omega⟩
  go_wp2_with (first | refine wpList_store_A rfl _ _ rfl okA_zadr hok hr1 rfl rfl ?_)
  refine bodyPost_ret (res_A rfl rfl hok (hr1.row _)) rfl ⟨_, hok, rfl, rfl, hx1.setRow (Nat.le_refl _) _⟩
 cases h10 : (M == 10)
 case true =>
  have hok : okA ((true, [32, 2, 0, 0, 0, 0, 0, 0, 0, 0, 0, 0, 0, 0, 0, 1]) : Adr) := ⟨rfl, fun x hx => by simp at hx; omega⟩
  go_wp2_with (first | refine wpList_store_A rfl _ _ rfl okA_zadr hok hr1 rfl rfl ?_)
  refine bodyPost_ret (res_A rfl rfl hok (hr1.row _)) rfl ⟨_, hok, rfl, rfl, hx1.setRow (Nat.le_refl _) _⟩
 cases h11 : (M == 11)
 case true =>
  have hok : okA ((true, [0, 0, 0, 0, 0, 0, 0, 0, 0, 0, 0, 0, 0, 0, 0, 1]) : Adr) := ⟨rfl, fun x hx => by simp at hx; omega⟩
  go_wp2_with (first | refine wpList_store_A rfl _ _ rfl okA_zadr hok hr1 rfl rfl ?_)
  refine bodyPost_ret (res_A rfl rfl hok (hr1.row _)) rfl ⟨_, hok, rfl, rfl, hx1.setRow (Nat.le_refl _) _⟩
 cases h12 : (M == 12)
 case true =>
  have hok : okA ((true, [32, 1, 0, 0, 0, 0, 0, 0, 0, 0, 0, 0, 0, 0, 0, n / 16 % 256]) : Adr) := ⟨rfl, fun x hx => by simp at hx; omega⟩
  go_wp2_with (first | refine wpList_store_A rfl _ _ rfl okA_zadr hok hr1 rfl rfl ?_)
  refine bodyPost_ret (res_A rfl rfl hok (hr1.row _)) rfl ⟨_, hok, rfl, rfl, hx1.setRow (Nat.le_refl _) _⟩
 have hok : okA ((true, [42, 0, 0, 0, 0, 0, 0, 0, 0, 0, 0, 0, 0, 0, 0, n / 16 % 256]) : Adr) := ⟨rfl, fun x hx => by simp at hx; omega⟩
 go_wp2_with (first | refine wpList_store_A rfl _ _ rfl okA_zadr hok hr1 rfl rfl ?_)
 refine bodyPost_ret (res_A rfl rfl hok (hr1.row _)) rfl ⟨_, hok, rfl, rfl, hx1.setRow (Nat.le_refl _) _⟩
theorem gport_any (n : Int) (w : World) : Calls Tryz.prog 38 #[.int .i64 n] w fun e w' => ∃ p : Int, 1 <= p /\ p <= 65535 /\ e = .returned (.int .i64 p) /\ Ext w w' := by
 have M1 := Lib.hid (fun w => mod_any n 4 w (by decide))
 have M2 := Lib.hid (fun w => mod_any n 65535 w (by decide))
 have hb := modI_bd n (n := 65535) (by decide) (by decide)
 generalize modI n 65535 = m2 at *
 generalize modI n 4 = M at *
 go_enter Tryz.func38, Tryz.ntmps38
 go_wp2_with (first | (go_at_call 21; refine (M1.out _).mono ?_; rintro e w1 ⟨rfl, hx1⟩; refine Hid.out ?_))
 refine Lib.hid ?_
 cases h0 : (M == 0)
 case true =>
  go_wp2_with fail
  go_ret; exact ⟨53, by decide, by decide, rfl, hx1⟩
 cases h1 : (M == 1)
 case true =>
  go_wp2_with fail
  go_ret; exact ⟨80, by decide, by decide, rfl, hx1⟩
 cases h2 : (M == 2)
 case true =>
  go_wp2_with fail
  go_ret; exact ⟨443, by decide, by decide, rfl, hx1⟩
 go_wp2_with (first | (go_at_call 21; refine (M2.out _).mono ?_; rintro e w2 ⟨rfl, hx2⟩))
 go_ret; exact ⟨1 + m2, by omega, by omega, rfl, hx1.trans hx2⟩
theorem ghost_any (n : Int) (w : World) : Calls Tryz.prog 39 #[.int .i64 n] w fun e w' => ∃ h : ByteArray, okName h = true /\ e = .returned (.string h) /\ Ext w w' := by
 have M1 := Lib.hid (fun w => mod_any n 6 w (by decide))
 generalize modI n 6 = M at *
 go_enter Tryz.func39, Tryz.ntmps39
 go_wp2_with (first | (go_at_call 21; refine (M1.out _).mono ?_; rintro e w1 ⟨rfl, hx1⟩; refine Hid.out ?_))
 refine Lib.hid ?_
 cases h0 : (M == 0)
 case true =>
  go_wp2_with fail
  go_ret; exact ⟨_, by decide +kernel, rfl, hx1⟩
 cases h1 : (M == 1)
 case true =>
  go_wp2_with fail
  go_ret; exact ⟨_, by decide +kernel, rfl, hx1⟩
 cases h2 : (M == 2)
 case true =>
  go_wp2_with fail
  go_ret; exact ⟨_, by decide +kernel, rfl, hx1⟩
 cases h3 : (M == 3)
 case true =>
  go_wp2_with fail
  go_ret; exact ⟨_, by decide +kernel, rfl, hx1⟩
 cases h4 : (M == 4)
 case true =>
  go_wp2_with fail
  go_ret; exact ⟨_, by decide +kernel, rfl, hx1⟩
 go_wp2_with fail
 go_ret; exact ⟨_, by decide +kernel, rfl, hx1⟩
def GenT (w : World) (e : Ending) (w' : World) : Prop := ∃ t, okT t /\ validT t = true /\ e = .returned (tv t) /\ Ext w w'
theorem gtarget_any (n : Int) (w : World) : Calls Tryz.prog 17 #[.int .i64 n] w fun e w' => GenT w e w' := by
 have M1 := Lib.hid (fun w => mod_any n 3 w (by decide))
 have KA := Lib.hid gaddr_any
 have KP := Lib.hid gport_any
 have KH := Lib.hid ghost_any
 generalize modI n 3 = M at *
 go_enter Tryz.func17, Tryz.ntmps17
 go_upto_region 1 with fail
 rw [← tc_zero]
 have hx := (Ext.refl w).alloc (.cells (tc ztgt) 43)
 have hr := Blk.new w (tc ztgt) 43
 generalize w.alloc (.cells (tc ztgt) 43) = w0 at *
 have hwb : w.heap.size <= w.heap.size := Nat.le_refl _
 go_wp2_with (first | (go_at_call 21; refine (M1.out _).mono ?_; rintro e w1 ⟨rfl, hx1⟩; refine Hid.out ?_))
 refine Lib.hid ?_
 have hxx1 := hx.trans hx1
 have hr1 := hr.ext hx1
 clear hx hx1 hr M1
 cases h0 : (M == 0)
 case true =>
  go_wp2_with (first | (go_at_call 37; refine (KA.out _ _).mono ?_; rintro e w2 ⟨a, ha, hva, rfl, hx2⟩) | (go_at_call 38; refine (KP.out _ _).mono ?_; rintro e w3 ⟨p, hp1, hp2, rfl, hx3⟩; refine Hid.out ?_))
  refine Lib.hid ?_
  have hxx3 := (hxx1.trans hx2).trans hx3
  have hr3 := (hr1.ext hx2).ext hx3
  have hokT : okT (⟨#[]⟩, a, p) := ⟨ha, by unfold i64ok; simp only; omega, Nat.zero_le _⟩
  have HV : Hid (validT (⟨#[]⟩, a, p) = true) := Lib.hid (by unfold validT; simp only; rw [if_pos ⟨hp1, hp2⟩]; exact hva)
  go_wp2_with (first | refine wpList_build_T1 rfl _ _ rfl ha rfl rfl ?_ | refine wpList_store_T rfl _ _ rfl okT_ztgt hokT hr3 rfl rfl ?_)
  refine bodyPost_ret (res_T rfl rfl hokT (hr3.row _)) rfl ⟨_, hokT, HV.out, rfl, hxx3.setRow hwb _⟩
 go_wp2_with (first | (go_at_call 39; refine (KH.out _ _).mono ?_; rintro e w2 ⟨h, hh, rfl, hx2⟩) | (go_at_call 38; refine (KP.out _ _).mono ?_; rintro e w3 ⟨p, hp1, hp2, rfl, hx3⟩; refine Hid.out ?_))
 refine Lib.hid ?_
 have hxx3 := (hxx1.trans hx2).trans hx3
 have hr3 := (hr1.ext hx2).ext hx3
 have hz := okName_size hh
 have hz2 := (okName_facts hh).1
 have hokT : okT (h, zadr, p) := ⟨okA_zadr, by unfold i64ok; simp only; omega, by unfold maxLen; simp only; omega⟩
 have HV : Hid (validT (h, zadr, p) = true) := Lib.hid (by unfold validT; simp only; rw [if_pos ⟨hp1, hp2⟩, if_neg (by omega), hh]; simp)
 clear hh
 go_wp2_with (first | refine wpList_store_T rfl _ _ rfl okT_ztgt hokT hr3 rfl rfl ?_)
 refine bodyPost_ret (res_T rfl rfl hokT (hr3.row _)) rfl ⟨_, hokT, HV.out, rfl, hxx3.setRow hwb _⟩
open Go.RowKit Go.Joins
theorem guser_any (i : Int) (w : World) : Calls Tryz.prog 14 #[.int .i64 i] w fun e w' => ∃ u : ByteArray, u.size = 1 /\ e = .returned (.string u) /\ Ext w w' := by
 have KM := Lib.hid (fun w => mod_any i 8 w (by decide))
 have hm := modI_bd i (n := 8) (by decide) (by decide)
 generalize modI i 8 = m at *
 have e1 : IntKind.u8.wrap m = m := by rw [u8w]; omega
 have e2 : IntKind.u8.wrap (97 + m) = 97 + m := by rw [u8w]; omega
 go_enter Tryz.func14, Tryz.ntmps14
 go_wp2_with (first | (go_at_call 21; refine (KM.out _).mono ?_; rintro e w3 ⟨rfl, hx3⟩))
 go_ret
 exact ⟨_, rfl, rfl, hx3.alloc _⟩
theorem authV_eq (u p : ByteArray) : ⟨#[66, 97, 115, 105, 99, 32]⟩ ++ encB (u ++ ⟨#[58]⟩ ++ p) = authV u p := by
 have e : (⟨#[66, 97, 115, 105, 99, 32]⟩ : ByteArray) = bas ++ spc := by decide +kernel
 unfold authV col
 rw [e]
 simp only [ByteArray.append_assoc]
theorem rfmth_any (u p : ByteArray) (hu : u.size <= 1099511627776) (hp : p.size <= 1099511627776) (w : World) : Calls Tryz.prog 42 #[.string u, .string p] w fun e w' => e = .returned (.string (authV u p)) /\ Ext w w' := by
 have hz : (u ++ (⟨#[58]⟩ : ByteArray) ++ p).size = u.size + 1 + p.size := by rw [size_app, size_app]; rfl
 have K := Lib.hid (fun w => renc_any (u ++ (⟨#[58]⟩ : ByteArray) ++ p) (by rw [hz]; omega) w)
 have R := Lib.hid (authV_eq u p)
 have hez := encB_size (u ++ (⟨#[58]⟩ : ByteArray) ++ p)
 have y1 : ¬ 9223372036854775807 < u.size + 1 := by omega
 have y2 : ¬ 9223372036854775807 < u.size + 1 + p.size := by omega
 have y3 : ¬ 9223372036854775807 < 6 + (encB (u ++ (⟨#[58]⟩ : ByteArray) ++ p)).size := by omega
 clear hez hz
 go_enter Tryz.func42, Tryz.ntmps42
 go_wp2_with (first | (go_at_call 60; refine (K.out _).mono ?_; rintro e w3 ⟨rfl, hx3⟩))
 go_ret
 exact ⟨by rw [← R.out]; rfl, hx3⟩
theorem authV_size (u p : ByteArray) : (authV u p).size = 6 + (u.size + 1 + p.size + 2) / 3 * 4 := by
 unfold authV
 rw [size_app, size_app, encB_size, size_app, size_app]
 show 5 + (1 + (u.size + (1 + p.size) + 2) / 3 * 4) = _
 rw [Nat.add_assoc u.size]; omega
def OctsIn (w : World) (a : Option Addr) (n c : Nat) (x : ByteArray) : Prop :=
 (a = none /\ n = 0 /\ c = 0) ∨ ∃ ad, a = some ad /\ n <= c /\ c <= 140737488351232 /\ (0 < n -> ∃ b off, ad = ⟨b, off, none⟩ /\ b < w.heap.size /\ ∀ i, i < n -> w.cell? ⟨b, off + i, none⟩ = some (.int .u8 (B x i)))
theorem OctsIn.ext {w w' : World} {a : Option Addr} {n c : Nat} {x : ByteArray} (h : OctsIn w a n c x) (k : Ext w w') : OctsIn w' a n c x := by
 rcases h with h | ⟨ad, h1, h2, h3, h4⟩
 ·exact .inl h
 ·refine .inr ⟨ad, h1, h2, h3, fun hp => ?_⟩
  obtain ⟨b, off, e, hb, hc⟩ := h4 hp
  exact ⟨b, off, e, Nat.lt_of_lt_of_le hb k.size, fun i hi => by rw [k.cell (show (⟨b, off + i, none⟩ : Addr).block < _ from hb)]; exact hc i hi⟩
def StrsIn (w : World) (a : Option Addr) (n c : Nat) (xs : List ByteArray) : Prop :=
 (a = none /\ n = 0 /\ c = 0) ∨ ∃ ad, a = some ad /\ n <= c /\ (0 < n -> ∃ b off, ad = ⟨b, off, none⟩ /\ b < w.heap.size /\ ∀ i, i < n -> w.cell? ⟨b, off + i, none⟩ = some (.string (xs.getD i ⟨#[]⟩)))
theorem StrsIn.ext {w w' : World} {a : Option Addr} {n c : Nat} {xs : List ByteArray} (h : StrsIn w a n c xs) (k : Ext w w') : StrsIn w' a n c xs := by
 rcases h with h | ⟨ad, h1, h2, h4⟩
 ·exact .inl h
 ·refine .inr ⟨ad, h1, h2, fun hp => ?_⟩
  obtain ⟨b, off, e, hb, hc⟩ := h4 hp
  exact ⟨b, off, e, Nat.lt_of_lt_of_le hb k.size, fun i hi => by rw [k.cell (show (⟨b, off + i, none⟩ : Addr).block < _ from hb)]; exact hc i hi⟩
open Go.RowKit Go.Joins
def nc8 (x : Int) : Bool := decide (x ≠ 58)
def noC (u : ByteArray) : Bool := allB nc8 u u.size
theorem noC_mem {u : ByteArray} : noC u = true ↔ ∀ x ∈ u.data.toList, x ≠ 58 := by
 unfold noC
 rw [← list_B (q := fun x => decide (x ≠ 58)) (fun x => by
  unfold nc8
  by_cases h : x = 58
  ·subst h; decide
  ·have h2 : ((x.toNat : Nat) : Int) ≠ 58 := fun e => h (UInt8.toNat_inj.1 (by show _ = 58; omega))
   simp [h, h2])]
 simp
def okFm (h : Cr) : Bool := validT h.1 && noC h.2.2.1 && (h.2.1 || decide (h.2.2.1.size = 0 /\ h.2.2.2.size = 0))
def fmtC (h : Cr) : ByteArray × Bool := if okFm h = true /\ (hdT h).size <= 512 then (hdT h, true) else (⟨#[]⟩, false)
theorem rqL_size {t : Tgt} (ht : okT t) : (rqL t).size <= 317 := by
 have := fmtT_size ht
 unfold rqL
 simp only [size_app]
 show 8 + ((fmtT t).size + (1 + 8)) <= _
 omega
theorem authL_eq (u p : ByteArray) : ⟨#[80, 114, 111, 120, 121, 45, 65, 117, 116, 104, 111, 114, 105, 122, 97, 116, 105, 111, 110, 58, 32]⟩ ++ authV u p = authL u p := by
 have e : (⟨#[80, 114, 111, 120, 121, 45, 65, 117, 116, 104, 111, 114, 105, 122, 97, 116, 105, 111, 110, 58, 32]⟩ : ByteArray) = authN ++ (col ++ spc) := by decide +kernel
 unfold authL
 rw [e]
 simp only [ByteArray.append_assoc]
theorem hdT_no {h : Cr} (e : h.2.1 = false) : hdT h = rqL h.1 ++ crlf ++ crlf := by
 unfold hdT; rw [if_neg (by rw [e]; simp), ByteArray.append_assoc]
theorem hdT_yes {h : Cr} (e : h.2.1 = true) : hdT h = rqL h.1 ++ crlf ++ (authL h.2.2.1 h.2.2.2 ++ crlf) ++ crlf := by
 unfold hdT; rw [if_pos e]
 simp only [ByteArray.append_assoc]
theorem wpList_load_Tm {ops : Array Oper} {rest : List Oper} {o : Oper} {f : Act} {w : World} {Q : Exit -> Act -> World -> Prop} (hgd : o.guard = none) (x : Operand) (ho : o.op = .load 43 x)
  {b k : Nat} {t : Tgt} (ht : okT t) (hr : w.rangeAt b k (tc t).toList) (hx : f.eval x = .pointer (some ⟨b, k, none⟩)) (hn : wpList Tryz.prog ops Q rest (f.put o.dst (.agg (tc t))) w) : wpList Tryz.prog ops Q (o :: rest) f w :=
 wpList_load_mid hgd 43 x ho b k hx (tc t).toList _ hr Tryz.underlying43 rfl (by rw [info_T, tc_len ht]) hn
theorem RBlk.rangeT {w : World} {b : Nat} {h : Cr} (hb : RBlk w b h) : w.rangeAt b 0 (tc h.1).toList := Blk.mid (pre := []) (mid := (tc h.1).toList) hb rfl
theorem okFm_v {t : Tgt} {has : Bool} {u p : ByteArray} (h : validT t = false) : okFm (t, has, u, p) = false := by unfold okFm; simp only; rw [h]; rfl
theorem okFm_c {t : Tgt} {has : Bool} {u p : ByteArray} (h : noC u = false) : okFm (t, has, u, p) = false := by unfold okFm; simp only; rw [h, Bool.and_false]; rfl
theorem okFm_yes {t : Tgt} {u p : ByteArray} (h1 : validT t = true) (h2 : noC u = true) : okFm (t, true, u, p) = true := by unfold okFm; simp only; rw [h1, h2]; rfl
theorem okFm_nil {t : Tgt} (h1 : validT t = true) : okFm (t, false, ⟨#[]⟩, ⟨#[]⟩) = true := by
 have e : noC ⟨#[]⟩ = true := by decide +kernel
 unfold okFm; simp only; rw [h1, e]; rfl
theorem okFm_no {t : Tgt} {u p : ByteArray} (h : ¬ (u.size = 0 /\ p.size = 0)) : okFm (t, false, u, p) = false := by
 unfold okFm; simp only; rw [decide_eq_false h]; simp
theorem fmtC_no {h : Cr} (e : okFm h = false) : fmtC h = (⟨#[]⟩, false) := by unfold fmtC; rw [if_neg (by rw [e]; simp)]
theorem fmtC_big {h : Cr} (e : 512 < (hdT h).size) : fmtC h = (⟨#[]⟩, false) := by unfold fmtC; rw [if_neg (by omega)]
theorem fmtC_yes {h : Cr} (e : okFm h = true) (z : (hdT h).size <= 512) : fmtC h = (hdT h, true) := by unfold fmtC; rw [if_pos ⟨e, z⟩]
theorem nil_ne {x : ByteArray} (h : x.size ≠ 0) : (x.toList == []) = false := by
 rw [beq_eq_false_iff_ne, ByteArray.toList_eq]
 intro e
 have := size_list x
 rw [e] at this
 exact h this
theorem hdT_size_yes (t : Tgt) (u p : ByteArray) : (hdT (t, true, u, p)).size = (rqL t).size + 33 + (u.size + 1 + p.size + 2) / 3 * 4 := by
 have e := authV_size u p
 unfold hdT
 rw [if_pos rfl]
 unfold authL
 simp only [size_app, crlf_size]
 rw [e]
 show (rqL t).size + (2 + (19 + (1 + (1 + (6 + (u.size + 1 + p.size + 2) / 3 * 4))) + (2 + 2))) = _
 omega
theorem res2s {fn : Func} {t u : Tmp} (h : fn.results = #[.tmp t, .tmp u]) {tmps : Array Value} {w : World} : (results fn tmps).run Tryz.prog w = .ok (.tuple #[tmps.getD t undef, tmps.getD u undef]) w := by
 simp [results, h, Sem.run_bind]
end Go.Proofs.YtnohnnjeabehjaaGreatDoor
