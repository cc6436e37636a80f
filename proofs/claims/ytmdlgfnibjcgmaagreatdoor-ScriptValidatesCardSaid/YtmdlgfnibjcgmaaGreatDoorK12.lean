/-
  Several texts joined: ScT, ScU.
-/
import Derived.Lib.BufferWrite
import Derived.Test.YtmdlgfnibjcgmaaGreatDoorK11
import Derived.Test.YtmdlgfnibjcgmaaGreatDoorK06
import Derived.Test.YtmdlgfnibjcgmaaGreatDoorK08
import Derived.Great.BuildSlice
import Derived.Test.YtmdlgfnibjcgmaaGreatDoorK07
set_option maxHeartbeats 8000000
set_option maxRecDepth 10000
set_option linter.unusedVariables false
set_option linter.unusedSimpArgs false
namespace Go.Proofs.YtmdlgfnibjcgmaaGreatDoor
open Go.RowKit
theorem okA_octs (f : Bool) (t : ByteArray) : okA (f, octs t) := by
 refine ⟨by show (octs t).length = 16; unfold octs; simp, fun x hx => ?_⟩
 unfold octs at hx
 obtain ⟨j, _, rfl⟩ := List.mem_map.1 hx
 have := B_bd t j
 split <;> omega
theorem octs_copy (f : Bool) (t : ByteArray) (h : t.size <= 16) : ((ac (f, zeros)).toList.take 1 ++ Lib.byteCells t.data.toList ++ (ac (f, zeros)).toList.drop (1 + t.size)).toArray = ac (f, octs t) := by
 have hl := size_list t
 have e0 : (ac (f, zeros)).toList = .bool f :: zeros.map (Value.int .u8) := rfl
 have e1 : ∀ (n : Nat) (a : Value) (l : List Value), (a :: l).drop (1 + n) = l.drop n := fun n a l => by rw [Nat.add_comm]; rfl
 have e2 : (Value.bool f :: zeros.map (Value.int .u8)).take 1 = [.bool f] := rfl
 rw [e0, e1, e2]
 unfold ac
 congr 1
 refine List.ext_getElem? fun j => ?_
 match j with
 | 0 => rfl
 | j + 1 =>
  show ((.bool f :: (Lib.byteCells t.data.toList ++ ((zeros.map (Value.int .u8)).drop t.size))) : List Value)[j + 1]? = _
  rw [List.getElem?_cons_succ, List.getElem?_cons_succ]
  unfold octs
  rw [List.map_map, List.getElem?_map]
  by_cases q : j < t.size
  ·rw [List.getElem?_append_left (by rw [Lib.byteCells_length]; omega)]
   unfold Lib.byteCells
   rw [List.getElem?_map, List.getElem?_range (by omega), List.getElem?_eq_getElem (by omega)]
   simp only [Option.map_some, Function.comp]
   rw [if_pos q]
   unfold B
   rw [List.getD_eq_getElem?_getD, List.getElem?_eq_getElem (by omega)]; rfl
  ·rw [List.getElem?_append_right (by rw [Lib.byteCells_length]; omega), Lib.byteCells_length, ← hl, List.getElem?_drop, show t.size + (j - t.size) = j by omega]
   by_cases q2 : j < 16
   ·rw [List.getElem?_range q2]
    simp only [Option.map_some, Function.comp]
    rw [if_neg q]
    have hz : ∀ k : Fin 16, zeros[k.1]? = some 0 := by decide
    rw [List.getElem?_map, hz ⟨j, q2⟩]; rfl
   ·rw [List.getElem?_eq_none (l := zeros.map (Value.int .u8)) (show 16 <= j by omega), List.getElem?_eq_none (l := List.range 16) (by rw [List.length_range]; omega)]; rfl
theorem wpList_copyS {ops : Array Oper} {rest : List Oper} {o : Oper} {a : Act} {w : World} {Q : Exit -> Act -> World -> Prop} (hgd : o.guard = none) (d x : Operand) (t t' : TypeId)
  (ho : o.op = .call { callee := .builtin .copy, args := #[d, x], argTypes := #[t, t'] }) {v u : Value} (hd : a.eval d = v) (hs : a.eval x = u) {v' : Value} {w' : World}
  (hr : (Builtin.copy_ #[t, t'] o.type #[v, u]).run Tryz.prog w = .ok v' w') (h : wpList Tryz.prog ops Q rest (a.put o.dst v') w') : wpList Tryz.prog ops Q (o :: rest) a w :=
 wpList_plain hgd fun K hK => by
  unfold Oper.wp execOp
  simp only [ho, resolve, invoke, builtin, Sem.run_bind, Sem.run_pure, Result.andThen_ok, List.map_toArray, List.map_cons, List.map_nil, hd, hs, hr]
  exact hK _ _ h
theorem copy_As {w : World} {b : Nat} {t : ByteArray} {f : Bool} (h : t.size <= 16) (hb : Blk w b (ac (f, zeros)).toList 72) (ty : TypeId) :
  (Builtin.copy_ #[39, 9] ty #[.slice (some ⟨b, 1, none⟩) 16 16, .string t]).run Tryz.prog w = .ok (goInt t.size) (w.setRow b (ac (f, octs t))) := by
 have hcs : (ac (f, zeros)).size = 17 := rfl
 have := Lib.run_copy_row_string (P := Tryz.prog) w 39 9 ty 5 b 1 16 16 t (ac (f, zeros)) 72 Tryz.underlying39 (by kernel_rfl) hb (by omega) (by rw [hcs]; omega)
 have e := octs_copy f t h
 rw [e] at this
 exact this
theorem rt_size (n : Nat) (x : St) : (rt n x).1.size <= n := by
 cases x with
 | error c => exact Nat.zero_le _
 | ok s =>
  by_cases h : s.size < n
  ·have e : rt n (.ok s) = (⟨#[]⟩, .error 3) := by unfold rt rdt; simp only; rw [if_pos h]
   rw [e]; exact Nat.zero_le _
  ·have e : rt n (.ok s) = (s.extract 0 n, .ok (s.extract n s.size)) := by unfold rt rdt; simp only; rw [if_neg h]
   rw [e]
   show (s.extract 0 n).size <= n
   rw [ByteArray.size_extract]; omega
theorem Keep.set1 {S : List Nat} {a w : World} (h : Keep S a w) {c : Nat} (hc : a.heap.size <= c) (ds : Array Value) : Keep S a (w.setRow c ds) :=
 ⟨h.os, h.tape, h.output, by simpa [World.setRow] using h.size, fun i hi hn => by rw [setRow_other w c i ds (by omega)]; exact h.block i hi hn⟩
theorem Rb.row {T : TypeId} {w : World} {b : Nat} {x : St} (h : Rb T w b x) {c : Nat} (hc : b ≠ c) (ds : Array Value) : Rb T (w.setRow c ds) b x := by
 cases x with
 | ok s => exact Blk.row_ne h hc ds
 | error e => obtain ⟨h0, s, h⟩ := h; exact ⟨h0, s, Blk.row_ne h hc ds⟩
theorem Rb.setc {T : TypeId} {w : World} {b : Nat} {x : St} (h : Rb T w b x) {c : Nat} (hc : b ≠ c) (i : Nat) (v : Value) : Rb T (w.setCell ⟨c, i, none⟩ v) b x := by
 cases x with
 | ok s => exact Blk.set_ne h ⟨c, i, none⟩ (Ne.symm hc) v
 | error e => obtain ⟨h0, s, h⟩ := h; exact ⟨h0, s, Blk.set_ne h ⟨c, i, none⟩ (Ne.symm hc) v⟩
theorem Rb.cell1 {T : TypeId} {w : World} {b : Nat} {x : St} (h : Rb T w b x) : ∃ e : Int, w.cell? ⟨b, 1, none⟩ = some (.int .i64 e) /\ (match x with | .ok _ => e = 0 | .error c => e = c /\ c ≠ 0) := by
 cases x with
 | ok s => exact ⟨0, Blk.cell h rfl, rfl⟩
 | error c => obtain ⟨h0, s, h⟩ := h; exact ⟨c, h.cell rfl, rfl, h0⟩
theorem paddr_any {b : Nat} {x : St} {w : World} (hr : Rb 65 w b x) :
  Calls Tryz.prog 52 #[.pointer (some ⟨b, 0, none⟩)] w fun e w' => e = .returned (av (ra x).1) /\ Rb 65 w' b (ra x).2 /\ Keep [b] w w' := by
 have hbl := hr.lt
 go_enter Tryz.func52, Tryz.ntmps52
 go_upto_region 2 with fail
 change Code.wp _ _ _ _ ((w.alloc (.cells (ac zadr) 72)).alloc (.cells (ac zadr) 72))
 have hx := ((Ext.refl w).alloc (.cells (ac zadr) 72)).alloc (.cells (ac zadr) 72)
 have hres := (Blk.new w (ac zadr) 72).ext ((Ext.refl _).alloc (.cells (ac zadr) 72))
 have ha := Blk.new (w.alloc (.cells (ac zadr) 72)) (ac zadr) 72
 rw [World.size_alloc] at ha
 replace hr := hr.ext hx
 have hk := hx.keep [b]
 generalize (w.alloc (.cells (ac zadr) 72)).alloc (.cells (ac zadr) 72) = w2 at *
 have hba : b ≠ w.heap.size + 1 := by omega
 have hbc : b ≠ w.heap.size := by omega
 have hca : w.heap.size ≠ w.heap.size + 1 := by omega
 have KN := Lib.hid (show Calls Tryz.prog 50 #[.pointer (some ⟨b, 0, none⟩), .int .u64 6] w2 (fun e w' => e = .returned (.int .u64 (rn 0 6 x).1) /\ Rb 65 w' b (rn 0 6 x).2 /\ Keep [b] w2 w') from pnum_any 6 (by decide) hr)
 clear hx hr
 generalize hab : w.heap.size + 1 = ab at *
 generalize hcr : w.heap.size = cr at *
 have hcw : w.heap.size <= cr := Nat.le_of_eq hcr
 have haw : w.heap.size <= ab := by omega
 cases hq : (rn 0 6 x).2 with
 | error c =>
  rw [hq] at KN
  have HRA : Hid (ra x = (zadr, .error c)) := Lib.hid (by unfold ra; rw [hq])
  generalize (rn 0 6 x).1 = n at *
  go_upto_region 4 with (go_at_call 50; refine KN.out.mono ?_; rintro e w3 ⟨rfl, hr, hk3⟩)
  replace ha := Blk.keep ha hk3 (by simp; omega)
  replace hres := Blk.keep hres hk3 (by simp; omega)
  replace hk := hk.trans hk3
  obtain ⟨e1, c1, he1, hc0⟩ := hr.cell1
  subst he1
  have q1 : (e1 == 0) = false := by simp [hc0]
  have okz := okA_zadr
  go_wp2_with (first | refine wpList_load_A rfl _ rfl okz ha rfl ?_ | refine wpList_store_A rfl _ _ rfl okA_zadr okz hres rfl rfl ?_)
  refine bodyPost_ret (res_A rfl rfl okz (hres.row _)) rfl ⟨by rw [HRA.out], by rw [HRA.out]; exact hr.row hbc _, hk.set1 hcw _⟩
 | ok s1 =>
  rw [hq] at KN
  have HRA0 : Hid (ra x = if (rn 0 6 x).1 = 4 then ((false, octs (rt 4 (.ok s1)).1), (rt 4 (.ok s1)).2) else if (rn 0 6 x).1 = 6 then ((true, octs (rt 16 (.ok s1)).1), (rt 16 (.ok s1)).2) else (zadr, .error 2)) := Lib.hid (by unfold ra; rw [hq])
  generalize (rn 0 6 x).1 = n at *
  go_upto_region 4 with (go_at_call 50; refine KN.out.mono ?_; rintro e w3 ⟨rfl, hr, hk3⟩)
  replace ha := Blk.keep ha hk3 (by simp; omega)
  replace hres := Blk.keep hres hk3 (by simp; omega)
  replace hk := hk.trans hk3
  have c1 : w3.cell? ⟨b, 1, none⟩ = some (.int .i64 0) := Blk.cell hr rfl
  clear KN
  by_cases h4 : n = 4
  ·have HRA : Hid (ra x = ((false, octs (rt 4 (.ok s1)).1), (rt 4 (.ok s1)).2)) := Lib.hid (by rw [HRA0.out, if_pos h4])
   subst h4
   clear HRA0
   go_upto_region 6 with fail
   replace ha : Blk w3 ab (ac (false, zeros)).toList 72 := ha
   have KB := Lib.hid (byt_any 4 (by decide) (x := .ok s1) (w := w3.drew) hr)
   have hts := rt_size 4 (.ok s1)
   generalize rt 4 (.ok s1) = p at *
   refine wp_region_rge (fun _ => True) [3, 4] [0, 1, 2, 3, 4] (by kernel_rfl) (by kernel_rfl) trivial ?_
   replace ha : Blk w3.drew ab (ac (false, zeros)).toList 72 := ha
   replace hres : Blk w3.drew cr (ac zadr).toList 72 := hres
   replace hk : Keep [b] w w3.drew := hk.drew
   clear hr c1
   generalize w3.drew = wz at *
   iterate 3
    first
     | (apply goE_skip rfl rfl (by rfl))
     | (apply goE_val _ rfl rfl (by rfl); · (intro w hSw; go_simp; try with_reducible rfl))
    try simp only [aput, List.set]
   apply goE_eff rfl rfl
   go_wp2_with (go_at_call 51; refine KB.out.mono ?_; rintro e w5 ⟨rfl, hr, hk5⟩)
   refine ⟨rfl, rfl, trivial, ?_⟩
   replace ha := Blk.keep ha hk5 (by simp; omega)
   replace hres := Blk.keep hres hk5 (by simp; omega)
   replace hk := hk.trans hk5
   apply goE_eff rfl rfl
   refine wpList_copyS rfl _ _ _ _ rfl rfl rfl (copy_As (by omega) ha _) ?_
   replace ha : Blk _ ab (ac (false, octs p.1)).toList 72 := Blk.row ha _
   replace hres := Blk.row_ne hres hca (ac (false, octs p.1))
   replace hk := hk.set1 haw (ac (false, octs p.1))
   replace hr := Rb.row hr hba (ac (false, octs p.1))
   generalize w5.setRow ab (ac (false, octs p.1)) = w6 at *
   refine effQ_end rfl trivial ?_
   unfold goE
   have hok := okA_octs false p.1
   go_wp2_with (first | refine wpList_load_A rfl _ rfl hok ha rfl ?_ | refine wpList_store_A rfl _ _ rfl okA_zadr hok hres rfl rfl ?_)
   refine bodyPost_ret (res_A rfl rfl hok (hres.row _)) rfl ⟨by rw [HRA.out], by rw [HRA.out]; exact hr.row hbc _, hk.set1 hcw _⟩
  ·have HRA1 := HRA0
   have q4 : (n == 4) = false := by simp [h4]
   by_cases h6 : n = 6
   ·have HRA : Hid (ra x = ((true, octs (rt 16 (.ok s1)).1), (rt 16 (.ok s1)).2)) := Lib.hid (by rw [HRA0.out, if_neg h4, if_pos h6])
    subst h6
    clear HRA0 HRA1 h4
    have c0 : w3.cell? ⟨ab, 0, none⟩ = some (.bool false) := Blk.cell ha rfl
    have g0 := Blk.free ha 0
    go_upto_region 9 with fail
    replace hr := Rb.setc hr hba 0 (.bool true)
    replace hres := Blk.set_ne hres ⟨ab, 0, none⟩ (Ne.symm hca) (.bool true)
    replace ha : Blk (w3.setCell ⟨ab, 0, none⟩ (.bool true)) ab (ac (true, zeros)).toList 72 := Blk.set ha 0 (.bool true)
    replace hk := hk.setCell (p := ⟨ab, 0, none⟩) (.inr haw) (.bool true)
    have c1 : (w3.setCell ⟨ab, 0, none⟩ (.bool true)).cell? ⟨b, 1, none⟩ = some (.int .i64 0) := Blk.cell hr rfl
    clear c0 g0
    generalize w3.setCell ⟨ab, 0, none⟩ (.bool true) = w3 at *
    have KB := Lib.hid (byt_any 16 (by decide) (x := .ok s1) (w := w3.drew) hr)
    have hts := rt_size 16 (.ok s1)
    generalize rt 16 (.ok s1) = p at *
    refine wp_region_rge (fun _ => True) [3, 4] [0, 1, 2, 3, 4] (by kernel_rfl) (by kernel_rfl) trivial ?_
    replace ha : Blk w3.drew ab (ac (true, zeros)).toList 72 := ha
    replace hres : Blk w3.drew cr (ac zadr).toList 72 := hres
    replace hk : Keep [b] w w3.drew := hk.drew
    clear hr c1
    generalize w3.drew = wz at *
    iterate 3
     first
      | (apply goE_skip rfl rfl (by rfl))
      | (apply goE_val _ rfl rfl (by rfl); · (intro w hSw; go_simp; try with_reducible rfl))
     try simp only [aput, List.set]
    apply goE_eff rfl rfl
    go_wp2_with (go_at_call 51; refine KB.out.mono ?_; rintro e w5 ⟨rfl, hr, hk5⟩)
    refine ⟨rfl, rfl, trivial, ?_⟩
    replace ha := Blk.keep ha hk5 (by simp; omega)
    replace hres := Blk.keep hres hk5 (by simp; omega)
    replace hk := hk.trans hk5
    apply goE_eff rfl rfl
    refine wpList_copyS rfl _ _ _ _ rfl rfl rfl (copy_As (by omega) ha _) ?_
    replace ha : Blk _ ab (ac (true, octs p.1)).toList 72 := Blk.row ha _
    replace hres := Blk.row_ne hres hca (ac (true, octs p.1))
    replace hk := hk.set1 haw (ac (true, octs p.1))
    replace hr := Rb.row hr hba (ac (true, octs p.1))
    generalize w5.setRow ab (ac (true, octs p.1)) = w6 at *
    refine effQ_end rfl trivial ?_
    unfold goE
    have hok := okA_octs true p.1
    go_wp2_with (first | refine wpList_load_A rfl _ rfl hok ha rfl ?_ | refine wpList_store_A rfl _ _ rfl okA_zadr hok hres rfl rfl ?_)
    refine bodyPost_ret (res_A rfl rfl hok (hres.row _)) rfl ⟨by rw [HRA.out], by rw [HRA.out]; exact hr.row hbc _, hk.set1 hcw _⟩
   ·have q6 : (n == 6) = false := by simp [h6]
    have HRA : Hid (ra x = (zadr, .error 2)) := Lib.hid (by rw [HRA0.out, if_neg h4, if_neg h6])
    have KF := Lib.hid (fail_any 2 (by decide) hr)
    clear h4 h6 HRA0 HRA1
    go_upto_region 10 with (go_at_call 30; refine KF.out.mono ?_; rintro e w4 ⟨rfl, hr, hk4⟩)
    replace ha := Blk.keep ha hk4 (by simp; omega)
    replace hres := Blk.keep hres hk4 (by simp; omega)
    replace hk := hk.trans hk4
    have okz := okA_zadr
    go_wp2_with (first | refine wpList_load_A rfl _ rfl okz ha rfl ?_ | refine wpList_store_A rfl _ _ rfl okA_zadr okz hres rfl rfl ?_)
    refine bodyPost_ret (res_A rfl rfl okz (hres.row _)) rfl ⟨by rw [HRA.out], by rw [HRA.out]; exact hr.row hbc _, hk.set1 hcw _⟩
open Go.RowKit
theorem flat_get {α β : Type} (f : α -> List β) (n : Nat) : ∀ (l : List α) (i j : Nat) (x : α), (∀ y ∈ l, (f y).length = n) -> l[i]? = some x -> j < n -> (l.flatMap f)[i * n + j]? = (f x)[j]?
 | [], i, j, x, _, h, _ => by simp at h
 | y :: l, 0, j, x, hl, h, hj => by
  simp at h; subst h
  rw [List.flatMap_cons, Nat.zero_mul, Nat.zero_add, List.getElem?_append_left (by rw [hl y (List.mem_cons_self ..)]; exact hj)]
 | y :: l, i + 1, j, x, hl, h, hj => by
  have hy := hl y (List.mem_cons_self ..)
  rw [List.flatMap_cons, List.getElem?_append_right (by rw [hy, Nat.succ_mul]; omega), hy]
  rw [show (i + 1) * n + j - n = i * n + j by rw [Nat.succ_mul]; omega]
  exact flat_get f n l i j x (fun y hy => hl y (List.mem_cons_of_mem _ hy)) (by simpa using h) hj
theorem fill_fold : ∀ (cs : List Value) (k : Nat) (pre : List Value) (rest : List Value), pre.length = k -> rest.length = cs.length ->
  (cs.zipIdx k).foldl (fun (a : Array Value) (x : Value × Nat) => a.setIfInBounds (0 + x.2) x.1) (pre ++ rest).toArray = (pre ++ cs).toArray
 | [], k, pre, rest, _, hr => by
  have : rest = [] := List.eq_nil_of_length_eq_zero hr
  subst this; rfl
 | c :: cs, k, pre, rest, hp, hr => by
  match rest, hr with
  | r :: rest, hr =>
   rw [List.zipIdx_cons, List.foldl_cons]
   have e : (pre ++ r :: rest).toArray.setIfInBounds (0 + k) c = ((pre ++ [c]) ++ rest).toArray := by
    apply Array.ext'
    rw [Array.toList_setIfInBounds]
    simp only [Nat.zero_add]
    rw [List.set_append_right _ _ (by omega), hp, Nat.sub_self]
    simp
   rw [show ((c, k) : Value × Nat).2 = k from rfl, show ((c, k) : Value × Nat).1 = c from rfl, e, fill_fold cs (k + 1) (pre ++ [c]) rest (by simp [hp]) (by simpa using hr)]
   simp
theorem fill_cells (cs A : Array Value) (h : A.size = cs.size) : cs.zipIdx.foldl (fun (a : Array Value) (x : Value × Nat) => a.setIfInBounds (0 + x.2) x.1) A = cs := by
 have := fill_fold cs.toList 0 [] A.toList rfl (by simpa using h)
 rw [← Array.foldl_toList, Array.toList_zipIdx]
 simpa using this
theorem wpList_slit {ops : Array Oper} {rest : List Oper} {o : Oper} {a : Act} {w : World} {Q : Exit -> Act -> World -> Prop} (hg : o.guard = none) (t e : TypeId) (x : Operand) (ho : o.op = .buildSlice t 1 #[(0, x)])
  {cs : Array Value} (hx : a.eval x = .agg cs) {ie : TypeInfo} {z : Value} (hu : Tryz.prog.underlying t = some (.slice e)) (hie : Tryz.prog.info? e = some ie) (hz : ie.zero = some z) (hs : ie.size = cs.size) (h0 : 0 < cs.size) (h1 : cs.size <= 1000)
  (h : wpList Tryz.prog ops Q rest (a.put o.dst (.slice (some ⟨w.heap.size, 0, none⟩) 1 1)) (w.alloc (.cells cs e))) : wpList Tryz.prog ops Q (o :: rest) a w := by
 refine wpList_buildSlice hg t e 1 #[(0, x)] ho cs ie z hu hie hz (by rw [hs]; omega) (by rw [hs]; omega) ?_ h
 rw [Array.toList_map]
 show Instr.fill _ _ [(0, a.eval x)] = _
 rw [hx]
 have hc : (Value.agg cs).cells = cs := rfl
 have hA : ((Array.range (1 * ie.size)).map fun x => z.cells[x % z.cells.size]!).size = cs.size := by simp [hs]
 generalize ((Array.range (1 * ie.size)).map fun x => z.cells[x % z.cells.size]!) = A at *
 unfold Instr.fill
 simp only [Nat.zero_mul, hc]
 rw [if_neg (by simp [hs, hA])]
 unfold Instr.fill
 rw [fill_cells cs A hA]
theorem own_neS {w : World} {base : Nat} {e : TypeId} {size : Nat} {v : Value} {n : Nat} {xs : List Value} (h : w.ownsRow base e size v n xs) {b : Nat} {cs : List Value} {t : TypeId} (hb : Blk w b cs t) (ht : t ≠ e) : some b ≠ v.ownBlock := by
 rcases h.2 with ⟨rfl, _⟩ | ⟨g, cap, cur, rfl, _, hg, _⟩
 ·intro q; cases q
 ·intro q
  have q' : b = g := Option.some.inj q
  subst q'
  unfold Blk at hb
  rw [hb] at hg
  have := Option.some.inj hg
  injection this with _ h2
  exact ht h2
theorem Blk.grownS {w w' : World} {base : Nat} {e : TypeId} {size : Nat} {v : Value} {n : Nat} {xs : List Value} (h : w.ownsRow base e size v n xs) {b : Nat} {cs : List Value} {t : TypeId} (hb : Blk w b cs t) (ht : t ≠ e) (hg : w.grownBy w' v.ownBlock) : Blk w' b cs t :=
 hb.of_heap (hg.block b hb.lt (own_neS h hb ht))
theorem Rb.grownS {T : TypeId} {w w' : World} {base : Nat} {e : TypeId} {size : Nat} {v : Value} {n : Nat} {xs : List Value} (h : w.ownsRow base e size v n xs) {b : Nat} {x : St} (hb : Rb T w b x) (ht : T ≠ e) (hg : w.grownBy w' v.ownBlock) : Rb T w' b x := by
 cases x with
 | ok s => exact Blk.grownS h hb ht hg
 | error c => obtain ⟨h0, s, hb⟩ := hb; exact ⟨h0, s, Blk.grownS h hb ht hg⟩
theorem own_sl {w : World} {B : Nat} {e : TypeId} {size : Nat} {v : Value} {n : Nat} {xs : List Value} (h : w.ownsRow B e size v n xs) : ∃ a cap, v = .slice a n cap := by
 rcases h.2 with ⟨rfl, rfl⟩ | ⟨g, cap, cur, rfl, _⟩
 ·exact ⟨none, 0, rfl⟩
 ·exact ⟨_, _, rfl⟩
theorem infoA : (Tryz.prog.info? 72).map (fun i => (i.zero, i.size, i.bytes)) = some (some (.agg (ac zadr)), 17, 17) := by kernel_rfl
theorem infoE : (Tryz.prog.info? 31).map (fun i => (i.zero, i.size, i.bytes)) = some (some (.agg (evl ⟨0, 0, 0, 0, false, 0, ⟨#[]⟩, []⟩ (.slice none 0 0)).toArray), 8, 88) := by kernel_rfl
def acs (l : List Adr) : List Value := l.flatMap fun a => (ac a).toList
def OAd (B : Nat) (v : Value) (l : List Adr) (w : World) : Prop := w.ownsRow B 72 17 v l.length (acs l) /\ ∀ x ∈ l, okA x
def AdsAt (B : Nat) (w : World) (sl : Value) (l : List Adr) : Prop := AdsIn w sl l /\ ∀ b off n c, sl = .slice (some ⟨b, off, none⟩) n c -> B <= b /\ ∃ cs fz, w.heap[b]? = some (.cells cs 72 fz)
theorem OAd.ads {B : Nat} {v : Value} {l : List Adr} {w : World} (h : OAd B v l w) : AdsAt B w v l := by
 obtain ⟨h1, hok⟩ := h
 have hlen := h1.1
 rcases h1.2 with ⟨rfl, h0⟩ | ⟨g, cap, cur, rfl, hbg, hg, hnc, hcm, hcs, htake⟩
 ·have : l = [] := List.eq_nil_of_length_eq_zero h0
  subst this
  exact ⟨⟨none, 0, rfl, Nat.le_refl _, (by intro x h; cases h), fun h => absurd h (by simp)⟩, fun b off n c e => by cases e⟩
 ·refine ⟨⟨some ⟨g, 0, none⟩, cap, rfl, hnc, hok, fun _ => ⟨g, 0, rfl, (Array.getElem?_eq_some_iff.1 hg).1, fun i x hi j u hj => ?_⟩⟩, fun b off n c e => ?_⟩
  ·have hx := hok x (List.mem_of_getElem? hi)
   have hjl : j < 17 := by have := (List.getElem?_eq_some_iff.1 hj).1; rw [Array.length_toList, ac_size hx] at this; exact this
   have e1 := flat_get (fun a : Adr => (ac a).toList) 17 l i j x (fun y hy => by rw [Array.length_toList, ac_size (hok y hy)]) hi hjl
   have e2 := h1.cells (g := g) rfl (i * 17 + j) u (by rw [show acs l = l.flatMap fun a => (ac a).toList from rfl, e1]; exact hj)
   rw [add_e] at e2
   rw [show 0 + i * 17 + j = 0 + (i * 17 + j) by omega]
   exact e2
  ·cases e
   exact ⟨hbg, cur, _, hg⟩
theorem OAd.nil (B : Nat) (w : World) : OAd B (.slice none 0 0) [] w := ⟨World.ownsRow_nil w B _ _, by intro x h; cases h⟩
theorem OAd.keep {B : Nat} {v : Value} {l : List Adr} {w w' : World} {b : Nat} (h : OAd B v l w) (k : Keep [b] w w') (hb : b < B) : OAd B v l w' := ⟨ownsRow_keep h.1 k (by simpa using hb), h.2⟩
theorem OAd.ext {B : Nat} {v : Value} {l : List Adr} {w w' : World} (h : OAd B v l w) (k : Ext w w') : OAd B v l w' := ⟨ownsRow_keep h.1 (k.keep []) (fun g hg => by cases hg), h.2⟩
theorem OAd.setc {B : Nat} {v : Value} {l : List Adr} {w : World} (h : OAd B v l w) {c : Nat} {cs : List Value} {t : TypeId} (hc : Blk w c cs t) (ht : t ≠ 72) (i : Nat) (u : Value) : OAd B v l (w.setCell ⟨c, i, none⟩ u) := by
 refine ⟨h.1.kept (row := some c) ⟨rfl, rfl, rfl, by simp [World.setCell], fun k _ hk => Below.heap_setCell _ _ _ _ (fun e => hk (by simp [e]))⟩ ?_, h.2⟩
 right
 intro e
 exact own_neS h.1 hc ht e.symm
theorem OAd.rowk {B : Nat} {v : Value} {l : List Adr} {w : World} (h : OAd B v l w) {c : Nat} {cs : List Value} {t : TypeId} (hc : Blk w c cs t) (ht : t ≠ 72) (ds : Array Value) : OAd B v l (w.setRow c ds) := by
 refine ⟨h.1.kept (row := some c) ⟨rfl, rfl, rfl, by simp [World.setRow], fun k _ hk => setRow_other w c k ds (fun e => hk (by simp [e]))⟩ ?_, h.2⟩
 right
 intro e
 exact own_neS h.1 hc ht e.symm
theorem AdsAt.keep {B : Nat} {w w' : World} {sl : Value} {l : List Adr} {b : Nat} (h : AdsAt B w sl l) (k : Keep [b] w w') (hb : b < B) : AdsAt B w' sl l := by
 obtain ⟨⟨a, cap, h1, h2, h3, h4⟩, h5⟩ := h
 have hblk : ∀ g off n c, sl = .slice (some ⟨g, off, none⟩) n c -> w'.heap[g]? = w.heap[g]? := fun g off n c e => by
  obtain ⟨hB, cs, fz, hg⟩ := h5 g off n c e
  exact k.block g (Array.getElem?_eq_some_iff.1 hg).1 (by simp; omega)
 refine ⟨⟨a, cap, h1, h2, h3, fun hp => ?_⟩, fun g off n c e => ?_⟩
 ·obtain ⟨g, off, e, hg, hc⟩ := h4 hp
  refine ⟨g, off, e, Nat.lt_of_lt_of_le hg k.size, fun i x hi j u hj => ?_⟩
  have e9 : w'.cell? ⟨g, off + i * 17 + j, none⟩ = w.cell? ⟨g, off + i * 17 + j, none⟩ := World.cell?_of_block (w := w) (hblk g off l.length cap (by rw [h1, e]))
  rw [e9]
  exact hc i x hi j u hj
 ·obtain ⟨hB, cs, fz, hg⟩ := h5 g off n c e
  exact ⟨hB, cs, fz, (hblk g off n c e).trans hg⟩
theorem AdsAt.grown {B : Nat} {w w' : World} {sl : Value} {l : List Adr} (h : AdsAt B w sl l) {base : Nat} {e : TypeId} {size : Nat} {v : Value} {n : Nat} {xs : List Value} (ho : w.ownsRow base e size v n xs) (hne : e ≠ 72) (hg : w.grownBy w' v.ownBlock) : AdsAt B w' sl l := by
 obtain ⟨⟨a, cap, h1, h2, h3, h4⟩, h5⟩ := h
 have hblk : ∀ g off n c, sl = .slice (some ⟨g, off, none⟩) n c -> w'.heap[g]? = w.heap[g]? := fun g off n' c e' => by
  obtain ⟨hB, cs, fz, hgg⟩ := h5 g off n' c e'
  refine hg.block g (Array.getElem?_eq_some_iff.1 hgg).1 (fun q => ?_)
  rcases ho.2 with ⟨rfl, _⟩ | ⟨g', cap', cur, rfl, _, hg', _⟩
  ·cases q
  ·have q' : g = g' := Option.some.inj q
   subst q'
   rw [hgg] at hg'
   have := Option.some.inj hg'
   injection this with _ h2
   exact hne h2.symm
 refine ⟨⟨a, cap, h1, h2, h3, fun hp => ?_⟩, fun g off n c e => ?_⟩
 ·obtain ⟨g, off, e, hgl, hc⟩ := h4 hp
  refine ⟨g, off, e, Nat.lt_of_lt_of_le hgl hg.size, fun i x hi j u hj => ?_⟩
  have e9 : w'.cell? ⟨g, off + i * 17 + j, none⟩ = w.cell? ⟨g, off + i * 17 + j, none⟩ := World.cell?_of_block (w := w) (hblk g off l.length cap (by rw [h1, e]))
  rw [e9]
  exact hc i x hi j u hj
 ·obtain ⟨hB, cs, fz, hgg⟩ := h5 g off n c e
  exact ⟨hB, cs, fz, (hblk g off n c e).trans hgg⟩
theorem wpList_apA {ops : Array Oper} {rest : List Oper} {o : Oper} {f : Act} {w : World} {Q : Exit -> Act -> World -> Prop} (hgd : o.guard = none) (x y : Operand) (ho : o.op = .call { callee := .builtin .append, args := #[x, y], argTypes := #[29, 29] })
  {base : Nat} {v : Value} {l : List Adr} (hown : OAd base v l w) (hx : f.eval x = v) {g : Nat} {q : Adr} (hq : okA q) (hc : Blk w g (ac q).toList 72) (hy : f.eval y = .slice (some ⟨g, 0, none⟩) 1 1)
  (hl : l.length <= 1000000) (hbase : base <= w.heap.size)
  (h : ∀ v' w', OAd base v' (l ++ [q]) w' -> w.grownBy w' v.ownBlock -> wpList Tryz.prog ops Q rest (f.put o.dst v') w') : wpList Tryz.prog ops Q (o :: rest) f w := by
 obtain ⟨i0, hi, hz0, hz1, hz2⟩ := info_parts infoA
 refine wpList_append_own _ hgd x y 29 ho base 72 i0 (.agg (ac zadr)) 17 17 Tryz.underlying29 hi hz0 hz1 hz2 rfl (by decide) v l.length _ hx hown.1 ⟨g, 0, none⟩ 1 1 (ac q).toList hy (by rw [Array.length_toList, ac_size hq]) (fun j u hj => ?_) (fun u hu => ?_) (by unfold maxLen; omega) (by omega) hbase fun v' w' h1 h2 _ => ?_
 ·rw [add_e, Nat.zero_add]
  exact hc.cell hj
 ·have := ac_one q
  rw [Array.all_eq_true_iff_forall_mem] at this
  exact this u (by simpa using hu)
 ·refine h v' w' ⟨?_, fun y hy => ?_⟩ h2
  ·rw [List.length_append]
   unfold acs at *
   rw [List.flatMap_append]
   simpa using h1
  ·rcases List.mem_append.1 hy with h | h
   ·exact hown.2 y h
   ·simp at h; rw [h]; exact hq
abbrev EvV := Ev × Value
def ecs (l : List EvV) : List Value := l.flatMap fun a => evl a.1 a.2
def OEv (B : Nat) (v : Value) (l : List EvV) (w : World) : Prop := w.ownsRow B 31 8 v l.length (ecs l) /\ ∀ x ∈ l, okE x.1 /\ AdsAt B w x.2 x.1.ads
theorem OEv.nil (B : Nat) (w : World) : OEv B (.slice none 0 0) [] w := ⟨World.ownsRow_nil w B _ _, by intro x h; cases h⟩
theorem OEv.keep {B : Nat} {v : Value} {l : List EvV} {w w' : World} {b : Nat} (h : OEv B v l w) (k : Keep [b] w w') (hb : b < B) : OEv B v l w' := ⟨ownsRow_keep h.1 k (by simpa using hb), fun x hx => ⟨(h.2 x hx).1, (h.2 x hx).2.keep k hb⟩⟩
theorem OEv.evs {B : Nat} {v : Value} {l : List EvV} {w : World} (h : OEv B v l w) : EvsIn w v (l.map (·.1)) := by
 obtain ⟨h1, hok⟩ := h
 rcases h1.2 with ⟨rfl, h0⟩ | ⟨g, cap, cur, rfl, hbg, hg, hnc, hcm, hcs, htake⟩
 ·have : l = [] := List.eq_nil_of_length_eq_zero h0
  subst this
  exact ⟨none, 0, rfl, Nat.le_refl _, fun h => absurd h (by simp), fun i e h => by simp at h⟩
 ·refine ⟨some ⟨g, 0, none⟩, cap, by rw [List.length_map], by rw [List.length_map]; exact hnc, fun _ => ⟨g, 0, rfl, (Array.getElem?_eq_some_iff.1 hg).1⟩, fun i e hi => ?_⟩
  rw [List.getElem?_map] at hi
  obtain ⟨x, hx, rfl⟩ := Option.map_eq_some_iff.1 hi
  have hxo := hok x (List.mem_of_getElem? hx)
  refine ⟨hxo.1, x.2, hxo.2.1, fun b off e j u hj => ?_⟩
  cases e
  have hjl : j < 8 := (List.getElem?_eq_some_iff.1 hj).1
  have e1 := flat_get (fun a : EvV => evl a.1 a.2) 8 l i j x (fun y _ => rfl) hx hjl
  have e2 := h1.cells (g := g) rfl (i * 8 + j) u (by rw [show ecs l = l.flatMap fun a => evl a.1 a.2 from rfl, e1]; exact hj)
  rw [add_e] at e2
  rw [show 0 + i * 8 + j = 0 + (i * 8 + j) by omega]
  exact e2
theorem wpList_apE {ops : Array Oper} {rest : List Oper} {o : Oper} {f : Act} {w : World} {Q : Exit -> Act -> World -> Prop} (hgd : o.guard = none) (x y : Operand) (ho : o.op = .call { callee := .builtin .append, args := #[x, y], argTypes := #[22, 22] })
  {base : Nat} {v : Value} {l : List EvV} (hown : OEv base v l w) (hx : f.eval x = v) {g : Nat} {q : EvV} (hq : okE q.1 /\ AdsAt base w q.2 q.1.ads) (hs : ∃ a n c, q.2 = .slice a n c) (hc : Blk w g (evl q.1 q.2) 31) (hy : f.eval y = .slice (some ⟨g, 0, none⟩) 1 1)
  (hl : l.length <= 1000000) (hbase : base <= w.heap.size)
  (h : ∀ v' w', OEv base v' (l ++ [q]) w' -> w.grownBy w' v.ownBlock -> wpList Tryz.prog ops Q rest (f.put o.dst v') w') : wpList Tryz.prog ops Q (o :: rest) f w := by
 obtain ⟨i0, hi, hz0, hz1, hz2⟩ := info_parts infoE
 refine wpList_append_own _ hgd x y 22 ho base 31 i0 _ 8 88 Tryz.underlying22 hi hz0 hz1 hz2 rfl (by decide) v l.length _ hx hown.1 ⟨g, 0, none⟩ 1 1 (evl q.1 q.2) hy rfl (fun j u hj => ?_) (fun u hu => ?_) (by unfold maxLen; omega) (by omega) hbase fun v' w' h1 h2 _ => ?_
 ·rw [add_e, Nat.zero_add]
  exact hc.cell hj
 ·obtain ⟨a, n, c, hs⟩ := hs
  rw [hs] at hu
  have := evl_one q.1 a n c
  rw [Array.all_eq_true_iff_forall_mem] at this
  exact this u (by simpa using hu)
 ·refine h v' w' ⟨?_, fun y hy => ?_⟩ h2
  ·rw [List.length_append]
   unfold ecs at *
   rw [List.flatMap_append]
   simpa using h1
  ·rcases List.mem_append.1 hy with h | h
   ·exact ⟨(hown.2 y h).1, (hown.2 y h).2.grown hown.1 (by decide) h2⟩
   ·simp at h; rw [h]; exact ⟨hq.1, hq.2.grown hown.1 (by decide) h2⟩
end Go.Proofs.YtmdlgfnibjcgmaaGreatDoor
