/-
  Several texts joined: IpU, IpG, IpV, IpM, IpP, IpVb.
-/
import Derived.Test.YtmdlgfnibjcgmaaGreatDoorProg
import Derived.Lib.ConvBytes
import Derived.Lib.AtoiErrMem
import Derived.Laws.Closers25
import Derived.Handy
import Derived.Test.YtmdlgfnibjcgmaaGreatDoorK01
import Derived.Test.YtmdlgfnibjcgmaaGreatDoorK17
import Derived.Shelf.Strings.SlTrimAscii
import Derived.Deep.WholeRow
import Derived.Test.YtmdlgfnibjcgmaaGreatDoorK02
import Derived.Laws.AppendOwn
import Derived.Laws.CopyRow
set_option maxHeartbeats 400000
set_option maxRecDepth 8000
set_option linter.unusedVariables false
set_option linter.unusedSimpArgs false
namespace Go.Proofs.YtmdlgfnibjcgmaaGreatDoor
open Go.RowKit
open Go.RowKit Go.Joins
theorem StrCells.grown {w w' : World} {b : Nat} {ps : List ByteArray} {row : Option Nat} (h : StrCells w b ps) {o : Obj} (hb : ∀ k, row = some k -> k ≠ b) (hg : (w.alloc o).grownBy w' row) : StrCells w' b ps := by
 have hk := (Keep.of_grown hg)
 have h1 := h.ext ((Ext.refl w).alloc o)
 exact ⟨Nat.lt_of_lt_of_le h1.1 hk.size, fun j x hj => by rw [hk.cell (p := ⟨b, j, none⟩) h1.1 (by intro hm; cases row with | none => simp at hm | some r => simp at hm; exact hb r rfl hm.symm)]; exact h1.2 j x hj⟩
open Go.RowKit
open Go.RowKit
open Go.RowKit Go.Joins
open Go.RowKit
theorem Blk.setCells {b : Nat} {t : TypeId} : ∀ (vs : List Value) (o : Nat) (w : World) (cs : List Value), o + vs.length <= cs.length -> Blk w b cs t -> Blk (w.setCells b o vs) b (cs.take o ++ vs ++ cs.drop (o + vs.length)) t
 | [], o, w, cs, _, h => by
  rw [World.setCells, List.append_nil, List.length_nil, Nat.add_zero, List.take_append_drop]; exact h
 | v :: r, o, w, cs, hl, h => by
  have h1 := h.set o v
  have h2 := Blk.setCells r (o + 1) _ _ (by rw [List.length_set]; simp at hl; omega) h1
  rw [World.setCells]
  have ho : o < cs.length := by simp at hl; omega
  have e1 : (cs.set o v).take (o + 1) = cs.take o ++ [v] := by
   rw [List.take_add_one, List.take_set_of_le (Nat.le_refl _), List.getElem?_set, if_pos rfl, if_pos ho]; rfl
  have e2 : (cs.set o v).drop (o + 1 + r.length) = cs.drop (o + (v :: r).length) := by
   rw [List.drop_set_of_lt (by omega), List.length_cons, show o + 1 + r.length = o + (r.length + 1) by omega]
  rw [e1, e2, List.append_assoc, List.append_assoc] at h2
  rw [List.append_assoc]
  exact h2
theorem Ext.setCells {a : World} {b : Nat} (hb : a.heap.size <= b) : ∀ (vs : List Value) (o : Nat) (w : World), Ext a w -> Ext a (w.setCells b o vs)
 | [], _, _, h => h
 | v :: r, o, w, h => Ext.setCells hb r (o + 1) _ (h.setCell hb v)
theorem heap_setCells (b c : Nat) : ∀ (vs : List Value) (hne : c ≠ b) (o : Nat) {w : World}, (w.setCells b o vs).heap[c]? = w.heap[c]?
 | [], _, _, _ => rfl
 | v :: r, hne, o, w => by rw [World.setCells, heap_setCells b c r hne (o + 1), Below.heap_setCell _ _ _ _ hne]
def vadr (a : Adr) : Adr := if a.1 = true then a else v4 (X a 0) (X a 1) (X a 2) (X a 3)
theorem okA_vadr {a : Adr} (ha : okA a) : okA (vadr a) := by
 unfold vadr
 split
 ·exact ha
 ·exact okA_v4 (X_bd ha _) (X_bd ha _) (X_bd ha _) (X_bd ha _)
theorem info_16 : (Tryz.prog.info? 70).map (·.size) = some 16 := by kernel_rfl
theorem there_A {w : World} {b : Nat} {a : Adr} (ha : okA a) (h : Blk w b (ac a).toList 72) : w.there b 1 16 := fun j hj => ⟨by
 have := h.cell (i := 1 + j) (v := .int .u8 (X a j)) (by rw [Array.getElem?_toList]; exact ac_at ha hj)
 rw [this]; rfl, h.free _⟩
theorem wpList_store_B {ops : Array Oper} {rest : List Oper} {o : Oper} {f : Act} {w : World} {Q : Exit -> Act -> World -> Prop} (zs : List Int) (hgd : o.guard = none) (x y : Operand) (ho : o.op = .store 70 x y)
  {c : Nat} {a0 : Adr} (h0 : okA a0) (hb : Blk w c (ac a0).toList 72) (hs : zs.length = 16) (hx : f.eval x = .pointer (some ⟨c, 1, none⟩)) (hy : f.eval y = .agg (zs.map (Value.int .u8)).toArray)
  (h : wpList Tryz.prog ops Q rest (f.put o.dst undef) (w.setCells c 1 (zs.map (Value.int .u8)))) : wpList Tryz.prog ops Q (o :: rest) f w :=
 wpList_store_mid hgd 70 x y ho c 1 (zs.map (Value.int .u8)).toArray hx hy (by rw [List.size_toArray, List.length_map, hs]; exact there_A h0 hb) (by rw [info_16, List.size_toArray, List.length_map, hs]) (all_oneCell_toArray fun v hv => by
  obtain ⟨z, _, rfl⟩ := List.mem_map.1 hv; rfl) h
theorem Blk.store16 {w : World} {b : Nat} {a : Adr} (ha : okA a) (h : Blk w b (ac a).toList 72) {zs : List Int} (hz : zs.length = 16) : Blk (w.setCells b 1 (zs.map (Value.int .u8))) b (ac (a.1, zs)).toList 72 := by
 have hal : (ac a).toList.length = 17 := by rw [Array.length_toList, ac_size ha]
 have h2 := Blk.setCells (zs.map (Value.int .u8)) 1 w (ac a).toList (by rw [hal, List.length_map, hz]; decide) h
 rw [List.drop_of_length_le (by rw [hal, List.length_map, hz]; decide), List.append_nil] at h2
 exact h2
theorem vadr_any (a : Adr) (ha : okA a) (w : World) : Calls Tryz.prog 34 #[av a] w fun e w' => e = .returned (av (vadr a)) /\ Ext w w' := by
 unfold av
 go_enter Tryz.func34, Tryz.ntmps34
 go_upto_region 1 with fail
 rw [← ac_zadr]
 have hx := ((Ext.refl w).alloc (.cells (ac a) 72)).alloc (.cells (ac zadr) 72)
 have hb := (ABox.new ha w).ext ha ((Ext.refl _).alloc (.cells (ac zadr) 72))
 have hr := Blk.new (w.alloc (.cells (ac a) 72)) (ac zadr) 72
 have hsz : (w.alloc (.cells (ac a) 72)).heap.size = w.heap.size + 1 := by show (w.heap.push _).size = _; simp
 rw [hsz] at hr
 generalize (w.alloc (.cells (ac a) 72)).alloc (.cells (ac zadr) 72) = w2 at *
 clear hsz
 have hxs : w.heap.size <= w.heap.size + 1 := by omega
 have c0 := hb.fam
 rcases ha1 : a.1 with _ | _
 ·have E : Hid (vadr a = v4 (X a 0) (X a 1) (X a 2) (X a 3)) := Lib.hid (by unfold vadr; rw [ha1]; rfl)
  rw [ha1] at c0
  have n0 := hb.num 0 1 rfl (by decide)
  have n1 := hb.num 1 2 rfl (by decide)
  have n2 := hb.num 2 3 rfl (by decide)
  have n3 := hb.num 3 4 rfl (by decide)
  have hv := okA_v4 (X_bd ha 0) (X_bd ha 1) (X_bd ha 2) (X_bd ha 3)
  have hblk := hb.blk
  have HS := Lib.hid (hblk.store16 ha (zs := [X a 0, X a 1, X a 2, X a 3, 0, 0, 0, 0, 0, 0, 0, 0, 0, 0, 0, 0]) rfl)
  rw [ha1] at HS
  clear ha1
  generalize X a 0 = x0 at *
  generalize X a 1 = x1 at *
  generalize X a 2 = x2 at *
  generalize X a 3 = x3 at *
  have hx4 := Ext.setCells (Nat.le_refl _) ([x0, x1, x2, x3, 0, 0, 0, 0, 0, 0, 0, 0, 0, 0, 0, 0].map (Value.int .u8)) 1 _ hx
  have hr4 : Blk (w2.setCells w.heap.size 1 ([x0, x1, x2, x3, 0, 0, 0, 0, 0, 0, 0, 0, 0, 0, 0, 0].map (Value.int .u8))) (w.heap.size + 1) (ac zadr).toList 72 := hr.of_heap (by
   exact heap_setCells _ _ _ (by omega) _)
  go_upto_region 3 with (refine wpList_store_B [x0, x1, x2, x3, 0, 0, 0, 0, 0, 0, 0, 0, 0, 0, 0, 0] rfl _ _ rfl ha hblk rfl rfl rfl ?_)
  generalize w2.setCells w.heap.size 1 ([x0, x1, x2, x3, 0, 0, 0, 0, 0, 0, 0, 0, 0, 0, 0, 0].map (Value.int .u8)) = w4 at *
  go_wp2_with (first | refine wpList_load_A rfl _ rfl hv HS.out rfl ?_ | refine wpList_store_A rfl _ _ rfl okA_zadr hv hr4 rfl rfl ?_)
  refine bodyPost_ret (res_A rfl rfl hv (hr4.row _)) rfl ⟨by rw [E.out], hx4.setRow hxs _⟩
 ·have E : Hid (vadr a = a) := Lib.hid (by unfold vadr; rw [ha1]; rfl)
  rw [ha1] at c0; clear ha1
  go_wp2_with (first | refine wpList_load_A rfl _ rfl ha hb.blk rfl ?_ | refine wpList_store_A rfl _ _ rfl okA_zadr ha hr rfl rfl ?_)
  refine bodyPost_ret (res_A rfl rfl ha (hr.row _)) rfl ⟨by rw [E.out], hx.setRow hxs _⟩
theorem ac_set {a : Adr} (j : Nat) (z : Int) : (ac a).toList.set (1 + j) (.int .u8 z) = (ac (a.1, a.2.set j z)).toList := by
 unfold ac
 rw [Nat.add_comm 1 j]
 simp only [List.set_cons_succ, List.map_set]
end Go.Proofs.YtmdlgfnibjcgmaaGreatDoor
