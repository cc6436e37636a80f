/-
  Several texts joined: ScG, IpF, IpX, IpFm, ScH.
-/
import Derived.Test.YtmdlgfnibjcgmaaGreatDoorK06
import Derived.Test.YtmdlgfnibjcgmaaGreatDoorK02
import Derived.Laws.AppendOwn
import Derived.Laws.OwnMore
import Derived.Laws.BitsLemmas
import Derived.Lib.SmallJoins
import Derived.Lib.AppendStr
import Derived.Lib.AppendIntMem
import Derived.Lib.ItoaLen
import Derived.Lib.FrozenHead2
import Derived.Lib.OthersKept
import Derived.Laws.Externs
set_option maxHeartbeats 8000000
set_option maxRecDepth 100000
set_option linter.unusedVariables false
set_option linter.unusedSimpArgs false
namespace Go.Proofs.YtmdlgfnibjcgmaaGreatDoor
open Go.RowKit
theorem EvsIn.get {w : World} {a : Option Addr} {cap : Nat} {l : List Ev} (h : EvsIn w (.slice a l.length cap) l) {k : Nat} {x : Ev} (hk : l[k]? = some x) : ∃ b off v, a = some ⟨b, off, none⟩ /\ b < w.heap.size /\ okE x /\ AdsIn w v x.ads /\ w.rangeAt b (off + k * 8) (evl x v) /\ l.length <= cap := by
 obtain ⟨a', cap', h1, h2, h3, h4⟩ := h
 have hlt := (List.getElem?_eq_some_iff.1 hk).1
 cases h1
 obtain ⟨b, off, e, hb⟩ := h3 (by omega)
 obtain ⟨ho, v, hv, hr⟩ := h4 k x hk
 exact ⟨b, off, v, e, hb, ho, hv, hr b off e, h2⟩
theorem EvsIn.len {w : World} {sl : Value} {l : List Ev} (h : EvsIn w sl l) : ∃ a cap, sl = .slice a l.length cap := by
 obtain ⟨a, cap, h1, _⟩ := h
 exact ⟨a, cap, h1⟩
def zev : Ev := ⟨0, 0, 0, 0, false, 0, ⟨#[]⟩, []⟩
theorem evl_one (e : Ev) (a : Option Addr) (n c : Nat) : (evl e (.slice a n c)).toArray.all (·.oneCell') = true := by simp [evl, Value.oneCell']
theorem valid_ev (es : List Ev) (sl : Value) {w : World} (hA : EvsIn w sl es) (hl : es.length <= maxLen) : Calls Tryz.prog 12 #[sl] w fun e w' => e = .returned (.bool (validS es)) /\ Ext w w' := by
 obtain ⟨a, cap, rfl⟩ := hA.len
 have HV : Hid (validS es = (decide (es.length <= 1000) && es.all validE)) := Lib.hid rfl
 have hb := hl
 unfold maxLen at hb
 have HA := Lib.hid hA
 clear hA
 go_enter Tryz.func12, Tryz.ntmps12
 by_cases hn : 1000 < es.length
 ·have hn' : (1000 : Int) < (es.length : Int) := by omega
  go_wp2_with fail
  go_ret
  exact ⟨by rw [HV.out]; simp; omega, Ext.refl _⟩
 have hn' : ¬ (1000 : Int) < (es.length : Int) := by omega
 go_wp2_with fail
 go_loopw [10] (fun i wr => ∃ k : Nat, i = .int .i64 k /\ k <= es.length /\ (∀ x ∈ es.take k, validE x = true) /\ Ext w wr) (fun i _ => es.length - (intOf i).toNat)
 case atStart => exact ⟨0, rfl, Nat.zero_le _, fun x h => by simp at h, Ext.refl _⟩
 case round =>
  obtain ⟨j, rfl, hj, hall, hxr⟩ := hrel
  have HALL := Lib.hid hall
  clear hall
  by_cases hlt : j < es.length
  ·have hlt' : (j : Int) < es.length := by omega
   obtain ⟨x, hjx⟩ : ∃ x, es[j]? = some x := ⟨es[j]'hlt, List.getElem?_eq_getElem hlt⟩
   obtain ⟨ab, off, v, rfl, hab, hokx, hvx, hrx, hcap⟩ := (HA.out.ext hxr).get hjx
   obtain ⟨va, vc, rfl⟩ := hvx.len
   have HJX := Lib.hid hjx
   clear hjx
   have hbz : Blk (wr.alloc (.cells #[.int .i64 0, .int .i64 0, .int .i64 0, .int .u64 0, .bool false, .int .i64 0, .string ⟨#[]⟩, .slice none 0 0] 31)) wr.heap.size (evl zev (.slice none 0 0)) 31 := Blk.new wr #[.int .i64 0, .int .i64 0, .int .i64 0, .int .u64 0, .bool false, .int .i64 0, .string ⟨#[]⟩, .slice none 0 0] 31
   have HVX := Lib.hid (fun (w : World) (h : Ext wr w) => vev_any x _ hokx (hvx.ext h))
   have hj1 : IntKind.i64.wrap ((j : Int) + 1) = ((j + 1 : Nat) : Int) := by rw [IntWalk.i64_in _ (by omega)]; omega
   go_upto_region 6 with (first | refine wpList_loadS (cs := evl x _) Tryz.underlying31 info_Ev rfl _ rfl hrx rfl ?_ | refine wpList_storeS (cs := evl x (.slice va x.ads.length vc)) (z := evl zev (.slice none 0 0)) (c := wr.heap.size) info_Ev rfl _ _ rfl rfl (evl_one x _ _ _) hbz rfl rfl ?_)
   change Code.wp _ _ _ _ ((wr.alloc (.cells #[.int .i64 0, .int .i64 0, .int .i64 0, .int .u64 0, .bool false, .int .i64 0, .string ⟨#[]⟩, .slice none 0 0] 31)).setRow wr.heap.size (evl x (.slice va x.ads.length vc)).toArray)
   rw [World.setRow_alloc_new]
   have hbk := Blk.new wr (evl x (.slice va x.ads.length vc)).toArray 31
   have hxw := (Ext.refl wr).alloc (.cells (evl x (.slice va x.ads.length vc)).toArray 31)
   have KV := Lib.hid (HVX.out _ hxw)
   clear hbz hrx HVX
   generalize wr.alloc (.cells (evl x (.slice va x.ads.length vc)).toArray 31) = w4 at *
   generalize wr.heap.size = b4 at hbk ⊢
   cases hv : validE x
   case false =>
    rw [hv] at KV
    go_wp2_with (first | refine wpList_loadS (cs := evl x _) Tryz.underlying31 info_Ev rfl _ rfl (Blk.all8 hbk) rfl ?_ | (go_at_call 26; refine KV.out.mono ?_; rintro e w5 ⟨rfl, hx5⟩))
    go_ret
    refine ⟨?_, (hxr.trans hxw).trans hx5⟩
    have hf : es.all validE = false := by
     rw [List.all_eq_false]
     exact ⟨x, List.mem_of_getElem? HJX.out, by rw [hv]; simp⟩
    rw [HV.out, hf, Bool.and_false]; rfl
   rw [hv] at KV
   have HVY := Lib.hid hv
   clear hv
   go_wp2_with (first | refine wpList_loadS (cs := evl x _) Tryz.underlying31 info_Ev rfl _ rfl (Blk.all8 hbk) rfl ?_ | (go_at_call 26; refine KV.out.mono ?_; rintro e w5 ⟨rfl, hx5⟩))
   refine ⟨⟨j + 1, by go_num, by omega, fun y hy => ?_, (hxr.trans hxw).trans hx5⟩, ?_⟩
   ·have hjl : j < es.length := hlt
    rw [List.take_add_one, HJX.out] at hy
    rcases List.mem_append.1 hy with q | q
    ·exact HALL.out y q
    ·simp at q; rw [q]; exact HVY.out
   ·simp [intOf]; omega
  ·obtain rfl : j = es.length := by omega
   go_wp2_with fail
   go_ret
   exact ⟨by rw [HV.out, List.all_eq_true.2 (fun x hx => HALL.out x (by rw [List.take_length]; exact hx))]; simp; omega, hxr⟩
open Go.RowKit
open Go.RowKit Go.Joins
def bcells (l : List UInt8) : List Value := l.map fun c => Value.int .u8 c.toNat
theorem bcells_app (a b : List UInt8) : bcells (a ++ b) = bcells a ++ bcells b := by simp [bcells]
theorem info8 : (Tryz.prog.info? 5).map (fun i => (i.zero, i.size, i.bytes)) = some (some (.int .u8 0), 1, 1) := by kernel_rfl
theorem own_sliceX {w : World} {B : Nat} {e : TypeId} {v : Value} {n : Nat} {xs : List Value} (h : w.ownsRow B e 1 v n xs) : ∃ a cap, v = .slice a n cap := by
 obtain ⟨_, h4⟩ := h
 rcases h4 with ⟨rfl, hn⟩ | ⟨g, cap, cur, rfl, _, _, hc, _⟩
 ·exact ⟨none, 0, by rw [hn]⟩
 ·exact ⟨_, cap, rfl⟩
open Go.RowKit Go.Joins
structure Tabs (w : World) : Prop where
 tz : w.cell? ⟨5, 15, none⟩ = some (.int .u8 4)
 p10 : Lib.TabIs Tryz.prog w "internal/strconv.uint64pow10" .u64 Lib.pow10Tab
theorem Tabs.ext {w w' : World} (h : Tabs w) (k : Ext w w') : Tabs w' :=
 ⟨by rw [k.cell (World.block_lt_of_cell? _ _ h.tz)]; exact h.tz, (Lib.tabBelow_of_tabIs h.p10) w' k⟩
theorem own_str {P : Program} {w : World} {B : Nat} {a : Option Addr} {n cap : Nat} {l : List UInt8} {src dst : TypeId} (h : w.ownsRow B 5 1 (.slice a n cap) n (bcells l)) (hs : P.underlying src = some (.slice 5)) (he : P.underlying 5 = some (.int .u8)) (hd : P.underlying dst = some .string) :
  (convert src dst (.slice a n cap)).run P w = .ok (.string (txt l)) w := by
 have hlen : l.length = n := by have := h.1; simpa [bcells] using this
 have h' := h
 obtain ⟨_, h4⟩ := h'
 rcases h4 with ⟨h5, hn⟩ | ⟨g, cap', cur, h5, _, _, hc, _⟩
 ·cases h5
  obtain rfl : l = [] := List.eq_nil_of_length_eq_zero hlen
  exact run_convert_bytes_nil w src 5 hs he 0 0 dst hd
 ·cases h5
  have e : strOfNums (l.map fun c => (c.toNat : Int)) = txt l := BA_ext (by
   rw [strOfNums_data, List.map_map]
   show _ = l
   conv => rhs; rw [← List.map_id l]
   refine List.map_congr_left fun x _ => ?_
   simp)
  rw [← e]
  refine run_convert_bytes_arg w src 5 hs he g 0 n cap (l.map fun c => (c.toNat : Int)) (by simp [hlen]) (fun i hi => ?_) dst hd
  have := h.cells (g := g) rfl i (.int .u8 (l.getD i 0).toNat) (by
   unfold bcells; rw [List.getElem?_map, List.getD_eq_getElem?_getD, List.getElem?_eq_getElem (by omega)]; rfl)
  rw [show (⟨g, 0, none⟩ : Addr).add i = ⟨g, i, none⟩ from by unfold Addr.add; split <;> simp_all] at this
  rw [Nat.zero_add, this]
  congr 2
  rw [List.getD_eq_getElem?_getD, List.getD_eq_getElem?_getD, List.getElem?_map, List.getElem?_eq_getElem (by omega)]; rfl
open Go.RowKit
def Kt (b : Option Nat) (B : Nat) (w w' : World) : Prop := Below B w w' /\ Lib.OthersKept 5 b w w'
theorem Kt.refl (b : Option Nat) (B : Nat) (w : World) : Kt b B w w := ⟨Below.refl B w, Lib.OthersKept.refl _ _ w⟩
theorem Kt.trans {b : Option Nat} {B : Nat} {a c d : World} (h : Kt b B a c) (k : Kt b B c d) : Kt b B a d := ⟨h.1.trans k.1, h.2.trans k.2⟩
theorem Kt.size {b : Option Nat} {B : Nat} {a w : World} (h : Kt b B a w) : a.heap.size <= w.heap.size := h.1.size
theorem Kt.alloc {b : Option Nat} {B : Nat} {a w : World} (h : Kt b B a w) (hB : B <= w.heap.size) (o : Obj) : Kt b B a (w.alloc o) := ⟨h.1.alloc hB o, h.2.alloc o⟩
theorem Kt.of_ext {b : Option Nat} {B : Nat} {a w : World} (h : Ext a w) (hB : B <= a.heap.size) : Kt b B a w :=
 ⟨Below.mono h hB, fun k o hk _ _ => (Below.block h k (Array.getElem?_eq_some_iff.1 hk).1).trans hk⟩
theorem Blk.kt {b : Option Nat} {B : Nat} {w w' : World} {x : Nat} {cs : List Value} {t : TypeId} (h : Blk w x cs t) (ht : t ≠ 5) (hx : some x ≠ b) (k : Kt b B w w') : Blk w' x cs t :=
 k.2 x _ h hx (fun c fz e => by injection e with _ e2; exact ht e2)
def Wr (B b : Nat) (z : List UInt8) (w : World) : Prop := Lib.IsBuilderF 48 5 B b (bcells z) w
theorem Wr.ge {B b : Nat} {z : List UInt8} {w : World} (h : Wr B b z w) : B <= b := h.elim (·.1) (·.1)
theorem Wr.lt {B b : Nat} {z : List UInt8} {w : World} (h : Wr B b z w) : b < w.heap.size := h.elim (·.lt) (·.lt)
theorem Wr.alloc {B b : Nat} {z : List UInt8} {w : World} (h : Wr B b z w) (o : Obj) : Wr B b z (w.alloc o) := Lib.IsBuilderF.alloc h o
theorem BuilderF_ext {T e : TypeId} {B b : Nat} {p : Value} {bs : List Value} {w w' : World} (h : Lib.BuilderAtF T e B b p bs w) (k : Ext w w') : Lib.BuilderAtF T e B b p bs w' := by
 have hlt := h.lt
 obtain ⟨hB, v, hb, hown, hne⟩ := h
 refine ⟨hB, v, (Below.block k b hlt).trans hb, ⟨hown.1, ?_⟩, hne⟩
 rcases hown.2 with hn | ⟨g, cap, cur, fz, hv, hbg, hg, rest⟩
 ·exact .inl hn
 ·exact .inr ⟨g, cap, cur, fz, hv, hbg, (Below.block k g (Array.getElem?_eq_some_iff.1 hg).1).trans hg, rest⟩
theorem Wr.ext {B b : Nat} {z : List UInt8} {w w' : World} (h : Wr B b z w) (k : Ext w w') : Wr B b z w' := h.elim (fun x => .inl (BuilderF_ext x k)) (fun x => .inr (BuilderF_ext x k))
theorem Wr.ne {B b : Nat} {z : List UInt8} {w : World} (h : Wr B b z w) {x : Nat} {cs : List Value} {t : TypeId} (hx : Blk w x cs t) (ht : t ≠ 48) : x ≠ b := by
 rintro rfl
 unfold Blk at hx
 rcases h with ⟨_, v, hb, _⟩ | ⟨_, v, hb, _⟩ <;>
 ·rw [hb] at hx
  have e := Option.some.inj hx
  injection e with _ e2
  exact ht e2.symm
theorem info_bd : (Tryz.prog.info? 46).map (·.size) = some 2 := by kernel_rfl
theorem lies_bd : liesAt Tryz.prog Tryz.prog.depth 48 (2 / Tryz.prog.cellsOf 48) 0 46 1 = true := by kernel_rfl
theorem cc_used (b : Nat) (w : World) (h0 : w.cell? ⟨b, 0, none⟩ = some (.pointer (some ⟨b, 0, none⟩))) :
  Calls Tryz.prog 57 #[.pointer (some ⟨b, 0, none⟩)] w fun e w' => e = .returned (.tuple #[]) /\ w' = w := by
 obtain ⟨j, hj, _⟩ := Option.map_eq_some_iff.1 info_bd
 go_enter Tryz.func57, Tryz.ntmps57
 go_wp2_with fail
 rw [Lib.run_neq_ptr_same w _ Tryz.underlying44 hj]
 go_wp2_with fail
 go_end0
 exact ⟨rfl, rfl⟩
theorem cc_fresh (b : Nat) (w : World) (h0 : w.cell? ⟨b, 0, none⟩ = some (.pointer none)) (hsh : w.shape? b = some (48, 2)) (hfz : w.frozen? ⟨b, 0, none⟩ = false) :
  Calls Tryz.prog 57 #[.pointer (some ⟨b, 0, none⟩)] w fun e w' => e = .returned (.tuple #[]) /\ w' = w.setCell ⟨b, 0, none⟩ (.pointer (some ⟨b, 0, none⟩)) := by
 obtain ⟨j, hj, hjs⟩ := Option.map_eq_some_iff.1 info_bd
 go_enter Tryz.func57, Tryz.ntmps57
 go_wp2_with fail
 rw [Lib.run_to_unsafe w ⟨b, 0, none⟩ Tryz.underlying44 Tryz.underlying130 hj (by rw [hjs]; decide) hsh (Nat.zero_lt_succ 1)]
 simp only [Result.andThen]
 rw [Oper.upon_value]
 go_wp2_with fail
 rw [run_callFunc_extern Tryz.func72 (by kernel_rfl) (by kernel_rfl) (by kernel_rfl) (e := Extern.AbiNoEscape.same) (by kernel_rfl)]
 rw [Lib.run_noEscape]
 simp only [Result.andThen]
 rw [Oper.upon_value]
 go_wp2_with fail
 rw [Lib.run_from_unsafe w ⟨b, 0, none⟩ Tryz.underlying130 Tryz.underlying44 hj hsh lies_bd]
 simp only [Result.andThen]
 rw [Oper.upon_value]
 go_wp2_with fail
 go_end0
 exact ⟨rfl, rfl⟩
theorem cc_any (B b : Nat) (bs : List Value) (w : World) (h : Lib.IsBuilderF 48 5 B b bs w) :
  Calls Tryz.prog 57 #[.pointer (some ⟨b, 0, none⟩)] w fun e w' => e = .returned (.tuple #[]) /\ Lib.BuilderAtF 48 5 B b (.pointer (some ⟨b, 0, none⟩)) bs w' /\ Kt (some b) B w w' := by
 rcases h with h | h
 ·refine (cc_fresh b w h.cell0 h.shape h.frozen0).mono ?_
  rintro e w' ⟨rfl, rfl⟩
  exact ⟨rfl, h.used _, (Below.refl B w).setCell (p := ⟨b, 0, none⟩) h.1 _, (Lib.OthersKept.refl _ _ w).setCell ⟨b, 0, none⟩ rfl _⟩
 ·refine (cc_used b w h.cell0).mono ?_
  rintro e w' ⟨rfl, rfl⟩
  exact ⟨rfl, h, Kt.refl _ _ _⟩
theorem wtn : (48 : TypeId) ≠ 5 := by decide
theorem bcells_len (l : List UInt8) : (bcells l).length = l.length := by simp [bcells]
theorem bcells_one (l : List UInt8) : ∀ u ∈ bcells l, u.oneCell' = true := fun u hu => by
 unfold bcells at hu
 obtain ⟨c, _, rfl⟩ := List.mem_map.1 hu
 rfl
theorem bcells_u (c : Int) (h0 : 0 <= c) (h1 : c < 256) : bcells [UInt8.ofNat c.toNat] = [.int .u8 c] := by
 show [Value.int .u8 ((UInt8.ofNat c.toNat).toNat : Int)] = _
 rw [u8_back h0 h1]
theorem wbyte_any (B b : Nat) (z : List UInt8) (c : Int) (hc0 : 0 <= c) (hc1 : c < 256) (w : World) (h : Wr B b z w) (hlen : z.length <= 100000000000000) (hBw : B <= w.heap.size) :
  Calls Tryz.prog 35 #[.pointer (some ⟨b, 0, none⟩), .int .u8 c] w fun e w' => e = .returned .nilIface /\ Wr B b (z ++ [UInt8.ofNat c.toNat]) w' /\ Kt (some b) B w w' := by
 obtain ⟨i0, hi, hz0, hz1, hz2⟩ := info_parts info8
 have HI := Lib.hid hi
 have HZ0 := Lib.hid hz0
 have HZ1 := Lib.hid hz1
 have HZ2 := Lib.hid hz2
 clear hi hz0 hz1 hz2
 have KC := Lib.hid (cc_any B b (bcells z) w h)
 have HL : Hid (z.length <= 100000000000000) := Lib.hid hlen
 clear hlen h
 go_enter Tryz.func35, Tryz.ntmps35
 go_upto_region 2 with (go_at_call 57; refine KC.out.mono ?_; rintro e w1 ⟨rfl, h1, hb1⟩)
 obtain ⟨hB, v, hbk, hown, hne⟩ := h1
 have c0 : w1.cell? ⟨b, 0, none⟩ = some (.pointer (some ⟨b, 0, none⟩)) := by rw [Lib.cell_of_heap hbk]; rfl
 have c1 : w1.cell? ⟨b, 1, none⟩ = some v := by rw [Lib.cell_of_heap hbk]; rfl
 have hlt : b < w1.heap.size := (Array.getElem?_eq_some_iff.1 hbk).1
 have hBw1 := hb1.size
 have HN := Lib.hid hne
 have HOW := Lib.hid hown
 have HBK := Lib.hid hbk
 clear hne hown hbk
 go_wp2_with (at_builtin; refine wpList_append_ownF _ rfl _ _ 39 rfl B 5 i0 (.int .u8 0) 1 1 Tryz.underlying39 HI.out HZ0.out HZ1.out HZ2.out rfl (by decide) _ _ _ rfl (HOW.out.alloc _) ⟨w1.heap.size, 0, none⟩ 1 1 [.int .u8 c] rfl rfl ?c1 ?c2 ?c3 ?c4 ?c5 ?_)
 case c1 =>
  intro j u hj
  match j, hj with
  | 0, hj => simp at hj; subst hj; simp [Addr.add]
 case c2 => intro u hu; simp at hu; subst hu; rfl
 case c3 => have := HL.out; rw [bcells_len]; unfold maxLen; omega
 case c4 => have := HL.out; rw [bcells_len]; omega
 case c5 => simp; omega
 intro v' w2 hown' hgrow _
 have hb2 : w2.heap[b]? = some (.cells #[.pointer (some ⟨b, 0, none⟩), v] 48 (0, 0)) := by
  rw [hgrow.block b (by simp; omega) (fun e => HN.out e.symm), Lib.alloc_old w1 _ b hlt]
  exact HBK.out
 have d0 : w2.cell? ⟨b, 0, none⟩ = some (.pointer (some ⟨b, 0, none⟩)) := by rw [Lib.cell_of_heap hb2]; rfl
 have d1 : w2.cell? ⟨b, 1, none⟩ = some v := by rw [Lib.cell_of_heap hb2]; rfl
 have f1 : w2.frozen? ⟨b, 1, none⟩ = false := Lib.frozen_of_heap hb2 1
 obtain ⟨g, cap, rfl⟩ : ∃ g cap, v' = .slice (some ⟨g, 0, none⟩) ((bcells z).length + 1) cap := by
  rcases hown'.2 with ⟨_, h0⟩ | ⟨g, cap, cur, fz, hv, _⟩
  ·omega
  ·exact ⟨g, cap, hv⟩
 have HB2 := Lib.hid hb2
 have HO2 := Lib.hid hown'
 clear hb2 hown'
 go_wp2_with fail
 go_ret
 refine ⟨rfl, .inr ?_, ?_, ((hb1.2.alloc _).grown hgrow (Lib.ownsRowF_kind (HOW.out.alloc _))).setCell ⟨b, 1, none⟩ rfl _⟩
 ·rw [bcells_app, bcells_u c hc0 hc1]
  exact Lib.BuilderAtF.put (T := 48) (e := 5) hB HB2.out (bs' := bcells z ++ [.int .u8 c]) (by simpa using HO2.out) wtn
 ·exact ((hb1.1.alloc (by omega) _).grown hgrow (by simp; omega) (fun k hk => (HOW.out.lt k hk).1)).setCell (p := ⟨b, 1, none⟩) hB _
theorem wstr_any (B b : Nat) (z : List UInt8) (s : ByteArray) (w : World) (h : Wr B b z w) (hlen : z.length <= 100000000000) (hs : s.size <= 100000000000) (hBw : B <= w.heap.size) :
  Calls Tryz.prog 39 #[.pointer (some ⟨b, 0, none⟩), .string s] w fun e w' => e = .returned (.tuple #[.int .i64 s.size, .nilIface]) /\ Wr B b (z ++ s.data.toList) w' /\ Kt (some b) B w w' := by
 obtain ⟨i0, hi, hz0, hz1, hz2⟩ := info_parts info8
 have HI := Lib.hid hi
 have HZ0 := Lib.hid hz0
 have HZ1 := Lib.hid hz1
 have HZ2 := Lib.hid hz2
 clear hi hz0 hz1 hz2
 have KC := Lib.hid (cc_any B b (bcells z) w h)
 have HL : Hid (z.length + s.size <= 200000000000) := Lib.hid (by omega)
 clear hlen h
 go_enter Tryz.func39, Tryz.ntmps39
 go_upto_region 2 with (go_at_call 57; refine KC.out.mono ?_; rintro e w1 ⟨rfl, h1, hb1⟩)
 obtain ⟨hB, v, hbk, hown, hne⟩ := h1
 have c0 : w1.cell? ⟨b, 0, none⟩ = some (.pointer (some ⟨b, 0, none⟩)) := by rw [Lib.cell_of_heap hbk]; rfl
 have c1 : w1.cell? ⟨b, 1, none⟩ = some v := by rw [Lib.cell_of_heap hbk]; rfl
 have hlt : b < w1.heap.size := (Array.getElem?_eq_some_iff.1 hbk).1
 have hBw1 := hb1.size
 have HN := Lib.hid hne
 have HOW := Lib.hid hown
 have HBK := Lib.hid hbk
 clear hne hown hbk
 go_wp2_with (at_builtin; refine Lib.wpList_append_own_stringF _ rfl _ _ 39 9 rfl B 5 i0 Tryz.underlying39 Tryz.underlying9 HI.out HZ0.out HZ1.out HZ2.out _ _ _ rfl HOW.out s rfl ?c3 ?c4 ?c5 ?_)
 case c3 => have := HL.out; rw [bcells_len]; unfold maxLen; omega
 case c4 => have := HL.out; rw [bcells_len]; omega
 case c5 => omega
 intro v' w2 hown' hgrow _
 have hb2 : w2.heap[b]? = some (.cells #[.pointer (some ⟨b, 0, none⟩), v] 48 (0, 0)) := by
  rw [hgrow.block b hlt (fun e => HN.out e.symm)]
  exact HBK.out
 have d0 : w2.cell? ⟨b, 0, none⟩ = some (.pointer (some ⟨b, 0, none⟩)) := by rw [Lib.cell_of_heap hb2]; rfl
 have d1 : w2.cell? ⟨b, 1, none⟩ = some v := by rw [Lib.cell_of_heap hb2]; rfl
 have f1 : w2.frozen? ⟨b, 1, none⟩ = false := Lib.frozen_of_heap hb2 1
 obtain ⟨ao, n', cap, rfl⟩ : ∃ ao n' cap, v' = .slice ao n' cap := by
  rcases hown'.2 with ⟨hv, _⟩ | ⟨g, cap, cur, fz, hv, _⟩
  ·exact ⟨_, _, _, hv⟩
  ·exact ⟨_, _, _, hv⟩
 have HB2 := Lib.hid hb2
 have HO2 := Lib.hid hown'
 clear hb2 hown'
 go_wp2_with fail
 go_ret2
 refine ⟨rfl, .inr ?_, ?_, (hb1.2.grown hgrow (Lib.ownsRowF_kind HOW.out)).setCell ⟨b, 1, none⟩ rfl _⟩
 ·rw [bcells_app]
  exact Lib.BuilderAtF.put (T := 48) (e := 5) hB HB2.out (bs' := bcells z ++ Lib.strCells s) (by simpa [Lib.strCells_length] using HO2.out) wtn
 ·exact (hb1.1.grown hgrow (by omega) (fun k hk => (HOW.out.lt k hk).1)).setCell (p := ⟨b, 1, none⟩) hB _
theorem wsl_any (B b : Nat) (z ns : List UInt8) {g off m cap : Nat} {cs : List Value} {t : TypeId} (ht : t ≠ 5) (htw : t ≠ 48) (hm : ns.length = m) (hc : ∀ j u, (bcells ns)[j]? = some u -> cs[off + j]? = some u) (w : World) (hg : Blk w g cs t) (h : Wr B b z w) (hlen : z.length <= 100000000000) (hs : m <= 100000000000) (hBw : B <= w.heap.size) :
  Calls Tryz.prog 58 #[.pointer (some ⟨b, 0, none⟩), .slice (some ⟨g, off, none⟩) m cap] w fun e w' => e = .returned (.tuple #[.int .i64 m, .nilIface]) /\ Wr B b (z ++ ns) w' /\ Kt (some b) B w w' := by
 have hgb : some g ≠ some b := fun e => Wr.ne h hg htw (Option.some.inj e)
 obtain ⟨i0, hi, hz0, hz1, hz2⟩ := info_parts info8
 have HI := Lib.hid hi
 have HZ0 := Lib.hid hz0
 have HZ1 := Lib.hid hz1
 have HZ2 := Lib.hid hz2
 clear hi hz0 hz1 hz2
 have KC := Lib.hid (cc_any B b (bcells z) w h)
 have HL : Hid (z.length + m <= 200000000000) := Lib.hid (by omega)
 have HC := Lib.hid hc
 have HM := Lib.hid hm
 have HG := Lib.hid (fun (w' : World) (k : Kt (some b) B w w') => Blk.kt hg ht hgb k)
 clear hlen h hc hm hg
 go_enter Tryz.func58, Tryz.ntmps58
 go_upto_region 2 with (go_at_call 57; refine KC.out.mono ?_; rintro e w1 ⟨rfl, h1, hb1⟩)
 have HG1 := Lib.hid (HG.out w1 hb1)
 obtain ⟨hB, v, hbk, hown, hne⟩ := h1
 have c0 : w1.cell? ⟨b, 0, none⟩ = some (.pointer (some ⟨b, 0, none⟩)) := by rw [Lib.cell_of_heap hbk]; rfl
 have c1 : w1.cell? ⟨b, 1, none⟩ = some v := by rw [Lib.cell_of_heap hbk]; rfl
 have hlt : b < w1.heap.size := (Array.getElem?_eq_some_iff.1 hbk).1
 have hBw1 := hb1.size
 have HN := Lib.hid hne
 have HOW := Lib.hid hown
 have HBK := Lib.hid hbk
 clear hne hown hbk
 go_wp2_with (at_builtin; refine wpList_append_ownF _ rfl _ _ 39 rfl B 5 i0 (.int .u8 0) 1 1 Tryz.underlying39 HI.out HZ0.out HZ1.out HZ2.out rfl (by decide) _ _ _ rfl HOW.out ⟨g, off, none⟩ m cap (bcells ns) rfl ?c0 ?c1 ?c2 ?c3 ?c4 ?c5 ?_)
 case c0 => rw [bcells_len, HM.out, Nat.mul_one]
 case c1 =>
  intro j u hj
  rw [add_e]
  exact HG1.out.cell (HC.out j u hj)
 case c2 => exact bcells_one ns
 case c3 => have := HL.out; rw [bcells_len]; unfold maxLen; omega
 case c4 => have := HL.out; rw [bcells_len]; omega
 case c5 => omega
 intro v' w2 hown' hgrow _
 have hb2 : w2.heap[b]? = some (.cells #[.pointer (some ⟨b, 0, none⟩), v] 48 (0, 0)) := by
  rw [hgrow.block b hlt (fun e => HN.out e.symm)]
  exact HBK.out
 have d0 : w2.cell? ⟨b, 0, none⟩ = some (.pointer (some ⟨b, 0, none⟩)) := by rw [Lib.cell_of_heap hb2]; rfl
 have d1 : w2.cell? ⟨b, 1, none⟩ = some v := by rw [Lib.cell_of_heap hb2]; rfl
 have f1 : w2.frozen? ⟨b, 1, none⟩ = false := Lib.frozen_of_heap hb2 1
 obtain ⟨ao, n', cap, rfl⟩ : ∃ ao n' cap, v' = .slice ao n' cap := by
  rcases hown'.2 with ⟨hv, _⟩ | ⟨g, cap, cur, fz, hv, _⟩
  ·exact ⟨_, _, _, hv⟩
  ·exact ⟨_, _, _, hv⟩
 have HB2 := Lib.hid hb2
 have HO2 := Lib.hid hown'
 clear hb2 hown'
 go_wp2_with fail
 go_ret2
 refine ⟨rfl, .inr ?_, ?_, (hb1.2.grown hgrow (Lib.ownsRowF_kind HOW.out)).setCell ⟨b, 1, none⟩ rfl _⟩
 ·rw [bcells_app]
  exact Lib.BuilderAtF.put (T := 48) (e := 5) hB HB2.out (bs' := bcells z ++ bcells ns) (by have := HO2.out; rw [← HM.out, ← bcells_len ns, ← List.length_append] at this; exact this) wtn
 ·exact (hb1.1.grown hgrow (by omega) (fun k hk => (HOW.out.lt k hk).1)).setCell (p := ⟨b, 1, none⟩) hB _
end Go.Proofs.YtmdlgfnibjcgmaaGreatDoor
