/-
  Several texts joined: ScJ, ScO.
-/
import Derived.Test.YtmdlgfnibjcgmaaGreatDoorK10
import Derived.Test.YtmdlgfnibjcgmaaGreatDoorK23
set_option maxHeartbeats 4000000
set_option maxRecDepth 10000
set_option linter.unusedVariables false
set_option linter.unusedSimpArgs false
namespace Go.Proofs.YtmdlgfnibjcgmaaGreatDoor
open Go.RowKit
def o8 (l : List Int) : List UInt8 := l.map fun x => UInt8.ofNat x.toNat
theorem o8_len (l : List Int) : (o8 l).length = l.length := by unfold o8; rw [List.length_map]
theorem o8_cells {l : List Int} (h : ∀ x ∈ l, 0 <= x /\ x < 256) : bcells (o8 l) = l.map (Value.int .u8) := by
 unfold bcells o8
 rw [List.map_map]
 refine List.map_congr_left fun x hx => ?_
 have := u8_back (h x hx).1 (h x hx).2
 simp only [Function.comp]
 rw [this]
theorem nums_list (l : List Int) : (strOfNums l).data.toList = o8 l := by rw [strOfNums_data]; rfl
theorem oct_cells {x : Adr} (hx : okA x) (n : Nat) : ∀ j u, (bcells (o8 (x.2.take n)))[j]? = some u -> (ac x).toList[1 + j]? = some u := by
 intro j u hj
 rw [o8_cells (fun y hy => hx.2 y (List.mem_of_mem_take hy)), List.map_take, List.getElem?_take] at hj
 split at hj
 ·unfold ac
  rw [Nat.add_comm 1 j, List.getElem?_cons_succ]
  exact hj
 ·cases hj
theorem encA_list (x : Adr) (hx : x.2.length = 16) : (encA x).data.toList = if x.1 then (uv 6).data.toList ++ o8 (x.2.take 16) else (uv 4).data.toList ++ o8 (x.2.take 4) := by
 unfold encA
 split
 ·rw [data_append, nums_list, List.take_of_length_le (by omega)]
 ·rw [data_append, nums_list]
theorem encAs_snoc : ∀ (l : List Adr) (x : Adr), (encAs (l ++ [x])).data.toList = (encAs l).data.toList ++ (encA x).data.toList
 | [], x => by
  show (encA x ++ ⟨#[]⟩).data.toList = _
  rw [data_append]; simp [encAs]
 | a :: l, x => by
  show (encA a ++ encAs (l ++ [x])).data.toList = (encA a ++ encAs l).data.toList ++ _
  rw [data_append, data_append, encAs_snoc l x, List.append_assoc]
theorem encA_len (x : Adr) (hx : x.2.length = 16) : (encA x).data.toList.length <= 26 := by
 have h6 := uvb_lenb 9 6
 have h4 := uvb_lenb 9 4
 rw [encA_list x hx]
 unfold uv
 split <;> (rw [List.length_append, o8_len, List.length_take]; omega)
theorem encAs_len : ∀ (l : List Adr), (∀ x ∈ l, okA x) -> (encAs l).data.toList.length <= 26 * l.length
 | [], _ => Nat.le_refl _
 | a :: l, h => by
  show (encA a ++ encAs l).data.toList.length <= _
  have h1 := encA_len a (h a (List.mem_cons_self ..)).1
  have h2 := encAs_len l (fun x hx => h x (List.mem_cons_of_mem _ hx))
  rw [data_append, List.length_append, List.length_cons]; omega
theorem num_ext (b : Option Nat) {B : Nat} {w0 w w' : World} (h : Ext w0 w) (hB : w0.heap.size <= B) (k : Kt b B w w') : Ext w0 w' := Below.trans h (Below.mono k.1 hB)
theorem wadrs_any (B b : Nat) (z : List UInt8) (l : List Adr) (sl : Value) {w0 w : World} (hA : AdsIn w0 sl l) (hl : l.length <= 16) (h0 : Ext w0 w) (hB0 : w0.heap.size <= B) (h : Wr B b z w) (hlen : z.length <= 2000000000) (hBw : B <= w.heap.size) :
  Calls Tryz.prog 40 #[.pointer (some ⟨b, 0, none⟩), sl] w fun e w' => e = .returned (.tuple #[]) /\ Wr B b (z ++ (uv l.length).data.toList ++ (encAs l).data.toList) w' /\ Kt (some b) B w w' := by
 obtain ⟨a, cap, rfl⟩ := hA.len
 have hok : ∀ x ∈ l, okA x := by obtain ⟨_, _, _, _, h, _⟩ := hA; exact h
 have KN := Lib.hid (wnum_any B b z l.length (by omega) w h (by omega) hBw)
 have HA := Lib.hid (fun (w' : World) (k : Kt (some b) B w w') => hA.ext (num_ext _ h0 hB0 k))
 have HLZ : Hid ((z ++ (uv l.length).data.toList).length + (encAs l).data.toList.length <= 2000000500) := Lib.hid (by
  have h1 := encAs_len l hok
  have h2 := uvb_lenb 9 l.length
  rw [List.length_append]; unfold uv; omega)
 have HLT : Hid (∀ j, (encAs (l.take j)).data.toList.length <= 416) := Lib.hid (fun j => by
  have h1 := encAs_len (l.take j) (fun x hx => hok x (List.mem_of_mem_take hx))
  rw [List.length_take] at h1; omega)
 have qn : IntKind.u64.wrap (l.length : Int) = (l.length : Int) := by rw [IntKind.wrap_u64]; omega
 have HBb : Hid (B <= w.heap.size) := Lib.hid hBw
 have hge := Wr.ge h
 have HOK := Lib.hid hok
 clear hA h hlen hok h0 hB0 hBw
 go_enter Tryz.func40, Tryz.ntmps40
 go_wp2_with (go_at_call 19; refine KN.out.mono ?_; rintro e w1 ⟨rfl, hW1, hK1⟩)
 clear KN
 have HW1 := Lib.hid hW1
 have HK1 := Lib.hid hK1
 clear hW1 hK1
 go_loopw [13] (fun i wr => ∃ k : Nat, i = .int .i64 k /\ k <= l.length /\ Wr B b (z ++ (uv l.length).data.toList ++ (encAs (l.take k)).data.toList) wr /\ Kt (some b) B w wr) (fun i _ => l.length - (intOf i).toNat)
 case atStart => exact ⟨0, rfl, Nat.zero_le _, by simpa [encAs] using HW1.out, HK1.out⟩
 case round =>
  obtain ⟨j, rfl, hj, hWr, hKr⟩ := hrel
  clear HW1 HK1
  by_cases hlt : j < l.length
  ·have hlt' : (j : Int) < l.length := by omega
   obtain ⟨x, hjx⟩ : ∃ x, l[j]? = some x := ⟨l[j]'hlt, List.getElem?_eq_getElem hlt⟩
   obtain ⟨ab, off, rfl, hab, hokx, hrx, hcap⟩ := (HA.out _ hKr).get hjx
   have HJX := Lib.hid hjx
   clear hjx
   have hbz := Blk.new wr (ac zadr) 72
   have hj1 : IntKind.i64.wrap ((j : Int) + 1) = ((j + 1 : Nat) : Int) := by rw [IntWalk.i64_in _ (by omega)]; omega
   go_upto_region 4 with (first | refine wpList_loadS (cs := (ac x).toList) Tryz.underlying72 (by rw [info_Ad, Array.length_toList, ac_size hokx]) rfl _ rfl hrx rfl ?_ | refine wpList_store_A rfl _ _ rfl okA_zadr hokx hbz rfl rfl ?_)
   change Code.wp _ _ _ _ ((wr.alloc (.cells (ac zadr) 72)).setRow wr.heap.size (ac x))
   rw [World.setRow_alloc_new]
   have hBr := Nat.le_trans HBb.out hKr.size
   have hb4 := Blk.new wr (ac x) 72
   have hK4 := Kt.alloc hKr hBr (.cells (ac x) 72)
   have hW4 := Wr.alloc hWr (.cells (ac x) 72)
   have hbb : some wr.heap.size ≠ some b := by have := Wr.lt hWr; intro e; have := Option.some.inj e; omega
   have hB4 : B <= (wr.alloc (.cells (ac x) 72)).heap.size := by rw [World.size_alloc]; omega
   clear hbz hrx hWr hKr hBr
   generalize wr.alloc (.cells (ac x) 72) = w4 at *
   generalize wr.heap.size = b4 at *
   replace HLZ : Hid ((z ++ (uv l.length).data.toList).length + (encAs (l.take j)).data.toList.length <= 2000001000) := Lib.hid (by have h1 := HLZ.out; have h2 := HLT.out j; omega)
   have c0 : w4.cell? ⟨b4, 0, none⟩ = some (.bool x.1) := hb4.cell rfl
   cases hx6v : x.1 with
   | true =>
    rw [hx6v] at c0
    have KN := Lib.hid (wnum_any B b (z ++ (uv l.length).data.toList ++ (encAs (l.take j)).data.toList) 6 (by decide) w4 hW4 (by have := HLZ.out; rw [List.length_append]; omega) hB4)
    go_upto_region 6 with (go_at_call 19; refine KN.out.mono ?_; rintro e w5 ⟨rfl, hW5, hK5⟩)
    have hb5 := Blk.kt hb4 (by decide) hbb hK5
    have hB5 := Nat.le_trans hB4 hK5.size
    clear KN hW4 hb4
    refine wp_region_rgu 5 w5 (by kernel_rfl) (by kernel_rfl) (Ext.refl _) ?_
    simp only [List.take_succ_cons, List.take_zero]
    apply goV_val _ (by intro u; rfl)
    ·(intro u w hSw hF; go_simp; try with_reducible rfl)
    try simp only [aput, List.set]
    apply goV_val _ (by intro u; rfl)
    ·(intro u w hSw hF; go_simp; try with_reducible rfl)
    try simp only [aput, List.set]
    apply goV_val _ (by intro u; rfl)
    ·(intro u w hSw hF; go_simp; try with_reducible rfl)
    try simp only [aput, List.set]
    apply goV_val _ (by intro u; rfl)
    ·(intro u w hSw hF; go_simp; try with_reducible rfl)
    try simp only [aput, List.set]
    apply goV_val _ (by intro u; rfl)
    ·(intro u w hSw hF; go_simp; try with_reducible rfl)
    try simp only [aput, List.set]
    intro u w6 hx6 hh
    clear hh
    dsimp only
    simp only [List.drop_succ_cons, List.drop_zero]
    have KS := Lib.hid (wsl_any B b (z ++ (uv l.length).data.toList ++ (encAs (l.take j)).data.toList ++ (uv 6).data.toList) (o8 (x.2.take 16)) (m := 16) (cap := 16) (by decide) (by decide) (by rw [o8_len, List.length_take, hokx.1]; decide) (oct_cells hokx 16) w6 (Blk.ext hb5 hx6) (hW5.ext hx6) (by have h1 := HLZ.out; have h2 : (uv 6).data.toList.length <= 9 + 1 := uvb_lenb 9 6; rw [List.length_append, List.length_append]; omega) (by decide) (Nat.le_trans hB5 hx6.size))
    go_wp2_with (go_at_call 58; refine KS.out.mono ?_; rintro e w7 ⟨rfl, hW7, hK7⟩)
    have hKall := ((hK4.trans hK5).trans (Kt.of_ext hx6 hB5)).trans hK7
    refine ⟨⟨j + 1, by go_num, by omega, ?_, hKall⟩, ?_⟩
    ·have hjl : j < l.length := hlt
     rw [List.take_add_one, HJX.out]
     simp only [Option.toList_some]
     rw [encAs_snoc, encA_list x hokx.1, hx6v]
     simp only [if_true, Bool.false_eq_true, if_false]
     simpa only [List.append_assoc] using hW7
    ·simp [intOf]; omega
   | false =>
    rw [hx6v] at c0
    have KN := Lib.hid (wnum_any B b (z ++ (uv l.length).data.toList ++ (encAs (l.take j)).data.toList) 4 (by decide) w4 hW4 (by have := HLZ.out; rw [List.length_append]; omega) hB4)
    go_upto_region 8 with (go_at_call 19; refine KN.out.mono ?_; rintro e w5 ⟨rfl, hW5, hK5⟩)
    have hb5 := Blk.kt hb4 (by decide) hbb hK5
    have hB5 := Nat.le_trans hB4 hK5.size
    clear KN hW4 hb4
    refine wp_region_rgu 5 w5 (by kernel_rfl) (by kernel_rfl) (Ext.refl _) ?_
    simp only [List.take_succ_cons, List.take_zero]
    apply goV_val _ (by intro u; rfl)
    ·(intro u w hSw hF; go_simp; try with_reducible rfl)
    try simp only [aput, List.set]
    apply goV_val _ (by intro u; rfl)
    ·(intro u w hSw hF; go_simp; try with_reducible rfl)
    try simp only [aput, List.set]
    apply goV_val _ (by intro u; rfl)
    ·(intro u w hSw hF; go_simp; try with_reducible rfl)
    try simp only [aput, List.set]
    apply goV_val _ (by intro u; rfl)
    ·(intro u w hSw hF; go_simp; try with_reducible rfl)
    try simp only [aput, List.set]
    apply goV_val _ (by intro u; rfl)
    ·(intro u w hSw hF; go_simp; try with_reducible rfl)
    try simp only [aput, List.set]
    intro u w6 hx6 hh
    clear hh
    dsimp only
    simp only [List.drop_succ_cons, List.drop_zero]
    have KS := Lib.hid (wsl_any B b (z ++ (uv l.length).data.toList ++ (encAs (l.take j)).data.toList ++ (uv 4).data.toList) (o8 (x.2.take 4)) (m := 4) (cap := 16) (by decide) (by decide) (by rw [o8_len, List.length_take, hokx.1]; decide) (oct_cells hokx 4) w6 (Blk.ext hb5 hx6) (hW5.ext hx6) (by have h1 := HLZ.out; have h2 : (uv 4).data.toList.length <= 9 + 1 := uvb_lenb 9 4; rw [List.length_append, List.length_append]; omega) (by decide) (Nat.le_trans hB5 hx6.size))
    go_wp2_with (go_at_call 58; refine KS.out.mono ?_; rintro e w7 ⟨rfl, hW7, hK7⟩)
    have hKall := ((hK4.trans hK5).trans (Kt.of_ext hx6 hB5)).trans hK7
    refine ⟨⟨j + 1, by go_num, by omega, ?_, hKall⟩, ?_⟩
    ·have hjl : j < l.length := hlt
     rw [List.take_add_one, HJX.out]
     simp only [Option.toList_some]
     rw [encAs_snoc, encA_list x hokx.1, hx6v]
     simp only [if_true, Bool.false_eq_true, if_false]
     simpa only [List.append_assoc] using hW7
    ·simp [intOf]; omega
  ·obtain rfl : j = l.length := by omega
   go_wp2_with fail
   go_end0
   refine ⟨rfl, ?_, hKr⟩
   rw [List.take_length] at hWr
   exact hWr
open Go.RowKit
theorem Kt.drew {b : Option Nat} {B : Nat} {a w : World} (h : Kt b B a w) : Kt b B a w.drew := ⟨Below.drew h.1, h.2⟩
def Os (B : Nat) (v : Value) (z : List UInt8) (w : World) : Prop := w.ownsRow B 5 1 v z.length (bcells z)
theorem Os.sl {B : Nat} {v : Value} {z : List UInt8} {w : World} (h : Os B v z w) : ∃ a cap, v = .slice a z.length cap := own_sliceX h
theorem Os.alloc {B : Nat} {v : Value} {z : List UInt8} {w : World} (h : Os B v z w) (o : Obj) : Os B v z (w.alloc o) := World.ownsRow.alloc h o
theorem Os.ext {B : Nat} {v : Value} {z : List UInt8} {w w' : World} (h : Os B v z w) (k : Ext w w') : Os B v z w' := ownsRow_keep h (k.keep []) (fun g hg => by cases hg)
theorem Os.nil (B : Nat) (w : World) : Os B (.slice none 0 0) [] w := World.ownsRow_nil w B _ _
theorem Os.kind {B : Nat} {v : Value} {z : List UInt8} {w : World} (h : Os B v z w) : ∀ g, v.ownBlock = some g -> ∃ c fz, w.heap[g]? = some (.cells c 5 fz) := Lib.ownsRowF_kind (World.ownsRowF_of h)
theorem Kt.grownO {B : Nat} {v : Value} {z : List UInt8} {a w w' : World} (hk : Kt none B a w) (h : Os B v z w) (hB : B <= w.heap.size) (hg : w.grownBy w' v.ownBlock) : Kt none B a w' := by
 refine ⟨hk.1.grown hg hB (fun k e => (h.lt k e).1), fun k x hx hb ho => ?_⟩
 have h1 := hk.2 k x hx hb ho
 have hlt := (Array.getElem?_eq_some_iff.1 h1).1
 rw [hg.block k hlt ?_]
 ·exact h1
 ·intro hk2
  obtain ⟨c, fz, hc⟩ := h.kind k hk2.symm
  rw [h1] at hc
  exact ho c fz (Option.some.inj hc)
theorem wpList_apO {ops : Array Oper} {rest : List Oper} {o : Oper} {f : Act} {w : World} {Q : Exit -> Act -> World -> Prop} (hgd : o.guard = none) (x y : Operand) (ho : o.op = .call { callee := .builtin .append, args := #[x, y], argTypes := #[39, 39] })
  {base : Nat} {v : Value} {out : List UInt8} (hown : Os base v out w) (hx : f.eval x = v) {g off m cap : Nat} {ns : List UInt8} (hm : ns.length = m) (hc : ∀ j u, (bcells ns)[j]? = some u -> w.cell? ⟨g, off + j, none⟩ = some u) (hy : f.eval y = .slice (some ⟨g, off, none⟩) m cap)
  (hl : out.length + m <= 100000000000000) (hbase : base <= w.heap.size) {a0 : World} (hk : Kt none base a0 w)
  (h : ∀ v' w', Os base v' (out ++ ns) w' -> Kt none base a0 w' -> wpList Tryz.prog ops Q rest (f.put o.dst v') w') : wpList Tryz.prog ops Q (o :: rest) f w := by
 obtain ⟨i0, hi, hz0, hz1, hz2⟩ := info_parts info8
 subst hm
 refine wpList_append_own _ hgd x y 39 ho base 5 i0 (.int .u8 0) 1 1 Tryz.underlying39 hi hz0 hz1 hz2 rfl (by decide) v out.length _ hx hown ⟨g, off, none⟩ ns.length cap (bcells ns) hy (by simp [bcells]) (fun j u hj => ?_) (bcells_one ns) (by unfold maxLen; omega) (by omega) hbase fun v' w' h1 h2 _ => ?_
 ·rw [add_e]
  exact hc j u hj
 ·refine h v' w' ?_ (hk.grownO hown hbase h2)
  unfold Os
  rw [List.length_append, bcells_app]; exact h1
theorem wpList_apOs {ops : Array Oper} {rest : List Oper} {o : Oper} {f : Act} {w : World} {Q : Exit -> Act -> World -> Prop} (hgd : o.guard = none) (x y : Operand) (ho : o.op = .call { callee := .builtin .append, args := #[x, y], argTypes := #[39, 9] })
  {base : Nat} {v : Value} {out : List UInt8} (hown : Os base v out w) (hx : f.eval x = v) {s : ByteArray} (hy : f.eval y = .string s)
  (hl : out.length + s.size <= 100000000000000) (hbase : base <= w.heap.size) {a0 : World} (hk : Kt none base a0 w)
  (h : ∀ v' w', Os base v' (out ++ s.data.toList) w' -> Kt none base a0 w' -> wpList Tryz.prog ops Q rest (f.put o.dst v') w') : wpList Tryz.prog ops Q (o :: rest) f w := by
 obtain ⟨i0, hi, hz0, hz1, hz2⟩ := info_parts info8
 refine Lib.wpList_append_own_string _ hgd x y 39 9 ho base 5 i0 Tryz.underlying39 (by kernel_rfl) hi hz0 hz1 hz2 v out.length _ hx hown s hy (by unfold maxLen; omega) (by omega) hbase fun v' w' h1 h2 _ => ?_
 refine h v' w' ?_ (hk.grownO hown hbase h2)
 unfold Os
 rw [List.length_append, ← size_list, bcells_app]; exact h1
theorem rnum_any (B : Nat) (v : Value) (z : List UInt8) (n : Nat) (hn : n < 18446744073709551616) (w : World) (h : Os B v z w) (hlen : z.length <= 10000000000) (hBw : B <= w.heap.size) :
  Calls Tryz.prog 22 #[v, .int .u64 n] w fun e w' => ∃ v', e = .returned v' /\ Os B v' (z ++ (uv n).data.toList) w' /\ Kt none B w w' := by
 have HS := Lib.hid (show ∃ (f : Nat) (pre : List UInt8), n < 128 ^ f * 2 /\ f + pre.length = 9 /\ pre ++ (uvb f n).data.toList = (uv n).data.toList /\ Os B v (z ++ pre) w from ⟨9, [], by rw [show 128 ^ 9 * 2 = 18446744073709551616 from by decide]; exact hn, rfl, rfl, by rw [List.append_nil]; exact h⟩)
 have HL : Hid (z.length <= 10000000000) := Lib.hid hlen
 have HB : Hid (B <= w.heap.size) := Lib.hid hBw
 clear h hlen hBw
 go_enter Tryz.func22, Tryz.ntmps22
 go_wp2_with fail
 go_loopw [0, 1] (fun u i wr => ∃ m : Nat, i = .int .u64 m /\ m < 18446744073709551616 /\ Kt none B w wr /\ ∃ (f : Nat) (pre : List UInt8), m < 128 ^ f * 2 /\ f + pre.length = 9 /\ pre ++ (uvb f m).data.toList = (uv n).data.toList /\ Os B u (z ++ pre) wr) (fun _ i _ => (intOf i).toNat)
 case atStart => exact ⟨n, rfl, hn, Kt.refl _ _ _, HS.out⟩
 case round =>
  obtain ⟨m, rfl, hm, hK, hrest⟩ := hrel
  obtain ⟨f, pre, hf, hpl, heq, hW⟩ := hrest
  have HF := Lib.hid hf
  have HPL := Lib.hid hpl
  have HE := Lib.hid heq
  have HW := Lib.hid hW
  have HK := Lib.hid hK
  have HLZ : Hid ((z ++ pre).length + 1 <= 100000000000000) := Lib.hid (by have := HL.out; rw [List.length_append]; omega)
  have hBr : B <= wr.heap.size := Nat.le_trans HB.out hK.size
  clear hf hpl heq hW hK HS
  by_cases hlt : m < 128
  ·have hlt' : ¬ (127 : Int) < (m : Int) := by omega
   have q8 : IntKind.u8.wrap (m : Int) = (m : Int) := by rw [IntKind.wrap_u8]; omega
   have q8' : (m : Int) % 256 = (m : Int) := by omega
   have hBA : B <= (wr.alloc (.cells #[.int .u8 (m : Int)] 5)).heap.size := by rw [World.size_alloc]; omega
   have hB1 := Blk.new wr #[.int .u8 (m : Int)] 5
   have HBC := Lib.hid (bcells_u (m : Int) (by omega) (by omega))
   have HKA := Lib.hid (HK.out.alloc hBr (.cells #[.int .u8 (m : Int)] 5))
   go_wp2_with (at_builtin; refine wpList_apO rfl _ _ rfl (HW.out.alloc _) rfl (g := wr.heap.size) (off := 0) (m := 1) (cap := 1) (ns := [UInt8.ofNat (m : Int).toNat]) rfl (fun j u hj => by rw [HBC.out] at hj; rw [Nat.zero_add]; exact hB1.cell hj) rfl HLZ.out hBA HKA.out ?_; intro v2 w2 hO2 hK2)
   go_ret
   refine ⟨v2, rfl, ?_, hK2⟩
   have e1 := HE.out
   rw [uvb_lt hlt, str1_list] at e1
   rw [← e1, ← List.append_assoc]
   exact hO2
  ·have hge' : (127 : Int) < (m : Int) := by omega
   obtain ⟨y, hy⟩ : ∃ y : Int, y = ((m % 128 + 128 : Nat) : Int) := ⟨_, rfl⟩
   have hy0 : 0 <= y := by omega
   have hy1 : y < 256 := by omega
   have q8 : bits BinOp.or IntKind.u8 (IntKind.u8.wrap (m : Int)) 128 = y := by rw [hy]; exact or_128' m
   have q8' : bits BinOp.or IntKind.u8 ((m : Int) % 256) 128 = y := by rw [← IntKind.wrap_u8]; exact q8
   have HY := Lib.hid hy
   clear hy
   have hBA : B <= (wr.alloc (.cells #[.int .u8 y] 5)).heap.size := by rw [World.size_alloc]; omega
   have hB1 := Blk.new wr #[.int .u8 y] 5
   have HBC := Lib.hid (bcells_u y hy0 hy1)
   have HKA := Lib.hid (HK.out.alloc hBr (.cells #[.int .u8 y] 5))
   go_wp2_with (at_builtin; refine wpList_apO rfl _ _ rfl (HW.out.alloc _) rfl (g := wr.heap.size) (off := 0) (m := 1) (cap := 1) (ns := [UInt8.ofNat y.toNat]) rfl (fun j u hj => by rw [HBC.out] at hj; rw [Nat.zero_add]; exact hB1.cell hj) rfl HLZ.out hBA HKA.out ?_; intro v2 w2 hO2 hK2)
   cases f with
   | zero => exact (pow_abs HF.out hlt).elim
   | succ f =>
    refine ⟨⟨m / 128, by go_num, by omega, hK2, f, pre ++ [UInt8.ofNat y.toNat], ?_, ?_, ?_, by rw [← List.append_assoc]; exact hO2⟩, ?_⟩
    ·exact pow_down HF.out
    ·have := HPL.out
     rw [List.length_append]; simp; omega
    ·have e1 := HE.out
     rw [uvb_ge (by omega), data_append, str1_list, ← HY.out] at e1
     rw [← e1, List.append_assoc]
    ·simp [intOf]; omega
end Go.Proofs.YtmdlgfnibjcgmaaGreatDoor
