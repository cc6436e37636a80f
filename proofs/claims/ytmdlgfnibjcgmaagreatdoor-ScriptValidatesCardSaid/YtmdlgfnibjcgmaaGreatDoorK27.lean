/-
  Several texts joined: ScL, Rgs.
-/
import Derived.Lib.UnsafeStr
import Derived.Shelf.RegionOpenPlain
import Derived.Test.YtmdlgfnibjcgmaaGreatDoorK25
import Derived.Test.YtmdlgfnibjcgmaaGreatDoorK09
set_option maxHeartbeats 8000000
set_option maxRecDepth 100000
set_option linter.unusedVariables false
set_option linter.unusedSimpArgs false
namespace Go.Proofs.YtmdlgfnibjcgmaaGreatDoor
open Go.RowKit
theorem bstr_any (B b : Nat) (l : List UInt8) (w : World) (h : Wr B b l w) (h0 : l ≠ []) :
  Calls Tryz.prog 21 #[.pointer (some ⟨b, 0, none⟩)] w fun e w' => e = .returned (.string (txt l)) /\ Below B w w' := by
 obtain ⟨p, hAt⟩ : ∃ p, Lib.BuilderAtF 48 5 B b p (bcells l) w := by
  rcases h with h | h
  ·exact ⟨_, h⟩
  ·exact ⟨_, h⟩
 clear h
 obtain ⟨hB, v, hbk, hown, hne⟩ := hAt
 have hl0 : l.length ≠ 0 := by simpa using h0
 rw [bcells_len] at hown
 obtain ⟨g, cap, cur, fz, rfl, hbg, hg, hfz, hnc, hcm, hcs, htake⟩ : ∃ g cap cur fz, v = .slice (some ⟨g, 0, none⟩) l.length cap /\ B <= g /\ w.heap[g]? = some (.cells cur 5 fz) /\ fz.2 <= l.length * 1 /\ l.length <= cap /\ cap <= maxLen /\ cur.size = cap * 1 /\ cur.toList.take (l.length * 1) = bcells l := by
  rcases hown.2 with ⟨_, hz⟩ | ⟨g, cap, cur, fz, hv, r⟩
  ·exact absurd hz hl0
  ·exact ⟨g, cap, cur, fz, hv, r⟩
 have c1 : w.drew.cell? ⟨b, 1, none⟩ = some (.slice (some ⟨g, 0, none⟩) l.length cap) := by
  have : w.drew.heap[b]? = some (.cells #[p, .slice (some ⟨g, 0, none⟩) l.length cap] 48 (0, 0)) := hbk
  rw [Lib.cell_of_heap this]; rfl
 have c1' : w.cell? ⟨b, 1, none⟩ = some (.slice (some ⟨g, 0, none⟩) l.length cap) := c1
 have hSD : ∀ w' : World, (Builtin.unsafeSliceData_ #[39] 90 #[.slice (some ⟨g, 0, none⟩) l.length cap]).run Tryz.prog w' = .ok (.pointer (some ⟨g, 0, none⟩)) w' := fun w' =>
  Lib.run_unsafeSliceData_row _ _ _ _ _ _ (by omega)
 have hUS : (Builtin.unsafeString_ #[90, 3] 9 #[.pointer (some ⟨g, 0, none⟩), .int .i64 l.length]).run Tryz.prog w.drew = .ok (.string ⟨l.toArray⟩) (w.drew.freeze ⟨g, 0, none⟩ l.length) := by
  refine Lib.run_unsafeString_row w.drew 90 3 9 5 (by kernel_rfl) cells_u8 g cur.size (by have hg' : w.drew.heap[g]? = some (.cells cur 5 fz) := hg; simp [World.shape?, hg']) l h0 (by omega) (by unfold maxLen at hcm; omega) ?_
  intro j x hx
  have := hown.cells (g := g) rfl j (.int .u8 x.toNat) (by simp [bcells, hx])
  exact this
 have HFIN : Hid (Below B w (w.drew.freeze ⟨g, 0, none⟩ l.length)) := Lib.hid (Lib.below_freeze (Below.drew (Below.refl B w)) (p := ⟨g, 0, none⟩) hbg _)
 clear hbk hg hcs htake hown hne hfz
 have mixed : Tryz.prog.follows .mixedOrders = true := by kernel_rfl
 go_enter Tryz.func21, Tryz.ntmps21
 go_wp2_with fail
 go_region_o
 all_goals (go_wp2_with fail; go_ret; exact ⟨rfl, HFIN.out⟩)
theorem encEs_snoc : ∀ (l : List Ev) (x : Ev), (encEs (l ++ [x])).data.toList = (encEs l).data.toList ++ (encE x).data.toList
 | [], x => by
  show (encE x ++ ⟨#[]⟩).data.toList = _
  rw [data_append]; simp [encEs]
 | a :: l, x => by
  show (encE a ++ encEs (l ++ [x])).data.toList = (encE a ++ encEs l).data.toList ++ _
  rw [data_append, data_append, encEs_snoc l x, List.append_assoc]
theorem encE_len (e : Ev) (he : okEv e) (hv : validE e = true) : (encE e).data.toList.length <= 2600 := by
 obtain ⟨k, c, a, n, v6, r, d, ads⟩ := e
 obtain ⟨_, _, _, hnb, _, hok⟩ := he
 simp only at hok
 unfold validE at hv
 simp only [Bool.and_eq_true, decide_eq_true_eq] at hv
 obtain ⟨⟨⟨⟨⟨⟨⟨⟨hk, hc⟩, ha⟩, hr⟩, hd⟩, hl⟩, _⟩, _⟩, _⟩ := hv
 have hd' := rng_bd (by decide) (by decide) hd
 have hl' := rng_bd (by decide) (by decide) hl
 rw [encE_list _ k c a n r v6 d ads rfl]
 have l0 : (uv k.toNat).data.toList.length <= 10 := uvb_lenb 9 k.toNat
 have l1 := opt_len (flds k).1 c
 have l2 := opt_len (flds k).2.1 a
 have l3 := opt_len (flds k).2.2.1 n
 have l4 := opt_len (flds k).2.2.2.1 (if v6 then 1 else 0)
 have l5 := opt_len (flds k).2.2.2.2.1 r
 have l6 := opt_len (flds k).2.2.2.2.2 d.size
 have l7 := encAs_len ads hok
 have l8 : (uv ads.length).data.toList.length <= 10 := uvb_lenb 9 ads.length
 have l9 : d.data.toList.length <= 2000 := by rw [← size_list]; omega
 have l10 : (if (flds k).2.2.2.1 = true then (uv ads.length).data.toList ++ (encAs ads).data.toList else []).length <= 430 := by
  by_cases q : (flds k).2.2.2.1 = true
  ·rw [if_pos q, List.length_append]; omega
  ·rw [if_neg q]; exact Nat.zero_le _
 rw [List.length_append, List.length_append, List.length_append, List.length_append, List.length_append, List.length_append, List.length_append, List.length_append]
 omega
theorem encEs_len : ∀ (l : List Ev), (∀ e ∈ l, okEv e /\ validE e = true) -> (encEs l).data.toList.length <= 2600 * l.length
 | [], _ => Nat.le_refl _
 | a :: l, h => by
  show (encE a ++ encEs l).data.toList.length <= _
  have h1 := encE_len a (h a (List.mem_cons_self ..)).1 (h a (List.mem_cons_self ..)).2
  have h2 := encEs_len l (fun x hx => h x (List.mem_cons_of_mem _ hx))
  rw [data_append, List.length_append, List.length_cons]; omega
theorem txt_lst (s : ByteArray) : txt s.data.toList = s := BA_ext rfl
theorem EvsIn.ok {w : World} {sl : Value} {es : List Ev} (h : EvsIn w sl es) : ∀ e ∈ es, okEv e := by
 intro e he
 obtain ⟨a, cap, _, _, _, h4⟩ := h
 obtain ⟨i, hi⟩ := List.mem_iff_getElem?.1 he
 exact (h4 i e hi).1.1
def encV (es : List Ev) : Value := .tuple #[.string (if validS es then encS es else ⟨#[]⟩), .int .i64 (if validS es then 0 else 1)]
theorem enc_any (es : List Ev) (sl : Value) {w : World} (hA : EvsIn w sl es) (hl : es.length <= maxLen) : Calls Tryz.prog 8 #[sl] w fun e w' => e = .returned (encV es) /\ Ext w w' := by
 have KV := Lib.hid (valid_ev es sl hA hl)
 have hoks := hA.ok
 obtain ⟨a, cap, rfl⟩ := hA.len
 have HA := Lib.hid hA
 clear hA
 cases hv : validS es with
 | false =>
  rw [hv] at KV
  have HR : Hid (encV es = .tuple #[.string ⟨#[]⟩, .int .i64 1]) := Lib.hid (by unfold encV; rw [hv]; rfl)
  clear hv
  go_enter Tryz.func8, Tryz.ntmps8
  go_wp2_with (go_at_call 12; refine KV.out.mono ?_; rintro e w1 ⟨rfl, hx1⟩)
  go_ret2
  exact ⟨by rw [HR.out]; rfl, hx1⟩
 | true =>
  rw [hv] at KV
  have HR : Hid (encV es = .tuple #[.string (encS es), .int .i64 0]) := Lib.hid (by unfold encV; rw [hv]; rfl)
  have hvs := hv
  unfold validS at hvs
  simp only [Bool.and_eq_true, decide_eq_true_eq, List.all_eq_true] at hvs
  have hln := hvs.1
  have HVE := Lib.hid hvs.2
  have HLN : Hid (∀ j, ((uv es.length).data.toList ++ (encEs (es.take j)).data.toList).length <= 10000000) := Lib.hid (fun j => by
   have h1 := uvb_lenb 9 es.length
   have h2 := encEs_len (es.take j) (fun x hx => ⟨hoks x (List.mem_of_mem_take hx), hvs.2 x (List.mem_of_mem_take hx)⟩)
   rw [List.length_take] at h2
   rw [List.length_append]; unfold uv; omega)
  have HPOS : Hid ((uv es.length).data.toList ++ (encEs es).data.toList ≠ []) := Lib.hid (fun e => by
   have h1 := (uvb_size 9 es.length).1
   rw [size_list] at h1
   have h2 := congrArg List.length e
   rw [List.length_append, List.length_nil] at h2
   unfold uv at h2; omega)
  have HTX : Hid (txt ((uv es.length).data.toList ++ (encEs es).data.toList) = encS es) := Lib.hid (by rw [← data_append]; exact txt_lst _)
  have qn : IntKind.u64.wrap (es.length : Int) = (es.length : Int) := by rw [IntKind.wrap_u64]; omega
  clear hv hvs hoks
  go_enter Tryz.func8, Tryz.ntmps8
  go_upto_region 4 with (go_at_call 12; refine KV.out.mono ?_; rintro e w1 ⟨rfl, hx1⟩)
  have hW : Wr w1.heap.size w1.heap.size [] (w1.alloc (.cells #[.pointer none, .slice none 0 0] 48)) := Lib.IsBuilderF.of (Lib.fresh_isBuilder 48 5 w1)
  have hK := Kt.alloc (Kt.refl (some w1.heap.size) w1.heap.size w1) (Nat.le_refl _) (.cells #[.pointer none, .slice none 0 0] 48)
  have hBc : w1.heap.size <= (w1.alloc (.cells #[.pointer none, .slice none 0 0] 48)).heap.size := hK.size
  have hB0 := hx1.size
  generalize w1.alloc (.cells #[.pointer none, .slice none 0 0] 48) = w2 at *
  have KN := Lib.hid (wnum_any w1.heap.size w1.heap.size [] es.length (by omega) w2 hW (by decide) hBc)
  clear hW KV
  go_upto_region 5 with (go_at_call 19; refine KN.out.mono ?_; rintro e w3 ⟨rfl, hW3, hK3⟩)
  have HW3 := Lib.hid hW3
  have HK3 := Lib.hid (hK.trans hK3)
  clear KN hW3 hK3 hK hBc
  go_wp2_with fail
  go_loopw [16] (fun i wr => ∃ k : Nat, i = .int .i64 k /\ k <= es.length /\ Wr w1.heap.size w1.heap.size ((uv es.length).data.toList ++ (encEs (es.take k)).data.toList) wr /\ Kt (some w1.heap.size) w1.heap.size w1 wr) (fun i _ => es.length - (intOf i).toNat)
  case atStart => exact ⟨0, rfl, Nat.zero_le _, by simpa [encEs] using HW3.out, HK3.out⟩
  case round =>
   obtain ⟨j, rfl, hj, hWr, hKr⟩ := hrel
   have hxr : Ext w wr := num_ext _ hx1 hB0 hKr
   clear HW3 HK3
   by_cases hlt : j < es.length
   ·have hlt' : (j : Int) < es.length := by omega
    obtain ⟨x, hjx⟩ : ∃ x, es[j]? = some x := ⟨es[j]'hlt, List.getElem?_eq_getElem hlt⟩
    obtain ⟨ab, off, v, rfl, hab0, hokx, hvx0, hrx0, hcap⟩ := HA.out.get hjx
    have hvx := hvx0.ext hxr
    have hrx := rangeAt_ext hrx0 hab0 hxr
    have hab := Nat.lt_of_lt_of_le hab0 hxr.size
    obtain ⟨va, vc, rfl⟩ := hvx.len
    have HJX := Lib.hid hjx
    have hvj := HVE.out x (List.mem_of_getElem? hjx)
    clear hjx
    have hbz : Blk (wr.alloc (.cells #[.int .i64 0, .int .i64 0, .int .i64 0, .int .u64 0, .bool false, .int .i64 0, .string ⟨#[]⟩, .slice none 0 0] 31)) wr.heap.size (evl zev (.slice none 0 0)) 31 := Blk.new wr #[.int .i64 0, .int .i64 0, .int .i64 0, .int .u64 0, .bool false, .int .i64 0, .string ⟨#[]⟩, .slice none 0 0] 31
    have hj1 : IntKind.i64.wrap ((j : Int) + 1) = ((j + 1 : Nat) : Int) := by rw [IntWalk.i64_in _ (by omega)]; omega
    go_upto_region 8 with (first | refine wpList_loadS (cs := evl x _) Tryz.underlying31 info_Ev rfl _ rfl hrx rfl ?_ | refine wpList_storeS (cs := evl x (.slice va x.ads.length vc)) (z := evl zev (.slice none 0 0)) (c := wr.heap.size) info_Ev rfl _ _ rfl rfl (evl_one x _ _ _) hbz rfl rfl ?_)
    change Code.wp _ _ _ _ ((wr.alloc (.cells #[.int .i64 0, .int .i64 0, .int .i64 0, .int .u64 0, .bool false, .int .i64 0, .string ⟨#[]⟩, .slice none 0 0] 31)).setRow wr.heap.size (evl x (.slice va x.ads.length vc)).toArray)
    rw [World.setRow_alloc_new]
    have hBr : w1.heap.size <= wr.heap.size := hKr.size
    have hbk := Blk.new wr (evl x (.slice va x.ads.length vc)).toArray 31
    have hK4 := Kt.alloc hKr hBr (.cells (evl x (.slice va x.ads.length vc)).toArray 31)
    have hW4 := Wr.alloc hWr (.cells (evl x (.slice va x.ads.length vc)).toArray 31)
    have hB4 : w1.heap.size <= (wr.alloc (.cells (evl x (.slice va x.ads.length vc)).toArray 31)).heap.size := by rw [World.size_alloc]; omega
    clear hbz hrx hWr hKr hBr hrx0
    generalize wr.alloc (.cells (evl x (.slice va x.ads.length vc)).toArray 31) = w4 at *
    generalize wr.heap.size = b4 at hbk ⊢
    have KE := Lib.hid (wev_any w1.heap.size w1.heap.size _ x _ hokx hvj hvx0 (num_ext _ hx1 hB0 hK4) hB0 hW4 (by have := HLN.out j; omega) hB4)
    go_wp2_with (first | refine wpList_loadS (cs := evl x _) Tryz.underlying31 info_Ev rfl _ rfl (Blk.all8 hbk) rfl ?_ | (go_at_call 20; refine KE.out.mono ?_; rintro e w5 ⟨rfl, hW5, hK5⟩))
    refine ⟨⟨j + 1, by go_num, by omega, ?_, hK4.trans hK5⟩, ?_⟩
    ·have hjl : j < es.length := hlt
     rw [List.take_add_one, HJX.out]
     simp only [Option.toList_some]
     rw [encEs_snoc, ← List.append_assoc]
     exact hW5
    ·simp [intOf]; omega
   ·obtain rfl : j = es.length := by omega
    rw [List.take_length] at hWr
    have KS := Lib.hid (bstr_any _ _ _ wr hWr HPOS.out)
    clear HLN
    go_wp2_with (go_at_call 21; refine KS.out.mono ?_; rintro e w6 ⟨rfl, hb6⟩)
    go_ret2
    exact ⟨by rw [HR.out, HTX.out]; rfl, Below.trans hxr (Below.mono hb6 hB0)⟩
section
variable {P : Program} {ops : Array Oper} {Q : Exit -> Act -> World -> Prop} {md : Region.Mode} {w0 : World}
theorem wpList_of_goV : ∀ (l : List Oper) (i : Nat) (plan : List Yld) (A : (Nat -> Value) -> Act), goV P ops Q md w0 l i plan A -> plan.length = i -> (∀ s ∈ plan, s.ok) ->
  (∀ u u' : Nat -> Value, (∀ j, j < i -> u j = u' j) -> A u = A u') -> ∀ u w, Ext w0 w -> (∀ (j : Nat) (s : Yld), plan[j]? = some s -> s.V (u j) w) -> wpList P ops Q l (A u) w
 | [], i, plan, A, h, hp, hok, hA, u, w, hx, hV => h u w hx (holdsAt_all fun j _ s hs => hV j s hs)
 | o :: l, i, plan, A, h, hp, hok, hA, u, w, hx, hV => by
  obtain ⟨s, hs, h1, h2⟩ := h
  have ho := h1 u w hx (holdsAt_all fun j _ s hs => hV j s hs)
  have next : ∀ x w', Ext w w' -> s.V x w' -> wpList P ops Q l ((A u).put o.dst x) w' := fun x w' hx' hv => by
   have hu : A u = A (fun j => if j = i then x else u j) := hA _ _ fun j hj => by simp only [if_neg (show ¬ j = i by omega)]
   have := wpList_of_goV l (i + 1) (plan ++ [s]) _ h2 (by rw [List.length_append, hp]; rfl) (fun t ht => by
    rcases List.mem_append.1 ht with ht | ht
    ·exact hok t ht
    ·rw [List.mem_singleton] at ht; rw [ht]; exact hs) (fun u u' huu => by
    rw [hA u u' (fun j hj => huu j (by omega)), huu i (by omega)]) (fun j => if j = i then x else u j) w' (hx.trans hx') (fun j t ht => by
    rcases Nat.lt_trichotomy j plan.length with hj | hj | hj
    ·rw [List.getElem?_append_left hj] at ht
     simp only [if_neg (show ¬ j = i by omega)]
     exact (hok t (List.mem_of_getElem? ht)).stay _ _ _ (hV j t ht) hx'
    ·rw [List.getElem?_append_right (by omega), show j - plan.length = 0 by omega] at ht
     cases ht
     simp only [if_pos (show j = i by omega)]; exact hv
    ·rw [List.getElem?_append_right (by omega)] at ht
     obtain ⟨q, hq⟩ : ∃ q, j - plan.length = q + 1 := ⟨j - plan.length - 1, by omega⟩
     rw [hq] at ht; simp at ht)
   simp only [if_true, Yld.at_eq hs hv] at this
   rw [← hu] at this
   exact this
  unfold wpList
  rcases ho with ⟨hw, hv⟩ | ⟨hw, hv⟩
  ·simp only [hw, if_true, Oper.wp]
   left
   generalize (execOp (A u).eval o).run P w = r at *
   unfold OutV at hv
   split at hv
   ·exact next _ _ hv.1 hv.2
   ·exact Calls.mono hv.2 fun e w'' he => by
     obtain ⟨x, rfl, k1, k2⟩ := he
     exact next _ _ (hv.1.trans k1) k2
   ·exact Rows.mono hv.2 fun x w'' he => next _ _ (hv.1.trans he.1) he.2
   ·exact hv.elim
  ·simp only [hw, Bool.false_eq_true, if_false]; exact next _ _ (Ext.refl _) hv
theorem wp_region_rgs {id : Nat} {l : List Oper} {a : Act} {w : World} (h : goV P l.toArray Q .any w l 0 [] (fun _ => a)) : (Code.region id l.toArray false).wp P Q a w :=
 wp_region_lit (wpList_of_goV l 0 [] _ h rfl (fun s hs => by cases hs) (fun _ _ _ => rfl) (fun _ => undef) w (Ext.refl _) (fun j s hs => by simp at hs))
end
end Go.Proofs.YtmdlgfnibjcgmaaGreatDoor
