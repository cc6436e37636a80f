/-
  Several texts joined: SeB.
-/
import Derived.Test.YtmdlgfnibjcgmaaGreatDoorK18
import Derived.Test.YtmdlgfnibjcgmaaGreatDoorK16
set_option maxHeartbeats 16000000
set_option maxRecDepth 10000
set_option linter.unusedVariables false
set_option linter.unusedSimpArgs false
namespace Go.Proofs.YtmdlgfnibjcgmaaGreatDoor
open Go.RowKit
theorem smod_any (v : Int) (n : Int) (h0 : 0 < n) (h1 : n <= 9223372036854775807) (w : World) : Calls Tryz.prog 10 #[.int .i64 v, .int .i64 n] w fun e w' => ∃ m : Int, e = .returned (.int .i64 m) /\ 0 <= m /\ m < n /\ Ext w w' := by
 have q : IntKind.u64.wrap n = n := w64 (by omega) (by omega)
 have hb := cut_bd v n h0 h1
 have hn : n ≠ 0 := by omega
 go_enter Tryz.func10, Tryz.ntmps10
 go_wp2_with fail
 go_ret
 exact ⟨_, rfl, hb.1, hb.2, Ext.refl _⟩
def AdsOr (B : Nat) (w : World) (sl : Value) (l : List Adr) : Prop := AdsIn w sl l /\ ∀ b off n c, sl = .slice (some ⟨b, off, none⟩) n c -> 0 < l.length -> b < w.heap.size /\ (b < B ∨ ∃ cs fz, w.heap[b]? = some (.cells cs 72 fz))
theorem AdsOr.ext {B : Nat} {w w' : World} {sl : Value} {l : List Adr} (h : AdsOr B w sl l) (k : Ext w w') : AdsOr B w' sl l :=
 ⟨h.1.ext k, fun b off n c e hp => ⟨Nat.lt_of_lt_of_le (h.2 b off n c e hp).1 k.size, (h.2 b off n c e hp).2.imp id (fun ⟨cs, fz, hg⟩ => ⟨cs, fz, (Below.block k b (Array.getElem?_eq_some_iff.1 hg).1).trans hg⟩)⟩⟩
theorem AdsOr.sl {B : Nat} {w : World} {sl : Value} {l : List Adr} (h : AdsOr B w sl l) : ∃ a n c, sl = .slice a n c := by obtain ⟨⟨a, cap, h, _⟩, _⟩ := h; exact ⟨a, _, cap, h⟩
theorem AdsOr.grown {B : Nat} {w w' : World} {sl : Value} {l : List Adr} (h : AdsOr B w sl l) {e : TypeId} {size : Nat} {v : Value} {n : Nat} {xs : List Value} (ho : w.ownsRow B e size v n xs) (hne : e ≠ 72) (hg : w.grownBy w' v.ownBlock) : AdsOr B w' sl l := by
 obtain ⟨⟨a, cap, h1, h2, h3, h4⟩, h5⟩ := h
 have hblk : ∀ g off n c, sl = .slice (some ⟨g, off, none⟩) n c -> 0 < l.length -> w'.heap[g]? = w.heap[g]? := fun g off n' c e' hp => by
  obtain ⟨hl, hB⟩ := h5 g off n' c e' hp
  refine hg.block g hl (fun q => ?_)
  rcases hB with hB | ⟨cs, fz, hgg⟩
  ·have := (ho.lt g q.symm).1
   omega
  ·rcases ho.2 with ⟨rfl, _⟩ | ⟨g', cap', cur, rfl, _, hg', _⟩
   ·cases q
   ·have q' : g = g' := Option.some.inj q
    subst q'
    rw [hgg] at hg'
    have := Option.some.inj hg'
    injection this with _ h2
    exact hne h2.symm
 refine ⟨⟨a, cap, h1, h2, h3, fun hp => ?_⟩, fun g off n c e hp => ?_⟩
 ·obtain ⟨g, off, e, hgl, hc⟩ := h4 hp
  refine ⟨g, off, e, Nat.lt_of_lt_of_le hgl hg.size, fun i x hi j u hj => ?_⟩
  have e9 : w'.cell? ⟨g, off + i * 17 + j, none⟩ = w.cell? ⟨g, off + i * 17 + j, none⟩ := World.cell?_of_block (w := w) (hblk g off l.length cap (by rw [h1, e]) hp)
  rw [e9]
  exact hc i x hi j u hj
 ·obtain ⟨hl, hB⟩ := h5 g off n c e hp
  refine ⟨Nat.lt_of_lt_of_le hl hg.size, hB.imp id (fun ⟨cs, fz, hgg⟩ => ⟨cs, fz, (hblk g off n c e hp).trans hgg⟩)⟩
def OEo (B : Nat) (v : Value) (l : List EvV) (w : World) : Prop := w.ownsRow B 31 8 v l.length (ecs l) /\ ∀ x ∈ l, okE x.1 /\ AdsOr B w x.2 x.1.ads
theorem OEo.nil (B : Nat) (w : World) : OEo B (.slice none 0 0) [] w := ⟨World.ownsRow_nil w B _ _, by intro x h; cases h⟩
theorem OEo.ext {B : Nat} {v : Value} {l : List EvV} {w w' : World} (h : OEo B v l w) (k : Ext w w') : OEo B v l w' := ⟨ownsRow_keep h.1 (k.keep []) (fun g hg => by cases hg), fun x hx => ⟨(h.2 x hx).1, (h.2 x hx).2.ext k⟩⟩
theorem row_evs {B : Nat} {v : Value} {l : List EvV} {w : World} (h1 : w.ownsRow B 31 8 v l.length (ecs l)) (hok : ∀ x ∈ l, okE x.1 /\ AdsIn w x.2 x.1.ads) : EvsIn w v (l.map (·.1)) := by
 rcases h1.2 with ⟨rfl, h0⟩ | ⟨g, cap, cur, rfl, hbg, hg, hnc, hcm, hcs, htake⟩
 ·have : l = [] := List.eq_nil_of_length_eq_zero h0
  subst this
  exact EvsIn.nil w
 ·refine ⟨some ⟨g, 0, none⟩, cap, by rw [List.length_map], by rw [List.length_map]; exact hnc, fun _ => ⟨g, 0, rfl, (Array.getElem?_eq_some_iff.1 hg).1⟩, fun i e hi => ?_⟩
  rw [List.getElem?_map] at hi
  obtain ⟨x, hx, rfl⟩ := Option.map_eq_some_iff.1 hi
  have hxo := hok x (List.mem_of_getElem? hx)
  refine ⟨hxo.1, x.2, hxo.2, fun b off e j u hj => ?_⟩
  cases e
  have hjl : j < 8 := (List.getElem?_eq_some_iff.1 hj).1
  have e1 := flat_get (fun a : EvV => evl a.1 a.2) 8 l i j x (fun y _ => rfl) hx hjl
  have e2 := h1.cells (g := g) rfl (i * 8 + j) u (by rw [show ecs l = l.flatMap fun a => evl a.1 a.2 from rfl, e1]; exact hj)
  rw [add_e] at e2
  rw [show 0 + i * 8 + j = 0 + (i * 8 + j) by omega]
  exact e2
theorem OEo.evs {B : Nat} {v : Value} {l : List EvV} {w : World} (h : OEo B v l w) : EvsIn w v (l.map (·.1)) := row_evs h.1 fun x hx => ⟨(h.2 x hx).1, (h.2 x hx).2.1⟩
theorem wpList_apEo {ops : Array Oper} {rest : List Oper} {o : Oper} {f : Act} {w : World} {Q : Exit -> Act -> World -> Prop} (hgd : o.guard = none) (x y : Operand) (ho : o.op = .call { callee := .builtin .append, args := #[x, y], argTypes := #[22, 22] })
  {base : Nat} {v : Value} {l : List EvV} (hown : OEo base v l w) (hx : f.eval x = v) {g : Nat} {q : EvV} (hq : okE q.1 /\ AdsOr base w q.2 q.1.ads) (hc : Blk w g (evl q.1 q.2) 31) (hy : f.eval y = .slice (some ⟨g, 0, none⟩) 1 1)
  (hl : l.length <= 1000000) (hbase : base <= w.heap.size)
  (h : ∀ v' w', OEo base v' (l ++ [q]) w' -> w.grownBy w' v.ownBlock -> wpList Tryz.prog ops Q rest (f.put o.dst v') w') : wpList Tryz.prog ops Q (o :: rest) f w := by
 obtain ⟨i0, hi, hz0, hz1, hz2⟩ := info_parts infoE
 refine wpList_append_own _ hgd x y 22 ho base 31 i0 _ 8 88 Tryz.underlying22 hi hz0 hz1 hz2 rfl (by decide) v l.length _ hx hown.1 ⟨g, 0, none⟩ 1 1 (evl q.1 q.2) hy rfl (fun j u hj => ?_) (fun u hu => ?_) (by unfold maxLen; omega) (by omega) hbase fun v' w' h1 h2 _ => ?_
 ·rw [add_e, Nat.zero_add]
  exact hc.cell hj
 ·obtain ⟨a, n, c, hs⟩ := hq.2.sl
  rw [hs] at hu
  have := evl_one q.1 a n c
  rw [Array.all_eq_true_iff_forall_mem] at this
  exact this u (by simpa using hu)
 ·refine h v' w' ⟨?_, fun y hy => ?_⟩ h2
  ·rw [List.length_append]
   unfold ecs at *
   rw [List.flatMap_append]
   simpa using h1
  ·rcases List.mem_append.1 hy with h | h
   ·exact ⟨(hown.2 y h).1, (hown.2 y h).2.grown hown.1 (by decide) h2⟩
   ·simp at h; rw [h]; exact ⟨hq.1, hq.2.grown hown.1 (by decide) h2⟩
theorem AdsIn.or {w0 w : World} {sl : Value} {l : List Adr} (h : AdsIn w0 sl l) (k : Ext w0 w) {B : Nat} (hB : w0.heap.size <= B) : AdsOr B w sl l := by
 refine ⟨h.ext k, fun b off n c e hp => ?_⟩
 obtain ⟨a, cap, h1, h2, h3, h4⟩ := h
 obtain ⟨b', off', e', hb, _⟩ := h4 hp
 rw [h1, e'] at e
 cases e
 exact ⟨Nat.lt_of_lt_of_le hb k.size, .inl (by omega)⟩
theorem AdsAt.or {B C : Nat} {w : World} {sl : Value} {l : List Adr} (h : AdsAt B w sl l) : AdsOr C w sl l :=
 ⟨h.1, fun b off n c e _ => by obtain ⟨_, cs, fz, hg⟩ := h.2 b off n c e; exact ⟨(Array.getElem?_eq_some_iff.1 hg).1, .inr ⟨cs, fz, hg⟩⟩⟩
def SomeP (B : Nat) (w : World) (e : Ending) (w' : World) : Prop := ∃ (q : Ev) (sl : Value), e = .returned (.agg (evl q sl).toArray) /\ okE q /\ AdsOr B w' sl q.ads /\ Ext w w'
def i64r (x : Int) : Prop := -9223372036854775808 <= x /\ x <= 9223372036854775807
theorem sev_any (ev : Ev) (sl : Value) (ho : okE ev) {w0 w : World} (hA : AdsIn w0 sl ev.ads) (h0 : Ext w0 w) {B : Nat} (hB : w0.heap.size <= B) :
  Calls Tryz.prog 18 #[.agg (evl ev sl).toArray] w (SomeP B w) := by
 unfold SomeP
 have KF := Lib.hid (fun (k : Int) (w : World) => show ∃ f1 f2 f3 f4 f5 f6 : Bool, Calls Tryz.prog 33 #[.int .i64 k] w (fun e w' => e = .returned (.agg #[.bool f1, .bool f2, .bool f3, .bool f4, .bool f5, .bool f6, .bool f4]) /\ Ext w w') from ⟨_, _, _, _, _, _, rflds_any k w⟩)
 obtain ⟨k, c, at_, n, v6, rs, d, ads⟩ := ev
 have HO := Lib.hid ho
 obtain ⟨⟨ok, oc, oa, on, or_, oad⟩, hd, hal⟩ := ho
 simp only at ok oc oa on or_ oad hd hal
 have hds := hd
 unfold maxLen at hds hal
 have HA := Lib.hid (fun (w' : World) (k' : Ext w w') => hA.or (h0.trans k') hB)
 obtain ⟨sa, scap, rfl⟩ := hA.len
 have HAI := Lib.hid (fun (w' : World) (k' : Ext w w') => hA.ext (h0.trans k'))
 clear hA h0
 simp only at HA HAI
 generalize hsl : (Value.slice sa ads.length scap) = sl at *
 have HSL := Lib.hid hsl
 clear hsl
 unfold evl
 simp only
 go_enter Tryz.func18, Tryz.ntmps18
 go_upto_region 1 with fail
 have hx := ((Ext.refl w).alloc (.cells #[.int .i64 k, .int .i64 c, .int .i64 at_, .int .u64 n, .bool v6, .int .i64 rs, .string d, sl] 31)).alloc (.cells [.int .i64 0, .int .i64 0, .int .i64 0, .int .u64 0, .bool false, .int .i64 0, .string ⟨#[]⟩, .slice none 0 0].toArray 31)
 have hb1 := (Blk.new w #[.int .i64 k, .int .i64 c, .int .i64 at_, .int .u64 n, .bool v6, .int .i64 rs, .string d, sl] 31).ext ((Ext.refl _).alloc (.cells [.int .i64 0, .int .i64 0, .int .i64 0, .int .u64 0, .bool false, .int .i64 0, .string ⟨#[]⟩, .slice none 0 0].toArray 31))
 have hb2 := Blk.new (w.alloc (.cells #[.int .i64 k, .int .i64 c, .int .i64 at_, .int .u64 n, .bool v6, .int .i64 rs, .string d, sl] 31)) [.int .i64 0, .int .i64 0, .int .i64 0, .int .u64 0, .bool false, .int .i64 0, .string ⟨#[]⟩, .slice none 0 0].toArray 31
 rw [World.size_alloc] at hb2
 generalize (w.alloc (.cells #[.int .i64 k, .int .i64 c, .int .i64 at_, .int .u64 n, .bool v6, .int .i64 rs, .string d, sl] 31)).alloc (.cells [.int .i64 0, .int .i64 0, .int .i64 0, .int .u64 0, .bool false, .int .i64 0, .string ⟨#[]⟩, .slice none 0 0].toArray 31) = w0 at *
 generalize hbw : w.heap.size = b at *
 replace hbw := Nat.le_of_eq hbw
 obtain ⟨ib, hib⟩ : ∃ n, n = b := ⟨_, rfl⟩
 obtain ⟨cb, hcb⟩ : ∃ n, n = b + 1 := ⟨_, rfl⟩
 rw [← hib] at hb1
 rw [← hcb] at hb2
 rw [← hcb, ← hib]
 have hic : ib ≠ cb := by omega
 have hwc : w.heap.size <= cb := by omega
 clear hib hcb hbw
 have ca := Blk.cell hb1 (i := 2) (v := .int .i64 at_) rfl
 have KM := Lib.hid (smod_any at_ 9 (by decide) (by decide) w0)
 go_upto_if 9 with (go_at_call 10; refine KM.out.mono ?_; rintro e w1 ⟨y9, rfl, hy0, hy1, hx1⟩)
 replace hb1 := Blk.ext hb1 hx1
 replace hb2 := Blk.ext hb2 hx1
 replace hx := hx.trans hx1
 clear ca KM hx1
 by_cases h8 : y9 = 8
 ·have q8 : (y9 == 8) = true := by simp [h8]
  clear h8 hy0 hy1
  have HONE : Hid (([.int .i64 k, .int .i64 c, .int .i64 at_, .int .u64 n, .bool v6, .int .i64 rs, .string d, sl].toArray).all (·.oneCell') = true) := Lib.hid (by rw [← HSL.out]; exact evl_one ⟨k, c, at_, n, v6, rs, d, ads⟩ sa ads.length scap)
  go_wp2_with (first | refine wpList_loadS (cs := [.int .i64 k, .int .i64 c, .int .i64 at_, .int .u64 n, .bool v6, .int .i64 rs, .string d, sl]) Tryz.underlying31 info_Ev rfl _ rfl (Blk.all8 hb1) rfl ?_ | refine wpList_storeS (cs := [.int .i64 k, .int .i64 c, .int .i64 at_, .int .u64 n, .bool v6, .int .i64 rs, .string d, sl]) (z := [.int .i64 0, .int .i64 0, .int .i64 0, .int .u64 0, .bool false, .int .i64 0, .string ⟨#[]⟩, .slice none 0 0]) (c := cb) info_Ev rfl _ _ rfl rfl HONE.out hb2 rfl rfl ?_)
  have hC' := Blk.row hb2 ([.int .i64 k, .int .i64 c, .int .i64 at_, .int .u64 n, .bool v6, .int .i64 rs, .string d, sl]).toArray
  refine bodyPost_ret (res_c1 (cs := [.int .i64 k, .int .i64 c, .int .i64 at_, .int .u64 n, .bool v6, .int .i64 rs, .string d, sl]) Tryz.underlying31 info_Ev rfl rfl hC') rfl ⟨⟨k, c, at_, n, v6, rs, d, ads⟩, sl, rfl, HO.out, HA.out _ (hx.setRow hwc _), hx.setRow hwc _⟩
 ·have q8 : (y9 == 8) = false := by simp [h8]
  clear h8 hy0 hy1
  have ca := Blk.cell hb1 (i := 0) (v := .int .i64 k) rfl
  have KM := Lib.hid (smod_any k 11 (by decide) (by decide))
  go_upto_region 4 with (first | (go_at_call 10; refine (KM.out _).mono ?_; rintro e w2 ⟨m2, rfl, hm0, hm1, hx2⟩; have qm : wrap64 (1 + m2) = 1 + m2 := IntWalk.wrap64_in _ (by omega)) | (go_at_call 33; obtain ⟨f1, f2, f3, f4, f5, f6, hKF⟩ := KF.out (1 + m2) w2; refine hKF.mono ?_; rintro e w3 ⟨rfl, hx3⟩))
  clear hKF qm ca
  have hxf := (hx2.trans hx3).alloc (.cells [.bool f1, .bool f2, .bool f3, .bool f4, .bool f5, .bool f6, .bool f4].toArray 74)
  have hF := Blk.new w3 [.bool f1, .bool f2, .bool f3, .bool f4, .bool f5, .bool f6, .bool f4].toArray 74
  change Code.wp _ _ _ _ (w3.alloc (.cells [.bool f1, .bool f2, .bool f3, .bool f4, .bool f5, .bool f6, .bool f4].toArray 74))
  have hl1 := Blk.lt hb2
  have hl1' := Blk.lt hb1
  have hs1 := (hx2.trans hx3).size
  replace hb1 := Blk.ext hb1 hxf
  replace hb2 := Blk.ext hb2 hxf
  replace hx := hx.trans hxf
  clear hx2 hx3 hxf
  generalize w3.alloc (.cells [.bool f1, .bool f2, .bool f3, .bool f4, .bool f5, .bool f6, .bool f4].toArray 74) = w4 at *
  obtain ⟨fb, hfb⟩ : ∃ n, n = w3.heap.size := ⟨_, rfl⟩
  rw [← hfb] at hF hs1 ⊢
  clear hfb
  have hfl := Blk.lt hF
  clear hm0 hm1
  have ca := Blk.cell hb1 (i := 0) (v := .int .i64 k) rfl
  go_upto_region 5 with (go_at_call 10; refine (KM.out _).mono ?_; rintro e w2 ⟨m3, rfl, hm0, hm1, hx2⟩; have qm : wrap64 (1 + m3) = 1 + m3 := IntWalk.wrap64_in _ (by omega))
  clear qm ca KM KF
  obtain ⟨k1, hk1⟩ : ∃ k1 : Int, k1 = 1 + m3 := ⟨_, rfl⟩
  rw [← hk1]
  have hkb : 1 <= k1 /\ k1 <= 11 := by omega
  clear hk1 hm0 hm1
  have hX := Blk.new w2 #[.int .i64 k1, .int .i64 0, .int .i64 0, .int .u64 0, .bool false, .int .i64 0, .string ⟨#[]⟩, .slice none 0 0] 31
  have hxa := hx2.alloc (.cells #[.int .i64 k1, .int .i64 0, .int .i64 0, .int .u64 0, .bool false, .int .i64 0, .string ⟨#[]⟩, .slice none 0 0] 31)
  have hs2 := hx2.size
  have hI := Blk.ext hb1 hxa
  have hC := Blk.ext hb2 hxa
  replace hF := Blk.ext hF hxa
  have hxw := hx.trans hxa
  clear hx2 hxa hb1 hb2 hx
  generalize w2.alloc (.cells #[.int .i64 k1, .int .i64 0, .int .i64 0, .int .u64 0, .bool false, .int .i64 0, .string ⟨#[]⟩, .slice none 0 0] 31) = wc at *
  obtain ⟨xb, hxb⟩ : ∃ n, n = w2.heap.size := ⟨_, rfl⟩
  rw [← hxb] at hX hs2 ⊢
  clear hxb
  have hix : ib ≠ xb := by omega
  have hcx : cb ≠ xb := by omega
  have hfx : fb ≠ xb := by omega
  have hwx : w.heap.size <= xb := by omega
  clear hl1 hl1' hs1 hs2 hfl
  have g0 : wc.cell? ⟨fb, 0, none⟩ = some (.bool f1) := Blk.cell hF rfl
  go_upto_if 22 with fail
  go_cut [] from 23 to 26 (fun wc => (∃ y : Int, i64r y /\ Blk wc xb [.int .i64 k1, .int .i64 y, .int .i64 0, .int .u64 0, .bool false, .int .i64 0, .string ⟨#[]⟩, .slice none 0 0] 31) /\ Blk wc ib [.int .i64 k, .int .i64 c, .int .i64 at_, .int .u64 n, .bool v6, .int .i64 rs, .string d, sl] 31 /\ Blk wc fb [.bool f1, .bool f2, .bool f3, .bool f4, .bool f5, .bool f6, .bool f4] 74 /\ Blk wc cb [.int .i64 0, .int .i64 0, .int .i64 0, .int .u64 0, .bool false, .int .i64 0, .string ⟨#[]⟩, .slice none 0 0] 31 /\ Ext w wc)
  case first =>
   cases f1 with
   | false =>
    go_wp2_with fail
    go_meet
    exact ⟨⟨0, ⟨by decide, by decide⟩, hX⟩, hI, hF, hC, hxw⟩
   | true =>
    have ci : wc.cell? ⟨ib, 1, none⟩ = some (.int .i64 c) := Blk.cell hI rfl
    have KM := Lib.hid (smod_any c 1048576 (by decide) (by decide) wc)
    go_wp2_with (go_at_call 10; refine KM.out.mono ?_; rintro e w5 ⟨y, rfl, hy0, hy1, hx5⟩; have hX5 := Blk.ext hX hx5; have cv := Blk.cell hX5 (i := 1) rfl; have gv := Blk.free hX5 1)
    have hI5 := Blk.ext hI hx5
    have hF5 := Blk.ext hF hx5
    have hC5 := Blk.ext hC hx5
    go_meet
    exact ⟨⟨y, ⟨by omega, by omega⟩, Blk.set hX5 1 (.int .i64 y)⟩, Blk.set_ne (hI5) ⟨xb, 1, none⟩ (Ne.symm hix) _, Blk.set_ne (hF5) ⟨xb, 1, none⟩ (Ne.symm hfx) _, Blk.set_ne (hC5) ⟨xb, 1, none⟩ (Ne.symm hcx) _, Ext.setCell (hxw.trans hx5) (p := ⟨xb, 1, none⟩) hwx _⟩
  clear g0 hX hI hF hC hxw
  obtain ⟨hX, hI, hF, hC, hxw⟩ := hcut
  obtain ⟨y1, hy1, hX⟩ := hX
  have g0 : wc.cell? ⟨fb, 1, none⟩ = some (.bool f2) := Blk.cell hF rfl
  (go_step; go_step)
  go_cut [] from 27 to 32 (fun wc => (∃ y : Int, i64r y /\ Blk wc xb [.int .i64 k1, .int .i64 y1, .int .i64 y, .int .u64 0, .bool false, .int .i64 0, .string ⟨#[]⟩, .slice none 0 0] 31) /\ Blk wc ib [.int .i64 k, .int .i64 c, .int .i64 at_, .int .u64 n, .bool v6, .int .i64 rs, .string d, sl] 31 /\ Blk wc fb [.bool f1, .bool f2, .bool f3, .bool f4, .bool f5, .bool f6, .bool f4] 74 /\ Blk wc cb [.int .i64 0, .int .i64 0, .int .i64 0, .int .u64 0, .bool false, .int .i64 0, .string ⟨#[]⟩, .slice none 0 0] 31 /\ Ext w wc)
  case first =>
   cases f2 with
   | false =>
    go_wp2_with fail
    go_meet
    exact ⟨⟨0, ⟨by decide, by decide⟩, hX⟩, hI, hF, hC, hxw⟩
   | true =>
    have ci : wc.cell? ⟨ib, 2, none⟩ = some (.int .i64 at_) := Blk.cell hI rfl
    have KM := Lib.hid (smod_any at_ 65 (by decide) (by decide) wc)
    go_wp2_with (go_at_call 10; refine KM.out.mono ?_; rintro e w5 ⟨y, rfl, hy0, hy1, hx5⟩; have hX5 := Blk.ext hX hx5; have cv := Blk.cell hX5 (i := 2) rfl; have gv := Blk.free hX5 2)
    have hI5 := Blk.ext hI hx5
    have hF5 := Blk.ext hF hx5
    have hC5 := Blk.ext hC hx5
    go_meet
    exact ⟨⟨y, ⟨by omega, by omega⟩, Blk.set hX5 2 (.int .i64 y)⟩, Blk.set_ne (hI5) ⟨xb, 2, none⟩ (Ne.symm hix) _, Blk.set_ne (hF5) ⟨xb, 2, none⟩ (Ne.symm hfx) _, Blk.set_ne (hC5) ⟨xb, 2, none⟩ (Ne.symm hcx) _, Ext.setCell (hxw.trans hx5) (p := ⟨xb, 2, none⟩) hwx _⟩
  clear g0 hX hI hF hC hxw
  obtain ⟨hX, hI, hF, hC, hxw⟩ := hcut
  obtain ⟨y2, hy2, hX⟩ := hX
  have on' := on
  have g0 : wc.cell? ⟨fb, 2, none⟩ = some (.bool f3) := Blk.cell hF rfl
  (go_step; go_step)
  go_cut [] from 33 to 37 (fun wc => (∃ y : Int, (0 <= y /\ y <= 18446744073709551615) /\ Blk wc xb [.int .i64 k1, .int .i64 y1, .int .i64 y2, .int .u64 y, .bool false, .int .i64 0, .string ⟨#[]⟩, .slice none 0 0] 31) /\ Blk wc ib [.int .i64 k, .int .i64 c, .int .i64 at_, .int .u64 n, .bool v6, .int .i64 rs, .string d, sl] 31 /\ Blk wc fb [.bool f1, .bool f2, .bool f3, .bool f4, .bool f5, .bool f6, .bool f4] 74 /\ Blk wc cb [.int .i64 0, .int .i64 0, .int .i64 0, .int .u64 0, .bool false, .int .i64 0, .string ⟨#[]⟩, .slice none 0 0] 31 /\ Ext w wc)
  case first =>
   cases f3 with
   | false =>
    go_wp2_with fail
    go_meet
    exact ⟨⟨0, ⟨by decide, by decide⟩, hX⟩, hI, hF, hC, hxw⟩
   | true =>
    have ci : wc.cell? ⟨ib, 3, none⟩ = some (.int .u64 n) := Blk.cell hI rfl
    have cv := Blk.cell hX (i := 3) rfl
    have gv := Blk.free hX 3
    have hx5 := Ext.refl wc
    have hI5 := hI
    have hF5 := hF
    have hC5 := hC
    go_wp2_with fail
    go_meet
    exact ⟨⟨n, on, Blk.set hX 3 (.int .u64 n)⟩, Blk.set_ne (hI5) ⟨xb, 3, none⟩ (Ne.symm hix) _, Blk.set_ne (hF5) ⟨xb, 3, none⟩ (Ne.symm hfx) _, Blk.set_ne (hC5) ⟨xb, 3, none⟩ (Ne.symm hcx) _, Ext.setCell (hxw.trans hx5) (p := ⟨xb, 3, none⟩) hwx _⟩
  clear g0 hX hI hF hC hxw
  obtain ⟨⟨y3, hy3, hX⟩, hI, hF, hC, hxw⟩ := hcut
  have g0 : wc.cell? ⟨fb, 3, none⟩ = some (.bool f4) := Blk.cell hF rfl
  go_step
  go_step
  go_cut [] from 38 to 44 (fun wc => (∃ y : Bool, Blk wc xb [.int .i64 k1, .int .i64 y1, .int .i64 y2, .int .u64 y3, .bool y, .int .i64 0, .string ⟨#[]⟩, .slice none 0 0] 31) /\ Blk wc ib [.int .i64 k, .int .i64 c, .int .i64 at_, .int .u64 n, .bool v6, .int .i64 rs, .string d, sl] 31 /\ Blk wc fb [.bool f1, .bool f2, .bool f3, .bool f4, .bool f5, .bool f6, .bool f4] 74 /\ Blk wc cb [.int .i64 0, .int .i64 0, .int .i64 0, .int .u64 0, .bool false, .int .i64 0, .string ⟨#[]⟩, .slice none 0 0] 31 /\ Ext w wc)
  case first =>
   have cv := Blk.cell hX (i := 4) rfl
   have gv := Blk.free hX 4
   have hx5 := Ext.refl wc
   have hI5 := hI
   have hF5 := hF
   have hC5 := hC
   have ci : wc.cell? ⟨ib, 4, none⟩ = some (.bool v6) := Blk.cell hI rfl
   cases f4 with
   | false =>
    go_wp2_with fail
    go_meet
    exact ⟨⟨false, Blk.set hX 4 (.bool false)⟩, Blk.set_ne (hI5) ⟨xb, 4, none⟩ (Ne.symm hix) _, Blk.set_ne (hF5) ⟨xb, 4, none⟩ (Ne.symm hfx) _, Blk.set_ne (hC5) ⟨xb, 4, none⟩ (Ne.symm hcx) _, Ext.setCell (hxw.trans hx5) (p := ⟨xb, 4, none⟩) hwx _⟩
   | true =>
    go_wp2_with fail
    go_meet
    exact ⟨⟨v6, Blk.set hX 4 (.bool v6)⟩, Blk.set_ne (hI5) ⟨xb, 4, none⟩ (Ne.symm hix) _, Blk.set_ne (hF5) ⟨xb, 4, none⟩ (Ne.symm hfx) _, Blk.set_ne (hC5) ⟨xb, 4, none⟩ (Ne.symm hcx) _, Ext.setCell (hxw.trans hx5) (p := ⟨xb, 4, none⟩) hwx _⟩
  clear g0 hX hI hF hC hxw
  obtain ⟨⟨y4, hX⟩, hI, hF, hC, hxw⟩ := hcut
  have g0 : wc.cell? ⟨fb, 4, none⟩ = some (.bool f5) := Blk.cell hF rfl
  (go_step; go_step)
  go_cut [] from 45 to 50 (fun wc => (∃ y : Int, i64r y /\ Blk wc xb [.int .i64 k1, .int .i64 y1, .int .i64 y2, .int .u64 y3, .bool y4, .int .i64 y, .string ⟨#[]⟩, .slice none 0 0] 31) /\ Blk wc ib [.int .i64 k, .int .i64 c, .int .i64 at_, .int .u64 n, .bool v6, .int .i64 rs, .string d, sl] 31 /\ Blk wc fb [.bool f1, .bool f2, .bool f3, .bool f4, .bool f5, .bool f6, .bool f4] 74 /\ Blk wc cb [.int .i64 0, .int .i64 0, .int .i64 0, .int .u64 0, .bool false, .int .i64 0, .string ⟨#[]⟩, .slice none 0 0] 31 /\ Ext w wc)
  case first =>
   cases f5 with
   | false =>
    go_wp2_with fail
    go_meet
    exact ⟨⟨0, ⟨by decide, by decide⟩, hX⟩, hI, hF, hC, hxw⟩
   | true =>
    have ci : wc.cell? ⟨ib, 5, none⟩ = some (.int .i64 rs) := Blk.cell hI rfl
    have KM := Lib.hid (smod_any rs 256 (by decide) (by decide) wc)
    go_wp2_with (go_at_call 10; refine KM.out.mono ?_; rintro e w5 ⟨y, rfl, hy0, hy1, hx5⟩; have hX5 := Blk.ext hX hx5; have cv := Blk.cell hX5 (i := 5) rfl; have gv := Blk.free hX5 5)
    have hI5 := Blk.ext hI hx5
    have hF5 := Blk.ext hF hx5
    have hC5 := Blk.ext hC hx5
    go_meet
    exact ⟨⟨y, ⟨by omega, by omega⟩, Blk.set hX5 5 (.int .i64 y)⟩, Blk.set_ne (hI5) ⟨xb, 5, none⟩ (Ne.symm hix) _, Blk.set_ne (hF5) ⟨xb, 5, none⟩ (Ne.symm hfx) _, Blk.set_ne (hC5) ⟨xb, 5, none⟩ (Ne.symm hcx) _, Ext.setCell (hxw.trans hx5) (p := ⟨xb, 5, none⟩) hwx _⟩
  clear g0 hX hI hF hC hxw
  obtain ⟨hX, hI, hF, hC, hxw⟩ := hcut
  obtain ⟨y5, hy5, hX⟩ := hX
  have g0 : wc.cell? ⟨fb, 5, none⟩ = some (.bool f6) := Blk.cell hF rfl
  (go_step; go_step)
  go_cut [] from 51 to 55 (fun wc => (∃ y : ByteArray, y.size <= maxLen /\ Blk wc xb [.int .i64 k1, .int .i64 y1, .int .i64 y2, .int .u64 y3, .bool y4, .int .i64 y5, .string y, .slice none 0 0] 31) /\ Blk wc ib [.int .i64 k, .int .i64 c, .int .i64 at_, .int .u64 n, .bool v6, .int .i64 rs, .string d, sl] 31 /\ Blk wc fb [.bool f1, .bool f2, .bool f3, .bool f4, .bool f5, .bool f6, .bool f4] 74 /\ Blk wc cb [.int .i64 0, .int .i64 0, .int .i64 0, .int .u64 0, .bool false, .int .i64 0, .string ⟨#[]⟩, .slice none 0 0] 31 /\ Ext w wc)
  case first =>
   cases f6 with
   | false =>
    go_wp2_with fail
    go_meet
    exact ⟨⟨⟨#[]⟩, Nat.zero_le _, hX⟩, hI, hF, hC, hxw⟩
   | true =>
    have ci : wc.cell? ⟨ib, 6, none⟩ = some (.string d) := Blk.cell hI rfl
    have cv := Blk.cell hX (i := 6) rfl
    have gv := Blk.free hX 6
    have hx5 := Ext.refl wc
    have hI5 := hI
    have hF5 := hF
    have hC5 := hC
    go_wp2_with fail
    go_meet
    exact ⟨⟨d, hd, Blk.set hX 6 (.string d)⟩, Blk.set_ne (hI5) ⟨xb, 6, none⟩ (Ne.symm hix) _, Blk.set_ne (hF5) ⟨xb, 6, none⟩ (Ne.symm hfx) _, Blk.set_ne (hC5) ⟨xb, 6, none⟩ (Ne.symm hcx) _, Ext.setCell (hxw.trans hx5) (p := ⟨xb, 6, none⟩) hwx _⟩
  clear g0 hX hI hF hC hxw
  obtain ⟨⟨y6, hy6, hX⟩, hI, hF, hC, hxw⟩ := hcut
  have HY6 := Lib.hid hy6
  clear hy6
  have g0 : wc.cell? ⟨fb, 6, none⟩ = some (.bool f4) := Blk.cell hF rfl
  cases f4 with
  | false =>
   clear hI
   go_wp2_with (first | refine wpList_loadS (cs := evl ⟨k1, y1, y2, y3, y4, y5, y6, []⟩ (.slice none 0 0)) Tryz.underlying31 info_Ev rfl _ rfl (Blk.all8 hX) rfl ?_ | refine wpList_storeS (cs := evl ⟨k1, y1, y2, y3, y4, y5, y6, []⟩ (.slice none 0 0)) (z := [.int .i64 0, .int .i64 0, .int .i64 0, .int .u64 0, .bool false, .int .i64 0, .string ⟨#[]⟩, .slice none 0 0]) (c := cb) info_Ev rfl _ _ rfl rfl (evl_one _ _ _ _) hC rfl rfl ?_)
   have hC' := Blk.row hC (evl ⟨k1, y1, y2, y3, y4, y5, y6, []⟩ (.slice none 0 0)).toArray
   refine bodyPost_ret (res_c1 (cs := evl ⟨k1, y1, y2, y3, y4, y5, y6, []⟩ (.slice none 0 0)) Tryz.underlying31 info_Ev rfl rfl hC') rfl ⟨⟨k1, y1, y2, y3, y4, y5, y6, []⟩, (.slice none 0 0), rfl, ⟨⟨by simp only; omega, hy1, hy2, hy3, hy5, ?_⟩, HY6.out, ?_⟩, ?_, hxw.setRow hwc _⟩
   ·intro x hx; cases hx
   ·exact Nat.zero_le _
   ·exact (OAd.nil 0 _).ads.or
  | true =>
   obtain ⟨i0, hiA, hzA, hsA, _⟩ := info_parts infoA
   have HIA := Lib.hid hiA
   have HZA := Lib.hid hzA
   have HSA := Lib.hid hsA
   have HX := Lib.hid hX
   have HI := Lib.hid hI
   have HC := Lib.hid hC
   have HW := Lib.hid hxw
   clear hiA hzA hsA hX hI hC hxw hF
   go_wp2_with fail
   clear g0
   go_loopw [5] (fun i wr => ∃ (j : Nat) (l : List Adr) (s2 : Value), i = .int .i64 j /\ j <= ads.length /\ j <= 16 /\ l.length = j /\ Blk wr xb [.int .i64 k1, .int .i64 y1, .int .i64 y2, .int .u64 y3, .bool y4, .int .i64 y5, .string y6, s2] 31 /\ OAd w.heap.size s2 l wr /\ Blk wr ib [.int .i64 k, .int .i64 c, .int .i64 at_, .int .u64 n, .bool v6, .int .i64 rs, .string d, sl] 31 /\ Blk wr cb [.int .i64 0, .int .i64 0, .int .i64 0, .int .u64 0, .bool false, .int .i64 0, .string ⟨#[]⟩, .slice none 0 0] 31 /\ Ext w wr) (fun i _ => 16 - (intOf i).toNat)
   case atStart => exact ⟨0, [], .slice none 0 0, rfl, Nat.zero_le _, by decide, rfl, HX.out, OAd.nil _ _, HI.out, HC.out, HW.out⟩
   case round =>
    obtain ⟨j, l, s2, rfl, hj, hj16, hll, hX, hO, hI, hC, hxw⟩ := hrel
    clear HX HI HC HW
    have HLL := Lib.hid hll
    clear hll
    have c7 : wr.cell? ⟨ib, 7, none⟩ = some sl := Blk.cell hI rfl
    obtain ⟨sx, nx, cx, rfl⟩ : ∃ a n c, s2 = .slice a n c := by obtain ⟨a, c, h⟩ := own_sl hO.1; exact ⟨a, _, c, h⟩
    have hsl := HSL.out
    by_cases hlt : j < ads.length /\ j < 16
    ·obtain ⟨hlt1, hlt2⟩ := hlt
     have hlt1' : (j : Int) < ads.length := by omega
     have hlt2' : (j : Int) < 16 := by omega
     have hj1 : IntKind.i64.wrap ((j : Int) + 1) = ((j + 1 : Nat) : Int) := by rw [IntWalk.i64_in _ (by omega)]; omega
     obtain ⟨x, hjx⟩ : ∃ x, ads[j]? = some x := ⟨ads[j]'hlt1, List.getElem?_eq_getElem hlt1⟩
     have hokx := oad x (List.mem_of_getElem? hjx)
     have hget : ∃ ab off, sa = some ⟨ab, off, none⟩ /\ ads.length <= scap /\ ∀ w' : World, Ext w w' -> w'.rangeAt ab (off + j * 17) (ac x).toList := by
      have h := HAI.out w (Ext.refl w)
      rw [← hsl] at h
      obtain ⟨ab, off, e, hb, _, hr, hc⟩ := h.get hjx
      exact ⟨ab, off, e, hc, fun w' k' => rangeAt_ext hr hb k'⟩
     obtain ⟨ab, off, rfl, hcap, hrng⟩ := hget
     have HRNG := Lib.hid hrng
     clear hjx hrng
     subst hsl
     go_upto_region 20 with fail
     clear c7
     refine wp_region_rgh (fun w' => w'.cell? ⟨xb, 7, none⟩ = some (.slice sx nx cx) /\ w'.cell? ⟨ib, 7, none⟩ = some (.slice (some ⟨ab, off, none⟩) ads.length scap) /\ Ext w w') [7, 8, 9, 11] [11] [0, 1, 2, 3, 4, 5, 6, 7, 8, 9, 10, 11] (by kernel_rfl) (by kernel_rfl) ⟨Blk.cell hX rfl, Blk.cell hI rfl, hxw.drew⟩ ?_
     replace hX := Blk.drew hX
     replace hI := Blk.drew hI
     replace hC := Blk.drew hC
     replace hO := hO.ext (Ext.refl wr).drew
     replace hxw := hxw.drew
     generalize wr.drew = wa at *
     have KA := Lib.hid (vadr_any x hokx wa)
     have hokq := okA_vadr hokx
     have hsz : (Tryz.prog.info? 72).map (·.size) = some (ac x).toList.length := by rw [info_A, Array.length_toList, ac_size hokx]
     have HSZ := Lib.hid hsz
     clear hsz
     generalize vadr x = q at *
     have S1 := fun (w' : World) (h : w'.cell? ⟨xb, 7, none⟩ = some (.slice sx nx cx) /\ w'.cell? ⟨ib, 7, none⟩ = some (.slice (some ⟨ab, off, none⟩) ads.length scap) /\ Ext w w') => h.1
     have S2 := fun (w' : World) (h : w'.cell? ⟨xb, 7, none⟩ = some (.slice sx nx cx) /\ w'.cell? ⟨ib, 7, none⟩ = some (.slice (some ⟨ab, off, none⟩) ads.length scap) /\ Ext w w') => h.2.1
     first
      | (apply goH_skip rfl rfl (by rfl))
      | (apply goH_val _ rfl rfl (by rfl); · (intro w hSw; go_simp; try with_reducible rfl))
     try simp only [aput, List.set]
     first
      | (apply goH_skip rfl rfl (by rfl))
      | (apply goH_val (.slice sx nx cx) rfl rfl (by rfl); · (intro w hSw; have c0 := S1 w hSw; go_simp))
     try simp only [aput, List.set]
     first
      | (apply goH_skip rfl rfl (by rfl))
      | (apply goH_val _ rfl rfl (by rfl); · (intro w hSw; go_simp; try with_reducible rfl))
     try simp only [aput, List.set]
     first
      | (apply goH_skip rfl rfl (by rfl))
      | (apply goH_val (.slice (some ⟨ab, off, none⟩) ads.length scap) rfl rfl (by rfl); · (intro w hSw; have c0 := S2 w hSw; go_simp))
     try simp only [aput, List.set]
     iterate 2
      first
       | (apply goH_skip rfl rfl (by rfl))
       | (apply goH_val _ rfl rfl (by rfl); · (intro w hSw; go_simp; try with_reducible rfl))
      try simp only [aput, List.set]
     apply goH_val (.agg (ac x).toList.toArray) rfl rfl (by rfl) (fun w' hS => exec_loadS (cs := (ac x).toList) _ rfl rfl Tryz.underlying72 HSZ.out (HRNG.out w' hS.2.2))
     try simp only [aput, List.set]
     have e0 : (ac x).toList.toArray = ac x := by simp
     rw [e0]
     clear e0
     apply goH_eff rfl rfl
     go_wp2_with (go_at_call 34; refine KA.out.mono ?_; rintro e w5 ⟨rfl, hx5⟩)
     replace hX := Blk.ext hX hx5
     replace hI := Blk.ext hI hx5
     replace hC := Blk.ext hC hx5
     replace hO := hO.ext hx5
     replace hxw := hxw.trans hx5
     clear hx5 KA
     refine ⟨rfl, rfl, .inr ⟨Blk.cell hX rfl, Blk.cell hI rfl, hxw⟩, ?_⟩
     apply goH_eff rfl rfl
     refine wpList_slit rfl 29 72 _ rfl rfl Tryz.underlying29 HIA.out HZA.out (by rw [HSA.out, ac_size hokq]) (by rw [ac_size hokq]; decide) (by rw [ac_size hokq]; decide) ?_
     have hxl := (Ext.refl w5).alloc (.cells (ac q) 72)
     have hL := Blk.new w5 (ac q) 72
     replace hX := Blk.ext hX hxl
     replace hI := Blk.ext hI hxl
     replace hC := Blk.ext hC hxl
     replace hO := hO.ext hxl
     replace hxw := hxw.trans hxl
     clear hxl
     generalize w5.alloc (.cells (ac q) 72) = w6 at *
     generalize w5.heap.size = lb at *
     refine effQ_end rfl (.inr ⟨Blk.cell hX rfl, Blk.cell hI rfl, hxw⟩) ?_
     apply goH_eff rfl rfl
     refine wpList_apA rfl _ _ rfl hO rfl hokq hL rfl (by have := HLL.out; omega) hxw.size ?_
     intro v7 w7 hO7 hg7
     replace hX := Blk.grownS hO.1 hX (by decide) hg7
     replace hI := Blk.grownS hO.1 hI (by decide) hg7
     replace hC := Blk.grownS hO.1 hC (by decide) hg7
     replace hxw := Ext.grown hxw hg7 (fun g hg => (hO.1.lt g hg).1)
     clear hO hg7 hL
     obtain ⟨a7, c7, rfl⟩ := own_sl hO7.1
     have hlen : (l ++ [q]).length = j + 1 := by rw [List.length_append, HLL.out]; rfl
     rw [hlen] at hO7 ⊢
     have HLEN := Lib.hid hlen
     clear hlen
     refine effQ_end rfl (.inr ⟨Blk.cell hX rfl, Blk.cell hI rfl, hxw⟩) ?_
     first
      | (apply goH_skip rfl rfl (by rfl))
      | (apply goH_val _ rfl rfl (by rfl); · (intro w hSw; go_simp; try with_reducible rfl))
     try simp only [aput, List.set]
     have cv := Blk.cell hX (i := 7) rfl
     have gv := Blk.free hX 7
     apply goH_eff rfl rfl
     go_wp2
     refine ⟨rfl, rfl, .inl rfl, ?_⟩
     unfold goH
     go_wp2_with fail
     refine ⟨⟨j + 1, l ++ [q], _, by go_num, by omega, by omega, HLEN.out, Blk.set hX 7 _, hO7.setc hX (by decide) 7 _, Blk.set_ne hI ⟨xb, 7, none⟩ (Ne.symm hix) _, Blk.set_ne hC ⟨xb, 7, none⟩ (Ne.symm hcx) _, hxw.setCell (p := ⟨xb, 7, none⟩) hwx _⟩, ?_⟩
     simp [intOf]; omega
    ·have hokl := hO.2
     have hlm : l.length <= maxLen := by have := HLL.out; unfold maxLen; omega
     subst hsl
     clear hI
     by_cases hlt1 : j < ads.length
     ·have hlt1' : (j : Int) < ads.length := by omega
      have hlt2' : ¬ (j : Int) < 16 := by omega
      go_upto_region 21 with fail
      clear c7
      go_wp2_with (first | refine wpList_loadS (cs := evl ⟨k1, y1, y2, y3, y4, y5, y6, l⟩ (.slice sx nx cx)) Tryz.underlying31 info_Ev rfl _ rfl (Blk.all8 hX) rfl ?_ | refine wpList_storeS (cs := evl ⟨k1, y1, y2, y3, y4, y5, y6, l⟩ (.slice sx nx cx)) (z := [.int .i64 0, .int .i64 0, .int .i64 0, .int .u64 0, .bool false, .int .i64 0, .string ⟨#[]⟩, .slice none 0 0]) (c := cb) info_Ev rfl _ _ rfl rfl (evl_one _ _ _ _) hC rfl rfl ?_)
      have hC' := Blk.row hC (evl ⟨k1, y1, y2, y3, y4, y5, y6, l⟩ (.slice sx nx cx)).toArray
      refine bodyPost_ret (res_c1 (cs := evl ⟨k1, y1, y2, y3, y4, y5, y6, l⟩ (.slice sx nx cx)) Tryz.underlying31 info_Ev rfl rfl hC') rfl ⟨⟨k1, y1, y2, y3, y4, y5, y6, l⟩, (.slice sx nx cx), rfl, ⟨⟨by simp only; omega, hy1, hy2, hy3, hy5, ?_⟩, HY6.out, ?_⟩, ?_, hxw.setRow hwc _⟩
      ·exact hokl
      ·exact hlm
      ·exact (hO.rowk hC (by decide) _).ads.or
     ·have hlt1' : ¬ (j : Int) < ads.length := by omega
      go_upto_region 21 with fail
      clear c7
      go_wp2_with (first | refine wpList_loadS (cs := evl ⟨k1, y1, y2, y3, y4, y5, y6, l⟩ (.slice sx nx cx)) Tryz.underlying31 info_Ev rfl _ rfl (Blk.all8 hX) rfl ?_ | refine wpList_storeS (cs := evl ⟨k1, y1, y2, y3, y4, y5, y6, l⟩ (.slice sx nx cx)) (z := [.int .i64 0, .int .i64 0, .int .i64 0, .int .u64 0, .bool false, .int .i64 0, .string ⟨#[]⟩, .slice none 0 0]) (c := cb) info_Ev rfl _ _ rfl rfl (evl_one _ _ _ _) hC rfl rfl ?_)
      have hC' := Blk.row hC (evl ⟨k1, y1, y2, y3, y4, y5, y6, l⟩ (.slice sx nx cx)).toArray
      refine bodyPost_ret (res_c1 (cs := evl ⟨k1, y1, y2, y3, y4, y5, y6, l⟩ (.slice sx nx cx)) Tryz.underlying31 info_Ev rfl rfl hC') rfl ⟨⟨k1, y1, y2, y3, y4, y5, y6, l⟩, (.slice sx nx cx), rfl, ⟨⟨by simp only; omega, hy1, hy2, hy3, hy5, ?_⟩, HY6.out, ?_⟩, ?_, hxw.setRow hwc _⟩
      ·exact hokl
      ·exact hlm
      ·exact (hO.rowk hC (by decide) _).ads.or
end Go.Proofs.YtmdlgfnibjcgmaaGreatDoor
