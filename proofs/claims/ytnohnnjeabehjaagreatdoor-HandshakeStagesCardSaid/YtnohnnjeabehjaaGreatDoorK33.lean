/-
  Several texts joined: HuG, UpTo, HtC, UserL.
-/
import Derived.Test.YtnohnnjeabehjaaGreatDoorK32
import Derived.Test.YtnohnnjeabehjaaGreatDoorK01
import Derived.Test.YtnohnnjeabehjaaGreatDoorK22
set_option maxHeartbeats 8000000
set_option maxRecDepth 8000
set_option linter.unusedVariables false
set_option linter.unusedSimpArgs false
namespace Go.Proofs.YtnohnnjeabehjaaGreatDoor
open Go.RowKit Go.Joins
theorem regR_of {w : World} {base x g cap : Nat} {vs : List Value} (h3 : vs.length = 3) (hc : w.cell? ⟨x, 0, none⟩ = some (.slice (some ⟨g, 0, none⟩) 3 cap)) (hl : TnRow w base (.slice (some ⟨g, 0, none⟩) 3 cap) vs) : RegR w x tn3 := by
 have h3c : 3 <= cap := by
  rcases hl.1.2 with ⟨_, h⟩ | ⟨g', cap', cur, e, _, _, hcc, _⟩
  ·omega
  ·injection e with e1 e2 e3; omega
 refine ⟨g, cap, h3c, hc, fun i y hy => ?_⟩
 have hi : i < 3 := (List.getElem?_eq_some_iff.1 hy).1
 have hv : vs[i]? = some (vs[i]'(by omega)) := List.getElem?_eq_getElem _
 have hy' : y = (usr i, pwd i) := by
  match i, hi, hy with
  | 0, _, h => exact (Option.some.inj h).symm
  | 1, _, h => exact (Option.some.inj h).symm
  | 2, _, h => exact (Option.some.inj h).symm
 subst hy'
 have hr := TnRow.range hl hv
 exact ⟨hr 0 _ rfl, hr 1 _ rfl⟩
theorem infoBk : (Tryz.prog.info? 99).map (fun i => (i.zero, i.size, i.bytes)) = some (some (.agg #[.int .i64 0, .int .u64 0, .int .u64 0, .int .i64 0]), 4, 32) := by kernel_rfl
theorem budget_parts : ∃ i : TypeInfo, Tryz.prog.info? 99 = some i /\ i.zero = some (.agg #[.int .i64 0, .int .u64 0, .int .u64 0, .int .i64 0]) /\ i.size = 4 /\ i.bytes = 32 := info_parts infoBk
def RnewRel (w : World) (base x : Nat) (lv : Value) (vs : List Value) (k : Nat) (wr : World) : Prop :=
 ∃ (s1 s2 : Value) (xs1 xs2 : List Value), Blk wr x [lv, s1, s2] 97 /\ wr.ownsRow w.heap.size 99 4 s1 k xs1 /\ wr.ownsRow w.heap.size 3 1 s2 k xs2 /\ TnRow wr base lv vs /\ Ext w wr
def RnewP (w : World) (lv : Value) (e : Ending) (w' : World) : Prop := ∃ (x : Nat) (s1 s2 : Value), e = .returned (.pointer (some ⟨x, 0, none⟩)) /\ Ext w w' /\ w.heap.size <= x /\ Blk w' x [lv, s1, s2] 97 /\ RegR w' x tn3
theorem own_slice2 {w : World} {B size : Nat} {e : TypeId} {v : Value} {n : Nat} {xs : List Value} (h : w.ownsRow B e size v n xs) : ∃ a cap, v = .slice a n cap := by
 rcases h.2 with ⟨rfl, rfl⟩ | ⟨g, cap, cur, rfl, _⟩
 ·exact ⟨_, _, rfl⟩
 ·exact ⟨_, _, rfl⟩
theorem rtnew_any (lv : Value) (vs : List Value) (h3 : vs.length = 3) {w : World} {base : Nat} (hl : TnRow w base lv vs) (hbw : base <= w.heap.size) : Calls Tryz.prog 33 #[lv] w fun e w' => RnewP w lv e w' := by
 have H3 := Lib.hid h3
 obtain ⟨g, cap, rfl⟩ : ∃ g cap, lv = .slice (some ⟨g, 0, none⟩) 3 cap := by
  have h := hl.1
  rw [h3] at h
  rcases h.2 with ⟨_, h0⟩ | ⟨g, cap, cur, hv, _⟩
  ·omega
  ·exact ⟨g, cap, hv⟩
 clear h3
 go_enter Tryz.func33, Tryz.ntmps33
 go_upto_region 2 with fail
 have hx1 := (Ext.refl w).alloc (.cells #[.slice (some ⟨g, 0, none⟩) 3 cap, .slice none 0 0, .slice none 0 0] 97)
 have hB := Blk.new w #[.slice (some ⟨g, 0, none⟩) 3 cap, .slice none 0 0, .slice none 0 0] 97
 have hl1 := hl.ext hx1
 clear hl
 generalize w.alloc (.cells #[.slice (some ⟨g, 0, none⟩) 3 cap, .slice none 0 0, .slice none 0 0] 97) = w1 at *
 generalize hxx : w.heap.size = x at hB ⊢
 go_wp2_with fail
 go_loopw [4] (fun i wr => ∃ k : Nat, k <= 3 /\ i = .int .i64 k /\ RnewRel w base x (.slice (some ⟨g, 0, none⟩) 3 cap) vs k wr) (fun i _ => 3 - (intOf i).toNat)
 case atStart => exact ⟨0, Nat.zero_le _, rfl, .slice none 0 0, .slice none 0 0, [], [], hB, World.ownsRow_nil _ _ _ _, World.ownsRow_nil _ _ _ _, hl1, hx1⟩
 case round =>
  clear hx1 hB hl1
  obtain ⟨k, hk, rfl, s1, s2, xs1, xs2, hB, ho1, ho2, hl, hx⟩ := hrel
  by_cases hlt : k < 3
  ·have hlt' : (k : Int) < 3 := by omega
   obtain ⟨v, hvk⟩ : ∃ v, vs[k]? = some v := ⟨vs[k]'(by rw [H3.out]; exact hlt), List.getElem?_eq_getElem _⟩
   have HVK := Lib.hid hvk
   clear hvk
   go_upto_region 5 with fail
   have d6 : Ext wr wr.drew := (Ext.refl wr).drew
   replace hB := Blk.ext hB d6
   replace ho1 := own_ext ho1 d6
   replace ho2 := own_ext ho2 d6
   replace hl := hl.ext d6
   replace hx := hx.trans d6
   clear d6
   have hS0 : ∀ {w' : World} {T : TypeId}, Blk w' x [.slice (some ⟨g, 0, none⟩) 3 cap, s1, s2] T -> TnRow w' base (.slice (some ⟨g, 0, none⟩) 3 cap) vs -> (w'.cell? ⟨x, 1, none⟩ = some s1 /\ w'.cell? ⟨g, k * 6 + 3, none⟩ = some (.int .i64 0) /\ w'.cell? ⟨g, k * 6 + 4, none⟩ = some (.int .u64 1)) := fun h1 h2 => ⟨Blk.cell h1 rfl, TnRow.range h2 HVK.out 3 _ rfl, TnRow.range h2 HVK.out 4 _ rfl⟩
   have S1 : ∀ w' : World, (w'.cell? ⟨x, 1, none⟩ = some s1 /\ w'.cell? ⟨g, k * 6 + 3, none⟩ = some (.int .i64 0) /\ w'.cell? ⟨g, k * 6 + 4, none⟩ = some (.int .u64 1)) -> w'.cell? ⟨x, 1, none⟩ = some s1 := fun _ h => h.1
   have S2 : ∀ w' : World, (w'.cell? ⟨x, 1, none⟩ = some s1 /\ w'.cell? ⟨g, k * 6 + 3, none⟩ = some (.int .i64 0) /\ w'.cell? ⟨g, k * 6 + 4, none⟩ = some (.int .u64 1)) -> w'.cell? ⟨g, k * 6 + 3, none⟩ = some (.int .i64 0) := fun _ h => h.2.1
   have S3 : ∀ w' : World, (w'.cell? ⟨x, 1, none⟩ = some s1 /\ w'.cell? ⟨g, k * 6 + 3, none⟩ = some (.int .i64 0) /\ w'.cell? ⟨g, k * 6 + 4, none⟩ = some (.int .u64 1)) -> w'.cell? ⟨g, k * 6 + 4, none⟩ = some (.int .u64 1) := fun _ h => h.2.2
   refine wp_region_rgh (fun w' => w'.cell? ⟨x, 1, none⟩ = some s1 /\ w'.cell? ⟨g, k * 6 + 3, none⟩ = some (.int .i64 0) /\ w'.cell? ⟨g, k * 6 + 4, none⟩ = some (.int .u64 1)) [16, 17, 20] [20] [0, 1, 2, 3, 4, 5, 6, 7, 8, 9, 10, 11, 12, 13, 14, 15, 16, 17, 18, 19, 20] (by kernel_rfl) (by kernel_rfl) (hS0 hB hl) ?_
   generalize wr.drew = wa at *
   iterate 4
    first
     | (apply goH_skip rfl rfl (by rfl))
     | (apply goH_val _ rfl rfl (by rfl); · (intro w hSw; go_simp; try with_reducible rfl))
    try simp only [aput, List.set]
   first
    | (apply goH_skip rfl rfl (by rfl))
    | (apply goH_val s1 rfl rfl (by rfl); · (intro w hSw; have c0 := S1 w hSw; go_simp))
   try simp only [aput, List.set]
   iterate 4
    first
     | (apply goH_skip rfl rfl (by rfl))
     | (apply goH_val _ rfl rfl (by rfl); · (intro w hSw; go_simp; try with_reducible rfl))
    try simp only [aput, List.set]
   first
    | (apply goH_skip rfl rfl (by rfl))
    | (apply goH_val (.int .i64 0) rfl rfl (by rfl); · (intro w hSw; have c0 := S2 w hSw; go_simp))
   try simp only [aput, List.set]
   iterate 4
    first
     | (apply goH_skip rfl rfl (by rfl))
     | (apply goH_val _ rfl rfl (by rfl); · (intro w hSw; go_simp; try with_reducible rfl))
    try simp only [aput, List.set]
   first
    | (apply goH_skip rfl rfl (by rfl))
    | (apply goH_val (.int .u64 1) rfl rfl (by rfl); · (intro w hSw; have c0 := S3 w hSw; go_simp))
   try simp only [aput, List.set]
   first
    | (apply goH_skip rfl rfl (by rfl))
    | (apply goH_val _ rfl rfl (by rfl); · (intro w hSw; go_simp; try with_reducible rfl))
   try simp only [aput, List.set]
   apply goH_eff rfl rfl
   go_wp2
   have hx8 := (Ext.refl wa).alloc (.cells #[.int .i64 0, .int .u64 1, .int .u64 0, .int .i64 0] 99)
   refine ⟨rfl, rfl, .inr (hS0 (Blk.ext hB hx8) (hl.ext hx8)), ?_⟩
   have hL := Blk.new wa #[.int .i64 0, .int .u64 1, .int .u64 0, .int .i64 0] 99
   replace hB := Blk.ext hB hx8
   replace ho1 := own_ext ho1 hx8
   replace ho2 := own_ext ho2 hx8
   replace hl := hl.ext hx8
   replace hx := hx.trans hx8
   have hsz8 := hx.size
   clear hx8
   generalize wa.alloc (.cells #[.int .i64 0, .int .u64 1, .int .u64 0, .int .i64 0] 99) = wb at *
   generalize wa.heap.size = lb at *
   obtain ⟨i0, hi, hz0, hz1, hz2⟩ := budget_parts
   apply goH_eff rfl rfl
   refine wpList_append_own _ rfl _ _ 95 rfl w.heap.size 99 i0 (.agg #[.int .i64 0, .int .u64 0, .int .u64 0, .int .i64 0]) 4 32 Tryz.underlying95 hi hz0 hz1 hz2 rfl (by decide) s1 k xs1 rfl ho1 ⟨lb, 0, none⟩ 1 1 [.int .i64 0, .int .u64 1, .int .u64 0, .int .i64 0] rfl rfl (fun j u hj => by rw [add_off, Nat.zero_add]; exact hL.cell hj) (by decide) (by unfold maxLen; omega) (by omega) hsz8 ?_
   intro v' wc ho9 hg9 _
   have K9 := Keep.of_grown hg9
   have hx9 : Ext w wc := Ext.grown hx hg9 (fun g hg => (ho1.lt g hg).1)
   obtain ⟨va, vc, rfl⟩ := own_slice2 ho9
   have hB9 := Blk.grown ho1 hB (by decide) hg9
   have hl9 := TnRow.keepS hl K9 (fun g hg => ⟨fun ho => own_own_ne ho ho1 (by decide) g hg, fun ho => own_own_ne ho ho1 (by decide) g hg⟩)
   have ho29 := own_keepS ho2 K9 (fun g hg => own_own_ne ho2 ho1 (by decide) g hg)
   clear hB ho1 ho2 hl hx hL K9 hg9 hi hz0 hz1 hz2
   refine effQ_end rfl (.inr (hS0 hB9 hl9)) ?_
   iterate 2
    first
     | (apply goH_skip rfl rfl (by rfl))
     | (apply goH_val _ rfl rfl (by rfl); · (intro w hSw; go_simp; try with_reducible rfl))
    try simp only [aput, List.set]
   have c9 := Blk.cell hB9 (i := 1) rfl
   have f9 := Blk.free hB9 1
   apply goH_eff rfl rfl
   go_wp2
   refine ⟨rfl, rfl, .inl rfl, ?_⟩
   have K10 : Keep [x] wc (wc.setCell ⟨x, 1, none⟩ (.slice va (k + 1) vc)) := (Keep.refl [x] wc).setCell (.inl (by simp)) _
   have hB10 := Blk.set hB9 1 (.slice va (k + 1) vc)
   have ho110 := own_keep1 ho9 K10 hB9 (by decide)
   have ho210 := own_keep1 ho29 K10 hB9 (by decide)
   have hl10 := TnRow.keepS hl9 K10 (fun g hg => by rw [List.mem_singleton] at hg; subst hg; exact ⟨fun ho => own_ne ho hB9 (by decide), fun ho => own_ne ho hB9 (by decide)⟩)
   have hx10 := Keep.ext ((hx9.keep [x]).trans K10) (fun y hy => by rw [List.mem_singleton] at hy; subst hy; exact Nat.le_of_eq hxx)
   clear hB9 ho9 ho29 hl9 hx9 K10 c9 f9 hS0 S1 S2 S3
   generalize wc.setCell ⟨x, 1, none⟩ (.slice va (k + 1) vc) = wd at *
   unfold goH
   have c0 := Blk.cell hB10 (i := 2) rfl
   have hsz : w.heap.size <= wd.heap.size := hx10.size
   have hxL := (Ext.refl wd).alloc (.cells #[.int .i64 0] 3)
   have hL := Blk.new wd #[.int .i64 0] 3
   have HO := Lib.hid (own_ext ho210 hxL)
   have hszL := Lib.hid (Nat.le_trans hsz hxL.size)
   have hBL := Blk.ext hB10 hxL
   obtain ⟨i1, hi, hz0, hz1, hz2⟩ := info_parts infoN
   go_wp2_with (at_builtin; refine wpList_append_own _ rfl _ _ 22 rfl w.heap.size 3 i1 (.int .i64 0) 1 8 Tryz.underlying22 hi hz0 hz1 hz2 rfl (by decide) s2 k xs2 rfl HO.out ⟨wd.heap.size, 0, none⟩ 1 1 [.int .i64 0] rfl rfl (fun j u hj => by rw [add_off, Nat.zero_add]; exact hL.cell hj) (by intro u hu; rw [List.mem_singleton] at hu; subst hu; rfl) (by unfold maxLen; omega) (by omega) hszL.out ?_; intro v' we hown9 hg9 _; obtain ⟨vb, vd, rfl⟩ := own_sliceX hown9; have hBe := Blk.grown HO.out hBL (by decide) hg9; have c9 := Blk.cell hBe (i := 2) rfl; have f9 := Blk.free hBe 2)
   have hL0 := own_ext ho210 hxL
   have hxe : Ext w we := Ext.grown (hx10.trans hxL) hg9 (fun g hg => (hL0.lt g hg).1)
   have K9 := Keep.of_grown hg9
   have hle := TnRow.keepS (hl10.ext hxL) K9 (fun g hg => ⟨fun ho => own_own_ne ho hL0 (by decide) g hg, fun ho => own_own_ne ho hL0 (by decide) g hg⟩)
   have ho1e := own_keepS (own_ext ho110 hxL) K9 (fun g hg => own_own_ne (own_ext ho110 hxL) hL0 (by decide) g hg)
   have K11 : Keep [x] we (we.setCell ⟨x, 2, none⟩ (.slice vb (k + 1) vd)) := (Keep.refl [x] we).setCell (.inl (by simp)) _
   have hBf := Blk.set hBe 2 (.slice vb (k + 1) vd)
   have ho1f := own_keep1 ho1e K11 hBe (by decide)
   have ho2f := own_keep1 hown9 K11 hBe (by decide)
   have hlf := TnRow.keepS hle K11 (fun g hg => by rw [List.mem_singleton] at hg; subst hg; exact ⟨fun ho => own_ne ho hBe (by decide), fun ho => own_ne ho hBe (by decide)⟩)
   have hxf := Keep.ext ((hxe.keep [x]).trans K11) (fun y hy => by rw [List.mem_singleton] at hy; subst hy; exact Nat.le_of_eq hxx)
   go_roundw
   case measure => simp [intOf]; omega
   case rel => exact ⟨k + 1, by omega, by go_num, _, _, _, _, hBf, ho1f, ho2f, hlf, hxf⟩
  ·obtain rfl : k = 3 := by omega
   go_wp2_with fail
   go_ret
   exact ⟨x, s1, s2, rfl, hx, Nat.le_of_eq hxx, hB, regR_of H3.out (Blk.cell hB rfl) hl⟩
open Go.RowKit Go.Joins
def upTo (w : World) (n : Nat) : World := { w with heap := w.heap.extract 0 n }
theorem upTo_size (w : World) {n : Nat} (h : n <= w.heap.size) : (upTo w n).heap.size = n := by
 simp only [upTo, Array.size_extract]; omega
theorem upTo_block (w : World) {n i : Nat} (h : i < n) : (upTo w n).heap[i]? = w.heap[i]? := by
 simp only [upTo]
 rw [Array.getElem?_extract]
 split
 ·rw [Nat.zero_add]
 ·rw [Array.getElem?_eq_none (by omega)]
theorem upTo_ext (w : World) {n : Nat} (h : n <= w.heap.size) : Ext (upTo w n) w :=
 ⟨rfl, rfl, rfl, by rw [upTo_size w h]; exact h, fun i hi => (upTo_block w (by rw [upTo_size w h] at hi; exact hi)).symm⟩
theorem ext_upTo {w0 w : World} {n : Nat} (h : n <= w.heap.size) (hn : w0.heap.size <= n) (k : Ext w0 w) : Ext w0 (upTo w n) :=
 ⟨k.os, k.tape, k.output, by rw [upTo_size w h]; exact hn, fun i hi => by rw [upTo_block w (by omega)]; exact Below.block k i hi⟩
theorem upTo_keep {S : List Nat} {w w' : World} {n : Nat} (h : n <= w.heap.size) (k : Keep S w w') (hS : ∀ g ∈ S, n <= g) : Ext (upTo w n) (upTo w' n) := by
 have h' : n <= w'.heap.size := Nat.le_trans h k.size
 refine ⟨k.os, k.tape, k.output, by rw [upTo_size w h, upTo_size w' h']; exact Nat.le_refl _, fun i hi => ?_⟩
 rw [upTo_size w h] at hi
 rw [upTo_block w hi, upTo_block w' hi]
 exact k.block i (by omega) fun hm => by have := hS i hm; omega
theorem upTo_cell (w : World) {n b i : Nat} (h : b < n) : (upTo w n).cell? ⟨b, i, none⟩ = w.cell? ⟨b, i, none⟩ := World.cell?_of_block (w := w) (upTo_block w h)
open Go.RowKit
theorem Ext.of_dr {w w' : World} (h : Dr w w') : Ext w w' := by obtain ⟨n, rfl⟩ := h; exact (Ext.refl w).drewN n
theorem gsel_two (s : ByteArray) : gsel s 2 = 2 ∨ gsel s 2 = 255 := by unfold gsel; split; exact .inl rfl; exact .inr rfl
theorem gparse_st (s : ByteArray) : (gparse s).2.2 = 0 ∨ (gparse s).2.2 = 1 ∨ (gparse s).2.2 = 2 := by
 unfold gparse
 (repeat' split) <;> simp
theorem uparse_st (s : ByteArray) : (uparse s).2.2.2 = 0 ∨ (uparse s).2.2.2 = 1 ∨ (uparse s).2.2.2 = 2 := by
 unfold uparse
 (repeat' split) <;> simp
theorem str2_10 : str2 1 0 = ⟨#[1, 0]⟩ := by decide +kernel
theorem str2_11 : str2 1 1 = ⟨#[1, 1]⟩ := by decide +kernel
theorem gparse_size {s : ByteArray} (h : s.size <= 281474976710656) : (gparse s).1.size <= maxLen := by
 have hm : (281474976710656 : Nat) <= maxLen := by unfold maxLen; omega
 unfold gparse
 (repeat' split) <;> first | exact Nat.zero_le _ | exact Nat.le_trans (extract_le _ _ _) (Nat.le_trans h hm)
open Go.RowKit
def uencode (u p : ByteArray) : ByteArray × Bool :=
 if u.size < 1 ∨ 255 < u.size ∨ p.size < 1 ∨ 255 < p.size then (⟨#[]⟩, false) else (str2 1 u.size ++ u ++ str1 p.size ++ p, true)
theorem uencodeR_any (u p : ByteArray) (w : World) (hu : u.size <= maxLen) (hp : p.size <= maxLen) :
  Calls Tryz.prog 13 #[.string u, .string p] w fun e w' => e = .returned (.tuple #[.string (uencode u p).1, .bool (uencode u p).2]) /\ Ext w w' := by
 replace hu := size_max hu
 replace hp := size_max hp
 go_enter Tryz.func13, Tryz.ntmps13
 go_wp2_with fail
 all_goals go_light
 all_goals go_ret2
 all_goals (refine ⟨?_, by (repeat' (first | exact Ext.refl _ | assumption | refine Ext.alloc ?_ _ | refine Ext.drew ?_ | refine Ext.setCell ?_ (Nat.le_refl _) _ | refine Ext.setCell ?_ (Nat.le_add_right _ _) _ | refine Ext.drewN ?_ _ | refine Ext.trans ?_ (by assumption) | refine Ext.dr ?_ (by assumption)))⟩; unfold uencode; first | (rw [if_pos (by omega)]; rfl) | (rw [if_neg (by omega)]; rfl))
theorem ureply_any (b : Bool) (w : World) :
  Calls Tryz.prog 46 #[.bool b] w fun e w' => e = .returned (.string (if b then ⟨#[1, 0]⟩ else ⟨#[1, 1]⟩)) /\ w = w' := by
 cases b
 all_goals
  go_enter Tryz.func46, Tryz.ntmps46
  go_wp2_with fail
  go_ret
  exact ⟨rfl, rfl⟩
end Go.Proofs.YtnohnnjeabehjaaGreatDoor
