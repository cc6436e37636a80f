/-
  Several texts joined: HtO6, HtO4, HtOn, HtP.
-/
import Derived.Test.YtnohnnjeabehjaaGreatDoorK30
set_option maxHeartbeats 40000000
set_option maxRecDepth 8000
set_option linter.unusedVariables false
set_option linter.unusedSimpArgs false
namespace Go.Proofs.YtnohnnjeabehjaaGreatDoor
open Go.RowKit Go.Joins
theorem rencT_v6 (t : Tgt) (ht : okT t) (hA : t.1.size <= 255) (hv : validA t.2.1 = true) (hB : 0 <= t.2.2) (hC : t.2.2 <= 65535) (h0 : t.1.size = 0 /\ t.2.1.1 = true) (w : World) : Calls Tryz.prog 36 #[tv t] w fun e w' => e = .returned (.tuple #[.string (encTg t).1, .bool true]) /\ Ext w w' := by
 have KV := Lib.hid (fun w => rValid_any t.2.1 ht.1 w)
 unfold tv
 go_enter Tryz.func36, Tryz.ntmps36
 go_upto_region 1 with fail
 have hT := Blk.new w (tc t) 43
 have hx := (Ext.refl w).alloc (.cells (tc t) 43)
 generalize w.alloc (.cells (tc t) 43) = w0 at *
 have hbt := Blk.lt hT
 have hbw : w.heap.size <= w.heap.size := Nat.le_refl _
 generalize hbb : w.heap.size = bt at hT hbt ⊢
 obtain ⟨nm, ad, p⟩ := t
 have F : Hid (∀ w', Ext w0 w' -> TBlk w' bt (nm, ad, p)) := Lib.hid (fun w' h => Blk.ext hT h)
 have Fn : ∀ w', Ext w0 w' -> w'.cell? ⟨bt, 0, none⟩ = some (.string nm) := fun w' h => TBlk.name (F.out w' h)
 have Fp : ∀ w', Ext w0 w' -> w'.cell? ⟨bt, 18, none⟩ = some (.int .i64 p) := fun w' h => TBlk.port ht (F.out w' h)
 have FT := F.out
 simp only at hv hA hB hC KV h0
 have KV2 := KV.out
 rw [hv] at KV2
 have KC := fun (w' : World) (h : Ext w0 w') => KV2 w'
 have hA1 : (nm.size : Int) <= 255 := by omega
 have hA' : ¬ (255 : Int) < nm.size := by omega
 have hB' : ¬ p < 0 := by omega
 have hC' : ¬ 65535 < p := by omega
 have R1 : Hid (encTg (nm, ad, p) = ((if nm.size ≠ 0 then str2 3 nm.size ++ nm else if ad.1 = true then str1 4 ++ strOfNums ad.2 else str1 1 ++ strOfNums (ad.2.take 4)) ++ str2 (p / 256) (p % 256), true)) := Lib.hid (by
  unfold encTg
  simp only
  rw [if_pos ⟨hA, hv, hB, hC⟩])
 clear hv KV KV2
 refine wp_region_rgs ?_
 first
  | (apply goV_skip (by intro u; rfl))
  | (apply goV_val _ (by intro u; rfl); · (intro u w hSw hF; go_simp; try with_reducible rfl))
 try simp only [aput, List.set]
 first
  | (apply goV_skip (by intro u; rfl))
  | (apply goV_val (.string nm) (by intro u; rfl); · (intro u w hSw hF; have c0 := Fn w hSw; go_simp))
 try simp only [aput, List.set]
 iterate 4
  first
   | (apply goV_skip (by intro u; rfl))
   | (apply goV_val _ (by intro u; rfl); · (intro u w hSw hF; go_simp; try with_reducible rfl))
  try simp only [aput, List.set]
 first
  | (apply goV_skip (by intro u; rfl))
  | (apply goV_loadTA (by intro u; rfl) _ rfl ht FT (by intro u; rfl))
 try simp only [aput, List.set]
 first
  | (apply goV_skip (by intro u; rfl))
  | (apply goV_call (by intro u; rfl) KC; · (intro u w hSw hF; go_simp; try with_reducible rfl))
 try simp only [aput, List.set]
 iterate 4
  first
   | (apply goV_skip (by intro u; rfl))
   | (apply goV_val _ (by intro u; rfl); · (intro u w hSw hF; go_simp; try with_reducible rfl))
  try simp only [aput, List.set]
 first
  | (apply goV_skip (by intro u; rfl))
  | (apply goV_val (.int .i64 p) (by intro u; rfl); · (intro u w hSw hF; have c0 := Fp w hSw; go_simp))
 try simp only [aput, List.set]
 iterate 4
  first
   | (apply goV_skip (by intro u; rfl))
   | (apply goV_val _ (by intro u; rfl); · (intro u w hSw hF; go_simp; try with_reducible rfl))
  try simp only [aput, List.set]
 first
  | (apply goV_skip (by intro u; rfl))
  | (apply goV_val (.int .i64 p) (by intro u; rfl); · (intro u w hSw hF; have c0 := Fp w hSw; go_simp))
 try simp only [aput, List.set]
 iterate 2
  first
   | (apply goV_skip (by intro u; rfl))
   | (apply goV_val _ (by intro u; rfl); · (intro u w hSw hF; go_simp; try with_reducible rfl))
  try simp only [aput, List.set]
 intro u w2 hx2 _
 have hT2 := F.out w2 hx2
 have hxx := hx.trans hx2
 clear hx hx2 Fn Fp KC FT F hT
 have hlt2 := Blk.lt hT2
 have c0 : w2.cell? ⟨bt, 0, none⟩ = some (.string nm) := TBlk.name hT2
 have c1 : w2.cell? ⟨bt, 1, none⟩ = some (.bool ad.1) := TBlk.fam hT2
 have nb := nil_yes h0.1
 have h6 := h0.2
 rw [h6] at c1
 go_upto_region 8 with fail
 have R : Hid (encTg (nm, ad, p) = (str1 4 ++ strOfNums (ad.2.take 16) ++ str2 (p / 256) (p % 256), true)) := Lib.hid (by rw [R1.out, if_neg (by omega), if_pos h6, List.take_of_length_le (by have := ht.1.1; simp only at this; omega)])
 clear R1 h6 h0
 have hx3 := hxx.drew
 have hT3 := Blk.ext hT2 (Ext.refl w2).drew
 clear c0 c1 hT2 hxx hlt2
 refine wp_region_rge (fun _ => True) [1, 2, 6] [0, 3, 4, 5, 1, 2, 6, 7] (by kernel_rfl) (by kernel_rfl) trivial ?_
 generalize w2.drew = w3 at *
 iterate 4
  first
   | (apply goE_skip rfl rfl (by rfl))
   | (apply goE_val _ rfl rfl (by rfl); · (intro w hSw; go_simp; try with_reducible rfl))
  try simp only [aput, List.set]
 apply goE_eff rfl rfl
 go_wp2
 refine ⟨rfl, rfl, trivial, ?_⟩
 have hx4 := hx3.alloc (.cells #[.int .u8 4] 5)
 have hT4 := Blk.ext hT3 ((Ext.refl w3).alloc (.cells #[.int .u8 4] 5))
 have hL := Blk.new w3 #[.int .u8 4] 5
 generalize w3.alloc (.cells #[.int .u8 4] 5) = w4 at *
 apply goE_eff rfl rfl
 refine wpList_appA rfl _ _ rfl (out := []) (World.ownsRow_nil w4 w4.heap.size _ _) rfl (ns := u8l [4]) rfl (fun j u hj => by rw [Nat.zero_add]; exact hL.cell hj) rfl (by decide) (Nat.le_refl _) ?_
 intro a5 cap5 w5 hown5 hg5
 have hl5 : ([] ++ u8l [4]).length = 1 := rfl
 generalize ho5 : ([] ++ u8l [4]) = out5 at *
 have HO5 := Lib.hid ho5
 have hl5' : out5.length <= 1 := Nat.le_of_eq hl5
 clear ho5 hl5
 have hx5 : Ext w w5 := Ext.grown hx4 hg5 (fun g hg => by cases hg)
 have hT5 : TBlk w5 bt (nm, ad, p) := hT4.of_heap (hg5.block bt (Blk.lt hT4) (by intro q; cases q))
 have hb5 : w4.heap.size <= w5.heap.size := hg5.size
 have hbw4 : w.heap.size <= w4.heap.size := hx4.size
 refine effQ_end rfl trivial ?_
 apply goE_eff rfl rfl
 have hln : (u8l (ad.2.take 16)).length = 16 := by rw [u8l_len, List.length_take]; have := ht.1.1; simp only at this; omega
 refine wpList_appA rfl _ _ rfl hown5 rfl (ns := u8l (ad.2.take 16)) hln (fun j u hj => ?_) rfl (by have := hl5'; omega) hb5 ?_
 ·rw [u8l_cells (fun x hx => ht.1.2 x (List.mem_of_mem_take hx)), List.getElem?_map] at hj
  obtain ⟨x, hx, rfl⟩ := Option.map_eq_some_iff.1 hj
  refine TBlk.octet hT5 ?_
  rw [List.getElem?_take] at hx
  split at hx
  ·exact hx
  ·cases hx
 intro a6 cap6 w6 hown6 hg6
 have hl6 : (out5 ++ u8l (ad.2.take 16)).length <= 17 := by rw [List.length_append, hln]; omega
 generalize ho6 : (out5 ++ u8l (ad.2.take 16)) = out6 at *
 have HEQ : Hid (txt (out6 ++ u8l [p / 256, p % 256]) = str1 4 ++ strOfNums (ad.2.take 16) ++ str2 (p / 256) (p % 256)) := Lib.hid (by rw [← ho6, ← HO5.out]; exact hd_app 4 _ _ _)
 clear ho6
 have hx6 : Ext w w6 := Ext.grown hx5 hg6 (fun g hg => Nat.le_trans hx4.size (hown5.lt g hg).1)
 have hT6 : TBlk w6 bt (nm, ad, p) := Blk.grown hown5 hT5 (by decide) hg6
 have hb6 : w4.heap.size <= w6.heap.size := Nat.le_trans hb5 hg6.size
 refine effQ_end rfl trivial ?_
 first
  | (apply goE_skip rfl rfl (by rfl))
  | (apply goE_val _ rfl rfl (by rfl); · (intro w hSw; go_simp; try with_reducible rfl))
 try simp only [aput, List.set]
 unfold goE
 have cp : w6.cell? ⟨bt, 18, none⟩ = some (.int .i64 p) := TBlk.port ht hT6
 have u8w : ∀ n : Int, IntKind.u8.wrap n = n % 256 := fun n => by simp [IntKind.wrap, IntKind.bits, IntKind.signed]
 have q1 : IntKind.u8.wrap (p / 256) = p / 256 := by rw [u8w]; omega
 have q2 : IntKind.u8.wrap p = p % 256 := u8w p
 have hbd : ∀ x ∈ [p / 256, p % 256], 0 <= x /\ x < 256 := by
  intro x hx
  simp only [List.mem_cons, List.not_mem_nil, or_false] at hx
  rcases hx with rfl | rfl <;> omega
 have hcl := u8l_cells hbd
 have hll : (u8l [p / 256, p % 256]).length = 2 := rfl
 have HCL := Lib.hid hcl
 have HOW := Lib.hid hown6
 have HLN : Hid (out6.length + 2 <= 100000000000000) := Lib.hid (by omega)
 have hlt6 := Blk.lt hT6
 clear u8w hbd hcl hown6
 go_upto_region 9 with fail
 go_wp2_with (at_builtin; refine wpList_appA rfl _ _ rfl (HOW.out.alloc _) rfl (ns := u8l [p / 256, p % 256]) hll (fun j u hj => by rw [HCL.out] at hj; rw [Nat.zero_add]; exact (Blk.new w6 #[.int .u8 (p / 256), .int .u8 (p % 256)] 5).cell hj) rfl HLN.out (by have := hb6; rw [World.size_alloc]; omega) ?_; intro a7 cap7 w7 hown7 hg7; generalize ho7 : out6 ++ u8l [p / 256, p % 256] = out7 at *; clear ho7; have hcv := own_str (P := Tryz.prog) hown7 Tryz.underlying33 Tryz.underlying5 Tryz.underlying9; have HOW7 := Lib.hid hown7; clear hown7)
 refine bodyPost_ret (res2i rfl) rfl ⟨?_, Ext.grown (hx6.alloc _) hg7 (fun g hg => Nat.le_trans hbw4 (HOW.out.lt g hg).1)⟩
 rw [R.out, ← HEQ.out]
 rfl
open Go.RowKit Go.Joins
theorem rencT_v4 (t : Tgt) (ht : okT t) (hA : t.1.size <= 255) (hv : validA t.2.1 = true) (hB : 0 <= t.2.2) (hC : t.2.2 <= 65535) (h0 : t.1.size = 0 /\ t.2.1.1 = false) (w : World) : Calls Tryz.prog 36 #[tv t] w fun e w' => e = .returned (.tuple #[.string (encTg t).1, .bool true]) /\ Ext w w' := by
 have KV := Lib.hid (fun w => rValid_any t.2.1 ht.1 w)
 unfold tv
 go_enter Tryz.func36, Tryz.ntmps36
 go_upto_region 1 with fail
 have hT := Blk.new w (tc t) 43
 have hx := (Ext.refl w).alloc (.cells (tc t) 43)
 generalize w.alloc (.cells (tc t) 43) = w0 at *
 have hbt := Blk.lt hT
 have hbw : w.heap.size <= w.heap.size := Nat.le_refl _
 generalize hbb : w.heap.size = bt at hT hbt ⊢
 obtain ⟨nm, ad, p⟩ := t
 have F : Hid (∀ w', Ext w0 w' -> TBlk w' bt (nm, ad, p)) := Lib.hid (fun w' h => Blk.ext hT h)
 have Fn : ∀ w', Ext w0 w' -> w'.cell? ⟨bt, 0, none⟩ = some (.string nm) := fun w' h => TBlk.name (F.out w' h)
 have Fp : ∀ w', Ext w0 w' -> w'.cell? ⟨bt, 18, none⟩ = some (.int .i64 p) := fun w' h => TBlk.port ht (F.out w' h)
 have FT := F.out
 simp only at hv hA hB hC KV h0
 have KV2 := KV.out
 rw [hv] at KV2
 have KC := fun (w' : World) (h : Ext w0 w') => KV2 w'
 have hA1 : (nm.size : Int) <= 255 := by omega
 have hA' : ¬ (255 : Int) < nm.size := by omega
 have hB' : ¬ p < 0 := by omega
 have hC' : ¬ 65535 < p := by omega
 have R1 : Hid (encTg (nm, ad, p) = ((if nm.size ≠ 0 then str2 3 nm.size ++ nm else if ad.1 = true then str1 4 ++ strOfNums ad.2 else str1 1 ++ strOfNums (ad.2.take 4)) ++ str2 (p / 256) (p % 256), true)) := Lib.hid (by
  unfold encTg
  simp only
  rw [if_pos ⟨hA, hv, hB, hC⟩])
 clear hv KV KV2
 refine wp_region_rgs ?_
 first
  | (apply goV_skip (by intro u; rfl))
  | (apply goV_val _ (by intro u; rfl); · (intro u w hSw hF; go_simp; try with_reducible rfl))
 try simp only [aput, List.set]
 first
  | (apply goV_skip (by intro u; rfl))
  | (apply goV_val (.string nm) (by intro u; rfl); · (intro u w hSw hF; have c0 := Fn w hSw; go_simp))
 try simp only [aput, List.set]
 iterate 4
  first
   | (apply goV_skip (by intro u; rfl))
   | (apply goV_val _ (by intro u; rfl); · (intro u w hSw hF; go_simp; try with_reducible rfl))
  try simp only [aput, List.set]
 first
  | (apply goV_skip (by intro u; rfl))
  | (apply goV_loadTA (by intro u; rfl) _ rfl ht FT (by intro u; rfl))
 try simp only [aput, List.set]
 first
  | (apply goV_skip (by intro u; rfl))
  | (apply goV_call (by intro u; rfl) KC; · (intro u w hSw hF; go_simp; try with_reducible rfl))
 try simp only [aput, List.set]
 iterate 4
  first
   | (apply goV_skip (by intro u; rfl))
   | (apply goV_val _ (by intro u; rfl); · (intro u w hSw hF; go_simp; try with_reducible rfl))
  try simp only [aput, List.set]
 first
  | (apply goV_skip (by intro u; rfl))
  | (apply goV_val (.int .i64 p) (by intro u; rfl); · (intro u w hSw hF; have c0 := Fp w hSw; go_simp))
 try simp only [aput, List.set]
 iterate 4
  first
   | (apply goV_skip (by intro u; rfl))
   | (apply goV_val _ (by intro u; rfl); · (intro u w hSw hF; go_simp; try with_reducible rfl))
  try simp only [aput, List.set]
 first
  | (apply goV_skip (by intro u; rfl))
  | (apply goV_val (.int .i64 p) (by intro u; rfl); · (intro u w hSw hF; have c0 := Fp w hSw; go_simp))
 try simp only [aput, List.set]
 iterate 2
  first
   | (apply goV_skip (by intro u; rfl))
   | (apply goV_val _ (by intro u; rfl); · (intro u w hSw hF; go_simp; try with_reducible rfl))
  try simp only [aput, List.set]
 intro u w2 hx2 _
 have hT2 := F.out w2 hx2
 have hxx := hx.trans hx2
 clear hx hx2 Fn Fp KC FT F hT
 have hlt2 := Blk.lt hT2
 have c0 : w2.cell? ⟨bt, 0, none⟩ = some (.string nm) := TBlk.name hT2
 have c1 : w2.cell? ⟨bt, 1, none⟩ = some (.bool ad.1) := TBlk.fam hT2
 have nb := nil_yes h0.1
 have h6 := h0.2
 rw [h6] at c1
 go_upto_region 4 with fail
 have R : Hid (encTg (nm, ad, p) = (str1 1 ++ strOfNums (ad.2.take 4) ++ str2 (p / 256) (p % 256), true)) := Lib.hid (by rw [R1.out, if_neg (by omega), if_neg (by rw [h6]; simp)])
 clear R1 h6 h0
 have hx3 := hxx.drew
 have hT3 := Blk.ext hT2 (Ext.refl w2).drew
 clear c0 c1 hT2 hxx hlt2
 refine wp_region_rge (fun _ => True) [1, 2, 6] [0, 3, 4, 5, 1, 2, 6, 7] (by kernel_rfl) (by kernel_rfl) trivial ?_
 generalize w2.drew = w3 at *
 iterate 4
  first
   | (apply goE_skip rfl rfl (by rfl))
   | (apply goE_val _ rfl rfl (by rfl); · (intro w hSw; go_simp; try with_reducible rfl))
  try simp only [aput, List.set]
 apply goE_eff rfl rfl
 go_wp2
 refine ⟨rfl, rfl, trivial, ?_⟩
 have hx4 := hx3.alloc (.cells #[.int .u8 1] 5)
 have hT4 := Blk.ext hT3 ((Ext.refl w3).alloc (.cells #[.int .u8 1] 5))
 have hL := Blk.new w3 #[.int .u8 1] 5
 generalize w3.alloc (.cells #[.int .u8 1] 5) = w4 at *
 apply goE_eff rfl rfl
 refine wpList_appA rfl _ _ rfl (out := []) (World.ownsRow_nil w4 w4.heap.size _ _) rfl (ns := u8l [1]) rfl (fun j u hj => by rw [Nat.zero_add]; exact hL.cell hj) rfl (by decide) (Nat.le_refl _) ?_
 intro a5 cap5 w5 hown5 hg5
 have hl5 : ([] ++ u8l [1]).length = 1 := rfl
 generalize ho5 : ([] ++ u8l [1]) = out5 at *
 have HO5 := Lib.hid ho5
 have hl5' : out5.length <= 1 := Nat.le_of_eq hl5
 clear ho5 hl5
 have hx5 : Ext w w5 := Ext.grown hx4 hg5 (fun g hg => by cases hg)
 have hT5 : TBlk w5 bt (nm, ad, p) := hT4.of_heap (hg5.block bt (Blk.lt hT4) (by intro q; cases q))
 have hb5 : w4.heap.size <= w5.heap.size := hg5.size
 have hbw4 : w.heap.size <= w4.heap.size := hx4.size
 refine effQ_end rfl trivial ?_
 apply goE_eff rfl rfl
 have hln : (u8l (ad.2.take 4)).length = 4 := by rw [u8l_len, List.length_take]; have := ht.1.1; simp only at this; omega
 refine wpList_appA rfl _ _ rfl hown5 rfl (ns := u8l (ad.2.take 4)) hln (fun j u hj => ?_) rfl (by have := hl5'; omega) hb5 ?_
 ·rw [u8l_cells (fun x hx => ht.1.2 x (List.mem_of_mem_take hx)), List.getElem?_map] at hj
  obtain ⟨x, hx, rfl⟩ := Option.map_eq_some_iff.1 hj
  refine TBlk.octet hT5 ?_
  rw [List.getElem?_take] at hx
  split at hx
  ·exact hx
  ·cases hx
 intro a6 cap6 w6 hown6 hg6
 have hl6 : (out5 ++ u8l (ad.2.take 4)).length <= 17 := by rw [List.length_append, hln]; omega
 generalize ho6 : (out5 ++ u8l (ad.2.take 4)) = out6 at *
 have HEQ : Hid (txt (out6 ++ u8l [p / 256, p % 256]) = str1 1 ++ strOfNums (ad.2.take 4) ++ str2 (p / 256) (p % 256)) := Lib.hid (by rw [← ho6, ← HO5.out]; exact hd_app 1 _ _ _)
 clear ho6
 have hx6 : Ext w w6 := Ext.grown hx5 hg6 (fun g hg => Nat.le_trans hx4.size (hown5.lt g hg).1)
 have hT6 : TBlk w6 bt (nm, ad, p) := Blk.grown hown5 hT5 (by decide) hg6
 have hb6 : w4.heap.size <= w6.heap.size := Nat.le_trans hb5 hg6.size
 refine effQ_end rfl trivial ?_
 first
  | (apply goE_skip rfl rfl (by rfl))
  | (apply goE_val _ rfl rfl (by rfl); · (intro w hSw; go_simp; try with_reducible rfl))
 try simp only [aput, List.set]
 unfold goE
 have cp : w6.cell? ⟨bt, 18, none⟩ = some (.int .i64 p) := TBlk.port ht hT6
 have u8w : ∀ n : Int, IntKind.u8.wrap n = n % 256 := fun n => by simp [IntKind.wrap, IntKind.bits, IntKind.signed]
 have q1 : IntKind.u8.wrap (p / 256) = p / 256 := by rw [u8w]; omega
 have q2 : IntKind.u8.wrap p = p % 256 := u8w p
 have hbd : ∀ x ∈ [p / 256, p % 256], 0 <= x /\ x < 256 := by
  intro x hx
  simp only [List.mem_cons, List.not_mem_nil, or_false] at hx
  rcases hx with rfl | rfl <;> omega
 have hcl := u8l_cells hbd
 have hll : (u8l [p / 256, p % 256]).length = 2 := rfl
 have HCL := Lib.hid hcl
 have HOW := Lib.hid hown6
 have HLN : Hid (out6.length + 2 <= 100000000000000) := Lib.hid (by omega)
 have hlt6 := Blk.lt hT6
 clear u8w hbd hcl hown6
 go_upto_region 9 with fail
 go_wp2_with (at_builtin; refine wpList_appA rfl _ _ rfl (HOW.out.alloc _) rfl (ns := u8l [p / 256, p % 256]) hll (fun j u hj => by rw [HCL.out] at hj; rw [Nat.zero_add]; exact (Blk.new w6 #[.int .u8 (p / 256), .int .u8 (p % 256)] 5).cell hj) rfl HLN.out (by have := hb6; rw [World.size_alloc]; omega) ?_; intro a7 cap7 w7 hown7 hg7; generalize ho7 : out6 ++ u8l [p / 256, p % 256] = out7 at *; clear ho7; have hcv := own_str (P := Tryz.prog) hown7 Tryz.underlying33 Tryz.underlying5 Tryz.underlying9; have HOW7 := Lib.hid hown7; clear hown7)
 refine bodyPost_ret (res2i rfl) rfl ⟨?_, Ext.grown (hx6.alloc _) hg7 (fun g hg => Nat.le_trans hbw4 (HOW.out.lt g hg).1)⟩
 rw [R.out, ← HEQ.out]
 rfl
open Go.RowKit Go.Joins
theorem rencT_nm (t : Tgt) (ht : okT t) (hA : t.1.size <= 255) (hv : validA t.2.1 = true) (hB : 0 <= t.2.2) (hC : t.2.2 <= 65535) (h0 : t.1.size ≠ 0) (w : World) : Calls Tryz.prog 36 #[tv t] w fun e w' => e = .returned (.tuple #[.string (encTg t).1, .bool true]) /\ Ext w w' := by
 have KV := Lib.hid (fun w => rValid_any t.2.1 ht.1 w)
 unfold tv
 go_enter Tryz.func36, Tryz.ntmps36
 go_upto_region 1 with fail
 have hT := Blk.new w (tc t) 43
 have hx := (Ext.refl w).alloc (.cells (tc t) 43)
 generalize w.alloc (.cells (tc t) 43) = w0 at *
 have hbt := Blk.lt hT
 have hbw : w.heap.size <= w.heap.size := Nat.le_refl _
 generalize hbb : w.heap.size = bt at hT hbt ⊢
 obtain ⟨nm, ad, p⟩ := t
 have F : Hid (∀ w', Ext w0 w' -> TBlk w' bt (nm, ad, p)) := Lib.hid (fun w' h => Blk.ext hT h)
 have Fn : ∀ w', Ext w0 w' -> w'.cell? ⟨bt, 0, none⟩ = some (.string nm) := fun w' h => TBlk.name (F.out w' h)
 have Fp : ∀ w', Ext w0 w' -> w'.cell? ⟨bt, 18, none⟩ = some (.int .i64 p) := fun w' h => TBlk.port ht (F.out w' h)
 have FT := F.out
 simp only at hv hA hB hC KV h0
 have KV2 := KV.out
 rw [hv] at KV2
 have KC := fun (w' : World) (h : Ext w0 w') => KV2 w'
 have hA1 : (nm.size : Int) <= 255 := by omega
 have hA' : ¬ (255 : Int) < nm.size := by omega
 have hB' : ¬ p < 0 := by omega
 have hC' : ¬ 65535 < p := by omega
 have R1 : Hid (encTg (nm, ad, p) = ((if nm.size ≠ 0 then str2 3 nm.size ++ nm else if ad.1 = true then str1 4 ++ strOfNums ad.2 else str1 1 ++ strOfNums (ad.2.take 4)) ++ str2 (p / 256) (p % 256), true)) := Lib.hid (by
  unfold encTg
  simp only
  rw [if_pos ⟨hA, hv, hB, hC⟩])
 clear hv KV KV2
 refine wp_region_rgs ?_
 first
  | (apply goV_skip (by intro u; rfl))
  | (apply goV_val _ (by intro u; rfl); · (intro u w hSw hF; go_simp; try with_reducible rfl))
 try simp only [aput, List.set]
 first
  | (apply goV_skip (by intro u; rfl))
  | (apply goV_val (.string nm) (by intro u; rfl); · (intro u w hSw hF; have c0 := Fn w hSw; go_simp))
 try simp only [aput, List.set]
 iterate 4
  first
   | (apply goV_skip (by intro u; rfl))
   | (apply goV_val _ (by intro u; rfl); · (intro u w hSw hF; go_simp; try with_reducible rfl))
  try simp only [aput, List.set]
 first
  | (apply goV_skip (by intro u; rfl))
  | (apply goV_loadTA (by intro u; rfl) _ rfl ht FT (by intro u; rfl))
 try simp only [aput, List.set]
 first
  | (apply goV_skip (by intro u; rfl))
  | (apply goV_call (by intro u; rfl) KC; · (intro u w hSw hF; go_simp; try with_reducible rfl))
 try simp only [aput, List.set]
 iterate 4
  first
   | (apply goV_skip (by intro u; rfl))
   | (apply goV_val _ (by intro u; rfl); · (intro u w hSw hF; go_simp; try with_reducible rfl))
  try simp only [aput, List.set]
 first
  | (apply goV_skip (by intro u; rfl))
  | (apply goV_val (.int .i64 p) (by intro u; rfl); · (intro u w hSw hF; have c0 := Fp w hSw; go_simp))
 try simp only [aput, List.set]
 iterate 4
  first
   | (apply goV_skip (by intro u; rfl))
   | (apply goV_val _ (by intro u; rfl); · (intro u w hSw hF; go_simp; try with_reducible rfl))
  try simp only [aput, List.set]
 first
  | (apply goV_skip (by intro u; rfl))
  | (apply goV_val (.int .i64 p) (by intro u; rfl); · (intro u w hSw hF; have c0 := Fp w hSw; go_simp))
 try simp only [aput, List.set]
 iterate 2
  first
   | (apply goV_skip (by intro u; rfl))
   | (apply goV_val _ (by intro u; rfl); · (intro u w hSw hF; go_simp; try with_reducible rfl))
  try simp only [aput, List.set]
 intro u w2 hx2 _
 have hT2 := F.out w2 hx2
 have hxx := hx.trans hx2
 clear hx hx2 Fn Fp KC FT F hT
 have hlt2 := Blk.lt hT2
 have c0 : w2.cell? ⟨bt, 0, none⟩ = some (.string nm) := TBlk.name hT2
 have c1 : w2.cell? ⟨bt, 1, none⟩ = some (.bool ad.1) := TBlk.fam hT2
 have nb := nil_no h0
 have R : Hid (encTg (nm, ad, p) = (str2 3 nm.size ++ nm ++ str2 (p / 256) (p % 256), true)) := Lib.hid (by rw [R1.out, if_pos h0])
 clear R1 h0
 go_upto_region 6 with fail
 have hx3 := hxx.drew
 have hT3 := Blk.ext hT2 (Ext.refl w2).drew
 clear c0 c1 hT2 hxx hlt2
 have u8w : ∀ n : Int, IntKind.u8.wrap n = n % 256 := fun n => by simp [IntKind.wrap, IntKind.bits, IntKind.signed]
 have qn : IntKind.u8.wrap (nm.size : Int) = nm.size := by rw [u8w]; omega
 clear u8w
 have hS : ∀ w' : World, w'.cell? ⟨bt, 0, none⟩ = some (.string nm) -> w'.cell? ⟨bt, 0, none⟩ = some (.string nm) := fun _ h => h
 refine wp_region_rge (fun w' => w'.cell? ⟨bt, 0, none⟩ = some (.string nm)) [5, 6, 9] [0, 1, 2, 3, 4, 7, 8, 5, 6, 9, 10] (by kernel_rfl) (by kernel_rfl) (TBlk.name hT3) ?_
 generalize w2.drew = w3 at *
 iterate 2
  first
   | (apply goE_skip rfl rfl (by rfl))
   | (apply goE_val _ rfl rfl (by rfl); · (intro w hSw; go_simp; try with_reducible rfl))
  try simp only [aput, List.set]
 first
  | (apply goE_skip rfl rfl (by rfl))
  | (apply goE_val (.string nm) rfl rfl (by rfl); · (intro w hSw; have c0 := hS w hSw; go_simp))
 try simp only [aput, List.set]
 iterate 3
  first
   | (apply goE_skip rfl rfl (by rfl))
   | (apply goE_val _ rfl rfl (by rfl); · (intro w hSw; go_simp; try with_reducible rfl))
  try simp only [aput, List.set]
 first
  | (apply goE_skip rfl rfl (by rfl))
  | (apply goE_val (.string nm) rfl rfl (by rfl); · (intro w hSw; have c0 := hS w hSw; go_simp))
 try simp only [aput, List.set]
 apply goE_eff rfl rfl
 go_wp2
 have hx4 := hx3.alloc (.cells #[.int .u8 3, .int .u8 nm.size] 5)
 have hT4 := Blk.ext hT3 ((Ext.refl w3).alloc (.cells #[.int .u8 3, .int .u8 nm.size] 5))
 have hL := Blk.new w3 #[.int .u8 3, .int .u8 nm.size] 5
 refine ⟨rfl, rfl, TBlk.name hT4, ?_⟩
 generalize w3.alloc (.cells #[.int .u8 3, .int .u8 nm.size] 5) = w4 at *
 apply goE_eff rfl rfl
 have hbd3 : ∀ x ∈ [3, (nm.size : Int)], 0 <= x /\ x < 256 := by
  intro x hx
  simp only [List.mem_cons, List.not_mem_nil, or_false] at hx
  rcases hx with rfl | rfl <;> omega
 have HC3 := Lib.hid (u8l_cells hbd3)
 refine wpList_appA rfl _ _ rfl (out := []) (World.ownsRow_nil w4 w4.heap.size _ _) rfl (ns := u8l [3, (nm.size : Int)]) (rfl : (u8l [3, (nm.size : Int)]).length = 2) (fun j u hj => by rw [HC3.out] at hj; rw [Nat.zero_add]; exact hL.cell hj) rfl (by show 0 + 2 <= _; omega) (Nat.le_refl _) ?_
 intro a5 cap5 w5 hown5 hg5
 have hl5 : ([] ++ u8l [3, (nm.size : Int)]).length <= 2 := Nat.le_refl 2
 generalize ho5 : ([] ++ u8l [3, (nm.size : Int)]) = out5 at *
 have HO5 := Lib.hid ho5
 clear ho5
 have hx5 : Ext w w5 := Ext.grown hx4 hg5 (fun g hg => by cases hg)
 have hT5 : TBlk w5 bt (nm, ad, p) := hT4.of_heap (hg5.block bt (Blk.lt hT4) (by intro q; cases q))
 have hb5 : w4.heap.size <= w5.heap.size := hg5.size
 have hbw4 : w.heap.size <= w4.heap.size := hx4.size
 refine effQ_end rfl (TBlk.name hT5) ?_
 apply goE_eff rfl rfl
 refine wpList_appS rfl _ _ rfl hown5 rfl (s := nm) rfl (by omega) hb5 ?_
 intro a6 cap6 w6 hown6 hg6
 have hl6 : (out5 ++ nm.data.toList).length <= 300 := by rw [List.length_append, ← size_list]; omega
 generalize ho6 : (out5 ++ nm.data.toList) = out6 at *
 have HEQ : Hid (txt (out6 ++ u8l [p / 256, p % 256]) = str2 3 nm.size ++ nm ++ str2 (p / 256) (p % 256)) := Lib.hid (by rw [← ho6, ← HO5.out]; exact nm_app _ _ _ _ _)
 clear ho6
 have hx6 : Ext w w6 := Ext.grown hx5 hg6 (fun g hg => Nat.le_trans hx4.size (hown5.lt g hg).1)
 have hT6 : TBlk w6 bt (nm, ad, p) := Blk.grown hown5 hT5 (by decide) hg6
 have hb6 : w4.heap.size <= w6.heap.size := Nat.le_trans hb5 hg6.size
 refine effQ_end rfl (TBlk.name hT6) ?_
 first
  | (apply goE_skip rfl rfl (by rfl))
  | (apply goE_val _ rfl rfl (by rfl); · (intro w hSw; go_simp; try with_reducible rfl))
 try simp only [aput, List.set]
 unfold goE
 clear hS qn
 have cp : w6.cell? ⟨bt, 18, none⟩ = some (.int .i64 p) := TBlk.port ht hT6
 have u8w : ∀ n : Int, IntKind.u8.wrap n = n % 256 := fun n => by simp [IntKind.wrap, IntKind.bits, IntKind.signed]
 have q1 : IntKind.u8.wrap (p / 256) = p / 256 := by rw [u8w]; omega
 have q2 : IntKind.u8.wrap p = p % 256 := u8w p
 have hbd : ∀ x ∈ [p / 256, p % 256], 0 <= x /\ x < 256 := by
  intro x hx
  simp only [List.mem_cons, List.not_mem_nil, or_false] at hx
  rcases hx with rfl | rfl <;> omega
 have hcl := u8l_cells hbd
 have hll : (u8l [p / 256, p % 256]).length = 2 := rfl
 have HCL := Lib.hid hcl
 have HOW := Lib.hid hown6
 have HLN : Hid (out6.length + 2 <= 100000000000000) := Lib.hid (by omega)
 have hlt6 := Blk.lt hT6
 clear u8w hbd hcl hown6
 go_upto_region 9 with fail
 go_wp2_with (at_builtin; refine wpList_appA rfl _ _ rfl (HOW.out.alloc _) rfl (ns := u8l [p / 256, p % 256]) hll (fun j u hj => by rw [HCL.out] at hj; rw [Nat.zero_add]; exact (Blk.new w6 #[.int .u8 (p / 256), .int .u8 (p % 256)] 5).cell hj) rfl HLN.out (by have := hb6; rw [World.size_alloc]; omega) ?_; intro a7 cap7 w7 hown7 hg7; generalize ho7 : out6 ++ u8l [p / 256, p % 256] = out7 at *; clear ho7; have hcv := own_str (P := Tryz.prog) hown7 Tryz.underlying33 Tryz.underlying5 Tryz.underlying9; have HOW7 := Lib.hid hown7; clear hown7)
 refine bodyPost_ret (res2i rfl) rfl ⟨?_, Ext.grown (hx6.alloc _) hg7 (fun g hg => Nat.le_trans hbw4 (HOW.out.lt g hg).1)⟩
 rw [R.out, ← HEQ.out]
 rfl
open Go.RowKit Go.Joins
def okE8 (t : Tgt) : Prop := t.1.size <= 255 /\ validA t.2.1 = true /\ 0 <= t.2.2 /\ t.2.2 <= 65535
theorem okE8_v {t : Tgt} (h : validT t = true) : okE8 t := by
 have hp := validT_port h
 unfold validT at h
 rw [if_pos hp] at h
 split at h
 ·rename_i h0
  exact ⟨by omega, h, by omega, by omega⟩
 ·rw [Bool.and_eq_true, decide_eq_true_eq] at h
  exact ⟨Nat.le_trans (okName_size h.1) (by omega), by rw [h.2]; decide, by omega, by omega⟩
theorem rencT_any (t : Tgt) (ht : okT t) (h : okE8 t) (w : World) : Calls Tryz.prog 36 #[tv t] w fun e w' => e = .returned (.tuple #[.string (encTg t).1, .bool true]) /\ Ext w w' := by
 by_cases h0 : t.1.size = 0
 ·cases h6 : t.2.1.1 with
  | true => exact rencT_v6 t ht h.1 h.2.1 h.2.2.1 h.2.2.2 ⟨h0, h6⟩ w
  | false => exact rencT_v4 t ht h.1 h.2.1 h.2.2.1 h.2.2.2 ⟨h0, h6⟩ w
 ·exact rencT_nm t ht h.1 h.2.1 h.2.2.1 h.2.2.2 h0 w
theorem encTg_z : (encTg ztgt).1 = tgt0 := by decide +kernel
theorem rencz_any (w : World) : Calls Tryz.prog 36 #[tv ztgt] w fun e w' => e = .returned (.tuple #[.string tgt0, .bool true]) /\ Ext w w' := by
 rw [← encTg_z]
 exact rencT_any ztgt okT_ztgt ⟨by decide, by decide, by decide, by decide⟩ w
theorem rencr_any (c : Int) (hc : 0 <= c /\ c < 256) (w : World) : Calls Tryz.prog 72 #[.int .i64 c, tv ztgt] w fun e w' => e = .returned (.string (rep8 c)) /\ Ext w w' := by
 have K := Lib.hid (fun w => rencz_any w)
 have hv : IntKind.u8.wrap c = c := IntWalk.u8_in _ (by omega)
 have e := rep8_eq c
 have HE := Lib.hid e
 clear e
 have ht0 : tgt0.size <= 100 := by decide +kernel
 generalize rep8 c = r at *
 generalize tgt0 = t0 at *
 unfold tv
 go_enter Tryz.func72, Tryz.ntmps72
 go_upto_region 1 with fail
 have hT := Blk.new w (tc ztgt) 43
 have hx := (Ext.refl w).alloc (.cells (tc ztgt) 43)
 generalize w.alloc (.cells (tc ztgt) 43) = w0 at *
 go_wp2_with (first | refine wpList_load_T rfl _ rfl okT_ztgt hT rfl ?_ | (go_at_call 36; refine (K.out _).mono ?_; rintro e w2 ⟨rfl, hx2⟩))
 go_ret
 exact ⟨by rw [HE.out]; rfl, ((hx.trans hx2).alloc _)⟩
theorem rsocks_10 (w : World) : Calls Tryz.prog 73 #[.int .i64 10] w fun e w' => e = .returned (.int .i64 1) /\ Ext w w' := by
 go_enter Tryz.func73, Tryz.ntmps73
 go_wp2_with fail
 go_ret
 exact ⟨rfl, (Ext.refl w).alloc _⟩
theorem rreply1_10 (w : World) : Calls Tryz.prog 54 #[.int .i64 1, .int .i64 10] w fun e w' => e = .returned (.string (rep8 1)) /\ Ext w w' := by
 have K := Lib.hid (fun w => rencr_any 1 (by omega) w)
 have KS := Lib.hid (fun w => rsocks_10 w)
 generalize rep8 1 = r at *
 unfold tv at K
 rw [tc_zero] at K
 go_enter Tryz.func54, Tryz.ntmps54
 go_wp2_with (first | (go_at_call 73; refine (KS.out _).mono ?_; rintro e w1 ⟨rfl, hx1⟩) | (go_at_call 72; refine (K.out _).mono ?_; rintro e w2 ⟨rfl, hx2⟩))
 go_ret
 exact ⟨rfl, hx1.trans hx2⟩
theorem rsocks_3 (w : World) : Calls Tryz.prog 73 #[.int .i64 3] w fun e w' => e = .returned (.int .i64 6) /\ Ext w w' := by
 go_enter Tryz.func73, Tryz.ntmps73
 go_wp2_with fail
 go_ret
 exact ⟨rfl, (Ext.refl w).alloc _⟩
theorem rreply1_3 (w : World) : Calls Tryz.prog 54 #[.int .i64 1, .int .i64 3] w fun e w' => e = .returned (.string (rep8 6)) /\ Ext w w' := by
 have K := Lib.hid (fun w => rencr_any 6 (by omega) w)
 have KS := Lib.hid (fun w => rsocks_3 w)
 generalize rep8 6 = r at *
 unfold tv at K
 rw [tc_zero] at K
 go_enter Tryz.func54, Tryz.ntmps54
 go_wp2_with (first | (go_at_call 73; refine (KS.out _).mono ?_; rintro e w1 ⟨rfl, hx1⟩) | (go_at_call 72; refine (K.out _).mono ?_; rintro e w2 ⟨rfl, hx2⟩))
 go_ret
 exact ⟨rfl, hx1.trans hx2⟩
theorem renrq_any (c : Int) (hc : 0 <= c /\ c < 256) (t : Tgt) (ht : okT t) (hv : validT t = true) (w : World) : Calls Tryz.prog 16 #[.int .u8 c, tv t] w fun e w' => e = .returned (.tuple #[.string (str3 5 c 0 ++ (encTg t).1), .bool true]) /\ Ext w w' := by
 have K := Lib.hid (fun w => rencT_any t ht (okE8_v hv) w)
 have hz := (tgp_enc ht hv).2.2.1
 generalize (encTg t).1 = E at *
 unfold tv
 go_enter Tryz.func16, Tryz.ntmps16
 go_upto_region 1 with fail
 have hT := Blk.new w (tc t) 43
 have hx := (Ext.refl w).alloc (.cells (tc t) 43)
 generalize w.alloc (.cells (tc t) 43) = w0 at *
 go_wp2_with (first | refine wpList_load_T rfl _ rfl ht hT rfl ?_ | (go_at_call 36; refine (K.out _).mono ?_; rintro e w2 ⟨rfl, hx2⟩))
 exact bodyPost_ret (res2i rfl) rfl ⟨rfl, ((hx.trans hx2).alloc _)⟩
end Go.Proofs.YtnohnnjeabehjaaGreatDoor
