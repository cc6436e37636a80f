/-
  Several texts joined: CiC.
-/
import Derived.Test.YtnohnnjeabehjaaGreatDoorK08
set_option maxHeartbeats 4000000
set_option maxRecDepth 8000
set_option linter.unusedVariables false
set_option linter.unusedSimpArgs false
namespace Go.Proofs.YtnohnnjeabehjaaGreatDoor.Cx
open Go.RowKit
theorem adr_extX {a b : Adr} (ha : okA a) (hb : okA b) (h1 : a.1 = b.1) (h : ∀ i, i < 16 -> X a i = X b i) : a = b :=
 adr_ext ha hb h1 fun i hi j _ => by rw [h i hi]
theorem X_set {a : Adr} (ha : okA a) {k : Nat} (hk : k < 16) (z : Int) (q : Nat) : X (a.1, a.2.set k z) q = if q = k then z else X a q := by
 unfold X
 simp only [List.getD_eq_getElem?_getD, List.getElem?_set]
 by_cases h : k = q
 ·subst h; rw [if_pos rfl, if_pos (by rw [ha.1]; exact hk), if_pos rfl]; rfl
 ·rw [if_neg h, if_neg (fun e => h e.symm)]
theorem okA_setz {a : Adr} (ha : okA a) (k : Nat) {z : Int} (hz : 0 <= z /\ z < 256) : okA (a.1, a.2.set k z) := by
 refine ⟨by rw [List.length_set]; exact ha.1, fun x hx => ?_⟩
 rcases List.mem_or_eq_of_mem_set hx with h | rfl
 ·exact ha.2 x h
 ·exact hz
theorem trunc_any (a : Adr) (ha : okA a) (n : Int) (h0 : 0 <= n) (h1 : n <= 128) (w : World) :
  Calls Tryz.prog 144 #[av a, .int .i64 n] w fun e w' => e = .returned (av (truncA a n)) /\ Ext w w' := by
 unfold av
 go_enter Tryz.func144, Tryz.ntmps144
 go_upto_region 1 with fail
 rw [← ac_zadr]
 have hx := ((Ext.refl w).alloc (.cells (ac a) 41)).alloc (.cells (ac zadr) 41)
 have hb := (ABox.new ha w).ext ha ((Ext.refl _).alloc (.cells (ac zadr) 41))
 have hr := Blk.new (w.alloc (.cells (ac a) 41)) (ac zadr) 41
 have hsz : (w.alloc (.cells (ac a) 41)).heap.size = w.heap.size + 1 := by show (w.heap.push _).size = _; simp
 rw [hsz] at hr
 generalize (w.alloc (.cells (ac a) 41)).alloc (.cells (ac zadr) 41) = w2 at *
 clear hsz
 obtain ⟨p, hp⟩ : ∃ p, w.heap.size = p := ⟨_, rfl⟩
 have hpw : w.heap.size <= p := by omega
 rw [hp] at hb hr ⊢
 clear hp
 go_wp2_with fail
 go_loopw [7] (fun c wr => ∃ (k : Nat) (b : Adr), k <= 16 /\ c = .int .i64 k /\ okA b /\ ABox wr p b /\ Blk wr (p + 1) (ac zadr).toList 41 /\ Ext w wr /\ Hid (b.1 = a.1 /\ ∀ q, X b q = if q < k then maskB (X a q) (keepN n q) else X a q)) (fun c _ => 16 - (intOf c).toNat)
 case atStart => exact ⟨0, a, Nat.zero_le _, rfl, ha, hb, hr, hx, Lib.hid ⟨rfl, fun q => by rw [if_neg (by omega)]⟩⟩
 case round =>
  obtain ⟨k, b, hk, rfl, hbk, hb, hr, hx, hX⟩ := hrel
  by_cases hlt : k < 16
  ·have hlt' : (k : Int) < 16 := by omega
   have hkp : max 0 (min (n - 8 * (k : Int)) 8) = (keepN n k : Int) := by unfold keepN; omega
   have hkl := keepN_le n k
   have hXk : X b k = X a k := by rw [hX.out.2 k, if_neg (by omega)]
   have hcell := hb.at' k hlt
   have hf := hb.blk.free (1 + k)
   have hxb := X_bd ha k
   have hand := and_mask hxb hkl
   rw [show IntKind.u8.wrap (255 * 2 ^ (8 - keepN n k)) = 255 * 2 ^ (8 - keepN n k) % 256 by simp [IntKind.wrap, IntKind.bits, IntKind.signed]] at hand
   have hmb := mask_bd hxb hkl
   rw [hXk] at hcell
   have HXN : Hid (b.1 = a.1 /\ ∀ q, X (b.1, b.2.set k (maskB (X a k) (keepN n k))) q = if q < k + 1 then maskB (X a q) (keepN n q) else X a q) := Lib.hid ⟨hX.out.1, fun q => by
    rw [X_set hbk hlt]
    by_cases hq : q = k
    ·subst hq; rw [if_pos rfl, if_pos (by omega)]
    ·rw [if_neg hq, hX.out.2 q]
     by_cases h : q < k
     ·rw [if_pos h, if_pos (by omega)]
     ·rw [if_neg h, if_neg (by omega)]⟩
   have hokn := okA_setz hbk k hmb
   have HS := Lib.hid (hb.blk.set (1 + k) (.int .u8 (maskB (X a k) (keepN n k))))
   rw [ac_set] at HS
   generalize hm : maskB (X a k) (keepN n k) = mv at *
   generalize X a k = x at *
   generalize keepN n k = kp at *
   clear hX hXk
   have hsub : IntKind.i64.wrap (8 - (kp : Int)) = ((8 - kp : Nat) : Int) := by rw [IntWalk.i64_in _ (by omega)]; omega
   go_wp2_with fail
   go_region
   go_wp2_with fail
   go_roundw
   case rel =>
    refine ⟨k + 1, (b.1, b.2.set k mv), by omega, by go_num, hokn, .of_blk hokn HS.out, hr.set_ne ⟨p, _, none⟩ (by show p ≠ p + 1; omega) _, (hx.setCell (p := ⟨p, _, none⟩) hpw _).drew, HXN⟩
   case measure => simp [intOf]; omega
  ·obtain rfl : k = 16 := by omega
   have E : Hid (b = truncA a n) := Lib.hid (adr_extX hbk (okA_trunc ha n) hX.out.1 fun i hi => by rw [hX.out.2 i, if_pos hi, X_trunc a n hi])
   go_wp2_with (first | refine wpList_load_A rfl _ rfl hbk hb.blk rfl ?_ | refine wpList_store_A rfl _ _ rfl okA_zadr hbk hr rfl rfl ?_)
   refine bodyPost_ret (res_A rfl rfl hbk (hr.row _)) rfl ⟨by rw [← E.out], hx.setRow (by omega) _⟩
theorem cvalid_any (p : Pfx) (hp : okP p) (w : World) :
  Calls Tryz.prog 121 #[pv p] w fun e w' => e = .returned (.bool (validP p)) /\ Ext w w' := by
 unfold pv
 go_enter Tryz.func121, Tryz.ntmps121
 go_upto_region 1 with fail
 have hx := (Ext.refl w).alloc (.cells (pc p) 111)
 have hb := Blk.new w (pc p) 111
 generalize hwq : w.alloc (.cells (pc p) 111) = w0 at *
 clear hwq
 have hB : ∀ w', Ext w0 w' -> PBlk w' w.heap.size p := fun w' h => hb.ext h
 generalize w.heap.size = b at *
 clear hb
 have C1 := fun (w' : World) (h : Ext w0 w') => valid_any p.1 hp.1 w'
 have C2 := fun (w' : World) (h : Ext w0 w') => bitLen_any p.1 hp.1 w'
 have hT := okA_trunc hp.1 p.2
 have hbl := bitLen_pos p.1
 have R : Hid (validP p = (validA p.1 && decide (0 <= p.2) && decide (p.2 <= bitLen p.1) && decide (truncA p.1 p.2 = p.1))) := Lib.hid rfl
 have hTr := trunc_any p.1 hp.1
 generalize hn : p.2 = n at *
 generalize hL : bitLen p.1 = L at *
 have C3 : 0 <= n -> n <= L -> ∀ (w' : World), Ext w0 w' -> Calls Tryz.prog 144 #[av p.1, .int .i64 n] w' fun e w'' => e = .returned (av (truncA p.1 n)) /\ Ext w' w'' := fun h0 h1 w' _ => hTr n h0 (by omega) w'
 clear hTr hL
 cases hva : validA p.1 with
 | false =>
  rw [hva] at C1 R
  simp only [Bool.false_and] at R
  clear hva
  refine wp_region_rg w0 (by kernel_rfl) (by kernel_rfl) (Ext.refl _) ?_
  first
   | (apply goV_skip (by intro u; rfl))
   | (apply goV_val _ (by intro u; rfl); · (intro u w hSw hF; go_simp; try with_reducible rfl))
  try simp only [aput, List.set]
  first
   | (apply goV_skip (by intro u; rfl))
   | (apply goV_loadPA (by intro u; rfl) _ rfl hp hB (by intro u; rfl))
  try simp only [aput, List.set]
  first
   | (apply goV_skip (by intro u; rfl))
   | (apply goV_call (by intro u; rfl) C1; · (intro u w hSw hF; go_simp; try with_reducible rfl))
  try simp only [aput, List.set]
  iterate 2
   first
    | (apply goV_skip (by intro u; rfl))
    | (apply goV_val _ (by intro u; rfl); · (intro u w hSw hF; go_simp; try with_reducible rfl))
   try simp only [aput, List.set]
  first
   | (apply goV_skip (by intro u; rfl))
   | (apply goV_val (.int .i64 n) (by intro u; rfl); · (intro u w hSw hF; have c0 := PBlk.bits hp (hB w hSw); go_simp))
  try simp only [aput, List.set]
  iterate 4
   first
    | (apply goV_skip (by intro u; rfl))
    | (apply goV_val _ (by intro u; rfl); · (intro u w hSw hF; go_simp; try with_reducible rfl))
   try simp only [aput, List.set]
  first
   | (apply goV_skip (by intro u; rfl))
   | (apply goV_val (.int .i64 n) (by intro u; rfl); · (intro u w hSw hF; have c0 := PBlk.bits hp (hB w hSw); go_simp))
  try simp only [aput, List.set]
  first
   | (apply goV_skip (by intro u; rfl))
   | (apply goV_val _ (by intro u; rfl); · (intro u w hSw hF; go_simp; try with_reducible rfl))
  try simp only [aput, List.set]
  first
   | (apply goV_skip (by intro u; rfl))
   | (apply goV_loadPA (by intro u; rfl) _ rfl hp hB (by intro u; rfl))
  try simp only [aput, List.set]
  first
   | (apply goV_skip (by intro u; rfl))
   | (apply goV_call (by intro u; rfl) C2; · (intro u w hSw hF; go_simp; try with_reducible rfl))
  try simp only [aput, List.set]
  iterate 4
   first
    | (apply goV_skip (by intro u; rfl))
    | (apply goV_val _ (by intro u; rfl); · (intro u w hSw hF; go_simp; try with_reducible rfl))
   try simp only [aput, List.set]
  first
   | (apply goV_skip (by intro u; rfl))
   | (apply goV_loadPA (by intro u; rfl) _ rfl hp hB (by intro u; rfl))
  try simp only [aput, List.set]
  first
   | (apply goV_skip (by intro u; rfl))
   | (apply goV_val _ (by intro u; rfl); · (intro u w hSw hF; go_simp; try with_reducible rfl))
  try simp only [aput, List.set]
  first
   | (apply goV_skip (by intro u; rfl))
   | (apply goV_val (.int .i64 n) (by intro u; rfl); · (intro u w hSw hF; have c0 := PBlk.bits hp (hB w hSw); go_simp))
  try simp only [aput, List.set]
  first
   | (apply goV_skip (by intro u; rfl))
   | (apply goV_call (by intro u; rfl) C3; · (intro u w hSw hF; go_simp; try with_reducible rfl))
  try simp only [aput, List.set]
  first
   | (apply goV_skip (by intro u; rfl))
   | (apply goV_val _ (by intro u; rfl); · (intro u w hSw hF; go_simp; try with_reducible rfl))
  try simp only [aput, List.set]
  first
   | (apply goV_skip (by intro u; rfl))
   | (apply goV_loadPA (by intro u; rfl) _ rfl hp hB (by intro u; rfl))
  try simp only [aput, List.set]
  first
   | (apply goV_skip (by intro u; rfl))
   | (apply goV_eqAd (by intro u; rfl) _ _ rfl hT hp.1 hE (by intro u; rfl) (by intro u; rfl))
  try simp only [aput, List.set]
  iterate 2
   first
    | (apply goV_skip (by intro u; rfl))
    | (apply goV_val _ (by intro u; rfl); · (intro u w hSw hF; go_simp; try with_reducible rfl))
   try simp only [aput, List.set]
  intro u w1 hx1 _
  go_wp2
  go_ret
  exact ⟨by rw [R.out]; rfl, hx.trans hx1⟩
 | true =>
  rw [hva] at C1 R
  simp only [Bool.true_and] at R
  clear hva
  by_cases h0 : 0 <= n
  ·have d0 : decide (0 <= n) = true := decide_eq_true h0
   rw [d0] at R
   simp only [Bool.true_and] at R
   by_cases h1 : n <= L
   ·have d1 : decide (n <= L) = true := decide_eq_true h1
    rw [d1] at R
    simp only [Bool.true_and] at R
    have C3 := C3 h0 h1
    cases hE : decide (truncA p.1 n = p.1) with
    | true =>
     rw [hE] at R
     generalize truncA p.1 n = T at *
     refine wp_region_rg w0 (by kernel_rfl) (by kernel_rfl) (Ext.refl _) ?_
     first
      | (apply goV_skip (by intro u; rfl))
      | (apply goV_val _ (by intro u; rfl); · (intro u w hSw hF; go_simp; try with_reducible rfl))
     try simp only [aput, List.set]
     first
      | (apply goV_skip (by intro u; rfl))
      | (apply goV_loadPA (by intro u; rfl) _ rfl hp hB (by intro u; rfl))
     try simp only [aput, List.set]
     first
      | (apply goV_skip (by intro u; rfl))
      | (apply goV_call (by intro u; rfl) C1; · (intro u w hSw hF; go_simp; try with_reducible rfl))
     try simp only [aput, List.set]
     iterate 2
      first
       | (apply goV_skip (by intro u; rfl))
       | (apply goV_val _ (by intro u; rfl); · (intro u w hSw hF; go_simp; try with_reducible rfl))
      try simp only [aput, List.set]
     first
      | (apply goV_skip (by intro u; rfl))
      | (apply goV_val (.int .i64 n) (by intro u; rfl); · (intro u w hSw hF; have c0 := PBlk.bits hp (hB w hSw); go_simp))
     try simp only [aput, List.set]
     iterate 4
      first
       | (apply goV_skip (by intro u; rfl))
       | (apply goV_val _ (by intro u; rfl); · (intro u w hSw hF; go_simp; try with_reducible rfl))
      try simp only [aput, List.set]
     first
      | (apply goV_skip (by intro u; rfl))
      | (apply goV_val (.int .i64 n) (by intro u; rfl); · (intro u w hSw hF; have c0 := PBlk.bits hp (hB w hSw); go_simp))
     try simp only [aput, List.set]
     first
      | (apply goV_skip (by intro u; rfl))
      | (apply goV_val _ (by intro u; rfl); · (intro u w hSw hF; go_simp; try with_reducible rfl))
     try simp only [aput, List.set]
     first
      | (apply goV_skip (by intro u; rfl))
      | (apply goV_loadPA (by intro u; rfl) _ rfl hp hB (by intro u; rfl))
     try simp only [aput, List.set]
     first
      | (apply goV_skip (by intro u; rfl))
      | (apply goV_call (by intro u; rfl) C2; · (intro u w hSw hF; go_simp; try with_reducible rfl))
     try simp only [aput, List.set]
     iterate 4
      first
       | (apply goV_skip (by intro u; rfl))
       | (apply goV_val _ (by intro u; rfl); · (intro u w hSw hF; go_simp; try with_reducible rfl))
      try simp only [aput, List.set]
     first
      | (apply goV_skip (by intro u; rfl))
      | (apply goV_loadPA (by intro u; rfl) _ rfl hp hB (by intro u; rfl))
     try simp only [aput, List.set]
     first
      | (apply goV_skip (by intro u; rfl))
      | (apply goV_val _ (by intro u; rfl); · (intro u w hSw hF; go_simp; try with_reducible rfl))
     try simp only [aput, List.set]
     first
      | (apply goV_skip (by intro u; rfl))
      | (apply goV_val (.int .i64 n) (by intro u; rfl); · (intro u w hSw hF; have c0 := PBlk.bits hp (hB w hSw); go_simp))
     try simp only [aput, List.set]
     first
      | (apply goV_skip (by intro u; rfl))
      | (apply goV_call (by intro u; rfl) C3; · (intro u w hSw hF; go_simp; try with_reducible rfl))
     try simp only [aput, List.set]
     first
      | (apply goV_skip (by intro u; rfl))
      | (apply goV_val _ (by intro u; rfl); · (intro u w hSw hF; go_simp; try with_reducible rfl))
     try simp only [aput, List.set]
     first
      | (apply goV_skip (by intro u; rfl))
      | (apply goV_loadPA (by intro u; rfl) _ rfl hp hB (by intro u; rfl))
     try simp only [aput, List.set]
     first
      | (apply goV_skip (by intro u; rfl))
      | (apply goV_eqAd (by intro u; rfl) _ _ rfl hT hp.1 hE (by intro u; rfl) (by intro u; rfl))
     try simp only [aput, List.set]
     iterate 2
      first
       | (apply goV_skip (by intro u; rfl))
       | (apply goV_val _ (by intro u; rfl); · (intro u w hSw hF; go_simp; try with_reducible rfl))
      try simp only [aput, List.set]
     intro u w1 hx1 _
     go_wp2
     go_ret
     exact ⟨by rw [R.out]; rfl, hx.trans hx1⟩
    | false =>
     rw [hE] at R
     generalize truncA p.1 n = T at *
     refine wp_region_rg w0 (by kernel_rfl) (by kernel_rfl) (Ext.refl _) ?_
     first
      | (apply goV_skip (by intro u; rfl))
      | (apply goV_val _ (by intro u; rfl); · (intro u w hSw hF; go_simp; try with_reducible rfl))
     try simp only [aput, List.set]
     first
      | (apply goV_skip (by intro u; rfl))
      | (apply goV_loadPA (by intro u; rfl) _ rfl hp hB (by intro u; rfl))
     try simp only [aput, List.set]
     first
      | (apply goV_skip (by intro u; rfl))
      | (apply goV_call (by intro u; rfl) C1; · (intro u w hSw hF; go_simp; try with_reducible rfl))
     try simp only [aput, List.set]
     iterate 2
      first
       | (apply goV_skip (by intro u; rfl))
       | (apply goV_val _ (by intro u; rfl); · (intro u w hSw hF; go_simp; try with_reducible rfl))
      try simp only [aput, List.set]
     first
      | (apply goV_skip (by intro u; rfl))
      | (apply goV_val (.int .i64 n) (by intro u; rfl); · (intro u w hSw hF; have c0 := PBlk.bits hp (hB w hSw); go_simp))
     try simp only [aput, List.set]
     iterate 4
      first
       | (apply goV_skip (by intro u; rfl))
       | (apply goV_val _ (by intro u; rfl); · (intro u w hSw hF; go_simp; try with_reducible rfl))
      try simp only [aput, List.set]
     first
      | (apply goV_skip (by intro u; rfl))
      | (apply goV_val (.int .i64 n) (by intro u; rfl); · (intro u w hSw hF; have c0 := PBlk.bits hp (hB w hSw); go_simp))
     try simp only [aput, List.set]
     first
      | (apply goV_skip (by intro u; rfl))
      | (apply goV_val _ (by intro u; rfl); · (intro u w hSw hF; go_simp; try with_reducible rfl))
     try simp only [aput, List.set]
     first
      | (apply goV_skip (by intro u; rfl))
      | (apply goV_loadPA (by intro u; rfl) _ rfl hp hB (by intro u; rfl))
     try simp only [aput, List.set]
     first
      | (apply goV_skip (by intro u; rfl))
      | (apply goV_call (by intro u; rfl) C2; · (intro u w hSw hF; go_simp; try with_reducible rfl))
     try simp only [aput, List.set]
     iterate 4
      first
       | (apply goV_skip (by intro u; rfl))
       | (apply goV_val _ (by intro u; rfl); · (intro u w hSw hF; go_simp; try with_reducible rfl))
      try simp only [aput, List.set]
     first
      | (apply goV_skip (by intro u; rfl))
      | (apply goV_loadPA (by intro u; rfl) _ rfl hp hB (by intro u; rfl))
     try simp only [aput, List.set]
     first
      | (apply goV_skip (by intro u; rfl))
      | (apply goV_val _ (by intro u; rfl); · (intro u w hSw hF; go_simp; try with_reducible rfl))
     try simp only [aput, List.set]
     first
      | (apply goV_skip (by intro u; rfl))
      | (apply goV_val (.int .i64 n) (by intro u; rfl); · (intro u w hSw hF; have c0 := PBlk.bits hp (hB w hSw); go_simp))
     try simp only [aput, List.set]
     first
      | (apply goV_skip (by intro u; rfl))
      | (apply goV_call (by intro u; rfl) C3; · (intro u w hSw hF; go_simp; try with_reducible rfl))
     try simp only [aput, List.set]
     first
      | (apply goV_skip (by intro u; rfl))
      | (apply goV_val _ (by intro u; rfl); · (intro u w hSw hF; go_simp; try with_reducible rfl))
     try simp only [aput, List.set]
     first
      | (apply goV_skip (by intro u; rfl))
      | (apply goV_loadPA (by intro u; rfl) _ rfl hp hB (by intro u; rfl))
     try simp only [aput, List.set]
     first
      | (apply goV_skip (by intro u; rfl))
      | (apply goV_eqAd (by intro u; rfl) _ _ rfl hT hp.1 hE (by intro u; rfl) (by intro u; rfl))
     try simp only [aput, List.set]
     iterate 2
      first
       | (apply goV_skip (by intro u; rfl))
       | (apply goV_val _ (by intro u; rfl); · (intro u w hSw hF; go_simp; try with_reducible rfl))
      try simp only [aput, List.set]
     intro u w1 hx1 _
     go_wp2
     go_ret
     exact ⟨by rw [R.out]; rfl, hx.trans hx1⟩
   ·have d1 : decide (n <= L) = false := decide_eq_false h1
    rw [d1] at R
    simp only [Bool.false_and] at R
    refine wp_region_rg w0 (by kernel_rfl) (by kernel_rfl) (Ext.refl _) ?_
    first
     | (apply goV_skip (by intro u; rfl))
     | (apply goV_val _ (by intro u; rfl); · (intro u w hSw hF; go_simp; try with_reducible rfl))
    try simp only [aput, List.set]
    first
     | (apply goV_skip (by intro u; rfl))
     | (apply goV_loadPA (by intro u; rfl) _ rfl hp hB (by intro u; rfl))
    try simp only [aput, List.set]
    first
     | (apply goV_skip (by intro u; rfl))
     | (apply goV_call (by intro u; rfl) C1; · (intro u w hSw hF; go_simp; try with_reducible rfl))
    try simp only [aput, List.set]
    iterate 2
     first
      | (apply goV_skip (by intro u; rfl))
      | (apply goV_val _ (by intro u; rfl); · (intro u w hSw hF; go_simp; try with_reducible rfl))
     try simp only [aput, List.set]
    first
     | (apply goV_skip (by intro u; rfl))
     | (apply goV_val (.int .i64 n) (by intro u; rfl); · (intro u w hSw hF; have c0 := PBlk.bits hp (hB w hSw); go_simp))
    try simp only [aput, List.set]
    iterate 4
     first
      | (apply goV_skip (by intro u; rfl))
      | (apply goV_val _ (by intro u; rfl); · (intro u w hSw hF; go_simp; try with_reducible rfl))
     try simp only [aput, List.set]
    first
     | (apply goV_skip (by intro u; rfl))
     | (apply goV_val (.int .i64 n) (by intro u; rfl); · (intro u w hSw hF; have c0 := PBlk.bits hp (hB w hSw); go_simp))
    try simp only [aput, List.set]
    first
     | (apply goV_skip (by intro u; rfl))
     | (apply goV_val _ (by intro u; rfl); · (intro u w hSw hF; go_simp; try with_reducible rfl))
    try simp only [aput, List.set]
    first
     | (apply goV_skip (by intro u; rfl))
     | (apply goV_loadPA (by intro u; rfl) _ rfl hp hB (by intro u; rfl))
    try simp only [aput, List.set]
    first
     | (apply goV_skip (by intro u; rfl))
     | (apply goV_call (by intro u; rfl) C2; · (intro u w hSw hF; go_simp; try with_reducible rfl))
    try simp only [aput, List.set]
    iterate 4
     first
      | (apply goV_skip (by intro u; rfl))
      | (apply goV_val _ (by intro u; rfl); · (intro u w hSw hF; go_simp; try with_reducible rfl))
     try simp only [aput, List.set]
    first
     | (apply goV_skip (by intro u; rfl))
     | (apply goV_loadPA (by intro u; rfl) _ rfl hp hB (by intro u; rfl))
    try simp only [aput, List.set]
    first
     | (apply goV_skip (by intro u; rfl))
     | (apply goV_val _ (by intro u; rfl); · (intro u w hSw hF; go_simp; try with_reducible rfl))
    try simp only [aput, List.set]
    first
     | (apply goV_skip (by intro u; rfl))
     | (apply goV_val (.int .i64 n) (by intro u; rfl); · (intro u w hSw hF; have c0 := PBlk.bits hp (hB w hSw); go_simp))
    try simp only [aput, List.set]
    first
     | (apply goV_skip (by intro u; rfl))
     | (apply goV_call (by intro u; rfl) C3; · (intro u w hSw hF; go_simp; try with_reducible rfl))
    try simp only [aput, List.set]
    first
     | (apply goV_skip (by intro u; rfl))
     | (apply goV_val _ (by intro u; rfl); · (intro u w hSw hF; go_simp; try with_reducible rfl))
    try simp only [aput, List.set]
    first
     | (apply goV_skip (by intro u; rfl))
     | (apply goV_loadPA (by intro u; rfl) _ rfl hp hB (by intro u; rfl))
    try simp only [aput, List.set]
    first
     | (apply goV_skip (by intro u; rfl))
     | (apply goV_eqAd (by intro u; rfl) _ _ rfl hT hp.1 hE (by intro u; rfl) (by intro u; rfl))
    try simp only [aput, List.set]
    iterate 2
     first
      | (apply goV_skip (by intro u; rfl))
      | (apply goV_val _ (by intro u; rfl); · (intro u w hSw hF; go_simp; try with_reducible rfl))
     try simp only [aput, List.set]
    intro u w1 hx1 _
    go_wp2
    go_ret
    exact ⟨by rw [R.out]; rfl, hx.trans hx1⟩
  ·have d0 : decide (0 <= n) = false := decide_eq_false h0
   rw [d0] at R
   simp only [Bool.false_and] at R
   refine wp_region_rg w0 (by kernel_rfl) (by kernel_rfl) (Ext.refl _) ?_
   first
    | (apply goV_skip (by intro u; rfl))
    | (apply goV_val _ (by intro u; rfl); · (intro u w hSw hF; go_simp; try with_reducible rfl))
   try simp only [aput, List.set]
   first
    | (apply goV_skip (by intro u; rfl))
    | (apply goV_loadPA (by intro u; rfl) _ rfl hp hB (by intro u; rfl))
   try simp only [aput, List.set]
   first
    | (apply goV_skip (by intro u; rfl))
    | (apply goV_call (by intro u; rfl) C1; · (intro u w hSw hF; go_simp; try with_reducible rfl))
   try simp only [aput, List.set]
   iterate 2
    first
     | (apply goV_skip (by intro u; rfl))
     | (apply goV_val _ (by intro u; rfl); · (intro u w hSw hF; go_simp; try with_reducible rfl))
    try simp only [aput, List.set]
   first
    | (apply goV_skip (by intro u; rfl))
    | (apply goV_val (.int .i64 n) (by intro u; rfl); · (intro u w hSw hF; have c0 := PBlk.bits hp (hB w hSw); go_simp))
   try simp only [aput, List.set]
   iterate 4
    first
     | (apply goV_skip (by intro u; rfl))
     | (apply goV_val _ (by intro u; rfl); · (intro u w hSw hF; go_simp; try with_reducible rfl))
    try simp only [aput, List.set]
   first
    | (apply goV_skip (by intro u; rfl))
    | (apply goV_val (.int .i64 n) (by intro u; rfl); · (intro u w hSw hF; have c0 := PBlk.bits hp (hB w hSw); go_simp))
   try simp only [aput, List.set]
   first
    | (apply goV_skip (by intro u; rfl))
    | (apply goV_val _ (by intro u; rfl); · (intro u w hSw hF; go_simp; try with_reducible rfl))
   try simp only [aput, List.set]
   first
    | (apply goV_skip (by intro u; rfl))
    | (apply goV_loadPA (by intro u; rfl) _ rfl hp hB (by intro u; rfl))
   try simp only [aput, List.set]
   first
    | (apply goV_skip (by intro u; rfl))
    | (apply goV_call (by intro u; rfl) C2; · (intro u w hSw hF; go_simp; try with_reducible rfl))
   try simp only [aput, List.set]
   iterate 4
    first
     | (apply goV_skip (by intro u; rfl))
     | (apply goV_val _ (by intro u; rfl); · (intro u w hSw hF; go_simp; try with_reducible rfl))
    try simp only [aput, List.set]
   first
    | (apply goV_skip (by intro u; rfl))
    | (apply goV_loadPA (by intro u; rfl) _ rfl hp hB (by intro u; rfl))
   try simp only [aput, List.set]
   first
    | (apply goV_skip (by intro u; rfl))
    | (apply goV_val _ (by intro u; rfl); · (intro u w hSw hF; go_simp; try with_reducible rfl))
   try simp only [aput, List.set]
   first
    | (apply goV_skip (by intro u; rfl))
    | (apply goV_val (.int .i64 n) (by intro u; rfl); · (intro u w hSw hF; have c0 := PBlk.bits hp (hB w hSw); go_simp))
   try simp only [aput, List.set]
   first
    | (apply goV_skip (by intro u; rfl))
    | (apply goV_call (by intro u; rfl) C3; · (intro u w hSw hF; go_simp; try with_reducible rfl))
   try simp only [aput, List.set]
   first
    | (apply goV_skip (by intro u; rfl))
    | (apply goV_val _ (by intro u; rfl); · (intro u w hSw hF; go_simp; try with_reducible rfl))
   try simp only [aput, List.set]
   first
    | (apply goV_skip (by intro u; rfl))
    | (apply goV_loadPA (by intro u; rfl) _ rfl hp hB (by intro u; rfl))
   try simp only [aput, List.set]
   first
    | (apply goV_skip (by intro u; rfl))
    | (apply goV_eqAd (by intro u; rfl) _ _ rfl hT hp.1 hE (by intro u; rfl) (by intro u; rfl))
   try simp only [aput, List.set]
   iterate 2
    first
     | (apply goV_skip (by intro u; rfl))
     | (apply goV_val _ (by intro u; rfl); · (intro u w hSw hF; go_simp; try with_reducible rfl))
    try simp only [aput, List.set]
   intro u w1 hx1 _
   go_wp2
   go_ret
   exact ⟨by rw [R.out]; rfl, hx.trans hx1⟩
theorem build_P {p : Pfx} (hp : okP p) (w : World) : (Instr.build 111 #[(0, .agg (ac p.1)), (1, .int .i64 p.2)]).run Tryz.prog w = .ok (.agg (pc p)) w := by
 obtain ⟨⟨f, l⟩, n⟩ := p
 match l, hp.1.1 with
 | [a0, a1, a2, a3, a4, a5, a6, a7, a8, a9, a10, a11, a12, a13, a14, a15], _ => exact run_build w 111 _ _ (by kernel_rfl)
theorem exec_buildP {o : Oper} {f : Act} {x y : Operand} (ho : o.op = .build 111 #[(0, x), (1, y)]) {p : Pfx} (hp : okP p) (hx : f.eval x = .agg (ac p.1)) (hy : f.eval y = .int .i64 p.2) (w : World) :
  (execOp f.eval o).run Tryz.prog w = .ok (.value (.agg (pc p))) w := by
 unfold execOp
 rw [ho]
 have e := build_P hp w
 simp only [List.map_toArray, List.map_cons, List.map_nil, hx, hy, Sem.run_bind, e, Result.andThen_ok, Sem.run_pure]
theorem wpList_build_P {ops : Array Oper} {rest : List Oper} {o : Oper} {f : Act} {w : World} {Q : Exit -> Act -> World -> Prop} (hgd : o.guard = none) (x y : Operand) (ho : o.op = .build 111 #[(0, x), (1, y)]) {p : Pfx} (hp : okP p)
  (hx : f.eval x = .agg (ac p.1)) (hy : f.eval y = .int .i64 p.2) (h : wpList Tryz.prog ops Q rest (f.put o.dst (.agg (pc p))) w) : wpList Tryz.prog ops Q (o :: rest) f w :=
 wpList_plain hgd fun _ hK => by
  unfold Oper.wp
  rw [exec_buildP ho hp hx hy w]
  exact hK _ _ h
theorem cprefix_any (a : Adr) (ha : okA a) (n : Int) (hn : i64ok n) (w : World) :
  Calls Tryz.prog 125 #[av a, .int .i64 n] w fun e w' => e = .returned (.tuple #[pv (prefixOf a n).1, .bool (prefixOf a n).2]) /\ Ext w w' := by
 unfold av
 go_enter Tryz.func125, Tryz.ntmps125
 go_upto_region 1 with fail
 rw [← pc_zero]
 have hx := ((Ext.refl w).alloc (.cells (ac a) 41)).alloc (.cells (pc zpfx) 111)
 have hb := (ABox.new ha w).ext ha ((Ext.refl _).alloc (.cells (pc zpfx) 111))
 have hr := Blk.new (w.alloc (.cells (ac a) 41)) (pc zpfx) 111
 have hsz : (w.alloc (.cells (ac a) 41)).heap.size = w.heap.size + 1 := by show (w.heap.push _).size = _; simp
 rw [hsz] at hr
 generalize (w.alloc (.cells (ac a) 41)).alloc (.cells (pc zpfx) 111) = w0 at *
 clear hsz
 have hxs : w.heap.size <= w.heap.size + 1 := by omega
 have hB : ∀ w', Ext w0 w' -> Blk w' w.heap.size (ac a).toList 41 := fun w' h => (hb.ext ha h).blk
 have C1 := fun (w' : World) (h : Ext w0 w') => valid_any a ha w'
 have C2 := fun (w' : World) (h : Ext w0 w') => bitLen_any a ha w'
 have hbl := bitLen_pos a
 have R0 : Hid (prefixOf a n = if validA a = true /\ 0 <= n /\ n <= bitLen a then ((truncA a n, n), true) else (zpfx, false)) := Lib.hid rfl
 have hTr := trunc_any a ha n
 have hT : okP (truncA a n, n) := ⟨okA_trunc ha n, hn⟩
 generalize hL : bitLen a = L at *
 clear hb hL
 cases hva : validA a with
 | false =>
  rw [hva] at C1 R0
  have R : Hid (prefixOf a n = (zpfx, false)) := Lib.hid (by rw [R0.out, if_neg (by simp)])
  clear R0
  clear hva
  refine wp_region_rgs ?_
  first
   | (apply goV_skip (by intro u; rfl))
   | (apply goV_loadA (by intro u; rfl) _ rfl ha hB (by intro u; rfl))
  try simp only [aput, List.set]
  first
   | (apply goV_skip (by intro u; rfl))
   | (apply goV_call (by intro u; rfl) C1; · (intro u w hSw hF; go_simp; try with_reducible rfl))
  try simp only [aput, List.set]
  iterate 7
   first
    | (apply goV_skip (by intro u; rfl))
    | (apply goV_val _ (by intro u; rfl); · (intro u w hSw hF; go_simp; try with_reducible rfl))
   try simp only [aput, List.set]
  first
   | (apply goV_skip (by intro u; rfl))
   | (apply goV_loadA (by intro u; rfl) _ rfl ha hB (by intro u; rfl))
  try simp only [aput, List.set]
  first
   | (apply goV_skip (by intro u; rfl))
   | (apply goV_call (by intro u; rfl) C2; · (intro u w hSw hF; go_simp; try with_reducible rfl))
  try simp only [aput, List.set]
  iterate 2
   first
    | (apply goV_skip (by intro u; rfl))
    | (apply goV_val _ (by intro u; rfl); · (intro u w hSw hF; go_simp; try with_reducible rfl))
   try simp only [aput, List.set]
  intro u w1 hx1 _
  have hr1 := hr.ext hx1
  have hB1 := hB w1 hx1
  go_wp2_with (refine wpList_store_P rfl _ _ rfl okP_zpfx okP_zpfx hr1 rfl rfl ?_)
  refine bodyPost_ret (res_P2 rfl rfl okP_zpfx (hr1.row _)) rfl ⟨by rw [R.out]; rfl, (hx.trans hx1).setRow hxs _⟩
 | true =>
  rw [hva] at C1 R0
  clear hva
  by_cases h0 : 0 <= n
  ·have d0 : decide (n < 0) = false := decide_eq_false (by omega)
   by_cases h1 : n <= L
   ·have d1 : decide (L < n) = false := decide_eq_false (by omega)
    have R : Hid (prefixOf a n = ((truncA a n, n), true)) := Lib.hid (by rw [R0.out, if_pos ⟨rfl, h0, h1⟩])
    clear R0
    have C3 := Lib.hid (hTr h0 (by omega))
    refine wp_region_rgs ?_
    first
     | (apply goV_skip (by intro u; rfl))
     | (apply goV_loadA (by intro u; rfl) _ rfl ha hB (by intro u; rfl))
    try simp only [aput, List.set]
    first
     | (apply goV_skip (by intro u; rfl))
     | (apply goV_call (by intro u; rfl) C1; · (intro u w hSw hF; go_simp; try with_reducible rfl))
    try simp only [aput, List.set]
    iterate 7
     first
      | (apply goV_skip (by intro u; rfl))
      | (apply goV_val _ (by intro u; rfl); · (intro u w hSw hF; go_simp; try with_reducible rfl))
     try simp only [aput, List.set]
    first
     | (apply goV_skip (by intro u; rfl))
     | (apply goV_loadA (by intro u; rfl) _ rfl ha hB (by intro u; rfl))
    try simp only [aput, List.set]
    first
     | (apply goV_skip (by intro u; rfl))
     | (apply goV_call (by intro u; rfl) C2; · (intro u w hSw hF; go_simp; try with_reducible rfl))
    try simp only [aput, List.set]
    iterate 2
     first
      | (apply goV_skip (by intro u; rfl))
      | (apply goV_val _ (by intro u; rfl); · (intro u w hSw hF; go_simp; try with_reducible rfl))
     try simp only [aput, List.set]
    intro u w1 hx1 _
    have hr1 := hr.ext hx1
    have hB1 := hB w1 hx1
    generalize truncA a n = T at *
    go_wp2_with (first | refine wpList_load_A rfl _ rfl ha hB1 rfl ?_ | (go_at_call 144; refine (C3.out _).mono ?_; rintro e w2 ⟨rfl, hx2⟩; have hr2 := hr1.ext hx2; have hxx := (hx.trans hx1).trans hx2) | refine wpList_build_P rfl _ _ rfl hT rfl rfl ?_ | refine wpList_store_P rfl _ _ rfl okP_zpfx hT hr2 rfl rfl ?_)
    refine bodyPost_ret (res_P2 rfl rfl hT (hr2.row _)) rfl ⟨by rw [R.out]; rfl, hxx.setRow hxs _⟩
   ·have d1 : decide (L < n) = true := decide_eq_true (by omega)
    have R : Hid (prefixOf a n = (zpfx, false)) := Lib.hid (by rw [R0.out, if_neg (fun h => h1 h.2.2)])
    clear R0
    refine wp_region_rgs ?_
    first
     | (apply goV_skip (by intro u; rfl))
     | (apply goV_loadA (by intro u; rfl) _ rfl ha hB (by intro u; rfl))
    try simp only [aput, List.set]
    first
     | (apply goV_skip (by intro u; rfl))
     | (apply goV_call (by intro u; rfl) C1; · (intro u w hSw hF; go_simp; try with_reducible rfl))
    try simp only [aput, List.set]
    iterate 7
     first
      | (apply goV_skip (by intro u; rfl))
      | (apply goV_val _ (by intro u; rfl); · (intro u w hSw hF; go_simp; try with_reducible rfl))
     try simp only [aput, List.set]
    first
     | (apply goV_skip (by intro u; rfl))
     | (apply goV_loadA (by intro u; rfl) _ rfl ha hB (by intro u; rfl))
    try simp only [aput, List.set]
    first
     | (apply goV_skip (by intro u; rfl))
     | (apply goV_call (by intro u; rfl) C2; · (intro u w hSw hF; go_simp; try with_reducible rfl))
    try simp only [aput, List.set]
    iterate 2
     first
      | (apply goV_skip (by intro u; rfl))
      | (apply goV_val _ (by intro u; rfl); · (intro u w hSw hF; go_simp; try with_reducible rfl))
     try simp only [aput, List.set]
    intro u w1 hx1 _
    have hr1 := hr.ext hx1
    have hB1 := hB w1 hx1
    go_wp2_with (refine wpList_store_P rfl _ _ rfl okP_zpfx okP_zpfx hr1 rfl rfl ?_)
    refine bodyPost_ret (res_P2 rfl rfl okP_zpfx (hr1.row _)) rfl ⟨by rw [R.out]; rfl, (hx.trans hx1).setRow hxs _⟩
  ·have d0 : decide (n < 0) = true := decide_eq_true (by omega)
   have R : Hid (prefixOf a n = (zpfx, false)) := Lib.hid (by rw [R0.out, if_neg (fun h => h0 h.2.1)])
   clear R0
   refine wp_region_rgs ?_
   first
    | (apply goV_skip (by intro u; rfl))
    | (apply goV_loadA (by intro u; rfl) _ rfl ha hB (by intro u; rfl))
   try simp only [aput, List.set]
   first
    | (apply goV_skip (by intro u; rfl))
    | (apply goV_call (by intro u; rfl) C1; · (intro u w hSw hF; go_simp; try with_reducible rfl))
   try simp only [aput, List.set]
   iterate 7
    first
     | (apply goV_skip (by intro u; rfl))
     | (apply goV_val _ (by intro u; rfl); · (intro u w hSw hF; go_simp; try with_reducible rfl))
    try simp only [aput, List.set]
   first
    | (apply goV_skip (by intro u; rfl))
    | (apply goV_loadA (by intro u; rfl) _ rfl ha hB (by intro u; rfl))
   try simp only [aput, List.set]
   first
    | (apply goV_skip (by intro u; rfl))
    | (apply goV_call (by intro u; rfl) C2; · (intro u w hSw hF; go_simp; try with_reducible rfl))
   try simp only [aput, List.set]
   iterate 2
    first
     | (apply goV_skip (by intro u; rfl))
     | (apply goV_val _ (by intro u; rfl); · (intro u w hSw hF; go_simp; try with_reducible rfl))
    try simp only [aput, List.set]
   intro u w1 hx1 _
   have hr1 := hr.ext hx1
   have hB1 := hB w1 hx1
   go_wp2_with (refine wpList_store_P rfl _ _ rfl okP_zpfx okP_zpfx hr1 rfl rfl ?_)
   refine bodyPost_ret (res_P2 rfl rfl okP_zpfx (hr1.row _)) rfl ⟨by rw [R.out]; rfl, (hx.trans hx1).setRow hxs _⟩
end Go.Proofs.YtnohnnjeabehjaaGreatDoor.Cx
