/-
  Contracts of the reference: ValidPrefix, PrefixOf, Contains, Covers.
-/
import Derived.Test.YtbbdcodhgbgekaaGreatDoorCiE
set_option linter.unusedSimpArgs false
set_option linter.unusedVariables false
namespace Go.Proofs.YtbbdcodhgbgekaaGreatDoor
open Go.RowKit
theorem validP_iff {p : Pfx} (hp : okP p) (hv : validA p.1 = true) (h0 : 0 ≤ p.2) (h1 : p.2 ≤ bitLen p.1) : validP p = true ↔ ∀ i : Nat, p.2 ≤ i → (i : Int) < bitLen p.1 → bitA p.1 i = 0 := by
  unfold validP
  rw [hv, decide_eq_true h0, decide_eq_true h1]
  simp only [Bool.true_and, decide_eq_true_eq]
  exact trunc_fix hp.1 hv h0
set_option maxRecDepth 8000 in
set_option maxHeartbeats 4000000 in
theorem rvalid_any (p : Pfx) (hp : okP p) (w : World) :
    Calls Tryz.prog 9 #[pv p] w fun e w' => e = .returned (.bool (validP p)) ∧ Ext w w' := by
  unfold pv
  go_enter Tryz.func9, Tryz.ntmps9
  go_upto_region 1 with fail
  have hx := (Ext.refl w).alloc (.cells (pc p) 26)
  have hb := Blk.new w (pc p) 26
  generalize hwq : w.alloc (.cells (pc p) 26) = w0 at *
  clear hwq
  have hB : ∀ w', Ext w0 w' → PBlk w' w.heap.size p := fun w' h => hb.ext h
  generalize w.heap.size = b at *
  clear hb
  have F := fun (w' : World) (h : Ext w0 w') => PBlk.bits hp (hB w' h)
  have C1 := fun (w' : World) (h : Ext w0 w') => rValid_any p.1 hp.1 w'
  have C2 := fun (w' : World) (h : Ext w0 w') => rBitLen_any p.1 hp.1 w'
  have C4 := Lib.hid (fun (i : Int) (w' : World) => rBit_any p.1 hp.1 i w')
  have hbl := bitLen_pos p.1
  have R0 : Hid (validP p = (validA p.1 && decide (0 ≤ p.2) && decide (p.2 ≤ bitLen p.1) && decide (truncA p.1 p.2 = p.1))) := Lib.hid rfl
  have VI := Lib.hid (fun h => @validP_iff p hp h)
  generalize hn : p.2 = n at *
  generalize hL : bitLen p.1 = L at *
  cases hva : validA p.1 with
  | false =>
    rw [hva] at C1 R0
    have R : Hid (validP p = false) := Lib.hid (by rw [R0.out]; rfl)
    clear hva R0 hn hL
    refine wp_region_rg w0 (by kernel_rfl) (by kernel_rfl) (Ext.refl _) ?_
    first
      | (apply goV_skip (by intro u; rfl))
      | (apply goV_val _ (by intro u; rfl); · (intro u w hSw hF; go_simp; try with_reducible rfl))
    try simp only [Act.put, List.setIfInBounds_toArray, List.set_cons_zero, List.set_cons_succ]
    first
      | (apply goV_skip (by intro u; rfl))
      | (apply goV_loadPA (by intro u; rfl) _ rfl hp hB (by intro u; rfl))
    try simp only [Act.put, List.setIfInBounds_toArray, List.set_cons_zero, List.set_cons_succ]
    first
      | (apply goV_skip (by intro u; rfl))
      | (apply goV_call (by intro u; rfl) C1; · (intro u w hSw hF; go_simp; try with_reducible rfl))
    try simp only [Act.put, List.setIfInBounds_toArray, List.set_cons_zero, List.set_cons_succ]
    first
      | (apply goV_skip (by intro u; rfl))
      | (apply goV_val _ (by intro u; rfl); · (intro u w hSw hF; go_simp; try with_reducible rfl))
    try simp only [Act.put, List.setIfInBounds_toArray, List.set_cons_zero, List.set_cons_succ]
    first
      | (apply goV_skip (by intro u; rfl))
      | (apply goV_val _ (by intro u; rfl); · (intro u w hSw hF; go_simp; try with_reducible rfl))
    try simp only [Act.put, List.setIfInBounds_toArray, List.set_cons_zero, List.set_cons_succ]
    first
      | (apply goV_skip (by intro u; rfl))
      | (apply goV_val _ (by intro u; rfl); · (intro u w hSw hF; go_simp; try with_reducible rfl))
    try simp only [Act.put, List.setIfInBounds_toArray, List.set_cons_zero, List.set_cons_succ]
    first
      | (apply goV_skip (by intro u; rfl))
      | (apply goV_val (.int .i64 n) (by intro u; rfl); · (intro u w hSw hF; have c0 := F w hSw; go_simp))
    try simp only [Act.put, List.setIfInBounds_toArray, List.set_cons_zero, List.set_cons_succ]
    first
      | (apply goV_skip (by intro u; rfl))
      | (apply goV_val _ (by intro u; rfl); · (intro u w hSw hF; go_simp; try with_reducible rfl))
    try simp only [Act.put, List.setIfInBounds_toArray, List.set_cons_zero, List.set_cons_succ]
    first
      | (apply goV_skip (by intro u; rfl))
      | (apply goV_val _ (by intro u; rfl); · (intro u w hSw hF; go_simp; try with_reducible rfl))
    try simp only [Act.put, List.setIfInBounds_toArray, List.set_cons_zero, List.set_cons_succ]
    first
      | (apply goV_skip (by intro u; rfl))
      | (apply goV_val _ (by intro u; rfl); · (intro u w hSw hF; go_simp; try with_reducible rfl))
    try simp only [Act.put, List.setIfInBounds_toArray, List.set_cons_zero, List.set_cons_succ]
    first
      | (apply goV_skip (by intro u; rfl))
      | (apply goV_val _ (by intro u; rfl); · (intro u w hSw hF; go_simp; try with_reducible rfl))
    try simp only [Act.put, List.setIfInBounds_toArray, List.set_cons_zero, List.set_cons_succ]
    first
      | (apply goV_skip (by intro u; rfl))
      | (apply goV_val (.int .i64 n) (by intro u; rfl); · (intro u w hSw hF; have c0 := F w hSw; go_simp))
    try simp only [Act.put, List.setIfInBounds_toArray, List.set_cons_zero, List.set_cons_succ]
    first
      | (apply goV_skip (by intro u; rfl))
      | (apply goV_val _ (by intro u; rfl); · (intro u w hSw hF; go_simp; try with_reducible rfl))
    try simp only [Act.put, List.setIfInBounds_toArray, List.set_cons_zero, List.set_cons_succ]
    first
      | (apply goV_skip (by intro u; rfl))
      | (apply goV_loadPA (by intro u; rfl) _ rfl hp hB (by intro u; rfl))
    try simp only [Act.put, List.setIfInBounds_toArray, List.set_cons_zero, List.set_cons_succ]
    first
      | (apply goV_skip (by intro u; rfl))
      | (apply goV_call (by intro u; rfl) C2; · (intro u w hSw hF; go_simp; try with_reducible rfl))
    try simp only [Act.put, List.setIfInBounds_toArray, List.set_cons_zero, List.set_cons_succ]
    first
      | (apply goV_skip (by intro u; rfl))
      | (apply goV_val _ (by intro u; rfl); · (intro u w hSw hF; go_simp; try with_reducible rfl))
    try simp only [Act.put, List.setIfInBounds_toArray, List.set_cons_zero, List.set_cons_succ]
    first
      | (apply goV_skip (by intro u; rfl))
      | (apply goV_val _ (by intro u; rfl); · (intro u w hSw hF; go_simp; try with_reducible rfl))
    try simp only [Act.put, List.setIfInBounds_toArray, List.set_cons_zero, List.set_cons_succ]
    intro u w1 hx1 _
    go_wp2
    go_ret
    exact ⟨by rw [R.out]; rfl, hx.trans hx1⟩
  | true =>
    have VI := Lib.hid (VI.out hva)
    rw [hva] at C1 R0
    clear hva
    by_cases h0 : 0 ≤ n
    · have d0 : decide (n < 0) = false := decide_eq_false (by omega)
      by_cases h1 : n ≤ L
      · have d1 : decide (L < n) = false := decide_eq_false (by omega)
        have VI := Lib.hid (VI.out h0 h1)
        have C2' := Lib.hid C2
        clear R0 hn
        obtain ⟨N, hN⟩ : ∃ N : Nat, L = N := ⟨L.toNat, by omega⟩
        obtain ⟨m, hm⟩ : ∃ m : Nat, n = m := ⟨n.toNat, by omega⟩
        have HN := Lib.hid hN; have HM := Lib.hid hm
        clear hN hm
        refine wp_region_rg w0 (by kernel_rfl) (by kernel_rfl) (Ext.refl _) ?_
        first
          | (apply goV_skip (by intro u; rfl))
          | (apply goV_val _ (by intro u; rfl); · (intro u w hSw hF; go_simp; try with_reducible rfl))
        try simp only [Act.put, List.setIfInBounds_toArray, List.set_cons_zero, List.set_cons_succ]
        first
          | (apply goV_skip (by intro u; rfl))
          | (apply goV_loadPA (by intro u; rfl) _ rfl hp hB (by intro u; rfl))
        try simp only [Act.put, List.setIfInBounds_toArray, List.set_cons_zero, List.set_cons_succ]
        first
          | (apply goV_skip (by intro u; rfl))
          | (apply goV_call (by intro u; rfl) C1; · (intro u w hSw hF; go_simp; try with_reducible rfl))
        try simp only [Act.put, List.setIfInBounds_toArray, List.set_cons_zero, List.set_cons_succ]
        first
          | (apply goV_skip (by intro u; rfl))
          | (apply goV_val _ (by intro u; rfl); · (intro u w hSw hF; go_simp; try with_reducible rfl))
        try simp only [Act.put, List.setIfInBounds_toArray, List.set_cons_zero, List.set_cons_succ]
        first
          | (apply goV_skip (by intro u; rfl))
          | (apply goV_val _ (by intro u; rfl); · (intro u w hSw hF; go_simp; try with_reducible rfl))
        try simp only [Act.put, List.setIfInBounds_toArray, List.set_cons_zero, List.set_cons_succ]
        first
          | (apply goV_skip (by intro u; rfl))
          | (apply goV_val _ (by intro u; rfl); · (intro u w hSw hF; go_simp; try with_reducible rfl))
        try simp only [Act.put, List.setIfInBounds_toArray, List.set_cons_zero, List.set_cons_succ]
        first
          | (apply goV_skip (by intro u; rfl))
          | (apply goV_val (.int .i64 n) (by intro u; rfl); · (intro u w hSw hF; have c0 := F w hSw; go_simp))
        try simp only [Act.put, List.setIfInBounds_toArray, List.set_cons_zero, List.set_cons_succ]
        first
          | (apply goV_skip (by intro u; rfl))
          | (apply goV_val _ (by intro u; rfl); · (intro u w hSw hF; go_simp; try with_reducible rfl))
        try simp only [Act.put, List.setIfInBounds_toArray, List.set_cons_zero, List.set_cons_succ]
        first
          | (apply goV_skip (by intro u; rfl))
          | (apply goV_val _ (by intro u; rfl); · (intro u w hSw hF; go_simp; try with_reducible rfl))
        try simp only [Act.put, List.setIfInBounds_toArray, List.set_cons_zero, List.set_cons_succ]
        first
          | (apply goV_skip (by intro u; rfl))
          | (apply goV_val _ (by intro u; rfl); · (intro u w hSw hF; go_simp; try with_reducible rfl))
        try simp only [Act.put, List.setIfInBounds_toArray, List.set_cons_zero, List.set_cons_succ]
        first
          | (apply goV_skip (by intro u; rfl))
          | (apply goV_val _ (by intro u; rfl); · (intro u w hSw hF; go_simp; try with_reducible rfl))
        try simp only [Act.put, List.setIfInBounds_toArray, List.set_cons_zero, List.set_cons_succ]
        first
          | (apply goV_skip (by intro u; rfl))
          | (apply goV_val (.int .i64 n) (by intro u; rfl); · (intro u w hSw hF; have c0 := F w hSw; go_simp))
        try simp only [Act.put, List.setIfInBounds_toArray, List.set_cons_zero, List.set_cons_succ]
        first
          | (apply goV_skip (by intro u; rfl))
          | (apply goV_val _ (by intro u; rfl); · (intro u w hSw hF; go_simp; try with_reducible rfl))
        try simp only [Act.put, List.setIfInBounds_toArray, List.set_cons_zero, List.set_cons_succ]
        first
          | (apply goV_skip (by intro u; rfl))
          | (apply goV_loadPA (by intro u; rfl) _ rfl hp hB (by intro u; rfl))
        try simp only [Act.put, List.setIfInBounds_toArray, List.set_cons_zero, List.set_cons_succ]
        first
          | (apply goV_skip (by intro u; rfl))
          | (apply goV_call (by intro u; rfl) C2; · (intro u w hSw hF; go_simp; try with_reducible rfl))
        try simp only [Act.put, List.setIfInBounds_toArray, List.set_cons_zero, List.set_cons_succ]
        first
          | (apply goV_skip (by intro u; rfl))
          | (apply goV_val _ (by intro u; rfl); · (intro u w hSw hF; go_simp; try with_reducible rfl))
        try simp only [Act.put, List.setIfInBounds_toArray, List.set_cons_zero, List.set_cons_succ]
        first
          | (apply goV_skip (by intro u; rfl))
          | (apply goV_val _ (by intro u; rfl); · (intro u w hSw hF; go_simp; try with_reducible rfl))
        try simp only [Act.put, List.setIfInBounds_toArray, List.set_cons_zero, List.set_cons_succ]
        intro u w1 hx1 _
        obtain rfl := HN.out
        obtain rfl := HM.out
        have hB1 := hB w1 hx1
        have f1 := PBlk.bits hp hB1
        have hF1 := F w1 hx1
        have hxx := hx.trans hx1
        go_wp2_with fail
        go_loopw [3] (fun i wr => ∃ k : Nat, m ≤ k ∧ k ≤ N ∧ i = .int .i64 k ∧ PBlk wr b p ∧ Ext w wr ∧ Hid (∀ j : Nat, m ≤ j → j < k → bitA p.1 j = 0)) (fun i _ => N - (intOf i).toNat)
        case atStart => exact ⟨m, Nat.le_refl _, by omega, rfl, hB1, hxx, Lib.hid (fun j h1 h2 => by omega)⟩
        case round =>
          obtain ⟨k, hk0, hk, rfl, hb, hx, hz⟩ := hrel
          have C2w := Lib.hid (fun w' => rBitLen_any p.1 hp.1 w')
          rw [hL] at C2w
          by_cases hlt : k < N
          · have hlt' : (k : Int) < N := by omega
            by_cases hbz : bitA p.1 k = 0
            · have hbb : (bitA p.1 k != 0) = false := by rw [bne_eq_false_iff_eq]; exact hbz
              have HZ : Hid (∀ j : Nat, m ≤ j → j < k + 1 → bitA p.1 j = 0) := Lib.hid (fun j h1 h2 => by
                rcases Nat.lt_or_ge j k with h | h
                · exact hz.out j h1 h
                · obtain rfl : j = k := by omega
                  exact hbz)
              clear hbz
              go_wp2_with (first | refine wpList_load_PA rfl _ rfl hp hb rfl ?_ | (go_at_call 22; refine (C2w.out _).mono ?_; rintro e w3 ⟨rfl, hx3⟩; have hb := hb.ext hx3; have hx := hx.trans hx3) | (go_at_call 33; refine (C4.out _ _).mono ?_; rintro e w4 ⟨rfl, hx4⟩; have hb := hb.ext hx4; have hx := hx.trans hx4))
              exact ⟨⟨k + 1, by omega, by omega, by go_num, hb, hx, HZ⟩, by simp [intOf]; omega⟩
            · have hbb : (bitA p.1 k != 0) = true := by rw [bne_iff_ne]; exact hbz
              have R : Hid (validP p = false) := Lib.hid (by
                cases h : validP p with
                | false => rfl
                | true => exact absurd (VI.out.1 h k (by omega) hlt') hbz)
              clear hbz
              go_wp2_with (first | refine wpList_load_PA rfl _ rfl hp hb rfl ?_ | (go_at_call 22; refine (C2w.out _).mono ?_; rintro e w3 ⟨rfl, hx3⟩; have hb := hb.ext hx3; have hx := hx.trans hx3) | (go_at_call 33; refine (C4.out _ _).mono ?_; rintro e w4 ⟨rfl, hx4⟩; have hb := hb.ext hx4; have hx := hx.trans hx4))
              go_ret
              exact ⟨by rw [R.out]; rfl, hx⟩
          · have hlt' : ¬ (k : Int) < N := by omega
            have R : Hid (validP p = true) := Lib.hid (VI.out.2 fun j h1 h2 => hz.out j (by omega) (by omega))
            go_wp2_with (first | refine wpList_load_PA rfl _ rfl hp hb rfl ?_ | (go_at_call 22; refine (C2w.out _).mono ?_; rintro e w3 ⟨rfl, hx3⟩; have hb := hb.ext hx3; have hx := hx.trans hx3) | (go_at_call 33; refine (C4.out _ _).mono ?_; rintro e w4 ⟨rfl, hx4⟩; have hb := hb.ext hx4; have hx := hx.trans hx4))
            go_ret
            exact ⟨by rw [R.out]; rfl, hx⟩
      · have d1 : decide (L < n) = true := decide_eq_true (by omega)
        have R : Hid (validP p = false) := Lib.hid (by rw [R0.out, decide_eq_false h1]; simp)
        clear R0
        refine wp_region_rg w0 (by kernel_rfl) (by kernel_rfl) (Ext.refl _) ?_
        first
          | (apply goV_skip (by intro u; rfl))
          | (apply goV_val _ (by intro u; rfl); · (intro u w hSw hF; go_simp; try with_reducible rfl))
        try simp only [Act.put, List.setIfInBounds_toArray, List.set_cons_zero, List.set_cons_succ]
        first
          | (apply goV_skip (by intro u; rfl))
          | (apply goV_loadPA (by intro u; rfl) _ rfl hp hB (by intro u; rfl))
        try simp only [Act.put, List.setIfInBounds_toArray, List.set_cons_zero, List.set_cons_succ]
        first
          | (apply goV_skip (by intro u; rfl))
          | (apply goV_call (by intro u; rfl) C1; · (intro u w hSw hF; go_simp; try with_reducible rfl))
        try simp only [Act.put, List.setIfInBounds_toArray, List.set_cons_zero, List.set_cons_succ]
        first
          | (apply goV_skip (by intro u; rfl))
          | (apply goV_val _ (by intro u; rfl); · (intro u w hSw hF; go_simp; try with_reducible rfl))
        try simp only [Act.put, List.setIfInBounds_toArray, List.set_cons_zero, List.set_cons_succ]
        first
          | (apply goV_skip (by intro u; rfl))
          | (apply goV_val _ (by intro u; rfl); · (intro u w hSw hF; go_simp; try with_reducible rfl))
        try simp only [Act.put, List.setIfInBounds_toArray, List.set_cons_zero, List.set_cons_succ]
        first
          | (apply goV_skip (by intro u; rfl))
          | (apply goV_val _ (by intro u; rfl); · (intro u w hSw hF; go_simp; try with_reducible rfl))
        try simp only [Act.put, List.setIfInBounds_toArray, List.set_cons_zero, List.set_cons_succ]
        first
          | (apply goV_skip (by intro u; rfl))
          | (apply goV_val (.int .i64 n) (by intro u; rfl); · (intro u w hSw hF; have c0 := F w hSw; go_simp))
        try simp only [Act.put, List.setIfInBounds_toArray, List.set_cons_zero, List.set_cons_succ]
        first
          | (apply goV_skip (by intro u; rfl))
          | (apply goV_val _ (by intro u; rfl); · (intro u w hSw hF; go_simp; try with_reducible rfl))
        try simp only [Act.put, List.setIfInBounds_toArray, List.set_cons_zero, List.set_cons_succ]
        first
          | (apply goV_skip (by intro u; rfl))
          | (apply goV_val _ (by intro u; rfl); · (intro u w hSw hF; go_simp; try with_reducible rfl))
        try simp only [Act.put, List.setIfInBounds_toArray, List.set_cons_zero, List.set_cons_succ]
        first
          | (apply goV_skip (by intro u; rfl))
          | (apply goV_val _ (by intro u; rfl); · (intro u w hSw hF; go_simp; try with_reducible rfl))
        try simp only [Act.put, List.setIfInBounds_toArray, List.set_cons_zero, List.set_cons_succ]
        first
          | (apply goV_skip (by intro u; rfl))
          | (apply goV_val _ (by intro u; rfl); · (intro u w hSw hF; go_simp; try with_reducible rfl))
        try simp only [Act.put, List.setIfInBounds_toArray, List.set_cons_zero, List.set_cons_succ]
        first
          | (apply goV_skip (by intro u; rfl))
          | (apply goV_val (.int .i64 n) (by intro u; rfl); · (intro u w hSw hF; have c0 := F w hSw; go_simp))
        try simp only [Act.put, List.setIfInBounds_toArray, List.set_cons_zero, List.set_cons_succ]
        first
          | (apply goV_skip (by intro u; rfl))
          | (apply goV_val _ (by intro u; rfl); · (intro u w hSw hF; go_simp; try with_reducible rfl))
        try simp only [Act.put, List.setIfInBounds_toArray, List.set_cons_zero, List.set_cons_succ]
        first
          | (apply goV_skip (by intro u; rfl))
          | (apply goV_loadPA (by intro u; rfl) _ rfl hp hB (by intro u; rfl))
        try simp only [Act.put, List.setIfInBounds_toArray, List.set_cons_zero, List.set_cons_succ]
        first
          | (apply goV_skip (by intro u; rfl))
          | (apply goV_call (by intro u; rfl) C2; · (intro u w hSw hF; go_simp; try with_reducible rfl))
        try simp only [Act.put, List.setIfInBounds_toArray, List.set_cons_zero, List.set_cons_succ]
        first
          | (apply goV_skip (by intro u; rfl))
          | (apply goV_val _ (by intro u; rfl); · (intro u w hSw hF; go_simp; try with_reducible rfl))
        try simp only [Act.put, List.setIfInBounds_toArray, List.set_cons_zero, List.set_cons_succ]
        first
          | (apply goV_skip (by intro u; rfl))
          | (apply goV_val _ (by intro u; rfl); · (intro u w hSw hF; go_simp; try with_reducible rfl))
        try simp only [Act.put, List.setIfInBounds_toArray, List.set_cons_zero, List.set_cons_succ]
        intro u w1 hx1 _
        go_wp2
        go_ret
        exact ⟨by rw [R.out]; rfl, hx.trans hx1⟩
    · have d0 : decide (n < 0) = true := decide_eq_true (by omega)
      have R : Hid (validP p = false) := Lib.hid (by rw [R0.out, decide_eq_false h0]; simp)
      clear R0
      refine wp_region_rg w0 (by kernel_rfl) (by kernel_rfl) (Ext.refl _) ?_
      first
        | (apply goV_skip (by intro u; rfl))
        | (apply goV_val _ (by intro u; rfl); · (intro u w hSw hF; go_simp; try with_reducible rfl))
      try simp only [Act.put, List.setIfInBounds_toArray, List.set_cons_zero, List.set_cons_succ]
      first
        | (apply goV_skip (by intro u; rfl))
        | (apply goV_loadPA (by intro u; rfl) _ rfl hp hB (by intro u; rfl))
      try simp only [Act.put, List.setIfInBounds_toArray, List.set_cons_zero, List.set_cons_succ]
      first
        | (apply goV_skip (by intro u; rfl))
        | (apply goV_call (by intro u; rfl) C1; · (intro u w hSw hF; go_simp; try with_reducible rfl))
      try simp only [Act.put, List.setIfInBounds_toArray, List.set_cons_zero, List.set_cons_succ]
      first
        | (apply goV_skip (by intro u; rfl))
        | (apply goV_val _ (by intro u; rfl); · (intro u w hSw hF; go_simp; try with_reducible rfl))
      try simp only [Act.put, List.setIfInBounds_toArray, List.set_cons_zero, List.set_cons_succ]
      first
        | (apply goV_skip (by intro u; rfl))
        | (apply goV_val _ (by intro u; rfl); · (intro u w hSw hF; go_simp; try with_reducible rfl))
      try simp only [Act.put, List.setIfInBounds_toArray, List.set_cons_zero, List.set_cons_succ]
      first
        | (apply goV_skip (by intro u; rfl))
        | (apply goV_val _ (by intro u; rfl); · (intro u w hSw hF; go_simp; try with_reducible rfl))
      try simp only [Act.put, List.setIfInBounds_toArray, List.set_cons_zero, List.set_cons_succ]
      first
        | (apply goV_skip (by intro u; rfl))
        | (apply goV_val (.int .i64 n) (by intro u; rfl); · (intro u w hSw hF; have c0 := F w hSw; go_simp))
      try simp only [Act.put, List.setIfInBounds_toArray, List.set_cons_zero, List.set_cons_succ]
      first
        | (apply goV_skip (by intro u; rfl))
        | (apply goV_val _ (by intro u; rfl); · (intro u w hSw hF; go_simp; try with_reducible rfl))
      try simp only [Act.put, List.setIfInBounds_toArray, List.set_cons_zero, List.set_cons_succ]
      first
        | (apply goV_skip (by intro u; rfl))
        | (apply goV_val _ (by intro u; rfl); · (intro u w hSw hF; go_simp; try with_reducible rfl))
      try simp only [Act.put, List.setIfInBounds_toArray, List.set_cons_zero, List.set_cons_succ]
      first
        | (apply goV_skip (by intro u; rfl))
        | (apply goV_val _ (by intro u; rfl); · (intro u w hSw hF; go_simp; try with_reducible rfl))
      try simp only [Act.put, List.setIfInBounds_toArray, List.set_cons_zero, List.set_cons_succ]
      first
        | (apply goV_skip (by intro u; rfl))
        | (apply goV_val _ (by intro u; rfl); · (intro u w hSw hF; go_simp; try with_reducible rfl))
      try simp only [Act.put, List.setIfInBounds_toArray, List.set_cons_zero, List.set_cons_succ]
      first
        | (apply goV_skip (by intro u; rfl))
        | (apply goV_val (.int .i64 n) (by intro u; rfl); · (intro u w hSw hF; have c0 := F w hSw; go_simp))
      try simp only [Act.put, List.setIfInBounds_toArray, List.set_cons_zero, List.set_cons_succ]
      first
        | (apply goV_skip (by intro u; rfl))
        | (apply goV_val _ (by intro u; rfl); · (intro u w hSw hF; go_simp; try with_reducible rfl))
      try simp only [Act.put, List.setIfInBounds_toArray, List.set_cons_zero, List.set_cons_succ]
      first
        | (apply goV_skip (by intro u; rfl))
        | (apply goV_loadPA (by intro u; rfl) _ rfl hp hB (by intro u; rfl))
      try simp only [Act.put, List.setIfInBounds_toArray, List.set_cons_zero, List.set_cons_succ]
      first
        | (apply goV_skip (by intro u; rfl))
        | (apply goV_call (by intro u; rfl) C2; · (intro u w hSw hF; go_simp; try with_reducible rfl))
      try simp only [Act.put, List.setIfInBounds_toArray, List.set_cons_zero, List.set_cons_succ]
      first
        | (apply goV_skip (by intro u; rfl))
        | (apply goV_val _ (by intro u; rfl); · (intro u w hSw hF; go_simp; try with_reducible rfl))
      try simp only [Act.put, List.setIfInBounds_toArray, List.set_cons_zero, List.set_cons_succ]
      first
        | (apply goV_skip (by intro u; rfl))
        | (apply goV_val _ (by intro u; rfl); · (intro u w hSw hF; go_simp; try with_reducible rfl))
      try simp only [Act.put, List.setIfInBounds_toArray, List.set_cons_zero, List.set_cons_succ]
      intro u w1 hx1 _
      go_wp2
      go_ret
      exact ⟨by rw [R.out]; rfl, hx.trans hx1⟩
set_option maxRecDepth 8000 in
set_option maxHeartbeats 4000000 in
theorem rcontains_any (p : Pfx) (a : Adr) (hp : okP p) (ha : okA a) (w : World) :
    Calls Tryz.prog 11 #[pv p, av a] w fun e w' => e = .returned (.bool (containsP p a)) ∧ Ext w w' := by
  unfold pv av
  go_enter Tryz.func11, Tryz.ntmps11
  go_upto_region 1 with fail
  have hx := ((Ext.refl w).alloc (.cells (pc p) 26)).alloc (.cells (ac a) 24)
  have hb1 := (Blk.new w (pc p) 26).ext ((Ext.refl _).alloc (.cells (ac a) 24))
  have hb2 := Blk.new (w.alloc (.cells (pc p) 26)) (ac a) 24
  rw [World.size_alloc] at hb2
  generalize (w.alloc (.cells (pc p) 26)).alloc (.cells (ac a) 24) = w0 at *
  generalize hbw : w.heap.size = b at *
  replace hbw := Nat.le_of_eq hbw
  have hP : ∀ w', Ext w0 w' → PBlk w' b p := fun w' h => hb1.ext h
  have hA : ∀ w', Ext w0 w' → Blk w' (b + 1) (ac a).toList 24 := fun w' h => hb2.ext h
  have F1 := fun (w' : World) (h : Ext w0 w') => (hP w' h).fam
  have F2 := fun (w' : World) (h : Ext w0 w') => (ABox.of_blk ha (hA w' h)).fam
  have F3 := fun (w' : World) (h : Ext w0 w') => PBlk.bits hp (hP w' h)
  have C1 := fun (w' : World) (h : Ext w0 w') => rvalid_any p hp w'
  have C2 := fun (w' : World) (h : Ext w0 w') => rValid_any a ha w'
  have R0 : Hid (containsP p a = (validP p && validA a && decide (p.1.1 = a.1) && decide (truncA a p.2 = p.1))) := Lib.hid rfl
  have hVB := @validP_bits p
  have C4 := Lib.hid (fun (i : Int) (w' : World) => rBit_any p.1 hp.1 i w')
  have C5 := Lib.hid (fun (i : Int) (w' : World) => rBit_any a ha i w')
  have TE := Lib.hid (fun h => @trunc_eq a p.1 ha hp.1 h)
  clear hb1 hb2
  generalize hn : p.2 = n at *
  generalize p.1.1 = fp at *
  generalize a.1 = fa at *
  cases hva : validP p with
  | false =>
    rw [hva] at C1 R0
    have R : Hid (containsP p a = false) := Lib.hid (by rw [R0.out]; rfl)
    clear R0 hva hVB
    refine wp_region_rgs ?_
    first
      | (apply goV_skip (by intro u; rfl))
      | (apply goV_loadP (by intro u; rfl) _ rfl hp hP (by intro u; rfl))
    try simp only [Act.put, List.setIfInBounds_toArray, List.set_cons_zero, List.set_cons_succ]
    first
      | (apply goV_skip (by intro u; rfl))
      | (apply goV_call (by intro u; rfl) C1; · (intro u w hSw hF; go_simp; try with_reducible rfl))
    try simp only [Act.put, List.setIfInBounds_toArray, List.set_cons_zero, List.set_cons_succ]
    first
      | (apply goV_skip (by intro u; rfl))
      | (apply goV_val _ (by intro u; rfl); · (intro u w hSw hF; go_simp; try with_reducible rfl))
    try simp only [Act.put, List.setIfInBounds_toArray, List.set_cons_zero, List.set_cons_succ]
    first
      | (apply goV_skip (by intro u; rfl))
      | (apply goV_val _ (by intro u; rfl); · (intro u w hSw hF; go_simp; try with_reducible rfl))
    try simp only [Act.put, List.setIfInBounds_toArray, List.set_cons_zero, List.set_cons_succ]
    first
      | (apply goV_skip (by intro u; rfl))
      | (apply goV_loadA (by intro u; rfl) _ rfl ha hA (by intro u; rfl))
    try simp only [Act.put, List.setIfInBounds_toArray, List.set_cons_zero, List.set_cons_succ]
    first
      | (apply goV_skip (by intro u; rfl))
      | (apply goV_call (by intro u; rfl) C2; · (intro u w hSw hF; go_simp; try with_reducible rfl))
    try simp only [Act.put, List.setIfInBounds_toArray, List.set_cons_zero, List.set_cons_succ]
    first
      | (apply goV_skip (by intro u; rfl))
      | (apply goV_val _ (by intro u; rfl); · (intro u w hSw hF; go_simp; try with_reducible rfl))
    try simp only [Act.put, List.setIfInBounds_toArray, List.set_cons_zero, List.set_cons_succ]
    first
      | (apply goV_skip (by intro u; rfl))
      | (apply goV_val _ (by intro u; rfl); · (intro u w hSw hF; go_simp; try with_reducible rfl))
    try simp only [Act.put, List.setIfInBounds_toArray, List.set_cons_zero, List.set_cons_succ]
    first
      | (apply goV_skip (by intro u; rfl))
      | (apply goV_val _ (by intro u; rfl); · (intro u w hSw hF; go_simp; try with_reducible rfl))
    try simp only [Act.put, List.setIfInBounds_toArray, List.set_cons_zero, List.set_cons_succ]
    first
      | (apply goV_skip (by intro u; rfl))
      | (apply goV_val _ (by intro u; rfl); · (intro u w hSw hF; go_simp; try with_reducible rfl))
    try simp only [Act.put, List.setIfInBounds_toArray, List.set_cons_zero, List.set_cons_succ]
    first
      | (apply goV_skip (by intro u; rfl))
      | (apply goV_val _ (by intro u; rfl); · (intro u w hSw hF; go_simp; try with_reducible rfl))
    try simp only [Act.put, List.setIfInBounds_toArray, List.set_cons_zero, List.set_cons_succ]
    first
      | (apply goV_skip (by intro u; rfl))
      | (apply goV_val (.bool fp) (by intro u; rfl); · (intro u w hSw hF; have c0 := F1 w hSw; go_simp))
    try simp only [Act.put, List.setIfInBounds_toArray, List.set_cons_zero, List.set_cons_succ]
    first
      | (apply goV_skip (by intro u; rfl))
      | (apply goV_val _ (by intro u; rfl); · (intro u w hSw hF; go_simp; try with_reducible rfl))
    try simp only [Act.put, List.setIfInBounds_toArray, List.set_cons_zero, List.set_cons_succ]
    first
      | (apply goV_skip (by intro u; rfl))
      | (apply goV_val (.bool fa) (by intro u; rfl); · (intro u w hSw hF; have c0 := F2 w hSw; go_simp))
    try simp only [Act.put, List.setIfInBounds_toArray, List.set_cons_zero, List.set_cons_succ]
    first
      | (apply goV_skip (by intro u; rfl))
      | (apply goV_val _ (by intro u; rfl); · (intro u w hSw hF; go_simp; try with_reducible rfl))
    try simp only [Act.put, List.setIfInBounds_toArray, List.set_cons_zero, List.set_cons_succ]
    first
      | (apply goV_skip (by intro u; rfl))
      | (apply goV_val _ (by intro u; rfl); · (intro u w hSw hF; go_simp; try with_reducible rfl))
    try simp only [Act.put, List.setIfInBounds_toArray, List.set_cons_zero, List.set_cons_succ]
    intro u w1 hx1 _
    go_wp2
    go_ret
    exact ⟨by rw [R.out]; rfl, hx.trans hx1⟩
  | true =>
    have hvb := hVB hva
    rw [hva] at C1 R0
    clear hva hVB
    cases hvaa : validA a with
    | false =>
      rw [hvaa] at C2 R0
      have R : Hid (containsP p a = false) := Lib.hid (by rw [R0.out]; rfl)
      clear R0 hvaa
      refine wp_region_rgs ?_
      first
        | (apply goV_skip (by intro u; rfl))
        | (apply goV_loadP (by intro u; rfl) _ rfl hp hP (by intro u; rfl))
      try simp only [Act.put, List.setIfInBounds_toArray, List.set_cons_zero, List.set_cons_succ]
      first
        | (apply goV_skip (by intro u; rfl))
        | (apply goV_call (by intro u; rfl) C1; · (intro u w hSw hF; go_simp; try with_reducible rfl))
      try simp only [Act.put, List.setIfInBounds_toArray, List.set_cons_zero, List.set_cons_succ]
      first
        | (apply goV_skip (by intro u; rfl))
        | (apply goV_val _ (by intro u; rfl); · (intro u w hSw hF; go_simp; try with_reducible rfl))
      try simp only [Act.put, List.setIfInBounds_toArray, List.set_cons_zero, List.set_cons_succ]
      first
        | (apply goV_skip (by intro u; rfl))
        | (apply goV_val _ (by intro u; rfl); · (intro u w hSw hF; go_simp; try with_reducible rfl))
      try simp only [Act.put, List.setIfInBounds_toArray, List.set_cons_zero, List.set_cons_succ]
      first
        | (apply goV_skip (by intro u; rfl))
        | (apply goV_loadA (by intro u; rfl) _ rfl ha hA (by intro u; rfl))
      try simp only [Act.put, List.setIfInBounds_toArray, List.set_cons_zero, List.set_cons_succ]
      first
        | (apply goV_skip (by intro u; rfl))
        | (apply goV_call (by intro u; rfl) C2; · (intro u w hSw hF; go_simp; try with_reducible rfl))
      try simp only [Act.put, List.setIfInBounds_toArray, List.set_cons_zero, List.set_cons_succ]
      first
        | (apply goV_skip (by intro u; rfl))
        | (apply goV_val _ (by intro u; rfl); · (intro u w hSw hF; go_simp; try with_reducible rfl))
      try simp only [Act.put, List.setIfInBounds_toArray, List.set_cons_zero, List.set_cons_succ]
      first
        | (apply goV_skip (by intro u; rfl))
        | (apply goV_val _ (by intro u; rfl); · (intro u w hSw hF; go_simp; try with_reducible rfl))
      try simp only [Act.put, List.setIfInBounds_toArray, List.set_cons_zero, List.set_cons_succ]
      first
        | (apply goV_skip (by intro u; rfl))
        | (apply goV_val _ (by intro u; rfl); · (intro u w hSw hF; go_simp; try with_reducible rfl))
      try simp only [Act.put, List.setIfInBounds_toArray, List.set_cons_zero, List.set_cons_succ]
      first
        | (apply goV_skip (by intro u; rfl))
        | (apply goV_val _ (by intro u; rfl); · (intro u w hSw hF; go_simp; try with_reducible rfl))
      try simp only [Act.put, List.setIfInBounds_toArray, List.set_cons_zero, List.set_cons_succ]
      first
        | (apply goV_skip (by intro u; rfl))
        | (apply goV_val _ (by intro u; rfl); · (intro u w hSw hF; go_simp; try with_reducible rfl))
      try simp only [Act.put, List.setIfInBounds_toArray, List.set_cons_zero, List.set_cons_succ]
      first
        | (apply goV_skip (by intro u; rfl))
        | (apply goV_val (.bool fp) (by intro u; rfl); · (intro u w hSw hF; have c0 := F1 w hSw; go_simp))
      try simp only [Act.put, List.setIfInBounds_toArray, List.set_cons_zero, List.set_cons_succ]
      first
        | (apply goV_skip (by intro u; rfl))
        | (apply goV_val _ (by intro u; rfl); · (intro u w hSw hF; go_simp; try with_reducible rfl))
      try simp only [Act.put, List.setIfInBounds_toArray, List.set_cons_zero, List.set_cons_succ]
      first
        | (apply goV_skip (by intro u; rfl))
        | (apply goV_val (.bool fa) (by intro u; rfl); · (intro u w hSw hF; have c0 := F2 w hSw; go_simp))
      try simp only [Act.put, List.setIfInBounds_toArray, List.set_cons_zero, List.set_cons_succ]
      first
        | (apply goV_skip (by intro u; rfl))
        | (apply goV_val _ (by intro u; rfl); · (intro u w hSw hF; go_simp; try with_reducible rfl))
      try simp only [Act.put, List.setIfInBounds_toArray, List.set_cons_zero, List.set_cons_succ]
      first
        | (apply goV_skip (by intro u; rfl))
        | (apply goV_val _ (by intro u; rfl); · (intro u w hSw hF; go_simp; try with_reducible rfl))
      try simp only [Act.put, List.setIfInBounds_toArray, List.set_cons_zero, List.set_cons_succ]
      intro u w1 hx1 _
      go_wp2
      go_ret
      exact ⟨by rw [R.out]; rfl, hx.trans hx1⟩
    | true =>
      rw [hvaa] at C2 R0
      by_cases hf : fp = fa
      · have hfb : (fp == fa) = true := by rw [beq_iff_eq]; exact hf
        have T := Lib.hid (TE.out hf.symm hvb.2.2.2.2 hvb.2.2.1)
        have R1 : Hid (containsP p a = decide (truncA a n = p.1)) := Lib.hid (by rw [R0.out, decide_eq_true hf]; rfl)
        obtain ⟨m, hm⟩ : ∃ m : Nat, n = m := ⟨n.toNat, by omega⟩
        have HM := Lib.hid hm
        have hm128 : n ≤ 128 := hvb.2.1
        clear R0 hvaa hvb TE hf hm hn
        refine wp_region_rgs ?_
        first
          | (apply goV_skip (by intro u; rfl))
          | (apply goV_loadP (by intro u; rfl) _ rfl hp hP (by intro u; rfl))
        try simp only [Act.put, List.setIfInBounds_toArray, List.set_cons_zero, List.set_cons_succ]
        first
          | (apply goV_skip (by intro u; rfl))
          | (apply goV_call (by intro u; rfl) C1; · (intro u w hSw hF; go_simp; try with_reducible rfl))
        try simp only [Act.put, List.setIfInBounds_toArray, List.set_cons_zero, List.set_cons_succ]
        first
          | (apply goV_skip (by intro u; rfl))
          | (apply goV_val _ (by intro u; rfl); · (intro u w hSw hF; go_simp; try with_reducible rfl))
        try simp only [Act.put, List.setIfInBounds_toArray, List.set_cons_zero, List.set_cons_succ]
        first
          | (apply goV_skip (by intro u; rfl))
          | (apply goV_val _ (by intro u; rfl); · (intro u w hSw hF; go_simp; try with_reducible rfl))
        try simp only [Act.put, List.setIfInBounds_toArray, List.set_cons_zero, List.set_cons_succ]
        first
          | (apply goV_skip (by intro u; rfl))
          | (apply goV_loadA (by intro u; rfl) _ rfl ha hA (by intro u; rfl))
        try simp only [Act.put, List.setIfInBounds_toArray, List.set_cons_zero, List.set_cons_succ]
        first
          | (apply goV_skip (by intro u; rfl))
          | (apply goV_call (by intro u; rfl) C2; · (intro u w hSw hF; go_simp; try with_reducible rfl))
        try simp only [Act.put, List.setIfInBounds_toArray, List.set_cons_zero, List.set_cons_succ]
        first
          | (apply goV_skip (by intro u; rfl))
          | (apply goV_val _ (by intro u; rfl); · (intro u w hSw hF; go_simp; try with_reducible rfl))
        try simp only [Act.put, List.setIfInBounds_toArray, List.set_cons_zero, List.set_cons_succ]
        first
          | (apply goV_skip (by intro u; rfl))
          | (apply goV_val _ (by intro u; rfl); · (intro u w hSw hF; go_simp; try with_reducible rfl))
        try simp only [Act.put, List.setIfInBounds_toArray, List.set_cons_zero, List.set_cons_succ]
        first
          | (apply goV_skip (by intro u; rfl))
          | (apply goV_val _ (by intro u; rfl); · (intro u w hSw hF; go_simp; try with_reducible rfl))
        try simp only [Act.put, List.setIfInBounds_toArray, List.set_cons_zero, List.set_cons_succ]
        first
          | (apply goV_skip (by intro u; rfl))
          | (apply goV_val _ (by intro u; rfl); · (intro u w hSw hF; go_simp; try with_reducible rfl))
        try simp only [Act.put, List.setIfInBounds_toArray, List.set_cons_zero, List.set_cons_succ]
        first
          | (apply goV_skip (by intro u; rfl))
          | (apply goV_val _ (by intro u; rfl); · (intro u w hSw hF; go_simp; try with_reducible rfl))
        try simp only [Act.put, List.setIfInBounds_toArray, List.set_cons_zero, List.set_cons_succ]
        first
          | (apply goV_skip (by intro u; rfl))
          | (apply goV_val (.bool fp) (by intro u; rfl); · (intro u w hSw hF; have c0 := F1 w hSw; go_simp))
        try simp only [Act.put, List.setIfInBounds_toArray, List.set_cons_zero, List.set_cons_succ]
        first
          | (apply goV_skip (by intro u; rfl))
          | (apply goV_val _ (by intro u; rfl); · (intro u w hSw hF; go_simp; try with_reducible rfl))
        try simp only [Act.put, List.setIfInBounds_toArray, List.set_cons_zero, List.set_cons_succ]
        first
          | (apply goV_skip (by intro u; rfl))
          | (apply goV_val (.bool fa) (by intro u; rfl); · (intro u w hSw hF; have c0 := F2 w hSw; go_simp))
        try simp only [Act.put, List.setIfInBounds_toArray, List.set_cons_zero, List.set_cons_succ]
        first
          | (apply goV_skip (by intro u; rfl))
          | (apply goV_val _ (by intro u; rfl); · (intro u w hSw hF; go_simp; try with_reducible rfl))
        try simp only [Act.put, List.setIfInBounds_toArray, List.set_cons_zero, List.set_cons_succ]
        first
          | (apply goV_skip (by intro u; rfl))
          | (apply goV_val _ (by intro u; rfl); · (intro u w hSw hF; go_simp; try with_reducible rfl))
        try simp only [Act.put, List.setIfInBounds_toArray, List.set_cons_zero, List.set_cons_succ]
        intro u w1 hx1 _
        obtain rfl := HM.out
        have hP1 := hP w1 hx1
        have hA1 := hA w1 hx1
        have hxx := hx.trans hx1
        go_wp2_with fail
        go_loopw [5] (fun i wr => ∃ k : Nat, k ≤ m ∧ i = .int .i64 k ∧ PBlk wr b p ∧ Blk wr (b + 1) (ac a).toList 24 ∧ Ext w1 wr ∧ Hid (∀ j : Nat, j < k → bitA p.1 j = bitA a j)) (fun i _ => m - (intOf i).toNat)
        case atStart => exact ⟨0, Nat.zero_le _, rfl, hP1, hA1, Ext.refl _, Lib.hid (fun j h => by omega)⟩
        case round =>
          obtain ⟨k, hk, rfl, hp1, ha1, hx2, hz⟩ := hrel
          have f3 := F3 wr (hx1.trans hx2)
          by_cases hlt : k < m
          · have hlt' : (k : Int) < m := by omega
            have G4 := fun (w' : World) (h : Ext wr w') => C4.out (k : Int) w'
            have G5 := fun (w' : World) (h : Ext wr w') => C5.out (k : Int) w'
            have hPr : ∀ w', Ext wr w' → PBlk w' b p := fun w' h => hp1.ext h
            have hAr : ∀ w', Ext wr w' → Blk w' (b + 1) (ac a).toList 24 := fun w' h => ha1.ext h
            by_cases hbz : bitA p.1 k = bitA a k
            · have hbb : (bitA p.1 k != bitA a k) = false := by rw [bne_eq_false_iff_eq]; exact hbz
              have HZ : Hid (∀ j : Nat, j < k + 1 → bitA p.1 j = bitA a j) := Lib.hid (fun j h2 => by
                rcases Nat.lt_or_ge j k with h | h
                · exact hz.out j h
                · obtain rfl : j = k := by omega
                  exact hbz)
              generalize bitA p.1 k = x at *
              generalize bitA a k = y at *
              clear hbz
              go_wp2_with fail
              refine wp_region_rg wr (by kernel_rfl) (by kernel_rfl) (Ext.refl _) ?_
              first
                | (apply goV_skip (by intro u; rfl))
                | (apply goV_val _ (by intro u; rfl); · (intro u w hSw hF; go_simp; try with_reducible rfl))
              try simp only [Act.put, List.setIfInBounds_toArray, List.set_cons_zero, List.set_cons_succ]
              first
                | (apply goV_skip (by intro u; rfl))
                | (apply goV_loadPA (by intro u; rfl) _ rfl hp hPr (by intro u; rfl))
              try simp only [Act.put, List.setIfInBounds_toArray, List.set_cons_zero, List.set_cons_succ]
              first
                | (apply goV_skip (by intro u; rfl))
                | (apply goV_val _ (by intro u; rfl); · (intro u w hSw hF; go_simp; try with_reducible rfl))
              try simp only [Act.put, List.setIfInBounds_toArray, List.set_cons_zero, List.set_cons_succ]
              first
                | (apply goV_skip (by intro u; rfl))
                | (apply goV_call (by intro u; rfl) G4; · (intro u w hSw hF; go_simp; try with_reducible rfl))
              try simp only [Act.put, List.setIfInBounds_toArray, List.set_cons_zero, List.set_cons_succ]
              first
                | (apply goV_skip (by intro u; rfl))
                | (apply goV_loadA (by intro u; rfl) _ rfl ha hAr (by intro u; rfl))
              try simp only [Act.put, List.setIfInBounds_toArray, List.set_cons_zero, List.set_cons_succ]
              first
                | (apply goV_skip (by intro u; rfl))
                | (apply goV_val _ (by intro u; rfl); · (intro u w hSw hF; go_simp; try with_reducible rfl))
              try simp only [Act.put, List.setIfInBounds_toArray, List.set_cons_zero, List.set_cons_succ]
              first
                | (apply goV_skip (by intro u; rfl))
                | (apply goV_call (by intro u; rfl) G5; · (intro u w hSw hF; go_simp; try with_reducible rfl))
              try simp only [Act.put, List.setIfInBounds_toArray, List.set_cons_zero, List.set_cons_succ]
              first
                | (apply goV_skip (by intro u; rfl))
                | (apply goV_val _ (by intro u; rfl); · (intro u w hSw hF; go_simp; try with_reducible rfl))
              try simp only [Act.put, List.setIfInBounds_toArray, List.set_cons_zero, List.set_cons_succ]
              intro u w5 hx5 _
              go_wp2_with fail
              first
                | exact ⟨⟨k + 1, by omega, by go_num, hp1.ext hx5, ha1.ext hx5, hx2.trans hx5, HZ⟩, by simp [intOf]; omega⟩
                | (go_roundw
                   case rel => exact ⟨k + 1, by omega, by go_num, hp1.ext hx5, ha1.ext hx5, hx2.trans hx5, HZ⟩
                   case measure => simp [intOf]; omega)
            · have hbb : (bitA p.1 k != bitA a k) = true := by rw [bne_iff_ne]; exact hbz
              have R : Hid (containsP p a = false) := Lib.hid (by
                rw [R1.out, decide_eq_false]
                intro h
                exact hbz (T.out.1 h k hlt'))
              generalize bitA p.1 k = x at *
              generalize bitA a k = y at *
              clear hbz
              go_wp2_with fail
              refine wp_region_rg wr (by kernel_rfl) (by kernel_rfl) (Ext.refl _) ?_
              first
                | (apply goV_skip (by intro u; rfl))
                | (apply goV_val _ (by intro u; rfl); · (intro u w hSw hF; go_simp; try with_reducible rfl))
              try simp only [Act.put, List.setIfInBounds_toArray, List.set_cons_zero, List.set_cons_succ]
              first
                | (apply goV_skip (by intro u; rfl))
                | (apply goV_loadPA (by intro u; rfl) _ rfl hp hPr (by intro u; rfl))
              try simp only [Act.put, List.setIfInBounds_toArray, List.set_cons_zero, List.set_cons_succ]
              first
                | (apply goV_skip (by intro u; rfl))
                | (apply goV_val _ (by intro u; rfl); · (intro u w hSw hF; go_simp; try with_reducible rfl))
              try simp only [Act.put, List.setIfInBounds_toArray, List.set_cons_zero, List.set_cons_succ]
              first
                | (apply goV_skip (by intro u; rfl))
                | (apply goV_call (by intro u; rfl) G4; · (intro u w hSw hF; go_simp; try with_reducible rfl))
              try simp only [Act.put, List.setIfInBounds_toArray, List.set_cons_zero, List.set_cons_succ]
              first
                | (apply goV_skip (by intro u; rfl))
                | (apply goV_loadA (by intro u; rfl) _ rfl ha hAr (by intro u; rfl))
              try simp only [Act.put, List.setIfInBounds_toArray, List.set_cons_zero, List.set_cons_succ]
              first
                | (apply goV_skip (by intro u; rfl))
                | (apply goV_val _ (by intro u; rfl); · (intro u w hSw hF; go_simp; try with_reducible rfl))
              try simp only [Act.put, List.setIfInBounds_toArray, List.set_cons_zero, List.set_cons_succ]
              first
                | (apply goV_skip (by intro u; rfl))
                | (apply goV_call (by intro u; rfl) G5; · (intro u w hSw hF; go_simp; try with_reducible rfl))
              try simp only [Act.put, List.setIfInBounds_toArray, List.set_cons_zero, List.set_cons_succ]
              first
                | (apply goV_skip (by intro u; rfl))
                | (apply goV_val _ (by intro u; rfl); · (intro u w hSw hF; go_simp; try with_reducible rfl))
              try simp only [Act.put, List.setIfInBounds_toArray, List.set_cons_zero, List.set_cons_succ]
              intro u w5 hx5 _
              go_wp2_with fail
              go_ret
              exact ⟨by rw [R.out]; rfl, (hxx.trans hx2).trans hx5⟩
          · have hlt' : ¬ (k : Int) < m := by omega
            have R : Hid (containsP p a = true) := Lib.hid (by
              rw [R1.out, decide_eq_true]
              exact T.out.2 fun i hi => hz.out i (by omega))
            go_wp2_with fail
            go_ret
            exact ⟨by rw [R.out]; rfl, hxx.trans hx2⟩
      · have hfb : (fp == fa) = false := by rw [beq_eq_false_iff_ne]; exact hf
        have R : Hid (containsP p a = false) := Lib.hid (by rw [R0.out, decide_eq_false hf]; simp)
        clear R0 hvaa hf
        refine wp_region_rgs ?_
        first
          | (apply goV_skip (by intro u; rfl))
          | (apply goV_loadP (by intro u; rfl) _ rfl hp hP (by intro u; rfl))
        try simp only [Act.put, List.setIfInBounds_toArray, List.set_cons_zero, List.set_cons_succ]
        first
          | (apply goV_skip (by intro u; rfl))
          | (apply goV_call (by intro u; rfl) C1; · (intro u w hSw hF; go_simp; try with_reducible rfl))
        try simp only [Act.put, List.setIfInBounds_toArray, List.set_cons_zero, List.set_cons_succ]
        first
          | (apply goV_skip (by intro u; rfl))
          | (apply goV_val _ (by intro u; rfl); · (intro u w hSw hF; go_simp; try with_reducible rfl))
        try simp only [Act.put, List.setIfInBounds_toArray, List.set_cons_zero, List.set_cons_succ]
        first
          | (apply goV_skip (by intro u; rfl))
          | (apply goV_val _ (by intro u; rfl); · (intro u w hSw hF; go_simp; try with_reducible rfl))
        try simp only [Act.put, List.setIfInBounds_toArray, List.set_cons_zero, List.set_cons_succ]
        first
          | (apply goV_skip (by intro u; rfl))
          | (apply goV_loadA (by intro u; rfl) _ rfl ha hA (by intro u; rfl))
        try simp only [Act.put, List.setIfInBounds_toArray, List.set_cons_zero, List.set_cons_succ]
        first
          | (apply goV_skip (by intro u; rfl))
          | (apply goV_call (by intro u; rfl) C2; · (intro u w hSw hF; go_simp; try with_reducible rfl))
        try simp only [Act.put, List.setIfInBounds_toArray, List.set_cons_zero, List.set_cons_succ]
        first
          | (apply goV_skip (by intro u; rfl))
          | (apply goV_val _ (by intro u; rfl); · (intro u w hSw hF; go_simp; try with_reducible rfl))
        try simp only [Act.put, List.setIfInBounds_toArray, List.set_cons_zero, List.set_cons_succ]
        first
          | (apply goV_skip (by intro u; rfl))
          | (apply goV_val _ (by intro u; rfl); · (intro u w hSw hF; go_simp; try with_reducible rfl))
        try simp only [Act.put, List.setIfInBounds_toArray, List.set_cons_zero, List.set_cons_succ]
        first
          | (apply goV_skip (by intro u; rfl))
          | (apply goV_val _ (by intro u; rfl); · (intro u w hSw hF; go_simp; try with_reducible rfl))
        try simp only [Act.put, List.setIfInBounds_toArray, List.set_cons_zero, List.set_cons_succ]
        first
          | (apply goV_skip (by intro u; rfl))
          | (apply goV_val _ (by intro u; rfl); · (intro u w hSw hF; go_simp; try with_reducible rfl))
        try simp only [Act.put, List.setIfInBounds_toArray, List.set_cons_zero, List.set_cons_succ]
        first
          | (apply goV_skip (by intro u; rfl))
          | (apply goV_val _ (by intro u; rfl); · (intro u w hSw hF; go_simp; try with_reducible rfl))
        try simp only [Act.put, List.setIfInBounds_toArray, List.set_cons_zero, List.set_cons_succ]
        first
          | (apply goV_skip (by intro u; rfl))
          | (apply goV_val (.bool fp) (by intro u; rfl); · (intro u w hSw hF; have c0 := F1 w hSw; go_simp))
        try simp only [Act.put, List.setIfInBounds_toArray, List.set_cons_zero, List.set_cons_succ]
        first
          | (apply goV_skip (by intro u; rfl))
          | (apply goV_val _ (by intro u; rfl); · (intro u w hSw hF; go_simp; try with_reducible rfl))
        try simp only [Act.put, List.setIfInBounds_toArray, List.set_cons_zero, List.set_cons_succ]
        first
          | (apply goV_skip (by intro u; rfl))
          | (apply goV_val (.bool fa) (by intro u; rfl); · (intro u w hSw hF; have c0 := F2 w hSw; go_simp))
        try simp only [Act.put, List.setIfInBounds_toArray, List.set_cons_zero, List.set_cons_succ]
        first
          | (apply goV_skip (by intro u; rfl))
          | (apply goV_val _ (by intro u; rfl); · (intro u w hSw hF; go_simp; try with_reducible rfl))
        try simp only [Act.put, List.setIfInBounds_toArray, List.set_cons_zero, List.set_cons_succ]
        first
          | (apply goV_skip (by intro u; rfl))
          | (apply goV_val _ (by intro u; rfl); · (intro u w hSw hF; go_simp; try with_reducible rfl))
        try simp only [Act.put, List.setIfInBounds_toArray, List.set_cons_zero, List.set_cons_succ]
        intro u w1 hx1 _
        go_wp2
        go_ret
        exact ⟨by rw [R.out]; rfl, hx.trans hx1⟩
end Go.Proofs.YtbbdcodhgbgekaaGreatDoor
