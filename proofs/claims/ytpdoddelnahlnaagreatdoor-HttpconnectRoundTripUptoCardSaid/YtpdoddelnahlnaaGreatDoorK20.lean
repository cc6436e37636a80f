/-
  Several texts joined: IpR.
-/
import Derived.Test.YtpdoddelnahlnaaGreatDoorK19
import Derived.Test.YtpdoddelnahlnaaGreatDoorK09
/-
  Contracts of the reference: Valid, Unmap, FormatDecimal, FormatHex.
-/
set_option linter.unusedSimpArgs false
set_option linter.unusedVariables false
namespace Go.Proofs.YtpdoddelnahlnaaGreatDoor
open Go.RowKit

theorem validA_iff {a : Adr} (ha : okA a) (hf : a.1 = false) : validA a = true ↔ ∀ j, 4 ≤ j → j < 16 → X a j = 0 := by
  unfold validA; rw [hf, Bool.false_or, List.all_eq_true]
  constructor
  · intro h j h4 hj
    have := h (X a j) (by
      unfold X
      rw [List.getD_eq_getElem?_getD, List.getElem?_eq_getElem (by rw [ha.1]; exact hj), Option.getD_some]
      exact List.mem_of_getElem? (i := j - 4) (by rw [List.getElem?_drop, show 4 + (j - 4) = j by omega, List.getElem?_eq_getElem (by rw [ha.1]; exact hj)]))
    simpa using this
  · intro h x hx
    obtain ⟨i, hi, e⟩ := List.mem_iff_getElem.1 hx
    have hl : 4 + i < 16 := by have := ha.1; simp at hi; omega
    have := h (4 + i) (by omega) hl
    unfold X at this
    rw [List.getD_eq_getElem?_getD, List.getElem?_eq_getElem (by rw [ha.1]; exact hl), Option.getD_some] at this
    rw [List.getElem_drop] at e
    rw [← e]; exact decide_eq_true this

set_option maxRecDepth 4000 in
set_option maxHeartbeats 4000000 in
theorem rValid_any (a : Adr) (ha : okA a) (w : World) :
    Calls Tryz.prog 38 #[av a] w fun e w' => e = .returned (.bool (validA a)) ∧ Ext w w' := by
  unfold av
  go_enter Tryz.func38, Tryz.ntmps38
  go_upto_region 1 with fail
  have hx := (Ext.refl w).alloc (.cells (ac a) 30)
  have hb := ABox.new ha w
  generalize w.alloc (.cells (ac a) 30) = w1 at *
  have c1 := hb.fam
  generalize w.heap.size = p at *
  cases hf : a.1 with
  | true =>
    have E : Hid (validA a = true) := Lib.hid (by unfold validA; rw [hf]; rfl)
    have HF := Lib.hid hf; clear hf
    clear c1
    go_wp2_with fail
    go_loopw [3] (fun i wr => i = .int .i64 4 ∧ ABox wr p a ∧ Ext w wr) (fun i _ => 0)
    case atStart => exact ⟨rfl, hb, hx⟩
    case round =>
      obtain ⟨rfl, hb, hx⟩ := hrel
      have c1 := hb.fam
      rw [HF.out] at c1
      go_wp2_with fail
      go_ret
      exact ⟨by rw [E.out]; rfl, by (repeat' (first | exact Ext.refl _ | assumption | refine Ext.alloc ?_ _ | refine Ext.drew ?_ | refine Ext.setCell ?_ (Nat.le_refl _) _ | refine Ext.setCell ?_ (Nat.le_add_right _ _) _ | refine Ext.drewN ?_ _ | refine Ext.trans ?_ (by assumption) | refine Ext.dr ?_ (by assumption)))⟩
  | false =>
    have V := Lib.hid (validA_iff ha hf)
    have HF := Lib.hid hf; clear hf
    rw [HF.out] at c1
    clear c1
    go_wp2_with fail
    go_loopw [3] (fun i wr => ∃ k : Nat, 4 ≤ k ∧ k ≤ 16 ∧ i = .int .i64 k ∧ ABox wr p a ∧ Ext w wr ∧ Hid (∀ j, 4 ≤ j → j < k → X a j = 0)) (fun i _ => 16 - (intOf i).toNat)
    case atStart => exact ⟨4, by omega, by omega, rfl, hb, hx, Lib.hid (fun j h1 h2 => by omega)⟩
    case round =>
      obtain ⟨k, hk4, hk, rfl, hb, hx, hz⟩ := hrel
      have c1 := hb.fam
      rw [HF.out] at c1
      by_cases hlt : k < 16
      · have hlt' : (k : Int) < 16 := by omega
        have d1 := hb.at' k hlt
        have xb := X_bd ha k
        by_cases h0 : X a k = 0
        · have HZ : Hid (∀ j, 4 ≤ j → j < k + 1 → X a j = 0) := Lib.hid (fun j h1 h2 => by
            rcases Nat.lt_or_ge j k with h | h
            · exact hz.out j h1 h
            · obtain rfl : j = k := by omega
              exact h0)
          rw [h0] at d1
          clear h0
          go_wp2_with fail
          go_roundw
          case rel => exact ⟨k + 1, by omega, by omega, by go_num, hb, by (repeat' (first | exact Ext.refl _ | assumption | refine Ext.alloc ?_ _ | refine Ext.drew ?_ | refine Ext.setCell ?_ (Nat.le_refl _) _ | refine Ext.setCell ?_ (Nat.le_add_right _ _) _ | refine Ext.drewN ?_ _ | refine Ext.trans ?_ (by assumption) | refine Ext.dr ?_ (by assumption))), HZ⟩
          case measure => simp [intOf]; omega
        · have E : Hid (validA a = false) := Lib.hid (by
            cases h : validA a with
            | false => rfl
            | true => exact absurd (V.out.1 h k hk4 hlt) h0)
          have hne : (X a k != 0) = true := by rw [bne_iff_ne]; exact h0
          generalize X a k = x at *
          go_wp2_with fail
          go_ret
          exact ⟨by rw [E.out]; rfl, by (repeat' (first | exact Ext.refl _ | assumption | refine Ext.alloc ?_ _ | refine Ext.drew ?_ | refine Ext.setCell ?_ (Nat.le_refl _) _ | refine Ext.setCell ?_ (Nat.le_add_right _ _) _ | refine Ext.drewN ?_ _ | refine Ext.trans ?_ (by assumption) | refine Ext.dr ?_ (by assumption)))⟩
      · obtain rfl : k = 16 := by omega
        have E : Hid (validA a = true) := Lib.hid (V.out.2 fun j h1 h2 => hz.out j h1 h2)
        go_wp2_with fail
        go_ret
        exact ⟨by rw [E.out]; rfl, by (repeat' (first | exact Ext.refl _ | assumption | refine Ext.alloc ?_ _ | refine Ext.drew ?_ | refine Ext.setCell ?_ (Nat.le_refl _) _ | refine Ext.setCell ?_ (Nat.le_add_right _ _) _ | refine Ext.drewN ?_ _ | refine Ext.trans ?_ (by assumption) | refine Ext.dr ?_ (by assumption)))⟩

theorem u8_small {x : Int} (h0 : 0 ≤ x) (h1 : x < 256) : IntKind.u8.wrap x = x := by
  have : IntKind.u8.wrap x = x % 256 := by simp [IntKind.wrap, IntKind.bits, IntKind.signed]
  rw [this]; omega
theorem conv1 {P : Program} {w : World} {b : Nat} {x : Int} {c : UInt8} {src e dst : TypeId} (hs : P.underlying src = some (.slice e)) (he : P.underlying e = some (.int .u8)) (hd : P.underlying dst = some .string)
    (h : Blk w b [.int .u8 x] e) (hc : x = (c.toNat : Int)) : (convert src dst (.slice (some ⟨b, 0, none⟩) 1 1)).run P w = .ok (.string (txt [c])) w := by
  have := run_strs (P := P) src dst e 1 (0, 0) [x] b w hs he hd h
  have e2 : strOfNums [x] = txt [c] := BA_ext (by
    rw [strOfNums_data, hc]
    simp [txt])
  rw [e2] at this
  exact this
theorem str1_txt (n : Nat) (x : Int) (h : x = n) : str1 x = txt [UInt8.ofNat n] := by subst h; rfl
theorem txt_append (l m : List UInt8) : txt (l ++ m) = txt l ++ txt m := BA_ext (by rw [data_append]; rfl)
theorem txt_size (l : List UInt8) : (txt l).size = l.length := by rw [size_list]; rfl
theorem dec_cons {n : Nat} (h : ¬ n < 10) : Lib.decDigits n = Lib.decDigits (n / 10) ++ [UInt8.ofNat (48 + n % 10)] := by rw [Lib.decDigits, dif_neg h]
set_option maxRecDepth 4000 in
set_option maxHeartbeats 2000000 in
theorem fdec_any (n : Nat) : n ≤ 9223372036854775807 → ∀ w : World,
    Calls Tryz.prog 43 #[.int .i64 n] w fun e w' => e = .returned (.string (txt (Lib.decDigits n))) ∧ Ext w w' := by
  induction n using Nat.strongRecOn with
  | _ n ih =>
    intro hn w
    go_enter Tryz.func43, Tryz.ntmps43
    by_cases h : n < 10
    · have h' : (n : Int) < 10 := by omega
      have e8 : IntKind.u8.wrap (48 + (n : Int)) = 48 + (n : Int) := u8_small (by omega) (by omega)
      have E := Lib.hid (str1_txt (48 + n) (48 + (n : Int)) (by omega))
      have D := Lib.hid (Lib.decDigits_one h)
      go_wp2_with fail
      go_ret
      exact ⟨by rw [D.out, E.out]; rfl, by (repeat' (first | exact Ext.refl _ | assumption | refine Ext.alloc ?_ _ | refine Ext.drew ?_ | refine Ext.setCell ?_ (Nat.le_refl _) _ | refine Ext.setCell ?_ (Nat.le_add_right _ _) _ | refine Ext.drewN ?_ _ | refine Ext.trans ?_ (by assumption) | refine Ext.dr ?_ (by assumption)))⟩
    · have h' : ¬ (n : Int) < 10 := by omega
      have q0 : ((n : Int).tdiv 10) = ((n / 10 : Nat) : Int) := by rw [Int.tdiv_eq_ediv_of_nonneg (by omega)]; omega
      have m0 : ((n : Int).tmod 10) = ((n % 10 : Nat) : Int) := by rw [Int.tmod_eq_emod_of_nonneg (by omega)]; omega
      have H1 := Lib.hid (ih (n / 10) (by omega) (by omega))
      have D := Lib.hid (dec_cons h)
      have hm : n % 10 < 10 := Nat.mod_lt _ (by decide)
      have hq : n / 10 ≤ 9223372036854775807 := by omega
      have hl : (txt (Lib.decDigits (n / 10))).size ≤ 21 := by
        rw [txt_size]
        have := Lib.itoa_length_le ((n / 10 : Nat) : Int) (by omega) (by omega)
        rw [Lib.itoa_nonneg] at this
        exact this
      generalize n / 10 = q at *
      generalize n % 10 = r at *
      have e8 : IntKind.u8.wrap (48 + (r : Int)) = 48 + (r : Int) := u8_small (by omega) (by omega)
      have e9 : IntKind.i64.wrap (48 + (r : Int)) = 48 + (r : Int) := IntWalk.i64_in _ (by omega)
      have e10 : IntKind.i64.wrap (q : Int) = (q : Int) := IntWalk.i64_in _ (by omega)
      have hcc : 48 + (r : Int) = ((UInt8.ofNat (48 + r)).toNat : Int) := by rw [UInt8.toNat_ofNat_of_lt' (by show _ < 256; omega)]; omega
      have TA := Lib.hid (txt_append (Lib.decDigits q) [UInt8.ofNat (48 + r)])
      generalize UInt8.ofNat (48 + r) = c at *
      have HCC := Lib.hid hcc; clear hcc
      have hs1 : (txt [c]).size = 1 := txt_size _
      generalize hs : txt (Lib.decDigits q) = s at *
      have hsz : ¬ 9223372036854775807 < s.size + 1 := by omega
      have HS := Lib.hid hs; clear hs ih h
      go_wp2_with fail
      refine wp_region_rg w (by kernel_rfl) (by kernel_rfl) (Ext.refl w) ?_
      apply goV_val _ (by intro u; rfl)
      · (intro u w hSw hF; go_simp; try with_reducible rfl)
      try simp only [Act.put, List.setIfInBounds_toArray, List.set_cons_zero, List.set_cons_succ]
      apply goV_val _ (by intro u; rfl)
      · (intro u w hSw hF; go_simp; try with_reducible rfl)
      try simp only [Act.put, List.setIfInBounds_toArray, List.set_cons_zero, List.set_cons_succ]
      apply goV_call (by intro u; rfl) (fun w hw => H1.out w)
      · (intro u w hSw hF; go_simp; try with_reducible rfl)
      try simp only [Act.put, List.setIfInBounds_toArray, List.set_cons_zero, List.set_cons_succ]
      apply goV_val _ (by intro u; rfl)
      · (intro u w hSw hF; go_simp; try with_reducible rfl)
      try simp only [Act.put, List.setIfInBounds_toArray, List.set_cons_zero, List.set_cons_succ]
      apply goV_val _ (by intro u; rfl)
      · (intro u w hSw hF; go_simp; try with_reducible rfl)
      try simp only [Act.put, List.setIfInBounds_toArray, List.set_cons_zero, List.set_cons_succ]
      apply goV_val _ (by intro u; rfl)
      · (intro u w hSw hF; go_simp; try with_reducible rfl)
      try simp only [Act.put, List.setIfInBounds_toArray, List.set_cons_zero, List.set_cons_succ]
      apply goV_val _ (by intro u; rfl)
      · (intro u w hSw hF; go_simp; try with_reducible rfl)
      try simp only [Act.put, List.setIfInBounds_toArray, List.set_cons_zero, List.set_cons_succ]
      apply goV_rel (fun u w => ∃ b, u = .slice (some ⟨b, 0, none⟩) 1 1 ∧ Blk w b [.int .u8 (48 + (r : Int))] 5) (fun u w w' h k => by obtain ⟨b, h1, h2⟩ := h; exact ⟨b, h1, h2.ext k⟩) (by intro u; rfl)
      · intro u w hSw hF
        go_simp
        exact ⟨(Ext.refl _).alloc _, w.heap.size, rfl, Blk.new _ _ _⟩
      try simp only [Act.put, List.setIfInBounds_toArray, List.set_cons_zero, List.set_cons_succ]
      apply goV_val (.string (txt [c])) (by intro u; rfl)
      · intro u w hSw hF
        obtain ⟨⟨b, hu, hb⟩, _⟩ := hF
        have hcv := conv1 (P := Tryz.prog) Tryz.underlying22 Tryz.underlying5 Tryz.underlying9 hb HCC.out
        go_simp
      try simp only [Act.put, List.setIfInBounds_toArray, List.set_cons_zero, List.set_cons_succ]
      apply goV_val _ (by intro u; rfl)
      · (intro u w hSw hF; go_simp; try with_reducible rfl)
      try simp only [Act.put, List.setIfInBounds_toArray, List.set_cons_zero, List.set_cons_succ]
      apply goV_val _ (by intro u; rfl)
      · (intro u w hSw hF; go_simp; try with_reducible rfl)
      try simp only [Act.put, List.setIfInBounds_toArray, List.set_cons_zero, List.set_cons_succ]
      intro u w1 hx1 _
      go_wp2
      go_ret
      exact ⟨by rw [D.out, TA.out]; rfl, by (repeat' (first | exact Ext.refl _ | assumption | refine Ext.alloc ?_ _ | refine Ext.drew ?_ | refine Ext.setCell ?_ (Nat.le_refl _) _ | refine Ext.setCell ?_ (Nat.le_add_right _ _) _ | refine Ext.drewN ?_ _ | refine Ext.trans ?_ (by assumption) | refine Ext.dr ?_ (by assumption)))⟩
theorem hex_piece : ∀ r : Fin 16, (⟨#[48, 49, 50, 51, 52, 53, 54, 55, 56, 57, 97, 98, 99, 100, 101, 102]⟩ : ByteArray).extract r.1 (r.1 + 1) = txt [hexc r.1] := by decide
set_option maxRecDepth 4000 in
set_option maxHeartbeats 2000000 in
theorem fhex_any (n : Nat) : n ≤ 65535 → ∀ w : World,
    Calls Tryz.prog 74 #[.int .i64 n] w fun e w' => e = .returned (.string (txt (hexT n))) ∧ Ext w w' := by
  induction n using Nat.strongRecOn with
  | _ n ih =>
    intro hn w
    go_enter Tryz.func74, Tryz.ntmps74
    by_cases h : n < 16
    · have h' : (n : Int) < 16 := by omega
      have E := Lib.hid (hex_piece ⟨n, h⟩)
      have D := Lib.hid (hexT_small h)
      go_wp2_with fail
      go_ret
      exact ⟨by rw [D.out, ← E.out]; rfl, by (repeat' (first | exact Ext.refl _ | assumption | refine Ext.alloc ?_ _ | refine Ext.drew ?_ | refine Ext.setCell ?_ (Nat.le_refl _) _ | refine Ext.setCell ?_ (Nat.le_add_right _ _) _ | refine Ext.drewN ?_ _ | refine Ext.trans ?_ (by assumption) | refine Ext.dr ?_ (by assumption)))⟩
    · have h' : ¬ (n : Int) < 16 := by omega
      have q0 : ((n : Int).tdiv 16) = ((n / 16 : Nat) : Int) := by rw [Int.tdiv_eq_ediv_of_nonneg (by omega)]; omega
      have m0 : ((n : Int).tmod 16) = ((n % 16 : Nat) : Int) := by rw [Int.tmod_eq_emod_of_nonneg (by omega)]; omega
      have H1 := Lib.hid (ih (n / 16) (by omega) (by omega))
      have D := Lib.hid (hexT_big h)
      have hm : n % 16 < 16 := Nat.mod_lt _ (by decide)
      have E := Lib.hid (hex_piece ⟨n % 16, hm⟩)
      have hq : n / 16 ≤ 65535 := by omega
      have hl : (txt (hexT (n / 16))).size ≤ 4 := by
        rw [txt_size]; exact hexT_len (by omega)
      have TA := Lib.hid (txt_append (hexT (n / 16)) [hexc (n % 16)])
      generalize n / 16 = q at *
      generalize n % 16 = r at *
      have hr16 : (r : Int) < 16 := by omega
      have e9 : IntKind.i64.wrap ((r : Int) + 1) = (r : Int) + 1 := IntWalk.i64_in _ (by omega)
      have e10 : IntKind.i64.wrap (q : Int) = (q : Int) := IntWalk.i64_in _ (by omega)
      have hs1 : (txt [hexc r]).size = 1 := txt_size _
      generalize hexc r = c at *
      generalize hs : txt (hexT q) = s at *
      have hsz : ¬ 9223372036854775807 < s.size + 1 := by omega
      have HS := Lib.hid hs; clear hs ih h
      go_wp2_with fail
      refine wp_region_rg w (by kernel_rfl) (by kernel_rfl) (Ext.refl w) ?_
      apply goV_val _ (by intro u; rfl)
      · (intro u w hSw hF; go_simp; try with_reducible rfl)
      try simp only [Act.put, List.setIfInBounds_toArray, List.set_cons_zero, List.set_cons_succ]
      apply goV_val _ (by intro u; rfl)
      · (intro u w hSw hF; go_simp; try with_reducible rfl)
      try simp only [Act.put, List.setIfInBounds_toArray, List.set_cons_zero, List.set_cons_succ]
      apply goV_call (by intro u; rfl) (fun w hw => H1.out w)
      · (intro u w hSw hF; go_simp; try with_reducible rfl)
      try simp only [Act.put, List.setIfInBounds_toArray, List.set_cons_zero, List.set_cons_succ]
      apply goV_val _ (by intro u; rfl)
      · (intro u w hSw hF; go_simp; try with_reducible rfl)
      try simp only [Act.put, List.setIfInBounds_toArray, List.set_cons_zero, List.set_cons_succ]
      apply goV_val _ (by intro u; rfl)
      · (intro u w hSw hF; go_simp; try with_reducible rfl)
      try simp only [Act.put, List.setIfInBounds_toArray, List.set_cons_zero, List.set_cons_succ]
      apply goV_val _ (by intro u; rfl)
      · (intro u w hSw hF; go_simp; try with_reducible rfl)
      try simp only [Act.put, List.setIfInBounds_toArray, List.set_cons_zero, List.set_cons_succ]
      apply goV_val _ (by intro u; rfl)
      · (intro u w hSw hF; go_simp; try with_reducible rfl)
      try simp only [Act.put, List.setIfInBounds_toArray, List.set_cons_zero, List.set_cons_succ]
      apply goV_val _ (by intro u; rfl)
      · (intro u w hSw hF; go_simp; try with_reducible rfl)
      try simp only [Act.put, List.setIfInBounds_toArray, List.set_cons_zero, List.set_cons_succ]
      apply goV_val (.string (txt [c])) (by intro u; rfl)
      · intro u w hSw hF
        have EE := E.out
        go_simp
        rw [if_pos (by omega), if_pos (by omega)]
      try simp only [Act.put, List.setIfInBounds_toArray, List.set_cons_zero, List.set_cons_succ]
      apply goV_val _ (by intro u; rfl)
      · (intro u w hSw hF; go_simp; try with_reducible rfl)
      try simp only [Act.put, List.setIfInBounds_toArray, List.set_cons_zero, List.set_cons_succ]
      apply goV_val _ (by intro u; rfl)
      · (intro u w hSw hF; go_simp; try with_reducible rfl)
      try simp only [Act.put, List.setIfInBounds_toArray, List.set_cons_zero, List.set_cons_succ]
      intro u w1 hx1 _
      go_wp2
      go_ret
      exact ⟨by rw [D.out, TA.out]; rfl, by (repeat' (first | exact Ext.refl _ | assumption | refine Ext.alloc ?_ _ | refine Ext.drew ?_ | refine Ext.setCell ?_ (Nat.le_refl _) _ | refine Ext.setCell ?_ (Nat.le_add_right _ _) _ | refine Ext.drewN ?_ _ | refine Ext.trans ?_ (by assumption) | refine Ext.dr ?_ (by assumption)))⟩
theorem take12 {a : Adr} (ha : okA a) : a.2.take 12 = [0, 0, 0, 0, 0, 0, 0, 0, 0, 0, 255, 255] ↔ (∀ j, j < 10 → X a j = 0) ∧ X a 10 = 255 ∧ X a 11 = 255 := by
  obtain ⟨f, l⟩ := a
  obtain ⟨hl, _⟩ := ha
  match l, hl with
  | [a0, a1, a2, a3, a4, a5, a6, a7, a8, a9, a10, a11, a12, a13, a14, a15], _ =>
    unfold X
    constructor
    · intro h
      simp only [List.take_succ_cons, List.take_zero, List.cons.injEq, and_true] at h
      obtain ⟨rfl, rfl, rfl, rfl, rfl, rfl, rfl, rfl, rfl, rfl, rfl, rfl⟩ := h
      refine ⟨fun j hj => ?_, rfl, rfl⟩
      rcases (by omega : j = 0 ∨ j = 1 ∨ j = 2 ∨ j = 3 ∨ j = 4 ∨ j = 5 ∨ j = 6 ∨ j = 7 ∨ j = 8 ∨ j = 9) with rfl | rfl | rfl | rfl | rfl | rfl | rfl | rfl | rfl | rfl <;> rfl
    · rintro ⟨h, h10, h11⟩
      have e := fun j hj => h j hj
      have e0 : a0 = 0 := h 0 (by decide)
      have e1 : a1 = 0 := h 1 (by decide)
      have e2 : a2 = 0 := h 2 (by decide)
      have e3 : a3 = 0 := h 3 (by decide)
      have e4 : a4 = 0 := h 4 (by decide)
      have e5 : a5 = 0 := h 5 (by decide)
      have e6 : a6 = 0 := h 6 (by decide)
      have e7 : a7 = 0 := h 7 (by decide)
      have e8 : a8 = 0 := h 8 (by decide)
      have e9 : a9 = 0 := h 9 (by decide)
      have e10 : a10 = 255 := h10
      have e11 : a11 = 255 := h11
      subst e0 e1 e2 e3 e4 e5 e6 e7 e8 e9 e10 e11
      rfl
theorem unmap_no {a : Adr} (h : ¬ (a.1 = true ∧ a.2.take 12 = [0, 0, 0, 0, 0, 0, 0, 0, 0, 0, 255, 255])) : unmapA a = a := by unfold unmapA; rw [if_neg h]
end Go.Proofs.YtpdoddelnahlnaaGreatDoor
