/-
  Contract of longestZeroRun.
-/
import Derived.Test.YtpdoddelnahlnaaDoorIpA
set_option linter.unusedSimpArgs false
set_option linter.unusedVariables false
namespace Go.Proofs.YtpdoddelnahlnaaDoor
open Go.RowKit

theorem wpList_load_Ag {ops : Array Oper} {rest : List Oper} {o : Oper} {f : Act} {w : World} {Q : Exit → Act → World → Prop} (hw : Region.wanted o (yielded ops f.tmps) = true) (x : Operand) (ho : o.op = .load 37 x)
    {b : Nat} {a : Adr} (ha : okA a) (hb : Blk w b (ac a).toList 37) (hx : f.eval x = .pointer (some ⟨b, 0, none⟩)) (h : wpList Tryd.prog ops Q rest (f.put o.dst (.agg (ac a))) w) : wpList Tryd.prog ops Q (o :: rest) f w := by
  refine wpList_step fun K hK => ?_
  rw [if_pos hw]
  have := wp_load_mid (P := Tryd.prog) (op := o) (a := f) (w := w) (K := K) (Q := Q) 37 x ho b 0 hx (ac a).toList _ (fun j v hj => by rw [Nat.zero_add]; exact hb.cell hj) Tryd.underlying37 rfl (by rw [info_A, Array.length_toList, ac_size ha])
  exact this (hK _ _ h)
theorem zrun_stop (l : List Int) : ∀ (f i k : Nat), i ≤ k → k ≤ i + f → (∀ j, i ≤ j → j < k → grp l j = 0) → (k = i + f ∨ grp l k ≠ 0) → zrun l f i = k - i
  | 0, i, k, h1, h2, _, _ => by rw [zrun]; omega
  | f + 1, i, k, h1, h2, h3, h4 => by
    rw [zrun]
    by_cases h : k = i
    · subst h
      rw [if_neg]
      · omega
      · rcases h4 with h4 | h4
        · omega
        · exact h4
    · rw [if_pos (h3 i (Nat.le_refl _) (by omega)), zrun_stop l f (i + 1) k (by omega) (by omega) (fun j a b => h3 j (by omega) b) (by rcases h4 with h4 | h4; exact .inl (by omega); exact .inr h4)]
      omega
theorem zr_stop {l : List Int} {i k : Nat} (h1 : i ≤ k) (h2 : k ≤ 8) (h3 : ∀ j, i ≤ j → j < k → grp l j = 0) (h4 : k = 8 ∨ grp l k ≠ 0) : zr l i = k - i :=
  zrun_stop l (8 - i) i k h1 (by omega) h3 (by rcases h4 with h4 | h4; exact .inl (by omega); exact .inr h4)
theorem zrun_le (l : List Int) : ∀ (f i : Nat), zrun l f i ≤ f
  | 0, _ => Nat.le_refl _
  | f + 1, i => by rw [zrun]; split; have := zrun_le l f (i + 1); omega; omega
theorem zr_le (l : List Int) (i : Nat) : zr l i ≤ 8 - i := zrun_le _ _ _
theorem best_bd (l : List Int) : ∀ i, i ≤ 8 → (best l i = (-1, 1) ∨ (0 ≤ (best l i).1 ∧ (best l i).1 < i ∧ 2 ≤ (best l i).2 ∧ (best l i).1 + (best l i).2 ≤ 8))
  | 0, _ => .inl rfl
  | i + 1, h => by
    have ih := best_bd l i (by omega)
    have hz := zr_le l i
    rw [best]
    by_cases hc : (best l i).2 < zr l i
    · rw [if_pos hc]
      right
      rcases ih with ih | ih
      · rw [ih] at hc; simp at hc ⊢; omega
      · simp; omega
    · rw [if_neg hc]
      rcases ih with ih | ih
      · exact .inl ih
      · right; omega
/-- where the run ends, or -1 -/
def upto (l : List Int) (i : Nat) : Int := if (best l i).1 < 0 then -1 else (best l i).1 + (best l i).2

set_option maxRecDepth 4000 in
set_option maxHeartbeats 4000000 in
theorem longest_any (a : Adr) (ha : okA a) (w : World) :
    Calls Tryd.prog 57 #[av a] w fun e w' => e = .returned (.tuple #[.int .i64 (best a.2 8).1, .int .i64 (upto a.2 8)]) ∧ Ext w w' := by
  unfold av
  go_enter Tryd.func57, Tryd.ntmps57
  go_upto_region 1 with fail
  have hx := (Ext.refl w).alloc (.cells (ac a) 37)
  have hb := ABox.new ha w
  generalize w.alloc (.cells (ac a) 37) = w1 at *
  generalize w.heap.size = b at *
  go_wp2_with fail
  go_loopw [4, 5, 6, 7, 8] (fun f t _ _ c wr => ∃ i : Nat, i ≤ 8 ∧ c = .int .i64 i ∧ f = .int .i64 (best a.2 i).1 ∧ t = .int .i64 (upto a.2 i) ∧ ABox wr b a ∧ Ext w wr) (fun _ _ _ _ c _ => 8 - (intOf c).toNat)
  case atStart => exact ⟨0, Nat.zero_le _, rfl, rfl, rfl, hb, hx⟩
  case round =>
    obtain ⟨i, hi, rfl, rfl, rfl, hb, hx⟩ := hrel
    by_cases hlt : i < 8
    · have hlt' : (i : Int) < 8 := by omega
      obtain ⟨wo, hwo⟩ : ∃ wo : World, wo = wr := ⟨_, rfl⟩
      rw [← hwo]; rw [← hwo] at hb hx
      clear hwo
      generalize hF : (best a.2 i).1 = F at *
      generalize hT : upto a.2 i = T at *
      have HF := Lib.hid hF; have HT := Lib.hid hT; clear hF hT
      go_wp2_with fail
      go_loopw [7] (fun k wr => ∃ j : Nat, i ≤ j ∧ j ≤ 8 ∧ k = .int .i64 j ∧ ABox wr b a ∧ Ext w wr ∧ Hid (∀ q, i ≤ q → q < j → grp a.2 q = 0)) (fun k _ => 8 - (intOf k).toNat)
      case atStart => exact ⟨i, Nat.le_refl _, hi, rfl, hb, hx, Lib.hid fun q h1 h2 => by omega⟩
      case round =>
        obtain ⟨j, hj1, hj2, rfl, hb, hx, hz⟩ := hrel
        by_cases hlt2 : j < 8
        · have hlt3 : (j : Int) < 8 := by omega
          have hcall := group_any a ha j hlt2 wr
          have HC := Lib.hid hcall; clear hcall
          by_cases hg : grp a.2 j = 0
          · have hgb : (grp a.2 j == 0) = true := by rw [beq_iff_eq]; exact hg
            have HG := Lib.hid hg; clear hg
            have hjd : decide ((j : Int) < 8) = true := decide_eq_true hlt3
            go_wp2_with (first | refine wpList_load_Ag (by first | rfl | simp [Region.wanted, yielded, hjd]) _ rfl ha hb.blk rfl ?_ | (go_at_call 59; refine HC.out.mono ?_; rintro e w3 ⟨rfl, hx3⟩))
            refine ⟨⟨j + 1, by omega, by omega, by go_num, hb.ext ha hx3, hx.trans hx3, Lib.hid fun q h1 h2 => ?_⟩, by simp [intOf]; omega⟩
            by_cases h : q = j
            · subst h; exact HG.out
            · exact hz.out q h1 (by omega)
          · have hgb : (grp a.2 j == 0) = false := by rw [beq_eq_false_iff_ne]; exact hg
            have hzr : zr a.2 i = j - i := zr_stop hj1 hj2 hz.out (.inr hg)
            have HZR := Lib.hid hzr; clear hzr hg
            have hjd : decide ((j : Int) < 8) = true := decide_eq_true hlt3
            go_upto_region 8 with (first | refine wpList_load_Ag (by first | rfl | simp [Region.wanted, yielded, hjd]) _ rfl ha hb.blk rfl ?_ | (go_at_call 59; refine HC.out.mono ?_; rintro e w3 ⟨rfl, hx3⟩))
            have hb3 := hb.ext ha hx3
            have hxx := hx.trans hx3
            have hbb := best_bd a.2 i hi
            have hmx : max 1 (wrap64 (T - F)) = (best a.2 i).2 := by
              rw [← HT.out, ← HF.out]; unfold upto
              rcases hbb with h | ⟨h1, h2, h3, h4⟩
              · rw [h]; show max 1 (wrap64 ((if (-1 : Int) < 0 then -1 else -1 + 1) - -1)) = 1; rw [if_pos (by decide), IntWalk.wrap64_in _ (by omega)]; omega
              · rw [if_neg (by omega), show (best a.2 i).1 + (best a.2 i).2 - (best a.2 i).1 = (best a.2 i).2 by omega, IntWalk.wrap64_in _ (by omega)]; omega
            have HMX := Lib.hid hmx; have HBB := Lib.hid hbb; clear hmx hbb
            go_wp2_with fail
            all_goals rename_i hcmp
            all_goals rw [HMX.out] at hcmp
            all_goals first
              | (have hs : best a.2 (i + 1) = ((i : Int), (zr a.2 i : Int)) := by rw [best, if_pos (by have := HZR.out; omega)]
                 refine ⟨⟨i + 1, by omega, by go_num, by rw [hs], by (unfold upto; rw [hs, if_neg (by omega)]; have := HZR.out; first | rfl | (congr 1; omega)), hb3, hxx⟩, by simp [intOf]; omega⟩)
              | (have hs : best a.2 (i + 1) = best a.2 i := by rw [best, if_neg (by have := HZR.out; omega)]
                 refine ⟨⟨i + 1, by omega, by go_num, by rw [hs, HF.out], by (have h2 : upto a.2 (i + 1) = upto a.2 i := by (unfold upto; rw [hs])); rw [h2, HT.out], hb3, hxx⟩, by simp [intOf]; omega⟩)
        · obtain rfl : j = 8 := by omega
          have hzr : zr a.2 i = 8 - i := zr_stop hj1 hj2 hz.out (.inl rfl)
          have HZR := Lib.hid hzr; clear hzr
          go_upto_region 8 with fail
          have hb3 := hb
          have hxx := hx
          have hbb := best_bd a.2 i hi
          have hmx : max 1 (wrap64 (T - F)) = (best a.2 i).2 := by
            rw [← HT.out, ← HF.out]; unfold upto
            rcases hbb with h | ⟨h1, h2, h3, h4⟩
            · rw [h]; show max 1 (wrap64 ((if (-1 : Int) < 0 then -1 else -1 + 1) - -1)) = 1; rw [if_pos (by decide), IntWalk.wrap64_in _ (by omega)]; omega
            · rw [if_neg (by omega), show (best a.2 i).1 + (best a.2 i).2 - (best a.2 i).1 = (best a.2 i).2 by omega, IntWalk.wrap64_in _ (by omega)]; omega
          have HMX := Lib.hid hmx; have HBB := Lib.hid hbb; clear hmx hbb
          go_wp2_with fail
          all_goals rename_i hcmp
          all_goals rw [HMX.out] at hcmp
          all_goals first
            | (have hs : best a.2 (i + 1) = ((i : Int), (zr a.2 i : Int)) := by rw [best, if_pos (by have := HZR.out; omega)]
               refine ⟨⟨i + 1, by omega, by go_num, by rw [hs], by (unfold upto; rw [hs, if_neg (by omega)]; have := HZR.out; first | rfl | (congr 1; omega)), hb3, hxx⟩, by simp [intOf]; omega⟩)
            | (have hs : best a.2 (i + 1) = best a.2 i := by rw [best, if_neg (by have := HZR.out; omega)]
               refine ⟨⟨i + 1, by omega, by go_num, by rw [hs, HF.out], by (have h2 : upto a.2 (i + 1) = upto a.2 i := by (unfold upto; rw [hs])); rw [h2, HT.out], hb3, hxx⟩, by simp [intOf]; omega⟩)
    · obtain rfl : i = 8 := by omega
      go_wp2_with fail
      go_ret2
      exact ⟨rfl, hx⟩
end Go.Proofs.YtpdoddelnahlnaaDoor
