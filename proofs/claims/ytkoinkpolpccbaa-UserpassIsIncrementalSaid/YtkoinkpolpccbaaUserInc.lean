/-
  The law UserpassIsIncremental: the walk and its plain law.
-/
import Derived.Test.YtkoinkpolpccbaaUserL
import Derived.RegionTactic
import Derived.BigRegion
import Derived.Outline
set_option linter.unusedSimpArgs false
set_option linter.unusedVariables false
namespace Go.Proofs.Ytkoinkpolpccbaa
open Go.RowKit

@[go_sem high] theorem run_str1_under {P : Program} (w : World) (src dst e : TypeId) (hs : P.underlying src = some (.slice e)) (he : P.underlying e = some (.int .u8)) (hd : P.underlying dst = some .string) (n : Nat) (fr : Nat × Nat)
    (a : Int) (b : Nat) (hb : w.heap.size = b) (o : Obj) :
    (convert src dst (.slice (some ⟨b, 0, none⟩) 1 n)).run P (((w.alloc (.cells #[.int .u8 a] e fr)).alloc o).drew) = .ok (.string (str1 a)) (((w.alloc (.cells #[.int .u8 a] e fr)).alloc o).drew) :=
  run_strs src dst e n fr [a] b _ hs he hd (by
    show ((w.alloc (.cells #[.int .u8 a] e fr)).alloc o).heap[b]? = _
    rw [Below.heap_alloc _ _ _ (by rw [← hb]; show _ < (w.heap.push _).size; simp), ← hb]; exact (MapKept.heap_alloc w _).1)
theorem B_take (s : ByteArray) (k j : Nat) (h : j < k) : B (s.extract 0 k) j = B s j := by
  rw [B_extract _ _ _ _ (by omega), Nat.zero_add]
theorem size_take (s : ByteArray) (k : Nat) (h : k ≤ s.size) : (s.extract 0 k).size = k := by
  rw [ByteArray.size_extract]; omega

/-- what Parse says of the first k bytes: the number of bytes and the state -/
def upre (s : ByteArray) (k : Nat) : Int × Int :=
  if k = 0 then (0, 0)
  else if B s 0 ≠ 1 then (0, 2)
  else if k < 2 then (0, 0)
  else if B s 1 = 0 then (0, 2)
  else if (k : Int) < 3 + B s 1 then (0, 0)
  else if B s (2 + B s 1).toNat = 0 then (0, 2)
  else if (k : Int) < 3 + B s 1 + B s (2 + B s 1).toNat then (0, 0)
  else (3 + B s 1 + B s (2 + B s 1).toNat, 1)

theorem upre_eq (s : ByteArray) (k : Nat) (h : k ≤ s.size) : (uparse (s.extract 0 k)).2.2 = upre s k := by
  have z := size_take s k h
  have q := B_bd s 1
  unfold uparse upre
  rw [z]
  by_cases h0 : k = 0
  · rw [if_pos h0, if_pos h0]
  rw [if_neg h0, if_neg h0, B_take s k 0 (by omega)]
  by_cases h1 : k < 2
  · rw [if_pos h1, if_pos h1]; split <;> rfl
  rw [if_neg h1, if_neg h1, B_take s k 1 (by omega)]
  by_cases h2 : (k : Int) < 3 + B s 1
  · rw [if_pos h2, if_pos h2]; (repeat' split) <;> rfl
  rw [if_neg h2, if_neg h2, B_take s k (2 + B s 1).toNat (by omega)]
  (repeat' split) <;> rfl

theorem uinc (s : ByteArray) (k : Nat) :
    ((upre s (k - 1)).2 = 0 ∨ ((upre s k).2 = (upre s (k - 1)).2 ∧ (upre s k).1 = (upre s (k - 1)).1)) ∧
    ((upre s k).2 ≠ 1 ∨ (upre s (k - 1)).2 ≠ 0 ∨ (upre s k).1 = k) ∧
    ((upre s k).2 = 1 ∨ (upre s k).1 = 0) := by
  have b1 := B_bd s 1
  have b2 := B_bd s (2 + B s 1).toNat
  unfold upre
  generalize B s (2 + B s 1).toNat = m at *
  generalize B s 1 = n at *
  (repeat' split) <;> dsimp only <;> omega

set_option maxRecDepth 100000 in
set_option maxHeartbeats 4000000 in
theorem UserpassIsIncremental_walk (a : Option Addr) (an ac : Nat) (x : ByteArray) (n m : Int) (right : Bool) (w : World) (hxn : x.size = an) (hs : x.size ≤ 140737488351232)
    {G : Prop} (_ : G) (hcv0 : ∀ w', Ext w w' → (convert 22 9 (.slice a an ac)).run Try.prog w' = .ok (.string x) w') (hn : (Lit.int .u8 n).wf = true) (hm : (Lit.int .u8 m).wf = true) :
    Calls Try.prog 6 #[.slice a an ac, .int .u8 n, .int .u8 m, .bool right] w fun e w' => e = .returned (.bool true) ∧ Ext w w' := by
  have hcv : (convert 22 9 (.slice a an ac)).run Try.prog w = .ok (.string x) w := hcv0 _ (Ext.refl w)
  obtain ⟨n0, n1⟩ := toNat_wf hn
  obtain ⟨m0, m1⟩ := toNat_wf hm
  clear hcv0 hxn hn hm
  cases right
  · go_enter Try.func6, Try.ntmps6
    go_wp2_with fail
    have hX : x.size ≤ 140737488351238 := by omega
    have hW : Ext w w := Ext.refl w
    clear hs
    go_loopw [10, 11, 12] (fun was many i wr => ∃ k : Nat, k ≤ 40 ∧ i = .int .i64 k ∧ (k ≤ x.size + 1) ∧ was = .int .i64 (upre x (k - 1)).2 ∧ many = .int .i64 (upre x (k - 1)).1 ∧ Ext w wr) (fun _ _ i _ => 40 - (intOf i).toNat)
    case atStart => exact ⟨0, by omega, rfl, by omega, rfl, rfl, by assumption⟩
    case round =>
      obtain ⟨k, hk, rfl, hk2, rfl, rfl, hwr⟩ := hrel
      by_cases hlt : k ≤ x.size ∧ k < 40
      · obtain ⟨h1, h2⟩ := hlt
        have h1' : (k : Int) ≤ x.size := by omega
        have h2' : (k : Int) < 40 := by omega
        have hg := upre_eq x k h1
        have hi := uinc x k
        have hz := size_take x k h1
        have Hz := Lib.hid hz; clear hz
        have Hg := Lib.hid hg; clear hg
        generalize (upre x (k - 1)).2 = was at *
        generalize (upre x (k - 1)).1 = many at *
        have Hi := Lib.hid hi; clear hi
        go_wp2_with fail
        refine (uparse_any _ _ (by rw [Hz.out]; unfold maxLen; omega)).mono ?_
        rintro e w' ⟨rfl, nd, rfl⟩
        rw [Hg.out]
        have Hi2 := Hi.out; clear Hi
        generalize hm : (upre x k).1 = m2 at *
        generalize hst : (upre x k).2 = st at *
        have Hm := Lib.hid hm; clear hm
        have Hst := Lib.hid hst; clear hst
        have Hi := Lib.hid Hi2; clear Hi2
        go_wp2_with fail
        all_goals (have Hi2 := Hi.out; clear Hi)
        all_goals first | (exfalso; go_light; (try (simp only [Bool.and_eq_true, Bool.or_eq_true, Bool.and_eq_false_iff, Bool.or_eq_false_iff, decide_eq_true_eq, decide_eq_false_iff_not, bne_iff_ne, beq_iff_eq, ne_eq, bne_eq_false_iff_eq, beq_eq_false_iff_ne, Decidable.not_not, Bool.not_eq_true', Bool.not_eq_false'] at *)); omega) | skip
        all_goals
          go_roundw
          case rel =>
            go_light
            exact ⟨k + 1, by omega, by go_num, by omega, vint (by rw [show k + 1 - 1 = k from rfl, Hst.out]; try omega), vint (by rw [show k + 1 - 1 = k from rfl, Hm.out]; try omega), by (repeat' (first | exact Ext.refl _ | assumption | refine Ext.alloc ?_ _ | refine Ext.drew ?_ | refine Ext.drewN ?_ _ | refine Ext.trans ?_ (by assumption) | refine Ext.dr ?_ (by assumption)))⟩
          case measure => (go_light; simp [intOf]; omega)
      · by_cases h1 : k ≤ x.size
        · have h2' : ¬ (k : Int) < 40 := by omega
          have h1' : (k : Int) ≤ x.size := by omega
          go_wp2_with fail
          refine (uawake_any _).mono ?_
          rintro e w1 ⟨rfl, hx1⟩
          go_wp2_with fail
          go_ret
          exact ⟨rfl, by (repeat' (first | exact Ext.refl _ | assumption | refine Ext.alloc ?_ _ | refine Ext.drew ?_ | refine Ext.drewN ?_ _ | refine Ext.trans ?_ (by assumption) | refine Ext.dr ?_ (by assumption)))⟩
        · have h1' : ¬ (k : Int) ≤ x.size := by omega
          go_wp2_with fail
          refine (uawake_any _).mono ?_
          rintro e w1 ⟨rfl, hx1⟩
          go_wp2_with fail
          go_ret
          exact ⟨rfl, by (repeat' (first | exact Ext.refl _ | assumption | refine Ext.alloc ?_ _ | refine Ext.drew ?_ | refine Ext.drewN ?_ _ | refine Ext.trans ?_ (by assumption) | refine Ext.dr ?_ (by assumption)))⟩
  · go_enter Try.func6, Try.ntmps6
    go_wp2_with fail
    go_region
    · go_wp2_with fail
      have hX : (({ data := #[1] } : ByteArray) ++ str1 (n % 4) ++ ({ data := #[97, 98, 99] } : ByteArray).extract 0 (n % 4).toNat ++ str1 (m % 5) ++ x).size ≤ 140737488351238 := by
        have := extract_le { data := #[97, 98, 99] } 0 (n % 4).toNat
        have h3 : ({ data := #[97, 98, 99] } : ByteArray).size = 3 := rfl
        simp only [ByteArray.size_append', size_str1, ByteArray.size_mk']; simp only [h3] at this; simp; omega
      have hW : Ext w (((w.alloc (Obj.cells #[Value.int IntKind.u8 (n % 4)] 5)).alloc (Obj.cells #[Value.int IntKind.u8 (m % 5)] 5)).drew) := (((Ext.refl w).alloc _).alloc _).drew
      generalize ({ data := #[1] } : ByteArray) ++ str1 (n % 4) ++ ({ data := #[97, 98, 99] } : ByteArray).extract 0 (n % 4).toNat ++ str1 (m % 5) ++ x = y at *
      generalize ((w.alloc (Obj.cells #[Value.int IntKind.u8 (n % 4)] 5)).alloc (Obj.cells #[Value.int IntKind.u8 (m % 5)] 5)).drew = w0 at *
      clear hs
      go_loopw [10, 11, 12] (fun was many i wr => ∃ k : Nat, k ≤ 40 ∧ i = .int .i64 k ∧ (k ≤ y.size + 1) ∧ was = .int .i64 (upre y (k - 1)).2 ∧ many = .int .i64 (upre y (k - 1)).1 ∧ Ext w wr) (fun _ _ i _ => 40 - (intOf i).toNat)
      case atStart => exact ⟨0, by omega, rfl, by omega, rfl, rfl, by assumption⟩
      case round =>
        obtain ⟨k, hk, rfl, hk2, rfl, rfl, hwr⟩ := hrel
        by_cases hlt : k ≤ y.size ∧ k < 40
        · obtain ⟨h1, h2⟩ := hlt
          have h1' : (k : Int) ≤ y.size := by omega
          have h2' : (k : Int) < 40 := by omega
          have hg := upre_eq y k h1
          have hi := uinc y k
          have hz := size_take y k h1
          have Hz := Lib.hid hz; clear hz
          have Hg := Lib.hid hg; clear hg
          generalize (upre y (k - 1)).2 = was at *
          generalize (upre y (k - 1)).1 = many at *
          have Hi := Lib.hid hi; clear hi
          go_wp2_with fail
          refine (uparse_any _ _ (by rw [Hz.out]; unfold maxLen; omega)).mono ?_
          rintro e w' ⟨rfl, nd, rfl⟩
          rw [Hg.out]
          have Hi2 := Hi.out; clear Hi
          generalize hm : (upre y k).1 = m2 at *
          generalize hst : (upre y k).2 = st at *
          have Hm := Lib.hid hm; clear hm
          have Hst := Lib.hid hst; clear hst
          have Hi := Lib.hid Hi2; clear Hi2
          go_wp2_with fail
          all_goals (have Hi2 := Hi.out; clear Hi)
          all_goals first | (exfalso; go_light; (try (simp only [Bool.and_eq_true, Bool.or_eq_true, Bool.and_eq_false_iff, Bool.or_eq_false_iff, decide_eq_true_eq, decide_eq_false_iff_not, bne_iff_ne, beq_iff_eq, ne_eq, bne_eq_false_iff_eq, beq_eq_false_iff_ne, Decidable.not_not, Bool.not_eq_true', Bool.not_eq_false'] at *)); omega) | skip
          all_goals
            go_roundw
            case rel =>
              go_light
              exact ⟨k + 1, by omega, by go_num, by omega, vint (by rw [show k + 1 - 1 = k from rfl, Hst.out]; try omega), vint (by rw [show k + 1 - 1 = k from rfl, Hm.out]; try omega), by (repeat' (first | exact Ext.refl _ | assumption | refine Ext.alloc ?_ _ | refine Ext.drew ?_ | refine Ext.drewN ?_ _ | refine Ext.trans ?_ (by assumption) | refine Ext.dr ?_ (by assumption)))⟩
            case measure => (go_light; simp [intOf]; omega)
        · by_cases h1 : k ≤ y.size
          · have h2' : ¬ (k : Int) < 40 := by omega
            have h1' : (k : Int) ≤ y.size := by omega
            go_wp2_with fail
            refine (uawake_any _).mono ?_
            rintro e w1 ⟨rfl, hx1⟩
            go_wp2_with fail
            go_ret
            exact ⟨rfl, by (repeat' (first | exact Ext.refl _ | assumption | refine Ext.alloc ?_ _ | refine Ext.drew ?_ | refine Ext.drewN ?_ _ | refine Ext.trans ?_ (by assumption) | refine Ext.dr ?_ (by assumption)))⟩
          · have h1' : ¬ (k : Int) ≤ y.size := by omega
            go_wp2_with fail
            refine (uawake_any _).mono ?_
            rintro e w1 ⟨rfl, hx1⟩
            go_wp2_with fail
            go_ret
            exact ⟨rfl, by (repeat' (first | exact Ext.refl _ | assumption | refine Ext.alloc ?_ _ | refine Ext.drew ?_ | refine Ext.drewN ?_ _ | refine Ext.trans ?_ (by assumption) | refine Ext.dr ?_ (by assumption)))⟩
    · go_wp2_with fail
      have hX : (({ data := #[1] } : ByteArray) ++ str1 (n % 4) ++ ({ data := #[97, 98, 99] } : ByteArray).extract 0 (n % 4).toNat ++ str1 (m % 5) ++ x).size ≤ 140737488351238 := by
        have := extract_le { data := #[97, 98, 99] } 0 (n % 4).toNat
        have h3 : ({ data := #[97, 98, 99] } : ByteArray).size = 3 := rfl
        simp only [ByteArray.size_append', size_str1, ByteArray.size_mk']; simp only [h3] at this; simp; omega
      have hW : Ext w (((w.alloc (Obj.cells #[Value.int IntKind.u8 (m % 5)] 5)).alloc (Obj.cells #[Value.int IntKind.u8 (n % 4)] 5)).drew) := (((Ext.refl w).alloc _).alloc _).drew
      generalize ({ data := #[1] } : ByteArray) ++ str1 (n % 4) ++ ({ data := #[97, 98, 99] } : ByteArray).extract 0 (n % 4).toNat ++ str1 (m % 5) ++ x = y at *
      generalize ((w.alloc (Obj.cells #[Value.int IntKind.u8 (m % 5)] 5)).alloc (Obj.cells #[Value.int IntKind.u8 (n % 4)] 5)).drew = w0 at *
      clear hs
      go_loopw [10, 11, 12] (fun was many i wr => ∃ k : Nat, k ≤ 40 ∧ i = .int .i64 k ∧ (k ≤ y.size + 1) ∧ was = .int .i64 (upre y (k - 1)).2 ∧ many = .int .i64 (upre y (k - 1)).1 ∧ Ext w wr) (fun _ _ i _ => 40 - (intOf i).toNat)
      case atStart => exact ⟨0, by omega, rfl, by omega, rfl, rfl, by assumption⟩
      case round =>
        obtain ⟨k, hk, rfl, hk2, rfl, rfl, hwr⟩ := hrel
        by_cases hlt : k ≤ y.size ∧ k < 40
        · obtain ⟨h1, h2⟩ := hlt
          have h1' : (k : Int) ≤ y.size := by omega
          have h2' : (k : Int) < 40 := by omega
          have hg := upre_eq y k h1
          have hi := uinc y k
          have hz := size_take y k h1
          have Hz := Lib.hid hz; clear hz
          have Hg := Lib.hid hg; clear hg
          generalize (upre y (k - 1)).2 = was at *
          generalize (upre y (k - 1)).1 = many at *
          have Hi := Lib.hid hi; clear hi
          go_wp2_with fail
          refine (uparse_any _ _ (by rw [Hz.out]; unfold maxLen; omega)).mono ?_
          rintro e w' ⟨rfl, nd, rfl⟩
          rw [Hg.out]
          have Hi2 := Hi.out; clear Hi
          generalize hm : (upre y k).1 = m2 at *
          generalize hst : (upre y k).2 = st at *
          have Hm := Lib.hid hm; clear hm
          have Hst := Lib.hid hst; clear hst
          have Hi := Lib.hid Hi2; clear Hi2
          go_wp2_with fail
          all_goals (have Hi2 := Hi.out; clear Hi)
          all_goals first | (exfalso; go_light; (try (simp only [Bool.and_eq_true, Bool.or_eq_true, Bool.and_eq_false_iff, Bool.or_eq_false_iff, decide_eq_true_eq, decide_eq_false_iff_not, bne_iff_ne, beq_iff_eq, ne_eq, bne_eq_false_iff_eq, beq_eq_false_iff_ne, Decidable.not_not, Bool.not_eq_true', Bool.not_eq_false'] at *)); omega) | skip
          all_goals
            go_roundw
            case rel =>
              go_light
              exact ⟨k + 1, by omega, by go_num, by omega, vint (by rw [show k + 1 - 1 = k from rfl, Hst.out]; try omega), vint (by rw [show k + 1 - 1 = k from rfl, Hm.out]; try omega), by (repeat' (first | exact Ext.refl _ | assumption | refine Ext.alloc ?_ _ | refine Ext.drew ?_ | refine Ext.drewN ?_ _ | refine Ext.trans ?_ (by assumption) | refine Ext.dr ?_ (by assumption)))⟩
            case measure => (go_light; simp [intOf]; omega)
        · by_cases h1 : k ≤ y.size
          · have h2' : ¬ (k : Int) < 40 := by omega
            have h1' : (k : Int) ≤ y.size := by omega
            go_wp2_with fail
            refine (uawake_any _).mono ?_
            rintro e w1 ⟨rfl, hx1⟩
            go_wp2_with fail
            go_ret
            exact ⟨rfl, by (repeat' (first | exact Ext.refl _ | assumption | refine Ext.alloc ?_ _ | refine Ext.drew ?_ | refine Ext.drewN ?_ _ | refine Ext.trans ?_ (by assumption) | refine Ext.dr ?_ (by assumption)))⟩
          · have h1' : ¬ (k : Int) ≤ y.size := by omega
            go_wp2_with fail
            refine (uawake_any _).mono ?_
            rintro e w1 ⟨rfl, hx1⟩
            go_wp2_with fail
            go_ret
            exact ⟨rfl, by (repeat' (first | exact Ext.refl _ | assumption | refine Ext.alloc ?_ _ | refine Ext.drew ?_ | refine Ext.drewN ?_ _ | refine Ext.trans ?_ (by assumption) | refine Ext.dr ?_ (by assumption)))⟩
end Go.Proofs.Ytkoinkpolpccbaa
