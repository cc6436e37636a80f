/-
  hostChars; HostParsesExactly.
-/
import Derived.Test.YtpdoddelnahlnaaGreatDoorHoX
import Derived.Test.YtpdoddelnahlnaaGreatDoorIpFm
set_option linter.unusedSimpArgs false
set_option linter.unusedVariables false
namespace Go.Proofs.YtpdoddelnahlnaaGreatDoor
open Go.RowKit Go.Joins
def hostCs : List UInt8 := [97, 97, 97, 98, 122, 90, 48, 57, 45, 46, 46, 46, 58, 91, 93, 56]
def hchC (x : ByteArray) : Nat → List UInt8
  | 0 => []
  | k + 1 => hchC x k ++ [hostCs.getD ((B x k).toNat % 16) 0]
theorem hchC_len (x : ByteArray) : ∀ k, (hchC x k).length = k
  | 0 => rfl
  | k + 1 => by rw [hchC, List.length_append, hchC_len x k]; rfl
theorem hostCs_at : ∀ r : Fin 16, B ⟨#[97, 97, 97, 98, 122, 90, 48, 57, 45, 46, 46, 46, 58, 91, 93, 56]⟩ r.1 = ((hostCs.getD r.1 0).toNat : Int) := by decide
/-- the bytes of a []byte that came in -/
def BytesIn (w : World) (a : Option Addr) (n c : Nat) (x : ByteArray) : Prop :=
  (a = none ∧ n = 0 ∧ c = 0) ∨ ∃ ad, a = some ad ∧ n ≤ c ∧ c ≤ 140737488351232 ∧ (0 < n → ∃ b off, ad = ⟨b, off, none⟩ ∧ b < w.heap.size ∧ ∀ i, i < n → w.cell? ⟨b, off + i, none⟩ = some (.int .u8 (B x i)))
theorem BytesIn.ext {w w' : World} {a : Option Addr} {n c : Nat} {x : ByteArray} (h : BytesIn w a n c x) (k : Ext w w') : BytesIn w' a n c x := by
  rcases h with h | ⟨ad, h1, h2, h3, h4⟩
  · exact .inl h
  · refine .inr ⟨ad, h1, h2, h3, fun hp => ?_⟩
    obtain ⟨b, off, e, hb, hc⟩ := h4 hp
    exact ⟨b, off, e, Nat.lt_of_lt_of_le hb k.size, fun i hi => by rw [k.cell (show (⟨b, off + i, none⟩ : Addr).block < _ from hb)]; exact hc i hi⟩
def hchS (n : Nat) (x : ByteArray) : ByteArray := txt (hchC x (min n 70))
set_option maxRecDepth 4000 in
set_option maxHeartbeats 4000000 in
theorem hchS_any (a : Option Addr) (n c : Nat) (x : ByteArray) (w : World) (hn : n ≤ 140737488351232) (hin : BytesIn w a n c x) :
    Calls Tryz.prog 13 #[.slice a n c] w fun e w' => e = .returned (.string (hchS n x)) ∧ Ext w w' := by
  obtain ⟨i0, hi, hz0, hz1, hz2⟩ := info_parts info8
  have HI := Lib.hid hi; have HZ0 := Lib.hid hz0; have HZ1 := Lib.hid hz1; have HZ2 := Lib.hid hz2
  clear hi hz0 hz1 hz2
  have HIN := Lib.hid hin; clear hin
  go_enter Tryz.func13, Tryz.ntmps13
  go_wp2_with fail
  go_loopw [3, 4] (fun v i wr => ∃ k : Nat, k ≤ n ∧ k ≤ 70 ∧ i = .int .i64 k ∧ wr.ownsRow w.heap.size 5 1 v k (bcells (hchC x k)) ∧ Ext w wr) (fun _ i _ => 70 - (intOf i).toNat)
  case atStart => exact ⟨0, Nat.zero_le _, Nat.zero_le _, rfl, World.ownsRow_nil _ _ _ _, Ext.refl _⟩
  case round =>
    obtain ⟨k, hk, hk70, rfl, hown, hx⟩ := hrel
    have hsz := hx.size
    obtain ⟨va, vc, rfl⟩ := own_sliceX hown
    by_cases hlt : k < n
    · have hlt' : (k : Int) < n := by omega
      have hd1 : decide ((k : Int) < n) = true := decide_eq_true hlt'
      by_cases h70 : k < 70
      · have h70' : (k : Int) < 70 := by omega
        have hd2 : decide ((k : Int) < 70) = true := decide_eq_true h70'
        rcases HIN.out.ext hx with ⟨_, h0, _⟩ | ⟨ad, rfl, hnc, hc, hcell⟩
        · omega
        · obtain ⟨b, off, rfl, hb, hcell⟩ := hcell (by omega)
          have hck := hcell k hlt
          have hbk := B_bd x k
          obtain ⟨m, hm⟩ : ∃ m : Nat, B x k = m := ⟨(B x k).toNat, by omega⟩
          have hadd : hchC x (k + 1) = hchC x k ++ [hostCs.getD (m % 16) 0] := by rw [hchC, hm]; rfl
          have HADD := Lib.hid hadd; clear hadd
          rw [hm] at hck hbk
          have hm2 : ((m : Int).tmod 16) = ((m % 16 : Nat) : Int) := by rw [Int.tmod_eq_emod_of_nonneg (by omega)]; omega
          have hr : m % 16 < 16 := Nat.mod_lt _ (by decide)
          have hat := hostCs_at ⟨m % 16, hr⟩
          simp only at hat
          generalize m % 16 = r at *
          generalize hostCs.getD r 0 = ch at *
          have hr' : (r : Int) < 16 := by omega
          clear hcell hm
          go_wp2_with (at_builtin; refine wpList_append_own _ rfl _ _ 22 rfl w.heap.size 5 i0 (.int .u8 0) 1 1 Tryz.underlying22 HI.out HZ0.out HZ1.out HZ2.out rfl (by decide) _ _ _ rfl (hown.alloc _) ⟨wr.heap.size, 0, none⟩ 1 1 [.int .u8 ch.toNat] rfl rfl ?c1 ?c2 ?c3 ?c4 ?c5 ?_)
          case c1 =>
            intro j u hj
            have B1 := Blk.new wr #[Value.int .u8 ch.toNat] 5
            have e1 : (⟨wr.heap.size, 0, none⟩ : Addr).add j = ⟨wr.heap.size, j, none⟩ := by unfold Addr.add; split <;> simp_all
            rw [e1]
            exact B1.cell hj
          case c2 => simp [Value.oneCell']
          case c3 => unfold maxLen; omega
          case c4 => omega
          case c5 => first | omega | (rw [World.size_alloc]; omega)
          intro v' w7 hown' hgrow _
          have hlv := hown.lt
          have hx7 : Ext w w7 := Ext.grown (hx.alloc _) hgrow (fun g hg => (hlv g hg).1)
          obtain ⟨vb, vd, rfl⟩ := own_sliceX hown'
          have hown7 : w7.ownsRow w.heap.size 5 1 (.slice vb (k + 1) vd) (k + 1) (bcells (hchC x (k + 1))) := by
            rw [HADD.out, bcells_app]; exact hown'
          have HO7 := Lib.hid hown7
          clear hown' hown hgrow hx hown7
          go_wp2_with fail
          go_roundw
          case rel => exact ⟨k + 1, by omega, by omega, by go_num, HO7.out, hx7⟩
          case measure => simp [intOf]; omega
      · have h70' : ¬ (k : Int) < 70 := by omega
        have hd2 : decide ((k : Int) < 70) = false := decide_eq_false h70'
        have E : Hid (hchS n x = txt (hchC x k)) := Lib.hid (by unfold hchS; rw [show min n 70 = k by omega])
        have hlen := hchC_len x k
        have hown2 : wr.ownsRow w.heap.size 5 1 (.slice va k vc) k (bcells (hchC x k)) := hown
        have hcv := own_str (P := Tryz.prog) hown2 Tryz.underlying22 Tryz.underlying5 Tryz.underlying9
        have HOW := Lib.hid hown; clear hown hown2
        go_wp2_with fail
        go_ret
        exact ⟨by rw [E.out]; rfl, hx⟩
    · have hlt' : ¬ (k : Int) < n := by omega
      have hd1 : decide ((k : Int) < n) = false := decide_eq_false hlt'
      have E : Hid (hchS n x = txt (hchC x k)) := Lib.hid (by unfold hchS; rw [show min n 70 = k by omega])
      have hown2 : wr.ownsRow w.heap.size 5 1 (.slice va k vc) k (bcells (hchC x k)) := hown
      have hcv := own_str (P := Tryz.prog) hown2 Tryz.underlying22 Tryz.underlying5 Tryz.underlying9
      have HOW := Lib.hid hown; clear hown hown2
      go_wp2_with fail
      go_ret
      exact ⟨by rw [E.out]; rfl, hx⟩
set_option maxRecDepth 8000 in
set_option maxHeartbeats 4000000 in
theorem HostParsesExactly_walk (s : ByteArray) (a : Option Addr) (n c : Nat) (x : ByteArray) (_ : s.size ≤ 140737488351232) (hxn : x.size = n) (hxs : x.size ≤ 140737488351232)
    (w : World) (henv : Env w) (htabs : Tabs w) (hs0 : s.size < 1048576) (hin : BytesIn w a n c x) :
    Calls Tryz.prog 3 #[.string s, .slice a n c] w fun e w' => e = .returned (.bool true) ∧ Ext w w' := by
  have hn : n ≤ 140737488351232 := by omega
  have hsz : (hchS n x).size ≤ 70 := by unfold hchS; rw [txt_size, hchC_len]; omega
  have q1 := fun (w' : World) (h : Ext w w') => agrees_any s (by omega) w' (henv.ext h)
  have q2 := fun (w' : World) (h : Ext w w') => hchS_any a n c x w' hn (hin.ext h)
  generalize hchS n x = t at *
  have q3 := fun (w' : World) (h : Ext w w') => agrees_any t (by omega) w' (henv.ext h)
  have q4 := fun (w' : World) (h : Ext w w') => agrees_any (s ++ ⟨#[58, 56, 48]⟩) (by rw [ByteArray.size_append]; show s.size + 3 < _; omega) w' (henv.ext h)
  have q5 := fun (w' : World) (h : Ext w w') => agrees_any (⟨#[91]⟩ ++ t ++ ⟨#[93, 58, 52, 52, 51]⟩) (by rw [ByteArray.size_append, ByteArray.size_append]; show 1 + t.size + 5 < _; omega) w' (henv.ext h)
  have q0 := fun (w' : World) (h : Ext w w') => awake08 w' (henv.ext h) (htabs.ext h)
  have y1 : ¬ 9223372036854775807 < s.size + 3 := by omega
  have y2 : ¬ 9223372036854775807 < 1 + t.size := by omega
  have y3 : ¬ 9223372036854775807 < 1 + t.size + 5 := by omega
  clear hs0 hxn hxs hn hsz hin
  go_enter Tryz.func3, Tryz.ntmps3
  go_upto_region 1 with fail
  refine wp_region_rgs ?_
  first
    | (apply goV_skip (by intro u; rfl))
    | (apply goV_call (by intro u; rfl) q0; · (intro u w hSw hF; go_simp; try with_reducible rfl))
  try simp only [Act.put, List.setIfInBounds_toArray, List.set_cons_zero, List.set_cons_succ]
  first
    | (apply goV_skip (by intro u; rfl))
    | (apply goV_val _ (by intro u; rfl); · (intro u w hSw hF; go_simp; try with_reducible rfl))
  try simp only [Act.put, List.setIfInBounds_toArray, List.set_cons_zero, List.set_cons_succ]
  first
    | (apply goV_skip (by intro u; rfl))
    | (apply goV_val _ (by intro u; rfl); · (intro u w hSw hF; go_simp; try with_reducible rfl))
  try simp only [Act.put, List.setIfInBounds_toArray, List.set_cons_zero, List.set_cons_succ]
  first
    | (apply goV_skip (by intro u; rfl))
    | (apply goV_call (by intro u; rfl) q1; · (intro u w hSw hF; go_simp; try with_reducible rfl))
  try simp only [Act.put, List.setIfInBounds_toArray, List.set_cons_zero, List.set_cons_succ]
  first
    | (apply goV_skip (by intro u; rfl))
    | (apply goV_val _ (by intro u; rfl); · (intro u w hSw hF; go_simp; try with_reducible rfl))
  try simp only [Act.put, List.setIfInBounds_toArray, List.set_cons_zero, List.set_cons_succ]
  first
    | (apply goV_skip (by intro u; rfl))
    | (apply goV_val _ (by intro u; rfl); · (intro u w hSw hF; go_simp; try with_reducible rfl))
  try simp only [Act.put, List.setIfInBounds_toArray, List.set_cons_zero, List.set_cons_succ]
  first
    | (apply goV_skip (by intro u; rfl))
    | (apply goV_val _ (by intro u; rfl); · (intro u w hSw hF; go_simp; try with_reducible rfl))
  try simp only [Act.put, List.setIfInBounds_toArray, List.set_cons_zero, List.set_cons_succ]
  first
    | (apply goV_skip (by intro u; rfl))
    | (apply goV_call (by intro u; rfl) q2; · (intro u w hSw hF; go_simp; try with_reducible rfl))
  try simp only [Act.put, List.setIfInBounds_toArray, List.set_cons_zero, List.set_cons_succ]
  first
    | (apply goV_skip (by intro u; rfl))
    | (apply goV_call (by intro u; rfl) q3; · (intro u w hSw hF; go_simp; try with_reducible rfl))
  try simp only [Act.put, List.setIfInBounds_toArray, List.set_cons_zero, List.set_cons_succ]
  first
    | (apply goV_skip (by intro u; rfl))
    | (apply goV_val _ (by intro u; rfl); · (intro u w hSw hF; go_simp; try with_reducible rfl))
  try simp only [Act.put, List.setIfInBounds_toArray, List.set_cons_zero, List.set_cons_succ]
  first
    | (apply goV_skip (by intro u; rfl))
    | (apply goV_val _ (by intro u; rfl); · (intro u w hSw hF; go_simp; try with_reducible rfl))
  try simp only [Act.put, List.setIfInBounds_toArray, List.set_cons_zero, List.set_cons_succ]
  first
    | (apply goV_skip (by intro u; rfl))
    | (apply goV_val _ (by intro u; rfl); · (intro u w hSw hF; go_simp; try with_reducible rfl))
  try simp only [Act.put, List.setIfInBounds_toArray, List.set_cons_zero, List.set_cons_succ]
  first
    | (apply goV_skip (by intro u; rfl))
    | (apply goV_val _ (by intro u; rfl); · (intro u w hSw hF; go_simp; try with_reducible rfl))
  try simp only [Act.put, List.setIfInBounds_toArray, List.set_cons_zero, List.set_cons_succ]
  first
    | (apply goV_skip (by intro u; rfl))
    | (apply goV_call (by intro u; rfl) q4; · (intro u w hSw hF; go_simp; try with_reducible rfl))
  try simp only [Act.put, List.setIfInBounds_toArray, List.set_cons_zero, List.set_cons_succ]
  first
    | (apply goV_skip (by intro u; rfl))
    | (apply goV_val _ (by intro u; rfl); · (intro u w hSw hF; go_simp; try with_reducible rfl))
  try simp only [Act.put, List.setIfInBounds_toArray, List.set_cons_zero, List.set_cons_succ]
  first
    | (apply goV_skip (by intro u; rfl))
    | (apply goV_val _ (by intro u; rfl); · (intro u w hSw hF; go_simp; try with_reducible rfl))
  try simp only [Act.put, List.setIfInBounds_toArray, List.set_cons_zero, List.set_cons_succ]
  first
    | (apply goV_skip (by intro u; rfl))
    | (apply goV_val _ (by intro u; rfl); · (intro u w hSw hF; go_simp; try with_reducible rfl))
  try simp only [Act.put, List.setIfInBounds_toArray, List.set_cons_zero, List.set_cons_succ]
  first
    | (apply goV_skip (by intro u; rfl))
    | (apply goV_call (by intro u; rfl) q2; · (intro u w hSw hF; go_simp; try with_reducible rfl))
  try simp only [Act.put, List.setIfInBounds_toArray, List.set_cons_zero, List.set_cons_succ]
  first
    | (apply goV_skip (by intro u; rfl))
    | (apply goV_val _ (by intro u; rfl); · (intro u w hSw hF; go_simp; try with_reducible rfl))
  try simp only [Act.put, List.setIfInBounds_toArray, List.set_cons_zero, List.set_cons_succ]
  first
    | (apply goV_skip (by intro u; rfl))
    | (apply goV_val _ (by intro u; rfl); · (intro u w hSw hF; go_simp; try with_reducible rfl))
  try simp only [Act.put, List.setIfInBounds_toArray, List.set_cons_zero, List.set_cons_succ]
  first
    | (apply goV_skip (by intro u; rfl))
    | (apply goV_call (by intro u; rfl) q5; · (intro u w hSw hF; go_simp; try with_reducible rfl))
  try simp only [Act.put, List.setIfInBounds_toArray, List.set_cons_zero, List.set_cons_succ]
  first
    | (apply goV_skip (by intro u; rfl))
    | (apply goV_val _ (by intro u; rfl); · (intro u w hSw hF; go_simp; try with_reducible rfl))
  try simp only [Act.put, List.setIfInBounds_toArray, List.set_cons_zero, List.set_cons_succ]
  first
    | (apply goV_skip (by intro u; rfl))
    | (apply goV_val _ (by intro u; rfl); · (intro u w hSw hF; go_simp; try with_reducible rfl))
  try simp only [Act.put, List.setIfInBounds_toArray, List.set_cons_zero, List.set_cons_succ]
  intro u w5 hx5 _
  go_wp2
  go_ret
  exact ⟨rfl, hx5⟩
end Go.Proofs.YtpdoddelnahlnaaGreatDoor
