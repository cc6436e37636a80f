/-
  The reference's Alloc, and help.Equal of two lists of handles.
-/
import Derived.Test.YtkoinkpolpccbaaRefArena
set_option linter.unusedSimpArgs false
set_option linter.unusedVariables false
namespace Go.Proofs.Ytkoinkpolpccbaa
open Go.RowKit

theorem IsRef.slot {w : World} {p q : Nat} {l : List Sl} (h : IsRef w p q l) {i : Nat} {s : Sl} (hs : l[i]? = some s) (g : Int) (b : Bool) (v v0 : Value) (hv : s.x = [v0]) :
    IsRef (((w.setCell ⟨q, i * 3, none⟩ (.int .i64 g)).setCell ⟨q, i * 3 + 1, none⟩ (.bool b)).setCell ⟨q, i * 3 + 2, none⟩ v) p q (l.set i ⟨g, b, [v]⟩) := by
  have A := h.setAt i s ⟨g, s.taken, s.x⟩ hs 0 (by omega) (.int .i64 g) (by simp [Sl.cells])
  have B := A.setAt i _ ⟨g, b, s.x⟩ (get_set_self hs) 1 (by omega) (.bool b) (by simp [Sl.cells])
  have C := B.setAt i _ ⟨g, b, [v]⟩ (get_set_self (get_set_self hs)) 2 (by omega) v (by simp [Sl.cells, hv])
  rw [List.set_set, List.set_set] at C
  exact C

set_option maxRecDepth 100000 in
set_option maxHeartbeats 2000000 in
theorem ralloc_full (w : World) (p q : Nat) (l : List Sl) (x : Int) (h : IsRef w p q l) (hall : ∀ i, i < l.length → ∃ s, l[i]? = some s ∧ s.taken = true) :
    Calls Try.prog 42 #[.pointer (some ⟨p, 0, none⟩), .int .i64 x] w fun e w' => e = .returned (.tuple #[.agg #[.int .i64 0, .int .i64 0], .bool false]) ∧ Ext w w' := by
  have hlen := h.len
  have hpw := h.top.lt
  have hqw := h.row.lt
  have HA := Lib.hid (h.alloc (Obj.cells #[.int .i64 0, .int .i64 0] 48)); have Hall := Lib.hid hall
  have HR := Blk.new w #[.int .i64 0, .int .i64 0] 48
  clear h hall
  go_enter Try.func42, Try.ntmps42
  go_wp2_with fail
  have hp0 := HA.out.top.cell (i := 0) rfl
  go_loop [6] (fun i => ∃ k : Nat, k ≤ l.length ∧ i = .int .i64 k) (fun i => l.length - (intOf i).toNat)
  case atStart => exact ⟨0, Nat.zero_le _, rfl⟩
  case round =>
    obtain ⟨k, hk, rfl⟩ := hrel
    by_cases hlt : k < l.length
    · obtain ⟨s, hs, ht⟩ := Hall.out k hlt
      have hlt' : (k : Int) < l.length := by omega
      have hs1 := HA.out.taken hs
      rw [ht] at hs1
      clear hs ht
      have HR' := Lib.hid HR; clear HR
      go_wp2_with fail
      go_round
      case rel => exact ⟨k + 1, by omega, by go_num⟩
      case measure => simp [intOf]; omega
    · obtain rfl : k = l.length := by omega
      have hlt' : ¬ ((l.length : Nat) : Int) < l.length := by omega
      have hr0 := HR.cell (i := 0) rfl
      have hr1 := HR.cell (i := 1) rfl
      have hf0 := HR.free 0
      have hf1 := HR.free 1
      have HR' := Lib.hid HR; clear HR
      go_wp2_with fail
      refine bodyPost_ret (v := .tuple #[.agg #[.int .i64 0, .int .i64 0], .bool false]) (by simp [results, Try.results42, go_sem, hr0, hr1]) rfl ⟨rfl, by (repeat' (first | exact Ext.refl _ | assumption | refine Ext.alloc ?_ _ | refine Ext.drew ?_ | refine Ext.setCell ?_ (Nat.le_refl _) _ | refine Ext.setCell ?_ (Nat.le_add_right _ _) _ | refine Ext.drewN ?_ _ | refine Ext.trans ?_ (by assumption) | refine Ext.dr ?_ (by assumption)))⟩

set_option maxRecDepth 100000 in
set_option maxHeartbeats 4000000 in
theorem ralloc_hit (w : World) (p q : Nat) (l : List Sl) (x : Int) (f : Nat) (s0 : Sl) (v0 : Int) (h : IsRef w p q l) (hs0 : l[f]? = some s0) (ht0 : s0.taken = false) (hv0 : s0.x = [.int .i64 v0])
    (hg1 : -9223372036854775808 ≤ s0.gen) (hg2 : s0.gen < 9223372036854775807) (hall : ∀ i, i < f → ∃ s, l[i]? = some s ∧ s.taken = true) :
    Calls Try.prog 42 #[.pointer (some ⟨p, 0, none⟩), .int .i64 x] w fun e w' => e = .returned (.tuple #[.agg #[.int .i64 f, .int .i64 (s0.gen + 1)], .bool true]) ∧ IsRef w' p q (l.set f ⟨s0.gen + 1, true, [.int .i64 x]⟩) ∧ Keep [q] w w' := by
  have hlen := h.len
  have hpw := h.top.lt
  have hqw := h.row.lt
  have hpq := h.ne
  have hfl : f < l.length := by
    rcases Nat.lt_or_ge f l.length with h1 | h1
    · exact h1
    · rw [List.getElem?_eq_none h1] at hs0; cases hs0
  have HA := Lib.hid h; have Hall := Lib.hid hall
  have HR := Blk.new w #[.int .i64 0, .int .i64 0] 48
  have Hs0 := Lib.hid hs0; have Ht0 := Lib.hid ht0; have Hv0 := Lib.hid hv0
  clear h hall hs0 ht0 hv0
  go_enter Try.func42, Try.ntmps42
  go_wp2_with fail
  have hp0 := HA.out.top.cell (i := 0) rfl
  go_loop [6] (fun i => ∃ k : Nat, k ≤ f ∧ i = .int .i64 k) (fun i => f - (intOf i).toNat)
  case atStart => exact ⟨0, Nat.zero_le _, rfl⟩
  case round =>
    obtain ⟨k, hk, rfl⟩ := hrel
    by_cases hlt : k < f
    · obtain ⟨s, hs, ht⟩ := Hall.out k hlt
      have hlt' : (k : Int) < l.length := by omega
      have hs1 := HA.out.taken hs
      rw [ht] at hs1
      clear hs ht
      have HR' := Lib.hid HR; clear HR
      go_wp2_with fail
      go_round
      case rel => exact ⟨k + 1, by omega, by go_num⟩
      case measure => simp [intOf]; omega
    · obtain rfl : k = f := by omega
      have hlt' : (k : Int) < l.length := by omega
      have hs0 := HA.out.gen Hs0.out
      have hs1 := HA.out.taken Hs0.out
      have hs2 := HA.out.val Hs0.out Hv0.out
      rw [Ht0.out] at hs1
      have hq0 := HA.out.row.free (k * 3)
      have hq1 := HA.out.row.free (k * 3 + 1)
      have hq2 := HA.out.row.free (k * 3 + 2)
      have hr0 := HR.cell (i := 0) rfl
      have hr1 := HR.cell (i := 1) rfl
      have hf0 := HR.free 0
      have hf1 := HR.free 1
      have npq : ¬ p = q := hpq
      have nqp : ¬ q = p := fun e => hpq e.symm
      have nwp : ¬ w.heap.size = p := by omega
      have nwq : ¬ w.heap.size = q := by omega
      have nqw : ¬ q = w.heap.size := by omega
      have npw : ¬ p = w.heap.size := by omega
      have HR' := Lib.hid HR; clear HR
      go_wp2_with fail
      go_region
      go_wp2_with fail
      refine bodyPost_ret (v := .tuple #[.agg #[.int .i64 k, .int .i64 (s0.gen + 1)], .bool true]) (by simp [results, Try.results42, go_sem, hr0, hr1, nwp, nwq, nqw, npw]) rfl ⟨rfl, ?_, ?_⟩
      · exact ((HA.out.slot Hs0.out (s0.gen + 1) true (.int .i64 x) (.int .i64 v0) Hv0.out).alloc _).drew
      · skip
        repeat' (first | with_reducible exact Keep.refl _ _ | with_reducible refine Keep.drewN ?_ _ | with_reducible refine Keep.drew ?_ | with_reducible refine Keep.alloc ?_ _ | with_reducible refine Keep.setCell ?_ ?_ _)
        all_goals first | exact .inr (Nat.le_refl _) | exact .inl (by simp) | exact .inr (by simp)

theorem owned_at {w : World} {base : Nat} {e : TypeId} {n : Nat} {g cap : Nat} {hs : List (Int × Int)} (h : w.ownsRow base e 2 (.slice (some ⟨g, 0, none⟩) n cap) n (hcells hs)) {j : Nat} {a : Int × Int} (hj : hs[j]? = some a) :
    w.cell? ⟨g, j * 2, none⟩ = some (.int .i64 a.1) ∧ w.cell? ⟨g, j * 2 + 1, none⟩ = some (.int .i64 a.2) := by
  have hc : ∀ (hs : List (Int × Int)) (j : Nat), hs[j]? = some a → (hcells hs)[j * 2]? = some (.int .i64 a.1) ∧ (hcells hs)[j * 2 + 1]? = some (.int .i64 a.2) := by
    intro hs
    induction hs with
    | nil => intro j h; simp at h
    | cons b hs ih =>
      intro j h
      rcases j with _ | j
      · simp at h; subst h; simp [hcells]
      · have := ih j (by simpa using h)
        have e : hcells (b :: hs) = [.int .i64 b.1, .int .i64 b.2] ++ hcells hs := by simp [hcells]
        rw [e, show (j + 1) * 2 = 2 + j * 2 from by omega]
        refine ⟨?_, ?_⟩
        · rw [List.getElem?_append_right (by simp)]; simpa using this.1
        · rw [List.getElem?_append_right (by simp; omega), show 2 + j * 2 + 1 - ([Value.int .i64 b.1, Value.int .i64 b.2]).length = j * 2 + 1 from by simp; omega]; exact this.2
  obtain ⟨a1, a2⟩ := hc hs j hj
  have e1 : ∀ k, (⟨g, 0, none⟩ : Addr).add k = ⟨g, k, none⟩ := by intro k; unfold Addr.add; split <;> simp_all
  have b1 := h.cells (g := g) rfl _ _ a1
  have b2 := h.cells (g := g) rfl _ _ a2
  rw [e1] at b1 b2
  exact ⟨b1, b2⟩

set_option maxHeartbeats 1000000 in
theorem heqOne_any (a b : Int) (w : World) :
    Calls Try.prog 62 #[.agg #[.int .i64 a, .int .i64 b], .agg #[.int .i64 a, .int .i64 b]] w fun e w' => e = .returned (.bool true) ∧ Ext w w' := by
  go_enter Try.func62, Try.ntmps62
  go_wp2_with fail
  go_ret
  exact ⟨rfl, by (repeat' (first | exact Ext.refl _ | assumption | refine Ext.alloc ?_ _ | refine Ext.drew ?_ | refine Ext.setCell ?_ (Nat.le_refl _) _ | refine Ext.setCell ?_ (Nat.le_add_right _ _) _ | refine Ext.drewN ?_ _ | refine Ext.trans ?_ (by assumption) | refine Ext.dr ?_ (by assumption)))⟩

/-- two lists of handles of the call's own, alike -/
def HOwn (w : World) (v : Value) (hs : List (Int × Int)) : Prop := (v = .slice none 0 0 ∧ hs = []) ∨ ∃ g cap, v = .slice (some ⟨g, 0, none⟩) hs.length cap ∧ hs.length ≤ cap ∧ g < w.heap.size ∧ ∀ j a, hs[j]? = some a → w.cell? ⟨g, j * 2, none⟩ = some (.int .i64 a.1) ∧ w.cell? ⟨g, j * 2 + 1, none⟩ = some (.int .i64 a.2)
theorem HOwn.of {w : World} {base : Nat} {e : TypeId} {v : Value} {hs : List (Int × Int)} (h : w.ownsRow base e 2 v hs.length (hcells hs)) : HOwn w v hs := by
  have h0 := h
  obtain ⟨_, ⟨rfl, h1⟩ | ⟨g, cap, cur, rfl, hb, hg, hn, hm, hsz, ht⟩⟩ := h
  · exact .inl ⟨rfl, List.length_eq_zero_iff.1 h1⟩
  · refine .inr ⟨g, cap, rfl, hn, ?_, fun j a hj => owned_at h0 hj⟩
    rcases Nat.lt_or_ge g w.heap.size with h1 | h1
    · exact h1
    · rw [Array.getElem?_eq_none h1] at hg; cases hg
theorem HOwn.ext {w w' : World} {v : Value} {hs : List (Int × Int)} (h : HOwn w v hs) (k : Ext w w') : HOwn w' v hs := by
  rcases h with h | ⟨g, cap, e, hc, hg, hh⟩
  · exact .inl h
  · exact .inr ⟨g, cap, e, hc, Nat.lt_of_lt_of_le hg k.size, fun j a hj => ⟨(k.cell (p := ⟨g, j * 2, none⟩) hg).trans (hh j a hj).1, (k.cell (p := ⟨g, j * 2 + 1, none⟩) hg).trans (hh j a hj).2⟩⟩

set_option maxHeartbeats 1000000 in
theorem heqFunc_any (u v : Value) (hs : List (Int × Int)) (w : World) (hu : HOwn w u hs) (hv : HOwn w v hs) (hlen : hs.length ≤ 4096) :
    Calls Try.prog 61 #[u, v, .func (.func 62) #[] #[]] w fun e w' => e = .returned (.bool true) ∧ Ext w w' := by
  rcases hu with ⟨rfl, rfl⟩ | ⟨g, cap, rfl, hc, hg, hh⟩
  · rcases hv with ⟨rfl, _⟩ | ⟨g2, cap2, rfl, _⟩
    all_goals
      go_enter Try.func61, Try.ntmps61
      go_wp2_with fail
      go_loop [7] (fun i => i = .int .i64 0) (fun _ => 0)
      case atStart => rfl
      case round =>
        obtain rfl := hrel
        go_wp2_with fail
        go_ret
        exact ⟨rfl, by (repeat' (first | exact Ext.refl _ | assumption | refine Ext.alloc ?_ _ | refine Ext.drew ?_ | refine Ext.setCell ?_ (Nat.le_refl _) _ | refine Ext.setCell ?_ (Nat.le_add_right _ _) _ | refine Ext.drewN ?_ _ | refine Ext.trans ?_ (by assumption) | refine Ext.dr ?_ (by assumption)))⟩
  · rcases hv with ⟨rfl, rfl⟩ | ⟨g2, cap2, rfl, hc2, hg2, hh2⟩
    · go_enter Try.func61, Try.ntmps61
      go_wp2_with fail
      go_loop [7] (fun i => i = .int .i64 0) (fun _ => 0)
      case atStart => rfl
      case round =>
        obtain rfl := hrel
        go_wp2_with fail
        go_ret
        exact ⟨rfl, by (repeat' (first | exact Ext.refl _ | assumption | refine Ext.alloc ?_ _ | refine Ext.drew ?_ | refine Ext.setCell ?_ (Nat.le_refl _) _ | refine Ext.setCell ?_ (Nat.le_add_right _ _) _ | refine Ext.drewN ?_ _ | refine Ext.trans ?_ (by assumption) | refine Ext.dr ?_ (by assumption)))⟩
    · have Hh := Lib.hid hh; have Hh2 := Lib.hid hh2; clear hh hh2
      go_enter Try.func61, Try.ntmps61
      go_wp2_with fail
      go_loopw [7] (fun i wr => ∃ k : Nat, k ≤ hs.length ∧ i = .int .i64 k ∧ Ext w wr) (fun i _ => hs.length - (intOf i).toNat)
      case atStart => exact ⟨0, Nat.zero_le _, rfl, Ext.refl _⟩
      case round =>
        obtain ⟨k, hk, rfl, hx⟩ := hrel
        by_cases hlt : k < hs.length
        · have hlt' : (k : Int) < hs.length := by omega
          obtain ⟨a, ha⟩ : ∃ a, hs[k]? = some a := ⟨hs[k], List.getElem?_eq_getElem hlt⟩
          have hS : ∀ w', Ext w w' → Ext w w' ∧ w'.cell? ⟨g, k * 2, none⟩ = some (.int .i64 a.1) ∧ w'.cell? ⟨g, k * 2 + 1, none⟩ = some (.int .i64 a.2) ∧ w'.cell? ⟨g2, k * 2, none⟩ = some (.int .i64 a.1) ∧ w'.cell? ⟨g2, k * 2 + 1, none⟩ = some (.int .i64 a.2) := fun w' hw' =>
            ⟨hw', (hw'.cell (p := ⟨g, k * 2, none⟩) hg).trans (Hh.out k a ha).1, (hw'.cell (p := ⟨g, k * 2 + 1, none⟩) hg).trans (Hh.out k a ha).2, (hw'.cell (p := ⟨g2, k * 2, none⟩) hg2).trans (Hh2.out k a ha).1, (hw'.cell (p := ⟨g2, k * 2 + 1, none⟩) hg2).trans (Hh2.out k a ha).2⟩
          obtain ⟨g0, g1, g3, g4, g5⟩ := hS wr hx
          have HS := Lib.hid hS; clear hS hx ha
          go_wp2_with fail
          go_region_held3 (fun w' => Ext w w' ∧ w'.cell? ⟨g, k * 2, none⟩ = some (.int .i64 a.1) ∧ w'.cell? ⟨g, k * 2 + 1, none⟩ = some (.int .i64 a.2) ∧ w'.cell? ⟨g2, k * 2, none⟩ = some (.int .i64 a.1) ∧ w'.cell? ⟨g2, k * 2 + 1, none⟩ = some (.int .i64 a.2)) (exact HS.out _ (by (repeat' (first | exact Ext.refl _ | assumption | refine Ext.alloc ?_ _ | refine Ext.drew ?_ | refine Ext.setCell ?_ (Nat.le_refl _) _ | refine Ext.setCell ?_ (Nat.le_add_right _ _) _ | refine Ext.drewN ?_ _ | refine Ext.trans ?_ (by assumption) | refine Ext.dr ?_ (by assumption))))) (first | (go_at_call 62; have hh := (‹Ext w _ ∧ _›).1; refine (heqOne_any _ _ _).mono ?_; rintro e w' ⟨rfl, hx'⟩))
          go_wp2_with fail
          go_roundw
          case rel => exact ⟨k + 1, by omega, by go_num, (‹Ext w _ ∧ _›).1⟩
          case measure => simp [intOf]; omega
        · obtain rfl : k = hs.length := by omega
          have hlt' : ¬ ((hs.length : Nat) : Int) < hs.length := by omega
          have Hx := Lib.hid hx; clear hx
          go_wp2_with fail
          go_ret
          exact ⟨rfl, Hx.out⟩

set_option maxHeartbeats 1000000 in
theorem heq_any (u v : Value) (hs : List (Int × Int)) (w : World) (hu : HOwn w u hs) (hv : HOwn w v hs) (hlen : hs.length ≤ 4096) :
    Calls Try.prog 45 #[u, v] w fun e w' => e = .returned (.bool true) ∧ Ext w w' := by
  have k := heqFunc_any u v hs w hu hv hlen
  have K := Lib.hid k; clear k hu hv
  go_enter Try.func45, Try.ntmps45
  go_wp2_with fail
  refine K.out.mono ?_
  rintro e w1 ⟨rfl, hx⟩
  go_wp2_with fail
  go_ret
  exact ⟨rfl, hx⟩
end Go.Proofs.Ytkoinkpolpccbaa
