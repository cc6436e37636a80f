/-
  Contracts of the reference's arena.
-/
import Derived.Test.YtkoinkpolpccbaaArenaH
import Derived.Deep.RegionHeld3
set_option linter.unusedSimpArgs false
set_option linter.unusedVariables false
namespace Go.Proofs.Ytkoinkpolpccbaa
open Go.RowKit

/-- the reference's arena in memory -/
structure IsRef (w : World) (p q : Nat) (l : List Sl) : Prop where
  top : Blk w p [.slice (some ⟨q, 0, none⟩) l.length l.length] 70
  row : Blk w q (rowOf l) 74
  ne : p ≠ q
  len : l.length ≤ 4096
  wd : Wd 3 l
section
variable {w : World} {p q : Nat} {l : List Sl} (h : IsRef w p q l)
include h
theorem IsRef.drew : IsRef w.drew p q l := ⟨h.1, h.2, h.3, h.4, h.5⟩
theorem IsRef.drewN (n : Nat) : IsRef (w.drewN n) p q l := ⟨h.1, h.2, h.3, h.4, h.5⟩
theorem IsRef.alloc (o : Obj) : IsRef (w.alloc o) p q l := ⟨h.1.alloc _, h.2.alloc _, h.3, h.4, h.5⟩
theorem IsRef.ext {w' : World} (k : Ext w w') : IsRef w' p q l := ⟨h.1.ext k, h.2.ext k, h.3, h.4, h.5⟩
theorem IsRef.keep {w' : World} {S : List Nat} (k : Keep S w w') (hp : p ∉ S) (hq : q ∉ S) : IsRef w' p q l := ⟨h.1.keep k hp, h.2.keep k hq, h.3, h.4, h.5⟩
theorem IsRef.other {a : Addr} (h1 : a.block ≠ p) (h2 : a.block ≠ q) (v : Value) : IsRef (w.setCell a v) p q l := ⟨h.1.set_ne _ h1 _, h.2.set_ne _ h2 _, h.3, h.4, h.5⟩
theorem IsRef.setAt (i : Nat) (s t : Sl) (hs : l[i]? = some s) (k : Nat) (hk : k < 3) (v : Value) (ht : t.cells = s.cells.set k v) :
    IsRef (w.setCell ⟨q, i * 3 + k, none⟩ v) p q (l.set i t) := by
  have hx : t.x.length + 2 = 3 := by
    have e1 : t.cells.length = s.cells.length := by rw [ht, List.length_set]
    have e2 := h.wd.cells (List.mem_of_getElem? hs)
    simp [Sl.cells] at e1 e2; omega
  refine ⟨?_, ?_, h.ne, by rw [List.length_set]; exact h.len, h.wd.set i t hx⟩
  · rw [List.length_set]; exact h.top.set_ne _ (Ne.symm h.ne) _
  · have := h.row.set (i * 3 + k) v
    rwa [rowOf_setAt l h.wd i s t hs k hk v ht] at this
theorem IsRef.gen {i : Nat} {s : Sl} (hs : l[i]? = some s) : w.cell? ⟨q, i * 3, none⟩ = some (.int .i64 s.gen) := by
  have := rowOf_at l h.wd i s hs 0 (by omega)
  exact h.row.cell (by simpa [Sl.cells] using this)
theorem IsRef.taken {i : Nat} {s : Sl} (hs : l[i]? = some s) : w.cell? ⟨q, i * 3 + 1, none⟩ = some (.bool s.taken) := by
  have := rowOf_at l h.wd i s hs 1 (by omega)
  exact h.row.cell (by simpa [Sl.cells] using this)
theorem IsRef.val {i : Nat} {s : Sl} (hs : l[i]? = some s) {v : Value} (hv : s.x = [v]) : w.cell? ⟨q, i * 3 + 2, none⟩ = some v := by
  have := rowOf_at l h.wd i s hs 2 (by omega)
  exact h.row.cell (by rw [this]; simp [Sl.cells, hv])
end

set_option maxRecDepth 100000 in
set_option maxHeartbeats 1000000 in
theorem rvalid_hit (w : World) (p q : Nat) (l : List Sl) (h : IsRef w p q l) (i g : Int) (s : Sl) (hh : Hit l i g s) :
    Calls Try.prog 41 #[.pointer (some ⟨p, 0, none⟩), .agg #[.int .i64 i, .int .i64 g]] w fun e w' => e = .returned (.bool true) ∧ Ext w w' := by
  obtain ⟨h0, h1, hs, ht, hg⟩ := hh
  obtain ⟨k, rfl⟩ := Int.eq_ofNat_of_zero_le h0
  rw [Int.toNat_natCast] at hs
  have hlen := h.len
  have hp0 := h.top.cell (i := 0) rfl
  have hs0 := h.gen hs
  have hs1 := h.taken hs
  rw [ht] at hs1
  rw [hg] at hs0
  have hpw := h.top.lt
  have hqw := h.row.lt
  clear hs ht hg h
  go_enter Try.func41, Try.ntmps41
  go_wp2_with fail
  go_quiet (fail)
  go_wp2_with fail
  go_ret
  exact ⟨rfl, by (repeat' (first | exact Ext.refl _ | assumption | refine Ext.alloc ?_ _ | refine Ext.drew ?_ | refine Ext.setCell ?_ (Nat.le_refl _) _ | refine Ext.setCell ?_ (Nat.le_add_right _ _) _ | refine Ext.drewN ?_ _ | refine Ext.trans ?_ (by assumption) | refine Ext.dr ?_ (by assumption)))⟩

set_option maxRecDepth 100000 in
set_option maxHeartbeats 1000000 in
theorem rvalid_miss (w : World) (p q : Nat) (l : List Sl) (h : IsRef w p q l) (i g : Int) (hh : ∀ s, ¬ Hit l i g s) :
    Calls Try.prog 41 #[.pointer (some ⟨p, 0, none⟩), .agg #[.int .i64 i, .int .i64 g]] w fun e w' => e = .returned (.bool false) ∧ Ext w w' := by
  have hlen := h.len
  have hp0 := h.top.cell (i := 0) rfl
  have hpw := h.top.lt
  have hqw := h.row.lt
  by_cases h0 : 0 ≤ i
  rotate_left
  · have hd : decide (0 ≤ i) = false := by simpa using h0
    clear h hh
    go_enter Try.func41, Try.ntmps41
    go_wp2_with fail
    go_quiet (fail)
    go_wp2_with fail
    go_ret
    exact ⟨rfl, by (repeat' (first | exact Ext.refl _ | assumption | refine Ext.alloc ?_ _ | refine Ext.drew ?_ | refine Ext.setCell ?_ (Nat.le_refl _) _ | refine Ext.setCell ?_ (Nat.le_add_right _ _) _ | refine Ext.drewN ?_ _ | refine Ext.trans ?_ (by assumption) | refine Ext.dr ?_ (by assumption)))⟩
  obtain ⟨k, rfl⟩ := Int.eq_ofNat_of_zero_le h0
  by_cases h1 : k < l.length
  · have h1' : (k : Int) < l.length := by omega
    obtain ⟨s, hs⟩ : ∃ s, l[k]? = some s := ⟨l[k], List.getElem?_eq_getElem h1⟩
    have hs0 := h.gen hs
    have hs1 := h.taken hs
    by_cases ht : s.taken = true
    · have hg : (s.gen == g) = false := by
        rw [beq_eq_false_iff_ne]; intro e; exact hh s ⟨h0, h1', by rw [Int.toNat_natCast]; exact hs, ht, e⟩
      rw [ht] at hs1
      clear h hh hs ht
      go_enter Try.func41, Try.ntmps41
      go_wp2_with fail
      go_quiet (fail)
      go_wp2_with fail
      go_ret
      exact ⟨rfl, by (repeat' (first | exact Ext.refl _ | assumption | refine Ext.alloc ?_ _ | refine Ext.drew ?_ | refine Ext.setCell ?_ (Nat.le_refl _) _ | refine Ext.setCell ?_ (Nat.le_add_right _ _) _ | refine Ext.drewN ?_ _ | refine Ext.trans ?_ (by assumption) | refine Ext.dr ?_ (by assumption)))⟩
    · have ht : s.taken = false := by simpa using ht
      rw [ht] at hs1
      clear h hh hs ht
      go_enter Try.func41, Try.ntmps41
      go_wp2_with fail
      go_quiet (fail)
      go_wp2_with fail
      go_ret
      exact ⟨rfl, by (repeat' (first | exact Ext.refl _ | assumption | refine Ext.alloc ?_ _ | refine Ext.drew ?_ | refine Ext.setCell ?_ (Nat.le_refl _) _ | refine Ext.setCell ?_ (Nat.le_add_right _ _) _ | refine Ext.drewN ?_ _ | refine Ext.trans ?_ (by assumption) | refine Ext.dr ?_ (by assumption)))⟩
  · have h1' : decide (k < l.length) = false := by simpa using h1
    have h1'' : ¬ (k : Int) < l.length := by omega
    clear h hh
    go_enter Try.func41, Try.ntmps41
    go_wp2_with fail
    go_quiet (fail)
    go_wp2_with fail
    go_ret
    exact ⟨rfl, by (repeat' (first | exact Ext.refl _ | assumption | refine Ext.alloc ?_ _ | refine Ext.drew ?_ | refine Ext.setCell ?_ (Nat.le_refl _) _ | refine Ext.setCell ?_ (Nat.le_add_right _ _) _ | refine Ext.drewN ?_ _ | refine Ext.trans ?_ (by assumption) | refine Ext.dr ?_ (by assumption)))⟩

set_option maxHeartbeats 1000000 in
theorem rhandles_any (w : World) (p q : Nat) (l : List Sl) (h : IsRef w p q l) :
    Calls Try.prog 46 #[.pointer (some ⟨p, 0, none⟩)] w fun e w' => ∃ v, e = .returned v ∧ w'.ownsRow w.heap.size 48 2 v (hand l 0).length (hcells (hand l 0)) ∧ Ext w w' := by
  have hlen := h.len
  obtain ⟨i0, hi, hz0, hz1, hz2⟩ := info_parts Try.infoH
  have HI := Lib.hid hi; have HZ0 := Lib.hid hz0; have HZ1 := Lib.hid hz1; have HZ2 := Lib.hid hz2
  clear hi hz0 hz1 hz2
  have H := Lib.hid h; clear h
  go_enter Try.func46, Try.ntmps46
  go_wp2_with fail
  go_loopw [3, 4] (fun v i wr => ∃ k : Nat, k ≤ l.length ∧ i = .int .i64 k ∧ wr.ownsRow w.heap.size 48 2 v (hand (l.take k) 0).length (hcells (hand (l.take k) 0)) ∧ Ext w wr) (fun _ i _ => l.length - (intOf i).toNat)
  case atStart => exact ⟨0, Nat.zero_le _, rfl, World.ownsRow_nil _ _ _ _, Ext.refl _⟩
  case round =>
    obtain ⟨k, hk, rfl, hown, hx⟩ := hrel
    have hsz := hx.size
    have HX := H.out.ext hx
    have hp0 := HX.top.cell (i := 0) rfl
    by_cases hlt : k < l.length
    · have hlt' : (k : Int) < l.length := by omega
      obtain ⟨s, hs⟩ : ∃ s, l[k]? = some s := ⟨l[k], List.getElem?_eq_getElem hlt⟩
      have hs0 := HX.gen hs
      have hs1 := HX.taken hs
      have Hx := Lib.hid hx; clear hx HX
      have Hs := Lib.hid hs; clear hs
      by_cases ht : s.taken = true
      · rw [ht] at hs1
        have hy := hand_yes Hs.out ht
        have hle := hand_le (l.take k) 0
        have hle2 : (l.take k).length ≤ k := List.length_take_le _ _
        generalize hand (l.take k) 0 = hs at *
        have Hy := Lib.hid hy; clear hy
        have Ht := Lib.hid ht; clear ht
        go_wp2_with (at_builtin; refine wpList_append_own _ rfl _ _ 46 rfl w.heap.size 48 i0 (.agg #[.int .i64 0, .int .i64 0]) 2 16 Try.underlying46 HI.out HZ0.out HZ1.out HZ2.out rfl (by decide) _ _ _ rfl (hown.alloc _) ⟨wr.heap.size, 0, none⟩ 1 1 [.int .i64 k, .int .i64 s.gen] rfl rfl ?c1 ?c2 ?c3 ?c4 ?c5 ?_)
        case c1 =>
          intro j u hj
          have B1 := Blk.new wr #[Value.int IntKind.i64 ↑k, Value.int IntKind.i64 s.gen] 48
          have e1 : (⟨wr.heap.size, 0, none⟩ : Addr).add j = ⟨wr.heap.size, j, none⟩ := by unfold Addr.add; split <;> simp_all
          rw [e1]
          exact B1.cell hj
        case c2 => simp [Value.oneCell']
        case c3 => unfold maxLen; omega
        case c4 => omega
        case c5 => simp; omega
        intro v' w1 hown' hgrow _
        have Ho' := Lib.hid hown'; clear hown'
        have Hg := Lib.hid hgrow; clear hgrow
        have hlt2 := hown.lt
        have Hl := Lib.hid hlt2; clear hlt2
        have Ho := Lib.hid hown; clear hown
        go_wp2_with fail
        go_roundw
        case rel =>
          refine ⟨k + 1, by omega, by go_num, by rw [Hy.out, List.length_append, hcells_append]; exact Ho'.out, ?_⟩
          exact Ext.grown (Hx.out.alloc _) Hg.out (fun g hg => (Hl.out g hg).1)
        case measure => simp [intOf]; omega
      · have ht : s.taken = false := by simpa using ht
        rw [ht] at hs1
        have hy := hand_no Hs.out ht
        have Hy := Lib.hid hy; clear hy
        have Ht := Lib.hid ht; clear ht
        have Ho := Lib.hid hown; clear hown
        go_wp2_with fail
        go_roundw
        case rel => exact ⟨k + 1, by omega, by go_num, by rw [Hy.out]; exact Ho.out, Hx.out⟩
        case measure => simp [intOf]; omega
    · obtain rfl : k = l.length := by omega
      have hlt' : ¬ ((l.length : Nat) : Int) < l.length := by omega
      rw [List.take_length] at hown
      have Ho := Lib.hid hown; clear hown
      have Hx := Lib.hid hx; clear hx HX
      go_wp2_with fail
      go_ret
      exact ⟨_, rfl, Ho.out, Hx.out⟩
end Go.Proofs.Ytkoinkpolpccbaa
