/-
  (*Arena[int]).Handles.
-/
import Derived.Test.YtkoinkpolpccbaaArenaIInt
set_option linter.unusedSimpArgs false
set_option linter.unusedVariables false
namespace Go.Proofs.Ytkoinkpolpccbaa
open Go.RowKit

/-- the handles of the first slots -/
def hand : List Sl → Nat → List (Int × Int)
  | [], _ => []
  | s :: l, i => if s.taken then ((i : Int), s.gen) :: hand l (i + 1) else hand l (i + 1)
def hcells (l : List (Int × Int)) : List Value := l.flatMap fun h => [.int .i64 h.1, .int .i64 h.2]
theorem hand_append (a b : List Sl) (i : Nat) : hand (a ++ b) i = hand a i ++ hand b (i + a.length) := by
  induction a generalizing i with
  | nil => simp [hand]
  | cons s a ih =>
    simp only [List.cons_append, hand, ih, List.length_cons]
    rw [show i + 1 + a.length = i + (a.length + 1) from by omega]
    split <;> simp
theorem hand_le (l : List Sl) (i : Nat) : (hand l i).length ≤ l.length := by
  induction l generalizing i with
  | nil => simp [hand]
  | cons s l ih => have := ih (i + 1); simp only [hand]; split <;> simp <;> omega
theorem hcells_append (a b : List (Int × Int)) : hcells (a ++ b) = hcells a ++ hcells b := by simp [hcells]
theorem hand_yes {l : List Sl} {k : Nat} {s : Sl} (h : l[k]? = some s) (ht : s.taken = true) : hand (l.take (k + 1)) 0 = hand (l.take k) 0 ++ [((k : Int), s.gen)] := by
  have hk : k < l.length := by
    rcases Nat.lt_or_ge k l.length with h1 | h1
    · exact h1
    · rw [List.getElem?_eq_none h1] at h; cases h
  rw [List.take_add_one, h, Option.toList_some, hand_append, List.length_take, Nat.min_eq_left (by omega), Nat.zero_add]
  simp [hand, ht]
theorem hand_no {l : List Sl} {k : Nat} {s : Sl} (h : l[k]? = some s) (ht : s.taken = false) : hand (l.take (k + 1)) 0 = hand (l.take k) 0 := by
  rw [List.take_add_one, h, Option.toList_some, hand_append]
  simp [hand, ht]

theorem Try.infoH : (Try.prog.info? 48).map (fun i => (i.zero, i.size, i.bytes)) = some (some (.agg #[.int .i64 0, .int .i64 0]), 2, 16) := by kernel_rfl

set_option maxHeartbeats 1000000 in
theorem handles_any (w : World) (p q : Nat) (l : List Sl) (free n : Int) (h : ArenaInt.At w p q l free n) (hints : ∀ s ∈ l, ∃ m : Int, s.x = [.int .i64 m]) :
    Calls Try.prog 40 #[.pointer (some ⟨p, 0, none⟩)] w fun e w' => ∃ v, e = .returned v ∧ w'.ownsRow w.heap.size 48 2 v (hand l 0).length (hcells (hand l 0)) ∧ Ext w w' := by
  have hlen := h.len
  have hp0 := h.top.cell (i := 0) rfl
  obtain ⟨i0, hi, hz0, hz1, hz2⟩ := info_parts Try.infoH
  have HI := Lib.hid hi; have HZ0 := Lib.hid hz0; have HZ1 := Lib.hid hz1; have HZ2 := Lib.hid hz2
  clear hi hz0 hz1 hz2
  have H := Lib.hid h; clear h
  have Hints := Lib.hid hints; clear hints
  go_enter Try.func40, Try.ntmps40
  go_wp2_with fail
  go_loopw [3, 11] (fun v i wr => ∃ k : Nat, k ≤ l.length ∧ i = .int .i64 k ∧ wr.ownsRow w.heap.size 48 2 v (hand (l.take k) 0).length (hcells (hand (l.take k) 0)) ∧ Ext w wr) (fun _ i _ => l.length - (intOf i).toNat)
  case atStart => exact ⟨0, Nat.zero_le _, rfl, World.ownsRow_nil _ _ _ _, Ext.refl _⟩
  case round =>
    obtain ⟨k, hk, rfl, hown, hx⟩ := hrel
    have hsz := hx.size
    by_cases hlt : k < l.length
    · have hlt' : (k : Int) < l.length := by omega
      obtain ⟨s, hs⟩ : ∃ s, l[k]? = some s := ⟨l[k], List.getElem?_eq_getElem hlt⟩
      have HX := H.out.ext hx
      have hl := HX.wd.cells (List.mem_of_getElem? hs)
      have hs0 := HX.gen hs (by omega)
      have hs1 := HX.taken hs (by omega)
      obtain ⟨v0, hv⟩ := Hints.out s (List.mem_of_getElem? hs)
      have hv0 : wr.cell? ⟨q, k * 3 + 2, none⟩ = some (.int .i64 v0) := HX.val hs 0 (by omega) (by rw [hv]; rfl)
      have Hx := Lib.hid hx; clear hx HX
      have Hs := Lib.hid hs; clear hs hv hl
      by_cases ht : s.taken = true
      · rw [ht] at hs1
        have hy := hand_yes Hs.out ht
        have hle := hand_le (l.take k) 0
        have hle2 : (l.take k).length ≤ k := List.length_take_le _ _
        generalize hand (l.take k) 0 = hs at *
        have Hy := Lib.hid hy; clear hy
        have Ht := Lib.hid ht; clear ht
        go_wp2_with (at_builtin; refine wpList_append_own _ rfl _ _ 46 rfl w.heap.size 48 i0 (.agg #[.int .i64 0, .int .i64 0]) 2 16 Try.underlying46 HI.out HZ0.out HZ1.out HZ2.out rfl (by decide) _ _ _ rfl ((hown.alloc _).alloc _) ⟨wr.heap.size + 1, 0, none⟩ 1 1 [.int .i64 k, .int .i64 s.gen] rfl rfl ?c1 ?c2 ?c3 ?c4 ?c5 ?_)
        case c1 =>
          intro j u hj
          have B1 := Blk.new (wr.alloc (Obj.cells #[Value.int IntKind.i64 s.gen, Value.bool true, Value.int IntKind.i64 v0] 88)) #[Value.int IntKind.i64 ↑k, Value.int IntKind.i64 s.gen] 48
          rw [World.size_alloc] at B1
          have e1 : (⟨wr.heap.size + 1, 0, none⟩ : Addr).add j = ⟨wr.heap.size + 1, j, none⟩ := by unfold Addr.add; split <;> simp_all
          rw [e1]
          exact B1.cell hj
        case c2 => simp [Value.oneCell']
        case c3 => unfold maxLen; omega
        case c4 => omega
        case c5 => simp; omega
        intro v' w1 hown' hgrow _
        have Ho' := Lib.hid hown'; clear hown'
        have Hg := Lib.hid hgrow; clear hgrow
        have hlt2 := hown.lt
        have Hl := Lib.hid hlt2; clear hlt2
        have Ho := Lib.hid hown; clear hown
        go_wp2_with fail
        go_roundw
        case rel =>
          refine ⟨k + 1, by omega, by go_num, by rw [Hy.out, List.length_append, hcells_append]; exact Ho'.out, ?_⟩
          exact Ext.grown ((Hx.out.alloc _).alloc _) Hg.out (fun g hg => (Hl.out g hg).1)
        case measure => simp [intOf]; omega
      · have ht : s.taken = false := by simpa using ht
        rw [ht] at hs1
        have hy := hand_no Hs.out ht
        have Hy := Lib.hid hy; clear hy
        have Ht := Lib.hid ht; clear ht
        have Ho := Lib.hid hown; clear hown
        go_wp2_with fail
        go_roundw
        case rel => exact ⟨k + 1, by omega, by go_num, by rw [Hy.out]; exact Ho.out.alloc _, Hx.out.alloc _⟩
        case measure => simp [intOf]; omega
    · obtain rfl : k = l.length := by omega
      have hlt' : ¬ ((l.length : Nat) : Int) < l.length := by omega
      rw [List.take_length] at hown
      have Ho := Lib.hid hown; clear hown
      have Hx := Lib.hid hx; clear hx
      go_wp2_with fail
      go_ret
      exact ⟨_, rfl, Ho.out, Hx.out⟩
end Go.Proofs.Ytkoinkpolpccbaa
