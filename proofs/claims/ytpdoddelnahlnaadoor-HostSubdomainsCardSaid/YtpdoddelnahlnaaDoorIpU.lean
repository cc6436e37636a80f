/-
  strconv.ParseUint at base 16, 16 bits, of one to four hexadecimal digits.
-/
import Derived.Test.YtpdoddelnahlnaaDoorProg
import Derived.Test.YtpdoddelnahlnaaDoorHeap
import Derived.Test.YtpdoddelnahlnaaDoorIpN
import Derived.Lib.ConvBytes
import Derived.Lib.AtoiErrMem
import Derived.Laws.Closers25
import Derived.Handy
set_option linter.unusedSimpArgs false
set_option linter.unusedVariables false
namespace Go.Proofs.YtpdoddelnahlnaaDoor
open Go.RowKit

theorem or32_up {x : Int} (h0 : 65 ≤ x) (h1 : x ≤ 70) : bits BinOp.or IntKind.u8 x 32 = x + 32 := by
  have : x = 65 ∨ x = 66 ∨ x = 67 ∨ x = 68 ∨ x = 69 ∨ x = 70 := by omega
  rcases this with h | h | h | h | h | h <;> subst h <;> decide
theorem or32_low {x : Int} (h0 : 97 ≤ x) (h1 : x ≤ 102) : bits BinOp.or IntKind.u8 x 32 = x := by
  have : x = 97 ∨ x = 98 ∨ x = 99 ∨ x = 100 ∨ x = 101 ∨ x = 102 := by omega
  rcases this with h | h | h | h | h | h <;> subst h <;> decide

set_option maxHeartbeats 4000000 in
set_option maxRecDepth 100000 in
theorem parseUint16_any (s : ByteArray) (w : World) (h1 : 1 ≤ s.size) (h4 : s.size ≤ 4) (hx : allHex s s.size = true) :
    Calls Tryd.prog 78 #[.string s, .int .i64 16, .int .i64 16] w fun e w' => e = .returned (.tuple #[.int .u64 (hval s s.size), .nilIface]) ∧ Ext w w' := by
  have hemp : ¬ (s.size : Int) < 1 := by omega
  have hcv := Lib.run_convert_string_bytes (P := Tryd.prog) w 9 33 5 s (u := .string) Tryd.underlying9 Tryd.underlying33 Tryd.underlying5
  have hB : ∀ j, j < s.size → (Lib.bytesWorld w 5 s).cell? ⟨w.heap.size, j, none⟩ = some (.int .u8 (B s j)) := fun j hj => Lib.bytesWorld_cell w 5 s j hj
  have hE : Ext w (Lib.bytesWorld w 5 s) := Lib.bytesWorld_below w _ s
  obtain ⟨W1, hW1⟩ : ∃ W1, W1 = Lib.bytesWorld w 5 s := ⟨_, rfl⟩
  rw [← hW1] at hcv hB hE
  clear hW1
  have hmv : IntKind.u64.wrap (IntKind.u64.wrap 65536 - 1) = 65535 := by decide
  have HX := Lib.hid hx; clear hx
  go_enter Tryd.func78, Tryd.ntmps78
  go_wp2
  go_loop [12, 13, 101] (fun vu vn vi => ∃ (k : Nat) (a : Int), vu = .bool false ∧ vn = .int .u64 a ∧ vi = .int .i64 k ∧ k ≤ s.size ∧ Hid (a = hval s k))
    (fun _ _ vi => s.size - (intOf vi).toNat)
  case atStart => exact ⟨0, 0, rfl, rfl, rfl, by omega, rfl⟩
  case round =>
    obtain ⟨k, a, rfl, rfl, rfl, hk, hh⟩ := hrel
    have hak := allHex_mono s s.size k hk HX.out
    have hv := hval_bd s k hak
    have hv1 : 0 ≤ a := by rw [hh.out]; exact hv.1
    have bk := B_bd s k
    by_cases hkn : k < s.size
    · have hc := hB k hkn
      have hp : (16 : Int) ^ k ≤ 4096 := by
        match k, (show k ≤ 3 by omega) with
        | 0, _ => decide
        | 1, _ => decide
        | 2, _ => decide
        | 3, _ => decide
      have hv2 : a < 4096 := by rw [hh.out]; omega
      have hak1 := allHex_mono s s.size (k + 1) (by omega) HX.out
      simp only [allHex, Bool.and_eq_true, decide_eq_true_eq] at hak1
      have hd0 := hak1.2
      clear hak hv hp hak1 hB
      by_cases c1 : 48 ≤ B s k ∧ B s k ≤ 57
      · have e8 := u8_sub bk.1 bk.2 c1.1 (by decide)
        have g1 := c1.1
        have g2 := c1.2
        have HN : Hid (a * 16 + (B s k - 48) = hval s (k + 1)) := Lib.hid (by rw [hval, ← hh.out]; unfold hexd; rw [if_pos c1]; omega)
        clear c1 hd0
        go_wp2
        refine ⟨⟨k + 1, a * 16 + (B s k - 48), rfl, (by first | rfl | (congr 1; omega)), (by first | rfl | (congr 1; omega)), by omega, HN⟩, by simp [intOf]; omega⟩
      by_cases c2 : 97 ≤ B s k ∧ B s k ≤ 102
      · have e9 := or32_low c2.1 c2.2
        have g1 := c2.1
        have g2 := c2.2
        have HN : Hid (a * 16 + (B s k - 87) = hval s (k + 1)) := Lib.hid (by rw [hval, ← hh.out]; unfold hexd; rw [if_neg c1, if_pos c2]; omega)
        have e8 := u8_sub bk.1 bk.2 c2.1 (by decide)
        clear c1 c2 hd0
        go_wp2
        refine ⟨⟨k + 1, a * 16 + (B s k - 87), rfl, (by first | rfl | (congr 1; omega)), (by first | rfl | (congr 1; omega)), by omega, HN⟩, by simp [intOf]; omega⟩
      by_cases c3 : 65 ≤ B s k ∧ B s k ≤ 70
      · have e9 := or32_up c3.1 c3.2
        have g1 := c3.1
        have g2 := c3.2
        have HN : Hid (a * 16 + (B s k - 55) = hval s (k + 1)) := Lib.hid (by rw [hval, ← hh.out]; unfold hexd; rw [if_neg c1, if_neg c2, if_pos c3]; omega)
        have e8 : IntKind.u8.wrap (B s k + 32 - 97) = B s k + 32 - 97 := by
          have : ∀ n : Int, IntKind.u8.wrap n = n % 256 := fun n => by simp [IntKind.wrap, IntKind.bits, IntKind.signed]
          rw [this]; omega
        clear c1 c2 c3 hd0
        go_wp2
        refine ⟨⟨k + 1, a * 16 + (B s k - 55), rfl, (by first | rfl | (congr 1; omega)), (by first | rfl | (congr 1; omega)), by omega, HN⟩, by simp [intOf]; omega⟩
      · exfalso
        have : hexd (B s k) = -1 := by unfold hexd; rw [if_neg c1, if_neg c2, if_neg c3]
        omega
    · obtain rfl : k = s.size := by omega
      obtain rfl := hh.out
      clear hh hak hv
      go_wp2
      go_ret2
      exact ⟨rfl, hE⟩

set_option maxHeartbeats 1000000 in
theorem parseUintP_any (s : ByteArray) (w : World) (h1 : 1 ≤ s.size) (h4 : s.size ≤ 4) (hx : allHex s s.size = true) :
    Calls Tryd.prog 67 #[.string s, .int .i64 16, .int .i64 16] w fun e w' => e = .returned (.tuple #[.int .u64 (hval s s.size), .nilIface]) ∧ Ext w w' := by
  go_enter Tryd.func67, Tryd.ntmps67
  go_wp2_with (go_at_call 78; refine (parseUint16_any s _ h1 h4 hx).mono ?_; rintro e w1 ⟨rfl, hx1⟩)
  go_ret2
  exact ⟨rfl, hx1⟩
end Go.Proofs.YtpdoddelnahlnaaDoor
