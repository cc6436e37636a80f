/-
  Plain facts on strings, used by the walks.
-/
import Derived.WalkKit
import Derived.WalkSpells
import Derived.WalkLawsBesides
import Derived.Lib.Hide
import Derived.Deep.Light
import Derived.Deep.QuietTactic
import Derived.BigQuiet
import Derived.Laws.BytesArg
import Derived.Laws.IdiomStrings
namespace Go.Proofs.Ytkoinkpolpccbaa
open Go.RowKit

/-- byte k of a string, as a number -/
def B (s : ByteArray) (k : Nat) : Int := ((s.data.toList.getD k 0).toNat : Int)
theorem B_bd (s : ByteArray) (k : Nat) : 0 ≤ B s k ∧ B s k < 256 := by
  have := UInt8.toNat_lt (s.data.toList.getD k 0); unfold B; omega
theorem B_eq (s : ByteArray) (k : Nat) (h : k < s.size) : (s[k].toNat : Int) = B s k := by
  have h' : k < s.data.toList.length := by cases s; exact h
  unfold B
  rw [List.getD_eq_getElem?_getD, List.getElem?_eq_getElem h', Option.getD_some]; rfl
section
variable {P : Program} (w : World)
@[go_sem high] theorem run_index_B (t : TypeId) (s : ByteArray) (k : IntKind) (i : Int) (h : P.underlying t = some .string) :
    (Instr.index t (.string s) (.int k i)).run P w =
      if 0 ≤ i ∧ i < s.size then .ok (.int .u8 (B s i.toNat)) w
      else (boundsPanic k i s.size .index).run P w := by
  rw [run_index_string w t s k i h]
  split
  · rename_i hi; rw [B_eq s i.toNat (by omega)]
  · rfl
@[go_sem high] theorem empty_size (s : ByteArray) : s.toList.isEmpty = decide ((s.size : Int) < 1) := by
  rw [ByteArray.toList_eq]
  have : s.size = s.data.toList.length := by cases s; rfl
  rw [this]
  generalize s.data.toList = l
  cases l with
  | nil => rfl
  | cons x xs =>
    have : ¬ (((x :: xs : List UInt8).length : Int) < 1) := by rw [List.length_cons]; omega
    rw [decide_eq_false this]; rfl
@[go_sem] theorem wrap64_B (s : ByteArray) (k : Nat) : wrap64 (B s k) = B s k := IntWalk.wrap64_in _ (by have := B_bd s k; omega)
theorem i64_B (s : ByteArray) (k : Nat) : IntKind.i64.wrap (B s k) = B s k := IntWalk.i64_in _ (by have := B_bd s k; omega)
end
/-- the same world, some answers of the tape drawn -/
def Dr (w w' : World) : Prop := ∃ n, w' = w.drewN n
theorem Dr.refl (w : World) : Dr w w := ⟨0, rfl⟩
theorem Dr.mk (w : World) (n : Nat) : Dr w (w.drewN n) := ⟨n, rfl⟩
theorem Dr.trans {a b c : World} (h : Dr a b) (h' : Dr b c) : Dr a c := by
  obtain ⟨n, rfl⟩ := h; obtain ⟨m, rfl⟩ := h'; exact ⟨n + m, by simp [World.drewN, Nat.add_assoc]⟩
def str1 (a : Int) : ByteArray := ⟨#[UInt8.ofNat a.toNat]⟩
def str2 (a b : Int) : ByteArray := ⟨#[UInt8.ofNat a.toNat, UInt8.ofNat b.toNat]⟩
def str3 (a b c : Int) : ByteArray := ⟨#[UInt8.ofNat a.toNat, UInt8.ofNat b.toNat, UInt8.ofNat c.toNat]⟩
section
variable {P : Program} (w : World) (src dst e : TypeId) (hs : P.underlying src = some (.slice e)) (he : P.underlying e = some (.int .u8)) (hd : P.underlying dst = some .string) (n : Nat) (fr : Nat × Nat)
include hs he hd
@[go_sem high] theorem run_str1 (a : Int) :
    (convert src dst (.slice (some ⟨w.heap.size, 0, none⟩) 1 n)).run P (w.alloc (.cells #[.int .u8 a] e fr)) = .ok (.string (str1 a)) (w.alloc (.cells #[.int .u8 a] e fr)) := by
  rw [run_convert_bytes_arg (w.alloc (.cells #[.int .u8 a] e fr)) src e hs he w.heap.size 0 1 n [a] rfl ?_ dst hd]
  · rfl
  · intro i hi; rw [World.cell?_alloc_mark]
    rcases i with _ | i
    · rfl
    · omega
@[go_sem high] theorem run_str2 (a b : Int) :
    (convert src dst (.slice (some ⟨w.heap.size, 0, none⟩) 2 n)).run P (w.alloc (.cells #[.int .u8 a, .int .u8 b] e fr)) = .ok (.string (str2 a b)) (w.alloc (.cells #[.int .u8 a, .int .u8 b] e fr)) := by
  rw [run_convert_bytes_arg (w.alloc (.cells #[.int .u8 a, .int .u8 b] e fr)) src e hs he w.heap.size 0 2 n [a, b] rfl ?_ dst hd]
  · rfl
  · intro i hi; rw [World.cell?_alloc_mark]
    rcases i with _ | _ | i
    · rfl
    · rfl
    · omega
@[go_sem high] theorem run_str3 (a b c : Int) :
    (convert src dst (.slice (some ⟨w.heap.size, 0, none⟩) 3 n)).run P (w.alloc (.cells #[.int .u8 a, .int .u8 b, .int .u8 c] e fr)) = .ok (.string (str3 a b c)) (w.alloc (.cells #[.int .u8 a, .int .u8 b, .int .u8 c] e fr)) := by
  rw [run_convert_bytes_arg (w.alloc (.cells #[.int .u8 a, .int .u8 b, .int .u8 c] e fr)) src e hs he w.heap.size 0 3 n [a, b, c] rfl ?_ dst hd]
  · rfl
  · intro i hi; rw [World.cell?_alloc_mark]
    rcases i with _ | _ | _ | i
    · rfl
    · rfl
    · rfl
    · omega
end
/-- nothing that was there has changed; new blocks may lie behind -/
def Ext (w w' : World) : Prop := Below w.heap.size w w'
theorem Ext.refl (w : World) : Ext w w := Below.refl _ _
theorem Ext.size {a b : World} (h : Ext a b) : a.heap.size ≤ b.heap.size := Below.size h
theorem Ext.trans {a b c : World} (h : Ext a b) (k : Ext b c) : Ext a c := Below.trans h (Below.mono k h.size)
theorem Ext.alloc {a w : World} (h : Ext a w) (o : Obj) : Ext a (w.alloc o) := Below.alloc h h.size o
theorem Ext.drew {a w : World} (h : Ext a w) : Ext a w.drew := Below.drew h
theorem Ext.drewN {a w : World} (h : Ext a w) (n : Nat) : Ext a (w.drewN n) := below_drewN h n
theorem Ext.dr {a w w' : World} (h : Ext a w) (k : Dr w w') : Ext a w' := by obtain ⟨n, rfl⟩ := k; exact h.drewN n
theorem Ext.setCell {a w : World} (h : Ext a w) {p : Addr} (hp : a.heap.size ≤ p.block) (u : Value) : Ext a (w.setCell p u) := Below.setCell h hp u
theorem Ext.cell {w w' : World} (h : Ext w w') {p : Addr} (hp : p.block < w.heap.size) : w'.cell? p = w.cell? p := Below.cell h hp
theorem Dr.ext {w w' : World} (h : Dr w w') : Ext w w' := (Ext.refl w).dr h
@[go_sem] theorem size_str1 (a : Int) : (str1 a).size = 1 := rfl
@[go_sem] theorem size_str2 (a b : Int) : (str2 a b).size = 2 := rfl
@[go_sem] theorem size_str3 (a b c : Int) : (str3 a b c).size = 3 := rfl
theorem cut_bd (c m : Int) (h1 : 0 < m) (h2 : m ≤ 9223372036854775807) : 0 ≤ wrap64 ((IntKind.u64.wrap c).tmod m) ∧ wrap64 ((IntKind.u64.wrap c).tmod m) < m := by
  have hu : IntKind.u64.wrap c = c % 18446744073709551616 := by rw [IntKind.wrap_u64]
  have h0 : 0 ≤ IntKind.u64.wrap c := by rw [hu]; omega
  rw [Int.tmod_eq_emod_of_nonneg h0]
  have a := Int.emod_nonneg (IntKind.u64.wrap c) (show m ≠ 0 by omega)
  have b := Int.emod_lt_of_pos (IntKind.u64.wrap c) h1
  rw [IntWalk.wrap64_in _ (by omega)]
  exact ⟨a, b⟩
theorem extract_le (s : ByteArray) (a b : Nat) : (s.extract a b).size ≤ s.size := by
  rw [ByteArray.size_extract]; omega
theorem size_max {s : ByteArray} (h : s.size ≤ maxLen) : s.size ≤ 9223372036854775807 := h
end Go.Proofs.Ytkoinkpolpccbaa
