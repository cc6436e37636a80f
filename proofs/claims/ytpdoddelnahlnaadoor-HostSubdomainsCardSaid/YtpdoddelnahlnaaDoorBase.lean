/-
  Plain facts on strings, used by the walks.
-/
import Derived.WalkKit
import Derived.WalkSpells
import Derived.WalkLawsBesides
import Derived.Lib.Hide
import Derived.Deep.Light
import Derived.Deep.QuietTactic
import Derived.BigQuiet
import Derived.Laws.BytesArg
import Derived.Laws.IdiomStrings
namespace Go.Proofs.YtpdoddelnahlnaaDoor
open Go.RowKit

/-- byte k of a string, as a number -/
def B (s : ByteArray) (k : Nat) : Int := ((s.data.toList.getD k 0).toNat : Int)
theorem B_bd (s : ByteArray) (k : Nat) : 0 ≤ B s k ∧ B s k < 256 := by
  have := UInt8.toNat_lt (s.data.toList.getD k 0); unfold B; omega
theorem B_eq (s : ByteArray) (k : Nat) (h : k < s.size) : (s[k].toNat : Int) = B s k := by
  have h' : k < s.data.toList.length := by cases s; exact h
  unfold B
  rw [List.getD_eq_getElem?_getD, List.getElem?_eq_getElem h', Option.getD_some]; rfl
section
variable {P : Program} (w : World)
@[go_sem high] theorem run_index_B (t : TypeId) (s : ByteArray) (k : IntKind) (i : Int) (h : P.underlying t = some .string) :
    (Instr.index t (.string s) (.int k i)).run P w =
      if 0 ≤ i ∧ i < s.size then .ok (.int .u8 (B s i.toNat)) w
      else (boundsPanic k i s.size .index).run P w := by
  rw [run_index_string w t s k i h]
  split
  · rename_i hi; rw [B_eq s i.toNat (by omega)]
  · rfl
@[go_sem high] theorem empty_size (s : ByteArray) : s.toList.isEmpty = decide ((s.size : Int) < 1) := by
  rw [ByteArray.toList_eq]
  have : s.size = s.data.toList.length := by cases s; rfl
  rw [this]
  generalize s.data.toList = l
  cases l with
  | nil => rfl
  | cons x xs =>
    have : ¬ (((x :: xs : List UInt8).length : Int) < 1) := by rw [List.length_cons]; omega
    rw [decide_eq_false this]; rfl
@[go_sem] theorem wrap64_B (s : ByteArray) (k : Nat) : wrap64 (B s k) = B s k := IntWalk.wrap64_in _ (by have := B_bd s k; omega)
theorem i64_B (s : ByteArray) (k : Nat) : IntKind.i64.wrap (B s k) = B s k := IntWalk.i64_in _ (by have := B_bd s k; omega)
end
/-- the same world, some answers of the tape drawn -/
def Dr (w w' : World) : Prop := ∃ n, w' = w.drewN n
theorem Dr.refl (w : World) : Dr w w := ⟨0, rfl⟩
theorem Dr.mk (w : World) (n : Nat) : Dr w (w.drewN n) := ⟨n, rfl⟩
theorem Dr.trans {a b c : World} (h : Dr a b) (h' : Dr b c) : Dr a c := by
  obtain ⟨n, rfl⟩ := h; obtain ⟨m, rfl⟩ := h'; exact ⟨n + m, by simp [World.drewN, Nat.add_assoc]⟩
def str1 (a : Int) : ByteArray := ⟨#[UInt8.ofNat a.toNat]⟩
def str2 (a b : Int) : ByteArray := ⟨#[UInt8.ofNat a.toNat, UInt8.ofNat b.toNat]⟩
def str3 (a b c : Int) : ByteArray := ⟨#[UInt8.ofNat a.toNat, UInt8.ofNat b.toNat, UInt8.ofNat c.toNat]⟩
section
variable {P : Program} (w : World) (src dst e : TypeId) (hs : P.underlying src = some (.slice e)) (he : P.underlying e = some (.int .u8)) (hd : P.underlying dst = some .string) (n : Nat) (fr : Nat × Nat)
theorem run_strs (C : List Int) (b : Nat) (w' : World) (hs : P.underlying src = some (.slice e)) (he : P.underlying e = some (.int .u8)) (hd : P.underlying dst = some .string)
    (hb : w'.heap[b]? = some (.cells (C.map (Value.int .u8)).toArray e fr)) :
    (convert src dst (.slice (some ⟨b, 0, none⟩) C.length n)).run P w' = .ok (.string (strOfNums C)) w' := by
  refine run_convert_bytes_arg w' src e hs he b 0 C.length n C rfl (fun i hi => ?_) dst hd
  unfold World.cell?
  rw [hb]
  simp only [Nat.zero_add, List.getElem?_toArray, List.getElem?_map, List.getElem?_eq_getElem hi, List.getD_eq_getElem?_getD, Option.getD_some]
  rfl
include hs he hd
@[go_sem high] theorem run_str1 (a : Int) (b : Nat) (hb : w.heap.size = b) :
    (convert src dst (.slice (some ⟨b, 0, none⟩) 1 n)).run P (w.alloc (.cells #[.int .u8 a] e fr)) = .ok (.string (str1 a)) (w.alloc (.cells #[.int .u8 a] e fr)) :=
  run_strs src dst e n fr [a] b _ hs he hd (by rw [← hb]; exact (MapKept.heap_alloc w _).1)
@[go_sem high] theorem run_str2 (a c : Int) (b : Nat) (hb : w.heap.size = b) :
    (convert src dst (.slice (some ⟨b, 0, none⟩) 2 n)).run P (w.alloc (.cells #[.int .u8 a, .int .u8 c] e fr)) = .ok (.string (str2 a c)) (w.alloc (.cells #[.int .u8 a, .int .u8 c] e fr)) :=
  run_strs src dst e n fr [a, c] b _ hs he hd (by rw [← hb]; exact (MapKept.heap_alloc w _).1)
@[go_sem high] theorem run_str3 (a c d : Int) (b : Nat) (hb : w.heap.size = b) :
    (convert src dst (.slice (some ⟨b, 0, none⟩) 3 n)).run P (w.alloc (.cells #[.int .u8 a, .int .u8 c, .int .u8 d] e fr)) = .ok (.string (str3 a c d)) (w.alloc (.cells #[.int .u8 a, .int .u8 c, .int .u8 d] e fr)) :=
  run_strs src dst e n fr [a, c, d] b _ hs he hd (by rw [← hb]; exact (MapKept.heap_alloc w _).1)
@[go_sem high] theorem run_str1d (a : Int) (b : Nat) (hb : w.heap.size = b) :
    (convert src dst (.slice (some ⟨b, 0, none⟩) 1 n)).run P (w.alloc (.cells #[.int .u8 a] e fr)).drew = .ok (.string (str1 a)) (w.alloc (.cells #[.int .u8 a] e fr)).drew :=
  run_strs src dst e n fr [a] b _ hs he hd (by rw [← hb]; exact (MapKept.heap_alloc w _).1)
@[go_sem high] theorem run_str1n (a : Int) (b m : Nat) (hb : w.heap.size = b) :
    (convert src dst (.slice (some ⟨b, 0, none⟩) 1 n)).run P ((w.alloc (.cells #[.int .u8 a] e fr)).drewN m) = .ok (.string (str1 a)) ((w.alloc (.cells #[.int .u8 a] e fr)).drewN m) :=
  run_strs src dst e n fr [a] b _ hs he hd (by rw [← hb]; exact (MapKept.heap_alloc w _).1)
end
/-- nothing that was there has changed; new blocks may lie behind -/
def Ext (w w' : World) : Prop := Below w.heap.size w w'
theorem Ext.refl (w : World) : Ext w w := Below.refl _ _
theorem Ext.size {a b : World} (h : Ext a b) : a.heap.size ≤ b.heap.size := Below.size h
theorem Ext.trans {a b c : World} (h : Ext a b) (k : Ext b c) : Ext a c := Below.trans h (Below.mono k h.size)
theorem Ext.alloc {a w : World} (h : Ext a w) (o : Obj) : Ext a (w.alloc o) := Below.alloc h h.size o
theorem Ext.drew {a w : World} (h : Ext a w) : Ext a w.drew := Below.drew h
theorem Ext.drewN {a w : World} (h : Ext a w) (n : Nat) : Ext a (w.drewN n) := below_drewN h n
theorem Ext.dr {a w w' : World} (h : Ext a w) (k : Dr w w') : Ext a w' := by obtain ⟨n, rfl⟩ := k; exact h.drewN n
theorem Ext.setCell {a w : World} (h : Ext a w) {p : Addr} (hp : a.heap.size ≤ p.block) (u : Value) : Ext a (w.setCell p u) := Below.setCell h hp u
theorem Ext.cell {w w' : World} (h : Ext w w') {p : Addr} (hp : p.block < w.heap.size) : w'.cell? p = w.cell? p := Below.cell h hp
theorem Dr.ext {w w' : World} (h : Dr w w') : Ext w w' := (Ext.refl w).dr h
@[go_sem] theorem size_str1 (a : Int) : (str1 a).size = 1 := rfl
@[go_sem] theorem size_str2 (a b : Int) : (str2 a b).size = 2 := rfl
@[go_sem] theorem size_str3 (a b c : Int) : (str3 a b c).size = 3 := rfl
theorem cut_bd (c m : Int) (h1 : 0 < m) (h2 : m ≤ 9223372036854775807) : 0 ≤ wrap64 ((IntKind.u64.wrap c).tmod m) ∧ wrap64 ((IntKind.u64.wrap c).tmod m) < m := by
  have hu : IntKind.u64.wrap c = c % 18446744073709551616 := by rw [IntKind.wrap_u64]
  have h0 : 0 ≤ IntKind.u64.wrap c := by rw [hu]; omega
  rw [Int.tmod_eq_emod_of_nonneg h0]
  have a := Int.emod_nonneg (IntKind.u64.wrap c) (show m ≠ 0 by omega)
  have b := Int.emod_lt_of_pos (IntKind.u64.wrap c) h1
  rw [IntWalk.wrap64_in _ (by omega)]
  exact ⟨a, b⟩
theorem extract_le (s : ByteArray) (a b : Nat) : (s.extract a b).size ≤ s.size := by
  rw [ByteArray.size_extract]; omega
theorem vint {k : IntKind} {a b : Int} (h : a = b) : Value.int k a = Value.int k b := by rw [h]
theorem BA_ext {a b : ByteArray} (h : a.data.toList = b.data.toList) : a = b := by
  cases a with
  | mk x => cases b with
    | mk y => simp at h; rw [h]
theorem size_list (s : ByteArray) : s.size = s.data.toList.length := by cases s; rfl
theorem data_append (a b : ByteArray) : (a ++ b).data.toList = a.data.toList ++ b.data.toList := by simp
theorem data_extract (s : ByteArray) (a b : Nat) : (s.extract a b).data.toList = (s.data.toList.take b).drop a := by
  rw [ByteArray.data_extract]; simp [List.drop_take]
theorem B_append_left (a b : ByteArray) (i : Nat) (h : i < a.size) : B (a ++ b) i = B a i := by
  rw [size_list] at h
  unfold B; rw [data_append, List.getD_eq_getElem?_getD, List.getElem?_append_left h, ← List.getD_eq_getElem?_getD]
theorem B_append_right (a b : ByteArray) (i : Nat) (h : a.size ≤ i) : B (a ++ b) i = B b (i - a.size) := by
  rw [size_list] at *
  unfold B; rw [data_append, List.getD_eq_getElem?_getD, List.getElem?_append_right h, ← List.getD_eq_getElem?_getD]
theorem B_extract (s : ByteArray) (a b i : Nat) (h : a + i < b) : B (s.extract a b) i = B s (a + i) := by
  unfold B; rw [data_extract, List.getD_eq_getElem?_getD, List.getElem?_drop, List.getElem?_take, if_pos h, ← List.getD_eq_getElem?_getD]
theorem u8_back {a : Int} (h0 : 0 ≤ a) (h1 : a < 256) : ((UInt8.ofNat a.toNat).toNat : Int) = a := by
  rw [UInt8.toNat_ofNat_of_lt' (by show _ < 256; omega)]; omega
theorem B_str1 {a : Int} (h0 : 0 ≤ a) (h1 : a < 256) : B (str1 a) 0 = a := u8_back h0 h1
theorem B_str2_0 {a : Int} (b : Int) (h0 : 0 ≤ a) (h1 : a < 256) : B (str2 a b) 0 = a := u8_back h0 h1
theorem B_str2_1 (a : Int) {b : Int} (h0 : 0 ≤ b) (h1 : b < 256) : B (str2 a b) 1 = b := u8_back h0 h1
theorem size_app (a b : ByteArray) : (a ++ b).size = a.size + b.size := ByteArray.size_append'  a b
theorem size_max {s : ByteArray} (h : s.size ≤ maxLen) : s.size ≤ 9223372036854775807 := h
end Go.Proofs.YtpdoddelnahlnaaDoor
