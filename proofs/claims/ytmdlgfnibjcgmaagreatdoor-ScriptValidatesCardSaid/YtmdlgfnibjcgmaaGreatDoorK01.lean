/-
  Several texts joined: Base, Heap.
-/
import Derived.WalkKit
import Derived.WalkSpells
import Derived.WalkLawsBesides
import Derived.Lib.Hide
import Derived.Deep.Light
import Derived.Deep.QuietTactic
import Derived.BigQuiet
import Derived.Laws.BytesArg
import Derived.Laws.IdiomStrings
set_option linter.unusedVariables false
namespace Go.Proofs.YtmdlgfnibjcgmaaGreatDoor
open Go.RowKit
def B (s : ByteArray) (k : Nat) : Int := ((s.data.toList.getD k 0).toNat : Int)
theorem B_bd (s : ByteArray) (k : Nat) : 0 <= B s k /\ B s k < 256 := by
 have := UInt8.toNat_lt (s.data.toList.getD k 0); unfold B; omega
theorem B_eq (s : ByteArray) (k : Nat) (h : k < s.size) : (s[k].toNat : Int) = B s k := by
 have h' : k < s.data.toList.length := by cases s; exact h
 unfold B
 rw [List.getD_eq_getElem?_getD, List.getElem?_eq_getElem h', Option.getD_some]; rfl
section
variable {P : Program} (w : World)
@[go_sem high] theorem run_index_B (t : TypeId) (s : ByteArray) (k : IntKind) (i : Int) (h : P.underlying t = some .string) :
  (Instr.index t (.string s) (.int k i)).run P w =
   if 0 <= i /\ i < s.size then .ok (.int .u8 (B s i.toNat)) w
   else (boundsPanic k i s.size .index).run P w := by
 rw [run_index_string w t s k i h]
 split
 ·rename_i hi; rw [B_eq s i.toNat (by omega)]
 ·rfl
@[go_sem high] theorem empty_size (s : ByteArray) : s.toList.isEmpty = decide ((s.size : Int) < 1) := by
 rw [ByteArray.toList_eq]
 have : s.size = s.data.toList.length := by cases s; rfl
 rw [this]
 generalize s.data.toList = l
 cases l with
 | nil => rfl
 | cons x xs =>
  have : ¬ (((x :: xs : List UInt8).length : Int) < 1) := by rw [List.length_cons]; omega
  rw [decide_eq_false this]; rfl
@[go_sem] theorem wrap64_B (s : ByteArray) (k : Nat) : wrap64 (B s k) = B s k := IntWalk.wrap64_in _ (by have := B_bd s k; omega)
end
def Dr (w w' : World) : Prop := ∃ n, w' = w.drewN n
theorem Dr.refl (w : World) : Dr w w := ⟨0, rfl⟩
theorem Dr.mk (w : World) (n : Nat) : Dr w (w.drewN n) := ⟨n, rfl⟩
theorem Dr.trans {a b c : World} (h : Dr a b) (h' : Dr b c) : Dr a c := by
 obtain ⟨n, rfl⟩ := h; obtain ⟨m, rfl⟩ := h'; exact ⟨n + m, by simp [World.drewN, Nat.add_assoc]⟩
def str1 (a : Int) : ByteArray := ⟨#[UInt8.ofNat a.toNat]⟩
def str2 (a b : Int) : ByteArray := ⟨#[UInt8.ofNat a.toNat, UInt8.ofNat b.toNat]⟩
def str3 (a b c : Int) : ByteArray := ⟨#[UInt8.ofNat a.toNat, UInt8.ofNat b.toNat, UInt8.ofNat c.toNat]⟩
section
variable {P : Program} (w : World) (src dst e : TypeId) (hs : P.underlying src = some (.slice e)) (he : P.underlying e = some (.int .u8)) (hd : P.underlying dst = some .string) (n : Nat) (fr : Nat × Nat)
theorem run_strs (C : List Int) (b : Nat) (w' : World) (hs : P.underlying src = some (.slice e)) (he : P.underlying e = some (.int .u8)) (hd : P.underlying dst = some .string)
  (hb : w'.heap[b]? = some (.cells (C.map (Value.int .u8)).toArray e fr)) :
  (convert src dst (.slice (some ⟨b, 0, none⟩) C.length n)).run P w' = .ok (.string (strOfNums C)) w' := by
 refine run_convert_bytes_arg w' src e hs he b 0 C.length n C rfl (fun i hi => ?_) dst hd
 unfold World.cell?
 rw [hb]
 simp only [Nat.zero_add, List.getElem?_toArray, List.getElem?_map, List.getElem?_eq_getElem hi, List.getD_eq_getElem?_getD, Option.getD_some]
 rfl
include hs he hd
@[go_sem high] theorem run_str1 (a : Int) (b : Nat) (hb : w.heap.size = b) :
  (convert src dst (.slice (some ⟨b, 0, none⟩) 1 n)).run P (w.alloc (.cells #[.int .u8 a] e fr)) = .ok (.string (str1 a)) (w.alloc (.cells #[.int .u8 a] e fr)) :=
 run_strs src dst e n fr [a] b _ hs he hd (by rw [← hb]; exact (MapKept.heap_alloc w _).1)
@[go_sem high] theorem run_str2 (a c : Int) (b : Nat) (hb : w.heap.size = b) :
  (convert src dst (.slice (some ⟨b, 0, none⟩) 2 n)).run P (w.alloc (.cells #[.int .u8 a, .int .u8 c] e fr)) = .ok (.string (str2 a c)) (w.alloc (.cells #[.int .u8 a, .int .u8 c] e fr)) :=
 run_strs src dst e n fr [a, c] b _ hs he hd (by rw [← hb]; exact (MapKept.heap_alloc w _).1)
@[go_sem high] theorem run_str3 (a c d : Int) (b : Nat) (hb : w.heap.size = b) :
  (convert src dst (.slice (some ⟨b, 0, none⟩) 3 n)).run P (w.alloc (.cells #[.int .u8 a, .int .u8 c, .int .u8 d] e fr)) = .ok (.string (str3 a c d)) (w.alloc (.cells #[.int .u8 a, .int .u8 c, .int .u8 d] e fr)) :=
 run_strs src dst e n fr [a, c, d] b _ hs he hd (by rw [← hb]; exact (MapKept.heap_alloc w _).1)
@[go_sem high] theorem run_str1d (a : Int) (b : Nat) (hb : w.heap.size = b) :
  (convert src dst (.slice (some ⟨b, 0, none⟩) 1 n)).run P (w.alloc (.cells #[.int .u8 a] e fr)).drew = .ok (.string (str1 a)) (w.alloc (.cells #[.int .u8 a] e fr)).drew :=
 run_strs src dst e n fr [a] b _ hs he hd (by rw [← hb]; exact (MapKept.heap_alloc w _).1)
@[go_sem high] theorem run_str1n (a : Int) (b m : Nat) (hb : w.heap.size = b) :
  (convert src dst (.slice (some ⟨b, 0, none⟩) 1 n)).run P ((w.alloc (.cells #[.int .u8 a] e fr)).drewN m) = .ok (.string (str1 a)) ((w.alloc (.cells #[.int .u8 a] e fr)).drewN m) :=
 run_strs src dst e n fr [a] b _ hs he hd (by rw [← hb]; exact (MapKept.heap_alloc w _).1)
end
def Ext (w w' : World) : Prop := Below w.heap.size w w'
theorem Ext.refl (w : World) : Ext w w := Below.refl _ _
theorem Ext.size {a b : World} (h : Ext a b) : a.heap.size <= b.heap.size := Below.size h
theorem Ext.trans {a b c : World} (h : Ext a b) (k : Ext b c) : Ext a c := Below.trans h (Below.mono k h.size)
theorem Ext.alloc {a w : World} (h : Ext a w) (o : Obj) : Ext a (w.alloc o) := Below.alloc h h.size o
theorem Ext.drew {a w : World} (h : Ext a w) : Ext a w.drew := Below.drew h
theorem Ext.drewN {a w : World} (h : Ext a w) (n : Nat) : Ext a (w.drewN n) := below_drewN h n
theorem Ext.dr {a w w' : World} (h : Ext a w) (k : Dr w w') : Ext a w' := by obtain ⟨n, rfl⟩ := k; exact h.drewN n
theorem Ext.setCell {a w : World} (h : Ext a w) {p : Addr} (hp : a.heap.size <= p.block) (u : Value) : Ext a (w.setCell p u) := Below.setCell h hp u
theorem Ext.cell {w w' : World} (h : Ext w w') {p : Addr} (hp : p.block < w.heap.size) : w'.cell? p = w.cell? p := Below.cell h hp
theorem Dr.ext {w w' : World} (h : Dr w w') : Ext w w' := (Ext.refl w).dr h
@[go_sem] theorem size_str1 (a : Int) : (str1 a).size = 1 := rfl
@[go_sem] theorem size_str2 (a b : Int) : (str2 a b).size = 2 := rfl
@[go_sem] theorem size_str3 (a b c : Int) : (str3 a b c).size = 3 := rfl
theorem cut_bd (c m : Int) (h1 : 0 < m) (h2 : m <= 9223372036854775807) : 0 <= wrap64 ((IntKind.u64.wrap c).tmod m) /\ wrap64 ((IntKind.u64.wrap c).tmod m) < m := by
 have hu : IntKind.u64.wrap c = c % 18446744073709551616 := by rw [IntKind.wrap_u64]
 have h0 : 0 <= IntKind.u64.wrap c := by rw [hu]; omega
 rw [Int.tmod_eq_emod_of_nonneg h0]
 have a := Int.emod_nonneg (IntKind.u64.wrap c) (show m ≠ 0 by omega)
 have b := Int.emod_lt_of_pos (IntKind.u64.wrap c) h1
 rw [IntWalk.wrap64_in _ (by omega)]
 exact ⟨a, b⟩
theorem extract_le (s : ByteArray) (a b : Nat) : (s.extract a b).size <= s.size := by
 rw [ByteArray.size_extract]; omega
theorem BA_ext {a b : ByteArray} (h : a.data.toList = b.data.toList) : a = b := by
 cases a with
 | mk x => cases b with
  | mk y => simp at h; rw [h]
theorem size_list (s : ByteArray) : s.size = s.data.toList.length := by cases s; rfl
theorem data_append (a b : ByteArray) : (a ++ b).data.toList = a.data.toList ++ b.data.toList := by simp
theorem data_extract (s : ByteArray) (a b : Nat) : (s.extract a b).data.toList = (s.data.toList.take b).drop a := by
 rw [ByteArray.data_extract]; simp [List.drop_take]
theorem B_append_left (a b : ByteArray) (i : Nat) (h : i < a.size) : B (a ++ b) i = B a i := by
 rw [size_list] at h
 unfold B; rw [data_append, List.getD_eq_getElem?_getD, List.getElem?_append_left h, ← List.getD_eq_getElem?_getD]
theorem B_append_right (a b : ByteArray) (i : Nat) (h : a.size <= i) : B (a ++ b) i = B b (i - a.size) := by
 rw [size_list] at *
 unfold B; rw [data_append, List.getD_eq_getElem?_getD, List.getElem?_append_right h, ← List.getD_eq_getElem?_getD]
theorem u8_back {a : Int} (h0 : 0 <= a) (h1 : a < 256) : ((UInt8.ofNat a.toNat).toNat : Int) = a := by
 rw [UInt8.toNat_ofNat_of_lt' (by show _ < 256; omega)]; omega
theorem B_str1 {a : Int} (h0 : 0 <= a) (h1 : a < 256) : B (str1 a) 0 = a := u8_back h0 h1
theorem size_app (a b : ByteArray) : (a ++ b).size = a.size + b.size := ByteArray.size_append'  a b
theorem aput (l : List Value) (d : List Deferred) (i : Nat) (v : Value) : Act.put ⟨l.toArray, d⟩ (some i) v = ⟨(l.set i v).toArray, d⟩ := by simp [Act.put]
open Go.RowKit
def Blk (w : World) (b : Nat) (cs : List Value) (t : TypeId) : Prop := w.heap[b]? = some (.cells cs.toArray t (0, 0))
theorem Blk.lt {w : World} {b : Nat} {cs : List Value} {t : TypeId} (h : Blk w b cs t) : b < w.heap.size := by
 unfold Blk at h
 rcases Nat.lt_or_ge b w.heap.size with h1 | h1
 ·exact h1
 ·rw [Array.getElem?_eq_none h1] at h; cases h
theorem Blk.cell {w : World} {b : Nat} {cs : List Value} {t : TypeId} (h : Blk w b cs t) {i : Nat} {v : Value} (hi : cs[i]? = some v) : w.cell? ⟨b, i, none⟩ = some v := by
 unfold World.cell?; rw [h]; simp [hi]
theorem Blk.free {w : World} {b : Nat} {cs : List Value} {t : TypeId} (h : Blk w b cs t) (i : Nat) : w.frozen? ⟨b, i, none⟩ = false := by
 unfold World.frozen?; rw [h]; simp
theorem Blk.of_heap {w w' : World} {b : Nat} {cs : List Value} {t : TypeId} (h : Blk w b cs t) (e : w'.heap[b]? = w.heap[b]?) : Blk w' b cs t := by
 unfold Blk; rw [e]; exact h
theorem Blk.drew {w : World} {b : Nat} {cs : List Value} {t : TypeId} (h : Blk w b cs t) : Blk w.drew b cs t := h
theorem Blk.drewN {w : World} {b : Nat} {cs : List Value} {t : TypeId} (h : Blk w b cs t) (n : Nat) : Blk (w.drewN n) b cs t := h
theorem Blk.alloc {w : World} {b : Nat} {cs : List Value} {t : TypeId} (h : Blk w b cs t) (o : Obj) : Blk (w.alloc o) b cs t :=
 h.of_heap (Below.heap_alloc _ _ _ h.lt)
theorem Blk.new (w : World) (cs : Array Value) (t : TypeId) : Blk (w.alloc (.cells cs t (0, 0))) w.heap.size cs.toList t := by
 unfold Blk; rw [(MapKept.heap_alloc w _).1]
theorem Blk.set {w : World} {b : Nat} {cs : List Value} {t : TypeId} (h : Blk w b cs t) (i : Nat) (v : Value) : Blk (w.setCell ⟨b, i, none⟩ v) b (cs.set i v) t := by
 unfold Blk at *
 simp only [World.setCell, Array.getElem?_modify, if_true, h]
 simp
theorem Blk.set_ne {w : World} {b : Nat} {cs : List Value} {t : TypeId} (h : Blk w b cs t) (p : Addr) (hp : p.block ≠ b) (v : Value) : Blk (w.setCell p v) b cs t :=
 h.of_heap (Below.heap_setCell _ _ _ _ (fun e => hp e.symm))
structure Keep (S : List Nat) (w w' : World) : Prop where
 os : w'.os = w.os
 tape : w'.tape = w.tape
 output : w'.output = w.output
 size : w.heap.size <= w'.heap.size
 block : ∀ i, i < w.heap.size -> i ∉ S -> w'.heap[i]? = w.heap[i]?
theorem Keep.refl (S : List Nat) (w : World) : Keep S w w := ⟨rfl, rfl, rfl, Nat.le_refl _, fun _ _ _ => rfl⟩
theorem Keep.trans {S : List Nat} {a b c : World} (h : Keep S a b) (k : Keep S b c) : Keep S a c :=
 ⟨k.os.trans h.os, k.tape.trans h.tape, k.output.trans h.output, Nat.le_trans h.size k.size, fun i hi hn => (k.block i (Nat.lt_of_lt_of_le hi h.size) hn).trans (h.block i hi hn)⟩
theorem Keep.mono {S T : List Nat} {w w' : World} (h : Keep S w w') (hs : ∀ x ∈ S, x ∈ T ∨ w.heap.size <= x) : Keep T w w' :=
 ⟨h.os, h.tape, h.output, h.size, fun i hi hn => h.block i hi (fun hx => (hs i hx).elim hn (by omega))⟩
theorem Keep.drew {S : List Nat} {a w : World} (h : Keep S a w) : Keep S a w.drew := ⟨h.os, h.tape, h.output, h.size, h.block⟩
theorem Keep.drewN {S : List Nat} {a w : World} (h : Keep S a w) (n : Nat) : Keep S a (w.drewN n) := ⟨h.os, h.tape, h.output, h.size, h.block⟩
theorem Keep.alloc {S : List Nat} {a w : World} (h : Keep S a w) (o : Obj) : Keep S a (w.alloc o) :=
 ⟨h.os, h.tape, h.output, Nat.le_trans h.size (by show _ <= (w.heap.push o).size; simp), fun i hi hn => (Below.heap_alloc _ _ _ (Nat.lt_of_lt_of_le hi h.size)).trans (h.block i hi hn)⟩
theorem Keep.setCell {S : List Nat} {a w : World} (h : Keep S a w) {p : Addr} (hp : p.block ∈ S ∨ a.heap.size <= p.block) (u : Value) : Keep S a (w.setCell p u) :=
 ⟨h.os, h.tape, h.output, by simpa [World.setCell] using h.size, fun i hi hn => by
  rw [Below.heap_setCell _ _ _ _ (fun e => by subst e; rcases hp with hp | hp; exact hn hp; omega)]; exact h.block i hi hn⟩
theorem Keep.ext {S : List Nat} {w w' : World} (h : Keep S w w') (hs : ∀ x ∈ S, w.heap.size <= x) : Ext w w' :=
 ⟨h.os, h.tape, h.output, h.size, fun i hi => h.block i hi (fun hx => by have := hs i hx; omega)⟩
theorem Ext.keep {w w' : World} (h : Ext w w') (S : List Nat) : Keep S w w' :=
 ⟨h.os, h.tape, h.output, Below.size h, fun i hi _ => Below.block h i hi⟩
theorem Blk.keep {S : List Nat} {w w' : World} {b : Nat} {cs : List Value} {t : TypeId} (h : Blk w b cs t) (k : Keep S w w') (hb : b ∉ S) : Blk w' b cs t :=
 h.of_heap (k.block b h.lt hb)
theorem Blk.ext {w w' : World} {b : Nat} {cs : List Value} {t : TypeId} (h : Blk w b cs t) (k : Ext w w') : Blk w' b cs t :=
 h.of_heap (Below.block k b h.lt)
theorem Keep.cell {S : List Nat} {w w' : World} (k : Keep S w w') {p : Addr} (hp : p.block < w.heap.size) (hn : p.block ∉ S) : w'.cell? p = w.cell? p := World.cell?_of_block (w := w) (k.block _ hp hn)
theorem ownsRow_keep {S : List Nat} {w w' : World} {base : Nat} {e : TypeId} {size : Nat} {v : Value} {n : Nat} {xs : List Value} (h : w.ownsRow base e size v n xs) (k : Keep S w w') (hb : ∀ g ∈ S, g < base) : w'.ownsRow base e size v n xs := by
 refine ⟨h.1, ?_⟩
 rcases h.2 with hn | ⟨g, cap, cur, rfl, hg, hgg, rest⟩
 ·exact .inl hn
 ·refine .inr ⟨g, cap, cur, rfl, hg, ?_, rest⟩
  have hlt : g < w.heap.size := by
   rcases Nat.lt_or_ge g w.heap.size with h1 | h1
   ·exact h1
   ·rw [Array.getElem?_eq_none h1] at hgg; cases hgg
  rw [k.block g hlt (fun hm => by have := hb g hm; omega)]; exact hgg
theorem Ext.grown {a w w' : World} {row : Option Nat} (h : Ext a w) (hg : w.grownBy w' row) (hr : ∀ k, row = some k -> a.heap.size <= k) : Ext a w' := Below.grown h hg h.size hr
theorem Keep.of_grown {w w' : World} {row : Option Nat} (hg : w.grownBy w' row) : Keep row.toList w w' :=
 ⟨hg.os, hg.tape, hg.output, hg.size, fun i hi hn => hg.block i hi (fun e => hn (by rw [← e]; simp))⟩
theorem Keep.grown {S : List Nat} {a w w' : World} {row : Option Nat} (h : Keep S a w) (hg : w.grownBy w' row) (hr : ∀ k, row = some k -> a.heap.size <= k) : Keep S a w' :=
 ⟨hg.os.trans h.os, hg.tape.trans h.tape, hg.output.trans h.output, Nat.le_trans h.size hg.size, fun i hi hn => (hg.block i (Nat.lt_of_lt_of_le hi h.size) (fun e => by have := hr i e.symm; omega)).trans (h.block i hi hn)⟩
end Go.Proofs.YtmdlgfnibjcgmaaGreatDoor
