/-
  Several texts joined: Shelf, IpSpec, IpFmtSpec, IpA.
-/
import Derived.Shelf.Strings.Builder1
import Derived.Shelf.Strings.Trim
import Derived.Shelf.Small.Utf8
import Derived.Shelf.Small.Strs
import Derived.Shelf.Small.Wraps
import Derived.Shelf.Strings.BuilderF
import Derived.Shelf.Strings.BuilderK
import Derived.Shelf.Utf8.RuneCount
import Derived.Shelf.Strconv.Itoa0
import Derived.Shelf.Strconv.Itoa1
import Derived.Shelf.LaysM
import Derived.Shelf.Strconv.Itoa2
import Derived.Shelf.Strconv.Itoa3
import Derived.Shelf.Strconv.Clone
import Derived.Shelf.Strconv.SyntaxError
import Derived.Shelf.LaysC
import Derived.Shelf.Strconv.ToError
import Derived.Shelf.Strconv.Lower
import Derived.Shelf.Strconv.ParseUint10
import Derived.Shelf.Strconv.ParseUint10Empty
import Derived.Shelf.Strconv.ParseUint10Any
import Derived.Shelf.Strconv.RangeError
import Derived.Shelf.Strconv.ToErrorRange
import Derived.Shelf.Strconv.ParseUintEmpty
import Derived.Shelf.Strconv.ParseUint10b64
import Derived.Shelf.Strconv.ParseUint10b32
import Derived.Shelf.Strconv.ParseUint10b16
import Derived.Shelf.Strconv.ParseUint10b8
import Derived.Shelf.Strconv.ParseUint10At
import Derived.Ground.MpProg
import Derived.Shelf.Pu.ParseUintPublic10
import Derived.Shelf.Pu.ErrVarParseUint
import Derived.Shelf.Strings.Search1
import Derived.Shelf.Strings.Search2
import Derived.Shelf.Strings.Search3
import Derived.Shelf.Strings.Cut
import Derived.Shelf.Strings.Count
import Derived.Shelf.Strings.Shaped
import Derived.Shelf.Strings.LastIndex
import Derived.Shelf.Strings.Prefix
import Derived.Shelf.Strings.Split
import Derived.Shelf.Strings.SplitShaped
import Derived.Shelf.Unicode.Decode
import Derived.Shelf.Strings.Runes
import Derived.Shelf.Strings.RuneCount
import Derived.Shelf.Strings.AsciiSet
import Derived.Shelf.Strings.Explode
import Derived.Shelf.Unicode.DecodeSlow
import Derived.Shelf.Unicode.DecodeAny
import Derived.Shelf.Unicode.DecodeLast
import Derived.Ground.Names2Prog
import Derived.Shelf.Slices.SearchI
import Derived.Test.YtmdlgfnibjcgmaaGreatDoorProg
import Derived.Lib.SplitLaws
import Derived.Lib.CutLaws
import Derived.Lib.IndexMore
import Derived.Lib.SlTrimSet
import Derived.Test.YtmdlgfnibjcgmaaGreatDoorK01
import Derived.Lib.ItoaNum
import Derived.Lib.EndianBits
import Derived.Lib.TrimByte
import Derived.Handy
import Derived.Deep.MidRow
import Derived.StillTailTactics
import Derived.Laws.CopyOwn
import Derived.Deep.CutBlock
set_option maxHeartbeats 400000
set_option linter.unusedVariables false
set_option linter.unusedSimpArgs false
namespace Go.Proofs
open Go.Shelf
def Tryz.lays160_ren : Go.Shelf.Ren := ⟨fun | 160 => 69 | 232 => 84 | 231 => 83 | 227 => 85 | 234 => 87 | 233 => 86 | 236 => 89 | 235 => 88 | 228 => 114 | 271 => 117 | 151 => 116 | 197 => 115 | 120 => 163 | 152 => 162 | 260 => 161 | 137 => 232 | 119 => 233 | 224 => 234 | 225 => 235 | 217 => 237 | 266 => 308 | n => n, fun | 9 => 9 | 4 => 4 | 3 => 3 | 5 => 5 | 117 => 161 | 116 => 160 | 0 => 0 | 124 => 164 | 21 => 21 | 105 => 204 | 46 => 54 | 119 => 333 | 139 => 336 | 138 => 335 | n => n, fun | 3 => 0 | 4 => 1 | n => n⟩
theorem Tryz.lays160 : Go.Proofs.Lays.n160 Tryz.prog Tryz.lays160_ren := {
 mixed := by kernel_rfl
 f119 := Tryz.func233.trans (congrArg some (by kernel_rfl))
 f120 := Tryz.func163.trans (congrArg some (by kernel_rfl))
 f137 := Tryz.func232.trans (congrArg some (by kernel_rfl))
 f151 := Tryz.func116.trans (congrArg some (by kernel_rfl))
 f152 := Tryz.func162.trans (congrArg some (by kernel_rfl))
 f160 := Tryz.func69.trans (congrArg some (by kernel_rfl))
 f197 := Tryz.func115.trans (congrArg some (by kernel_rfl))
 f217 := Tryz.func237.trans (congrArg some (by kernel_rfl))
 f224 := Tryz.func234.trans (congrArg some (by kernel_rfl))
 f225 := Tryz.func235.trans (congrArg some (by kernel_rfl))
 f227 := Tryz.func85.trans (congrArg some (by kernel_rfl))
 f228 := Tryz.func114.trans (congrArg some (by kernel_rfl))
 f231 := Tryz.func83.trans (congrArg some (by kernel_rfl))
 f232 := Tryz.func84.trans (congrArg some (by kernel_rfl))
 f233 := Tryz.func86.trans (congrArg some (by kernel_rfl))
 f234 := Tryz.func87.trans (congrArg some (by kernel_rfl))
 f235 := Tryz.func88.trans (congrArg some (by kernel_rfl))
 f236 := Tryz.func89.trans (congrArg some (by kernel_rfl))
 f260 := Tryz.func161.trans (congrArg some (by kernel_rfl))
 f266 := Tryz.func308.trans (congrArg some (by kernel_rfl))
 f271 := Tryz.func117.trans (congrArg some (by kernel_rfl))
 t0 := Tryz.underlying0
 a0 := Tryz.isAgg0
 z0 := Tryz.sizeOf0
 v0 := Tryz.zeroValue0
 t3 := Tryz.underlying3
 a3 := Tryz.isAgg3
 z3 := Tryz.sizeOf3
 v3 := Tryz.zeroValue3
 t4 := Tryz.underlying4
 a4 := Tryz.isAgg4
 z4 := Tryz.sizeOf4
 v4 := Tryz.zeroValue4
 t5 := Tryz.underlying5
 a5 := Tryz.isAgg5
 z5 := Tryz.sizeOf5
 v5 := Tryz.zeroValue5
 t9 := Tryz.underlying9
 a9 := Tryz.isAgg9
 z9 := Tryz.sizeOf9
 v9 := Tryz.zeroValue9
 t21 := Tryz.underlying21
 a21 := Tryz.isAgg21
 z21 := Tryz.sizeOf21
 v21 := Tryz.zeroValue21
 t46 := Tryz.underlying54
 a46 := Tryz.isAgg54
 z46 := Tryz.sizeOf54
 v46 := Tryz.zeroValue54
 t105 := Tryz.underlying204
 a105 := Tryz.isAgg204
 z105 := Tryz.sizeOf204
 v105 := Tryz.zeroValue204
 t116 := Tryz.underlying160
 a116 := Tryz.isAgg160
 z116 := Tryz.sizeOf160
 t117 := Tryz.underlying161
 a117 := Tryz.isAgg161
 z117 := Tryz.sizeOf161
 v117 := Tryz.zeroValue161
 t119 := Tryz.underlying333
 a119 := Tryz.isAgg333
 z119 := Tryz.sizeOf333
 t124 := Tryz.underlying164
 a124 := Tryz.isAgg164
 z124 := Tryz.sizeOf164
 v124 := Tryz.zeroValue164
 t138 := Tryz.underlying335
 a138 := Tryz.isAgg335
 z138 := Tryz.sizeOf335
 v138 := Tryz.zeroValue335
 t139 := Tryz.underlying336
 a139 := Tryz.isAgg336
 z139 := Tryz.sizeOf336
 v139 := Tryz.zeroValue336
 g3 := by kernel_rfl
 g4 := by kernel_rfl }
open Go.RowKit in
/-- strings.Trim: "Trim returns a slice of the string s with all leading and trailing Unicode code points contained in cutset removed.": AT A cutset OF ONE ASCII BYTE. THE WORLD BEHIND IT: as it was, or (where s is not empty) with ONE DRAW MORE off the tape: the statement 'return trimLeftByte(trimRightByte(s, c), c)' draws its order of evaluation. (LAID: no walk: one application.) -/
theorem Tryz.strings_Trim_one (s : ByteArray) (c : UInt8) (hc : c.toNat < 128) (w : World) (hs : s.size <= 9223372036854775807) :
  Calls Tryz.prog 69 #[.string s, .string ⟨#[c]⟩] w fun e w' => e = .returned (.string ⟨(Lib.trimB s.data.toList c).toArray⟩) /\ (w' = w ∨ w' = w.drew) := Any.strings_Trim_one Tryz.lays160 s c hc w hs
def Tryz.lays144_ren : Go.Shelf.Ren := ⟨fun | 144 => 93 | 143 => 121 | 219 => 165 | 217 => 237 | 225 => 235 | 224 => 234 | 267 => 238 | 266 => 308 | 314 => 309 | n => n, fun | 9 => 9 | 4 => 4 | 3 => 3 | 5 => 5 | 46 => 54 | 146 => 401 | 51 => 398 | n => n, fun | 1 => 2 | n => n⟩
theorem Tryz.lays144 : Go.Proofs.Lays.n144 Tryz.prog Tryz.lays144_ren := {
 mixed := by kernel_rfl
 f143 := Tryz.func121.trans (congrArg some (by kernel_rfl))
 f144 := Tryz.func93.trans (congrArg some (by kernel_rfl))
 f217 := Tryz.func237.trans (congrArg some (by kernel_rfl))
 f219 := Tryz.func165.trans (congrArg some (by kernel_rfl))
 f224 := Tryz.func234.trans (congrArg some (by kernel_rfl))
 f225 := Tryz.func235.trans (congrArg some (by kernel_rfl))
 f266 := Tryz.func308.trans (congrArg some (by kernel_rfl))
 f267 := Tryz.func238.trans (congrArg some (by kernel_rfl))
 f314 := Tryz.func309.trans (congrArg some (by kernel_rfl))
 t3 := Tryz.underlying3
 a3 := Tryz.isAgg3
 z3 := Tryz.sizeOf3
 v3 := Tryz.zeroValue3
 t4 := Tryz.underlying4
 a4 := Tryz.isAgg4
 z4 := Tryz.sizeOf4
 v4 := Tryz.zeroValue4
 t5 := Tryz.underlying5
 a5 := Tryz.isAgg5
 z5 := Tryz.sizeOf5
 v5 := Tryz.zeroValue5
 t9 := Tryz.underlying9
 a9 := Tryz.isAgg9
 z9 := Tryz.sizeOf9
 v9 := Tryz.zeroValue9
 t46 := Tryz.underlying54
 a46 := Tryz.isAgg54
 z46 := Tryz.sizeOf54
 v46 := Tryz.zeroValue54
 t51 := Tryz.underlying398
 a51 := Tryz.isAgg398
 z51 := Tryz.sizeOf398
 v51 := Tryz.zeroValue398
 t146 := Tryz.underlying401
 a146 := Tryz.isAgg401
 z146 := Tryz.sizeOf401
 v146 := Tryz.zeroValue401
 g1 := by kernel_rfl }
open Go.RowKit Go.Lib in
/-- strings.Contains: "Contains reports whether substr is within s.": AT A substr OF ONE BYTE c: IT RETURNS 'decide (0 <= Lib.indexByte s c)'; the world is as it was. (LAID: no walk: one application.) -/
theorem Tryz.strings_Contains_one (s : ByteArray) (c : UInt8) (w : World) :
  Calls Tryz.prog 93 #[.string s, .string ⟨#[c]⟩] w fun e w' => e = .returned (.bool (decide (0 <= Lib.indexByte s.data.toList c))) /\ w' = w := Any.strings_Contains_one Tryz.lays144 s c w
end Go.Proofs
namespace Go.Proofs.YtmdlgfnibjcgmaaGreatDoor
def splitc (c : UInt8) : List UInt8 -> List (List UInt8)
 | [] => [[]]
 | x :: l => if x = c then [] :: splitc c l else match splitc c l with
  | [] => [[x]]
  | y :: ys => (x :: y) :: ys
def parts (c : UInt8) (s : ByteArray) : List ByteArray := (splitc c s.data.toList).map fun l => ⟨l.toArray⟩
def hexd (x : Int) : Int := if 48 <= x /\ x <= 57 then x - 48 else if 97 <= x /\ x <= 102 then x - 87 else if 65 <= x /\ x <= 70 then x - 55 else -1
def hval (s : ByteArray) : Nat -> Int
 | 0 => 0
 | k + 1 => 16 * hval s k + hexd (B s k)
abbrev Adr := Bool × List Int
def zeros : List Int := [0, 0, 0, 0, 0, 0, 0, 0, 0, 0, 0, 0, 0, 0, 0, 0]
def zadr : Adr := (false, zeros)
def hilo (l : List Int) : List Int := l.flatMap fun x => [x / 256, x % 256]
def v6 (l : List Int) : Adr × Bool := if l.length = 8 then ((true, hilo l), true) else (zadr, false)
def v4 (a b c d : Int) : Adr := (false, [a, b, c, d, 0, 0, 0, 0, 0, 0, 0, 0, 0, 0, 0, 0])
def validA (a : Adr) : Bool := a.1 || (a.2.drop 4).all fun x => decide (x = 0)
def txt (l : List UInt8) : ByteArray := ⟨l.toArray⟩
open Go.RowKit
def ac (a : Adr) : Array Value := (.bool a.1 :: a.2.map (Value.int .u8)).toArray
abbrev av (a : Adr) : Value := .agg (ac a)
def X (a : Adr) (j : Nat) : Int := a.2.getD j 0
def okA (a : Adr) : Prop := a.2.length = 16 /\ ∀ x ∈ a.2, 0 <= x /\ x < 256
theorem X_bd {a : Adr} (h : okA a) (j : Nat) : 0 <= X a j /\ X a j < 256 := by
 unfold X
 rw [List.getD_eq_getElem?_getD]
 rcases Nat.lt_or_ge j a.2.length with h1 | h1
 ·rw [List.getElem?_eq_getElem h1]; exact h.2 _ (List.getElem_mem h1)
 ·rw [List.getElem?_eq_none h1]; exact ⟨Int.le_refl _, by decide⟩
theorem ac_at {a : Adr} (h : okA a) {j : Nat} (hj : j < 16) : (ac a)[1 + j]? = some (.int .u8 (X a j)) := by
 unfold ac X
 rw [List.getElem?_toArray, Nat.add_comm 1 j, List.getElem?_cons_succ, List.getElem?_map, List.getD_eq_getElem?_getD, List.getElem?_eq_getElem (by rw [h.1]; exact hj)]; rfl
structure ABox (w : World) (b : Nat) (a : Adr) : Prop where
 lt : b < w.heap.size
 fam : w.cell? ⟨b, 0, none⟩ = some (.bool a.1)
 at' : ∀ j, j < 16 -> w.cell? ⟨b, 1 + j, none⟩ = some (.int .u8 (X a j))
 blk : Blk w b (ac a).toList 72
theorem ABox.of_blk {w : World} {b : Nat} {a : Adr} (h : okA a) (hb : Blk w b (ac a).toList 72) : ABox w b a :=
 ⟨hb.lt, hb.cell rfl, fun j hj => hb.cell (by rw [Array.getElem?_toList]; exact ac_at h hj), hb⟩
theorem ABox.new {a : Adr} (h : okA a) (w : World) : ABox (w.alloc (.cells (ac a) 72)) w.heap.size a := .of_blk h (Blk.new _ _ _)
theorem ABox.ext {w w' : World} {b : Nat} {a : Adr} (h : ABox w b a) (ha : okA a) (k : Ext w w') : ABox w' b a := .of_blk ha (h.blk.ext k)
theorem ABox.num {w : World} {b : Nat} {a : Adr} (h : ABox w b a) (j n : Nat) (hn : n = 1 + j) (hj : j < 16) : w.cell? ⟨b, n, none⟩ = some (.int .u8 (X a j)) := by subst hn; exact h.at' j hj
theorem ABox.str {P : Program} {w : World} {b : Nat} {a : Adr} (h : ABox w b a) (ha : okA a) (f n cap : Nat) (hn : f + n <= 16) {src e dst : TypeId} (hs : P.underlying src = some (.slice e)) (he : P.underlying e = some (.int .u8)) (hd : P.underlying dst = some .string) :
  (convert src dst (.slice (some ⟨b, 1 + f, none⟩) n cap)).run P w = .ok (.string (strOfNums ((a.2.drop f).take n))) w :=
 run_convert_bytes_arg w src e hs he b (1 + f) n cap _ (by have := ha.1; simp; omega) (fun i hi => by
  rw [show 1 + f + i = 1 + (f + i) by omega, h.at' (f + i) (by omega)]
  unfold X
  simp [List.getD_eq_getElem?_getD, List.getElem?_take, List.getElem?_drop, hi]) dst hd
theorem trimB_nil (l : List UInt8) (c : UInt8) : Lib.trimB l c = [] ↔ ∀ x ∈ l, x = c := by
 unfold Lib.trimB Lib.trimLeftB Lib.trimRightB
 constructor
 ·intro h
  have h1 : ∀ m : List UInt8, m.dropWhile (· == c) = [] -> ∀ x ∈ m, x = c := by
   intro m
   induction m with
   | nil => intro _ x hx; cases hx
   | cons y m ih =>
    intro hm x hx
    rw [List.dropWhile_cons] at hm
    split at hm
    ·rename_i hy
     rcases List.mem_cons.1 hx with rfl | hx
     ·simpa using hy
     ·exact ih hm x hx
    ·cases hm
  have h2 : l.reverse.dropWhile (· == c) = [] := by
   cases hd : l.reverse.dropWhile (· == c) with
   | nil => rfl
   | cons y m =>
    have e1 := h1 _ h
    rw [hd] at e1
    have e2 : y = c := e1 y (by simp)
    have e3 := List.head_dropWhile_not (fun x : UInt8 => x == c) (l := l.reverse) (by rw [hd]; simp)
    simp only [hd, List.head_cons] at e3
    rw [e2] at e3; simp at e3
  intro x hx
  exact h1 _ h2 x (by simpa using hx)
 ·intro h
  have e : l.reverse.dropWhile (· == c) = [] := by
   have h3 : ∀ m : List UInt8, (∀ x ∈ m, x = c) -> m.dropWhile (· == c) = [] := by
    intro m
    induction m with
    | nil => intro _; rfl
    | cons y m ih => intro hm; rw [List.dropWhile_cons, if_pos (by simpa using hm y (by simp))]; exact ih fun x hx => hm x (by simp [hx])
   exact h3 _ fun x hx => h x (by simpa using hx)
  rw [e]; rfl
theorem ofNat_zero {x : Int} (h0 : 0 <= x) (h1 : x < 256) : UInt8.ofNat x.toNat = 0 ↔ x = 0 := by
 constructor
 ·intro h
  have := congrArg UInt8.toNat h
  rw [UInt8.toNat_ofNat_of_lt' (by show _ < 256; omega)] at this
  have : x.toNat = 0 := this
  omega
 ·intro h; subst h; rfl
theorem trim_valid (a : Adr) (ha : okA a) : (Lib.trimB (strOfNums ((a.2.drop 4).take 12)).data.toList 0).isEmpty = ((a.2.drop 4).all fun x => decide (x = 0)) := by
 rw [Bool.eq_iff_iff, List.isEmpty_iff]
 have hl : (a.2.drop 4).take 12 = a.2.drop 4 := List.take_of_length_le (by have := ha.1; simp; omega)
 rw [hl, strOfNums_data]
 rw [trimB_nil, List.all_eq_true]
 constructor
 ·intro h x hx
  have hb := ha.2 x (List.mem_of_mem_drop hx)
  have := h _ (List.mem_map.2 ⟨x, hx, rfl⟩)
  rw [ofNat_zero hb.1 hb.2] at this
  simpa using this
 ·intro h y hy
  obtain ⟨x, hx, rfl⟩ := List.mem_map.1 hy
  have hb := ha.2 x (List.mem_of_mem_drop hx)
  rw [ofNat_zero hb.1 hb.2]
  simpa using h x hx
theorem valid_any (a : Adr) (ha : okA a) (w : World) : Calls Tryz.prog 47 #[av a] w fun e w' => e = .returned (.bool (validA a)) /\ Ext w w' := by
 unfold av
 go_enter Tryz.func47, Tryz.ntmps47
 go_upto_region 1 with fail
 have hx : Ext w (w.alloc (.cells (ac a) 72)) := (Ext.refl w).alloc _
 have hb := ABox.new ha w
 generalize w.alloc (.cells (ac a) 72) = w1 at *
 have c0 := hb.fam
 have hc := hb.str (P := Tryz.prog) ha 4 12 12 (by decide) Tryz.underlying39 Tryz.underlying5 Tryz.underlying9
 have hsz : (strOfNums ((a.2.drop 4).take 12)).size <= 9223372036854775807 := by rw [strOfNums_size]; simp; omega
 have ht := trim_valid a ha
 generalize w.heap.size = b at *
 rcases ha1 : a.1 with _ | _
 ·have HA := Lib.hid ha1; rw [ha1] at c0; clear ha1
  go_wp2_with (go_at_call 69; refine (Tryz.strings_Trim_one _ 0 (by decide) _ hsz).mono ?_; rintro e w' ⟨rfl, hw⟩)
  go_returns
  refine ⟨by unfold validA; rw [HA.out, Bool.false_or, ← trim_valid a ha]; rfl, by rcases hw with rfl | rfl <;> (repeat' (first | exact Ext.refl _ | assumption | refine Ext.alloc ?_ _ | refine Ext.drew ?_ | refine Ext.setCell ?_ (Nat.le_refl _) _ | refine Ext.setCell ?_ (Nat.le_add_right _ _) _ | refine Ext.drewN ?_ _ | refine Ext.trans ?_ (by assumption) | refine Ext.dr ?_ (by assumption)))⟩
 ·have HA := Lib.hid ha1; rw [ha1] at c0; clear ha1
  go_wp2
  go_returns
  exact ⟨by unfold validA; rw [HA.out]; rfl, by (repeat' (first | exact Ext.refl _ | assumption | refine Ext.alloc ?_ _ | refine Ext.drew ?_ | refine Ext.setCell ?_ (Nat.le_refl _) _ | refine Ext.setCell ?_ (Nat.le_add_right _ _) _ | refine Ext.drewN ?_ _ | refine Ext.trans ?_ (by assumption) | refine Ext.dr ?_ (by assumption)))⟩
theorem ac_size {a : Adr} (ha : okA a) : (ac a).size = 17 := by
 unfold ac; simp [ha.1]
theorem ac_one (a : Adr) : (ac a).all (·.oneCell') = true := by
 rw [Array.all_eq_true_iff_forall_mem]
 intro v hv
 unfold ac at hv
 simp only [List.mem_toArray, List.mem_cons, List.mem_map] at hv
 rcases hv with rfl | ⟨x, _, rfl⟩ <;> rfl
theorem info_A : (Tryz.prog.info? 72).map (·.size) = some 17 := by kernel_rfl
theorem loadV_A {w : World} {b : Nat} {a : Adr} (ha : okA a) (h : Blk w b (ac a).toList 72) : (loadVar 72 ⟨b, 0, none⟩).run Tryz.prog w = .ok (.agg (ac a)) w := by
 have := run_loadVar_mid (P := Tryz.prog) w b 0 72 (ac a).toList _ (fun j v hj => by rw [Nat.zero_add]; exact h.cell hj) Tryz.underlying72 rfl (by rw [info_A, Array.length_toList, ac_size ha])
 simpa using this
theorem Blk.row {w : World} {c : Nat} {cs : List Value} {t : TypeId} (h : Blk w c cs t) (ds : Array Value) : Blk (w.setRow c ds) c ds.toList t := by
 unfold Blk at *; exact setRow_heap w c _ ds t (0, 0) h
theorem Blk.row_ne {w : World} {b c : Nat} {cs : List Value} {t : TypeId} (h : Blk w b cs t) (hne : b ≠ c) (ds : Array Value) : Blk (w.setRow c ds) b cs t := by
 unfold Blk at *; rw [setRow_other w c b ds hne]; exact h
theorem Ext.setRow {a w : World} (h : Ext a w) {c : Nat} (hc : a.heap.size <= c) (ds : Array Value) : Ext a (w.setRow c ds) := below_setRow h hc ds
theorem res_A {fn : Func} {t : Tmp} (h : fn.results = #[.cell t 72]) {tmps : Array Value} {c : Nat} (hp : tmps.getD t undef = .pointer (some ⟨c, 0, none⟩)) {w : World} {a : Adr} (ha : okA a) (hb : Blk w c (ac a).toList 72) :
  (results fn tmps).run Tryz.prog w = .ok (.agg (ac a)) w := by
 have := loadV_A ha hb
 have hp' : tmps[t]?.getD undef = .pointer (some ⟨c, 0, none⟩) := by simpa using hp
 simp [results, h, hp', this, Sem.run_bind, asAddr]
theorem wpList_load_A {ops : Array Oper} {rest : List Oper} {o : Oper} {f : Act} {w : World} {Q : Exit -> Act -> World -> Prop} (hgd : o.guard = none) (x : Operand) (ho : o.op = .load 72 x)
  {b : Nat} {a : Adr} (ha : okA a) (hb : Blk w b (ac a).toList 72) (hx : f.eval x = .pointer (some ⟨b, 0, none⟩)) (h : wpList Tryz.prog ops Q rest (f.put o.dst (.agg (ac a))) w) : wpList Tryz.prog ops Q (o :: rest) f w :=
 wpList_load_mid hgd 72 x ho b 0 hx (ac a).toList _ (fun j v hj => by rw [Nat.zero_add]; exact hb.cell hj) Tryz.underlying72 rfl (by rw [info_A, Array.length_toList, ac_size ha]) h
theorem wpList_store_A {ops : Array Oper} {rest : List Oper} {o : Oper} {f : Act} {w : World} {Q : Exit -> Act -> World -> Prop} (hgd : o.guard = none) (x y : Operand) (ho : o.op = .store 72 x y)
  {c : Nat} {a0 a : Adr} (h0 : okA a0) (ha : okA a) (hb : Blk w c (ac a0).toList 72) (hx : f.eval x = .pointer (some ⟨c, 0, none⟩)) (hy : f.eval y = .agg (ac a)) (h : wpList Tryz.prog ops Q rest (f.put o.dst undef) (w.setRow c (ac a))) : wpList Tryz.prog ops Q (o :: rest) f w :=
 wpList_plain hgd fun _ hK => wp_store_row 72 x y ho c (ac a) hx hy 72 (ac a0) hb (by rw [info_A, ac_size ha]) (by rw [ac_size ha, ac_size h0]) (ac_one a) (hK _ _ h)
theorem okA_zadr : okA zadr := ⟨rfl, by decide⟩
theorem okA_v4 {a b c d : Int} (h : 0 <= a /\ a < 256) (h1 : 0 <= b /\ b < 256) (h2 : 0 <= c /\ c < 256) (h3 : 0 <= d /\ d < 256) : okA (v4 a b c d) := by
 refine ⟨rfl, fun x hx => ?_⟩
 simp [v4] at hx
 omega
theorem ac_zadr : ac zadr = #[.bool false, .int .u8 0, .int .u8 0, .int .u8 0, .int .u8 0, .int .u8 0, .int .u8 0, .int .u8 0, .int .u8 0, .int .u8 0, .int .u8 0, .int .u8 0, .int .u8 0, .int .u8 0, .int .u8 0, .int .u8 0, .int .u8 0] := rfl
end Go.Proofs.YtmdlgfnibjcgmaaGreatDoor
