/-
  Several texts joined: IpU, IpG, IpV, IpM.
-/
import Derived.Test.YtnohnnjeabehjaaGreatDoorProg
import Derived.Lib.ConvBytes
import Derived.Lib.AtoiErrMem
import Derived.Laws.Closers25
import Derived.Handy
import Derived.Test.YtnohnnjeabehjaaGreatDoorK01
import Derived.Test.YtnohnnjeabehjaaGreatDoorK06
import Derived.Shelf.Strings.SlTrimAscii
import Derived.Deep.WholeRow
import Derived.Test.YtnohnnjeabehjaaGreatDoorK03
import Derived.Laws.AppendOwn
import Derived.Laws.CopyRow
set_option maxHeartbeats 4000000
set_option maxRecDepth 100000
set_option linter.unusedVariables false
set_option linter.unusedSimpArgs false
namespace Go.Proofs.YtnohnnjeabehjaaGreatDoor
open Go.RowKit
theorem or32_up {x : Int} (h0 : 65 <= x) (h1 : x <= 70) : bits BinOp.or IntKind.u8 x 32 = x + 32 := by
 have : x = 65 ∨ x = 66 ∨ x = 67 ∨ x = 68 ∨ x = 69 ∨ x = 70 := by omega
 rcases this with h | h | h | h | h | h <;> subst h <;> decide
theorem or32_low {x : Int} (h0 : 97 <= x) (h1 : x <= 102) : bits BinOp.or IntKind.u8 x 32 = x := by
 have : x = 97 ∨ x = 98 ∨ x = 99 ∨ x = 100 ∨ x = 101 ∨ x = 102 := by omega
 rcases this with h | h | h | h | h | h <;> subst h <;> decide
theorem parseUint16_any (s : ByteArray) (w : World) (h1 : 1 <= s.size) (h4 : s.size <= 4) (hx : allHex s s.size = true) :
  Calls Tryz.prog 227 #[.string s, .int .i64 16, .int .i64 16] w fun e w' => e = .returned (.tuple #[.int .u64 (hval s s.size), .nilIface]) /\ Ext w w' := by
 have hemp : ¬ (s.size : Int) < 1 := by omega
 have hcv := Lib.run_convert_string_bytes (P := Tryz.prog) w 9 33 5 s (u := .string) Tryz.underlying9 Tryz.underlying33 Tryz.underlying5
 have hB : ∀ j, j < s.size -> (Lib.bytesWorld w 5 s).cell? ⟨w.heap.size, j, none⟩ = some (.int .u8 (B s j)) := fun j hj => Lib.bytesWorld_cell w 5 s j hj
 have hE : Ext w (Lib.bytesWorld w 5 s) := Lib.bytesWorld_below w _ s
 obtain ⟨W1, hW1⟩ : ∃ W1, W1 = Lib.bytesWorld w 5 s := ⟨_, rfl⟩
 rw [← hW1] at hcv hB hE
 clear hW1
 have hmv : IntKind.u64.wrap (IntKind.u64.wrap 65536 - 1) = 65535 := by decide
 have HX := Lib.hid hx; clear hx
 go_enter Tryz.func227, Tryz.ntmps227
 go_wp2
 go_loop [12, 13, 101] (fun vu vn vi => ∃ (k : Nat) (a : Int), vu = .bool false /\ vn = .int .u64 a /\ vi = .int .i64 k /\ k <= s.size /\ Hid (a = hval s k))
  (fun _ _ vi => s.size - (intOf vi).toNat)
 case atStart => exact ⟨0, 0, rfl, rfl, rfl, by omega, rfl⟩
 case round =>
  obtain ⟨k, a, rfl, rfl, rfl, hk, hh⟩ := hrel
  have hak := allHex_mono s s.size k hk HX.out
  have hv := hval_bd s k hak
  have hv1 : 0 <= a := by rw [hh.out]; exact hv.1
  have bk := B_bd s k
  by_cases hkn : k < s.size
  ·have hc := hB k hkn
   have hp : (16 : Int) ^ k <= 4096 := by
    match k, (show k <= 3 by omega) with
    | 0, _ => decide
    | 1, _ => decide
    | 2, _ => decide
    | 3, _ => decide
   have hv2 : a < 4096 := by rw [hh.out]; omega
   have hak1 := allHex_mono s s.size (k + 1) (by omega) HX.out
   simp only [allHex, Bool.and_eq_true, decide_eq_true_eq] at hak1
   have hd0 := hak1.2
   clear hak hv hp hak1 hB
   by_cases c1 : 48 <= B s k /\ B s k <= 57
   ·have e8 := u8_sub bk.1 bk.2 c1.1 (by decide)
    have g1 := c1.1
    have g2 := c1.2
    have HN : Hid (a * 16 + (B s k - 48) = hval s (k + 1)) := Lib.hid (by rw [hval, ← hh.out]; unfold hexd; rw [if_pos c1]; omega)
    clear c1 hd0
    go_wp2
    refine ⟨⟨k + 1, a * 16 + (B s k - 48), rfl, (by first | rfl | (congr 1; omega)), (by first | rfl | (congr 1; omega)), by omega, HN⟩, by simp [intOf]; omega⟩
   by_cases c2 : 97 <= B s k /\ B s k <= 102
   ·have e9 := or32_low c2.1 c2.2
    have g1 := c2.1
    have g2 := c2.2
    have HN : Hid (a * 16 + (B s k - 87) = hval s (k + 1)) := Lib.hid (by rw [hval, ← hh.out]; unfold hexd; rw [if_neg c1, if_pos c2]; omega)
    have e8 := u8_sub bk.1 bk.2 c2.1 (by decide)
    clear c1 c2 hd0
    go_wp2
    refine ⟨⟨k + 1, a * 16 + (B s k - 87), rfl, (by first | rfl | (congr 1; omega)), (by first | rfl | (congr 1; omega)), by omega, HN⟩, by simp [intOf]; omega⟩
   by_cases c3 : 65 <= B s k /\ B s k <= 70
   ·have e9 := or32_up c3.1 c3.2
    have g1 := c3.1
    have g2 := c3.2
    have HN : Hid (a * 16 + (B s k - 55) = hval s (k + 1)) := Lib.hid (by rw [hval, ← hh.out]; unfold hexd; rw [if_neg c1, if_neg c2, if_pos c3]; omega)
    have e8 : IntKind.u8.wrap (B s k + 32 - 97) = B s k + 32 - 97 := by
     have : ∀ n : Int, IntKind.u8.wrap n = n % 256 := fun n => by simp [IntKind.wrap, IntKind.bits, IntKind.signed]
     rw [this]; omega
    clear c1 c2 c3 hd0
    go_wp2
    refine ⟨⟨k + 1, a * 16 + (B s k - 55), rfl, (by first | rfl | (congr 1; omega)), (by first | rfl | (congr 1; omega)), by omega, HN⟩, by simp [intOf]; omega⟩
   ·exfalso
    have : hexd (B s k) = -1 := by unfold hexd; rw [if_neg c1, if_neg c2, if_neg c3]
    omega
  ·obtain rfl : k = s.size := by omega
   obtain rfl := hh.out
   clear hh hak hv
   go_wp2
   go_ret2
   exact ⟨rfl, hE⟩
theorem parseUintP_any (s : ByteArray) (w : World) (h1 : 1 <= s.size) (h4 : s.size <= 4) (hx : allHex s s.size = true) :
  Calls Tryz.prog 225 #[.string s, .int .i64 16, .int .i64 16] w fun e w' => e = .returned (.tuple #[.int .u64 (hval s s.size), .nilIface]) /\ Ext w w' := by
 go_enter Tryz.func225, Tryz.ntmps225
 go_wp2_with (go_at_call 227; refine (parseUint16_any s _ h1 h4 hx).mono ?_; rintro e w1 ⟨rfl, hx1⟩)
 go_ret2
 exact ⟨rfl, hx1⟩
open Go.RowKit Go.Joins
def hexSet : List UInt8 := [48, 49, 50, 51, 52, 53, 54, 55, 56, 57, 97, 98, 99, 100, 101, 102, 65, 66, 67, 68, 69, 70]
theorem hexSet_all : ∀ n : Fin 256, hexSet.contains (UInt8.ofNat n.val) = decide (0 <= hexd (n.val : Int)) := by decide +kernel
theorem hexSet_is (x : UInt8) : hexSet.contains x = decide (0 <= hexd (x.toNat : Int)) := by
 have := hexSet_all ⟨x.toNat, x.toNat_lt⟩
 simpa using this
theorem dropWhile_nil {p : UInt8 -> Bool} : ∀ {l : List UInt8}, l.dropWhile p = [] ↔ ∀ x ∈ l, p x = true
 | [] => by simp
 | y :: l => by
  rw [List.dropWhile_cons]
  by_cases h : p y = true
  ·rw [if_pos h, dropWhile_nil]; simp [h]
  ·rw [if_neg h]
   constructor
   ·intro e; cases e
   ·intro e; exact absurd (e y (by simp)) h
theorem trimS_nil (l cs : List UInt8) : Lib.trimS l cs = [] ↔ ∀ x ∈ l, cs.contains x = true := by
 unfold Lib.trimS Lib.trimLeftS Lib.trimRightS
 constructor
 ·intro h
  rw [dropWhile_nil] at h
  have h2 : l.reverse.dropWhile (cs.contains ·) = [] := by
   cases hd : l.reverse.dropWhile (cs.contains ·) with
   | nil => rfl
   | cons y m =>
    have e2 := h y (by rw [hd]; simp)
    have e3 := List.head_dropWhile_not (fun x : UInt8 => cs.contains x) (l := l.reverse) (by rw [hd]; simp)
    simp only [hd, List.head_cons] at e3
    rw [e2] at e3; simp at e3
  rw [dropWhile_nil] at h2
  intro x hx; exact h2 x (by simpa using hx)
 ·intro h
  have e : l.reverse.dropWhile (cs.contains ·) = [] := dropWhile_nil.2 fun x hx => h x (by simpa using hx)
  rw [e]; rfl
theorem allHex_iff (s : ByteArray) : allHex s s.size = true ↔ ∀ x ∈ s.data.toList, hexSet.contains x = true := by
 have key : ∀ k, k <= s.size -> (allHex s k = true ↔ ∀ x ∈ s.data.toList.take k, hexSet.contains x = true) := by
  intro k
  induction k with
  | zero => intro _; simp [allHex]
  | succ k ih =>
   intro hk
   have hl := size_list s
   have hg : s.data.toList[k]? = some (s.data.toList.getD k 0) := by rw [List.getD_eq_getElem?_getD, List.getElem?_eq_getElem (by omega)]; rfl
   rw [allHex, List.take_add_one, hg, Bool.and_eq_true, ih (by omega)]
   constructor
   ·intro ⟨h1, h2⟩ x hx
    rcases List.mem_append.1 hx with hx | hx
    ·exact h1 x hx
    ·rw [Option.toList_some, List.mem_singleton] at hx; subst hx; rw [hexSet_is]; exact h2
   ·intro h
    refine ⟨fun x hx => h x (List.mem_append.2 (.inl hx)), ?_⟩
    have := h (s.data.toList.getD k 0) (List.mem_append.2 (.inr (by simp)))
    rw [hexSet_is] at this; exact this
 have := key s.size (Nat.le_refl _)
 rw [List.take_of_length_le (by rw [size_list]; exact Nat.le_refl _)] at this
 exact this
theorem trim_hex (s : ByteArray) : (Lib.trimS s.data.toList hexSet).isEmpty = allHex s s.size := by
 rw [Bool.eq_iff_iff, List.isEmpty_iff, trimS_nil, allHex_iff]
theorem groups_special {ps : List ByteArray} {k : Nat} {x : ByteArray} {b : List Int} (hx : ps[k]? = some x) (hk : k + 1 = ps.length) (hb : parse4 x = some b) :
  groups true (ps.drop k) = some [b.getD 0 0 * 256 + b.getD 1 0, b.getD 2 0 * 256 + b.getD 3 0] := by
 have hl : k < ps.length := by omega
 have e : ps.drop k = [x] := by
  rw [List.drop_eq_getElem_cons hl, List.drop_eq_nil_of_le (by omega)]
  rw [List.getElem?_eq_getElem hl] at hx; rw [Option.some.inj hx]
 rw [e, groups, if_pos ⟨rfl, rfl⟩, hb]
theorem groups_hex {ps : List ByteArray} {k : Nat} {x : ByteArray} {last : Bool} (hx : ps[k]? = some x) (hn : ¬ ((parse4 x).isSome = true /\ last = true /\ k + 1 = ps.length)) :
  groups last (ps.drop k) = if hexg x < 0 then none else (groups last (ps.drop (k + 1))).map (hexg x :: ·) := by
 have hl : k < ps.length := (List.getElem?_eq_some_iff.1 hx).1
 have e : ps.drop k = x :: ps.drop (k + 1) := by
  rw [List.drop_eq_getElem_cons hl]
  rw [List.getElem?_eq_getElem hl] at hx; rw [Option.some.inj hx]
 rw [e, groups]
 have e2 : (if last = true /\ ps.drop (k + 1) = [] then parse4 x else none) = none := by
  by_cases h : last = true /\ ps.drop (k + 1) = []
  ·rw [if_pos h]
   cases hp : parse4 x with
   | none => rfl
   | some b =>
    exfalso
    refine hn ⟨by rw [hp]; rfl, h.1, ?_⟩
    have := List.drop_eq_nil_iff.1 h.2; omega
  ·rw [if_neg h]
 rw [e2]
theorem parts_le {c : UInt8} {s : ByteArray} : (parts c s).length <= s.size + 1 := by
 rw [parts_length]; have := Lib.countB_le ⟨#[c]⟩ (Nat.le_refl 1) _ s (Nat.le_refl _); omega
theorem infoU : (Tryz.prog.info? 239).map (fun i => (i.zero, i.size, i.bytes)) = some (some (.int .u16 0), 1, 2) := by kernel_rfl
theorem trim_any (s : ByteArray) (w : World) (hs : s.size <= 9223372036854775807) : Calls Tryz.prog 138 #[.string s, .string ⟨#[48, 49, 50, 51, 52, 53, 54, 55, 56, 57, 97, 98, 99, 100, 101, 102, 65, 66, 67, 68, 69, 70]⟩] w fun e w' => e = .returned (.string ⟨(Lib.trimS s.data.toList hexSet).toArray⟩) /\ Ext w w' :=
 (Any.strings_Trim_laid Tryz.lays160 (by kernel_rfl) s ⟨#[48, 49, 50, 51, 52, 53, 54, 55, 56, 57, 97, 98, 99, 100, 101, 102, 65, 66, 67, 68, 69, 70]⟩ w hs (by decide) (ascii_of_all (by decide))).mono fun e w' h => h
theorem StrCells.grown {w w' : World} {b : Nat} {ps : List ByteArray} {row : Option Nat} (h : StrCells w b ps) {o : Obj} (hb : ∀ k, row = some k -> k ≠ b) (hg : (w.alloc o).grownBy w' row) : StrCells w' b ps := by
 have hk := (Keep.of_grown hg)
 have h1 := h.ext ((Ext.refl w).alloc o)
 exact ⟨Nat.lt_of_lt_of_le h1.1 hk.size, fun j x hj => by rw [hk.cell (p := ⟨b, j, none⟩) h1.1 (by intro hm; cases row with | none => simp at hm | some r => simp at hm; exact hb r rfl hm.symm)]; exact h1.2 j x hj⟩
theorem parseG_any (s : ByteArray) (last : Bool) (w : World) (henv : Env w) (hs : s.size < 4294967281) :
  Calls Tryz.prog 217 #[.string s, .bool last] w fun e w' => ∃ v : Value, e = .returned (.tuple #[v, .bool (parseG s last).isSome]) /\ (∀ l, parseG s last = some l -> w'.ownsRow w.heap.size 239 1 v l.length (l.map (Value.int .u16))) /\ Ext w w' := by
 obtain ⟨i0, hi, hz0, hz1, hz2⟩ := info_parts infoU
 have HI := Lib.hid hi; have HZ0 := Lib.hid hz0; have HZ1 := Lib.hid hz1; have HZ2 := Lib.hid hz2
 clear hi hz0 hz1 hz2
 go_enter Tryz.func217, Tryz.ntmps217
 by_cases hz : (s.size : Int) < 1
 ·have e : parseG s last = some [] := by unfold parseG; rw [if_pos (by omega)]
  rw [e]; go_wp2; go_ret2
  exact ⟨_, rfl, fun l h => by cases h; exact World.ownsRow_nil _ _ _ _, Ext.refl _⟩
 have hpz : ∀ x ∈ parts 58 s, x.size <= s.size := fun x hx => parts_size hx
 have hsplit := fun w he => split_any s 58 w he hs
 have hpe : parseG s last = groups last (parts 58 s) := by unfold parseG; rw [if_neg (by omega)]
 have hpn := @parts_le 58 s
 generalize parts 58 s = ps at *
 rw [hpe]
 have HS := Lib.hid hsplit; have HPZ := Lib.hid hpz
 clear hpe hsplit hpz
 go_wp2_with (go_at_call 169; refine (HS.out _ henv).mono ?_; rintro e w3 ⟨b, cap, rfl, hbl, hsc, hcap, hx3⟩; refine Hid.out ?_)
 refine Lib.hid ?_
 have hbw0 := Lib.hid hsc.1
 have hpn2 : (ps.length : Int) < 8589934592 := by omega
 go_wp2_with fail
 go_loopw [4, 5, 6, 8, 9, 10, 11, 12, 13, 20] (fun _ _ v _ _ _ _ _ _ c wr => ∃ (k : Nat) (out : List Int), k <= ps.length /\ c = .int .i64 k /\ out.length <= 2 * k /\ wr.ownsRow w3.heap.size 239 1 v out.length (out.map (Value.int .u16)) /\ StrCells wr b ps /\ Ext w wr /\ Ext w3 wr /\ Hid (groups last ps = (groups last (ps.drop k)).map (out ++ ·)))
  (fun _ _ _ _ _ _ _ _ _ c _ => ps.length - (intOf c).toNat)
 case atStart => exact ⟨0, [], Nat.zero_le _, rfl, Nat.le_refl _, World.ownsRow_nil _ _ _ _, hsc, hx3, Ext.refl _, Lib.hid (by rw [List.drop_zero]; cases groups last ps <;> rfl)⟩
 case round =>
  obtain ⟨k, out, hk, rfl, hol, hown, hsc, hx, hy, hG⟩ := hrel
  by_cases hlt : k < ps.length
  ·have hlt' : (k : Int) < ps.length := by omega
   obtain ⟨x, hxk⟩ : ∃ x, ps[k]? = some x := ⟨ps[k], List.getElem?_eq_getElem _⟩
   have hcell := hsc.2 k x hxk
   have HX := Lib.hid hxk; clear hxk
   have hxz := HPZ.out x (List.mem_of_getElem? HX.out)
   have hcall := parse4_any x wr (henv.ext hx) (by omega)
   have HC := Lib.hid hcall; clear hcall
   have Ho := Lib.hid hown; clear hown
   go_wp2_with (first | (go_at_call 215; refine HC.out.mono ?_; rintro e w4 ⟨l4, hl4, hl4b, rfl, hl4e, hx4⟩; refine Hid.out ?_))
   refine Lib.hid ?_
   generalize hob : (parse4 x).isSome = ob at *
   have HOB := Lib.hid hob; clear hob
   have hown4 : w4.ownsRow w3.heap.size 239 1 _ out.length (out.map (Value.int .u16)) := ownsRow_keep Ho.out (hx4.keep []) (by simp)
   have hsc4 := hsc.ext hx4
   have hx44 := hx.trans hx4
   have hy44 := hy.trans hx4
   clear hsc hx hy Ho
   have hb5 := Blk.new w4 (c4 [0, 0, 0, 0]) 230
   go_upto_region 9 with (refine wpList_store_4 rfl _ _ rfl (l0 := [0, 0, 0, 0]) rfl hl4 hb5 rfl rfl ?_)
   change Code.wp _ _ _ _ ((w4.alloc (.cells (c4 [0, 0, 0, 0]) 230)).setRow w4.heap.size (c4 l4))
   rw [World.setRow_alloc_new]
   have hb6 := Blk.new w4 (c4 l4) 230
   have hx6 := hx44.alloc (.cells (c4 l4) 230)
   have hy6 := hy44.alloc (.cells (c4 l4) 230)
   have hsc6 := hsc4.ext ((Ext.refl w4).alloc (.cells (c4 l4) 230))
   have hown6 := hown4.alloc (.cells (c4 l4) 230)
   clear hb5 hsc4 hx44 hy44 hown4 hx4
   generalize w4.alloc (.cells (c4 l4) 230) = w6 at *
   generalize w4.heap.size = n6 at *
   have hsz6 := hy6.size
   have hbw : b < w3.heap.size := hbw0.out
   have hww : w.heap.size <= w3.heap.size := hx3.size
   have hl6 : (out.length : Int) <= 17179869184 := by omega
   by_cases hsp : ob = true /\ last = true /\ k + 1 = ps.length
   ·obtain ⟨h1, h2, h3⟩ := hsp
    subst h1 h2
    have hk1 : ((k : Int) == (ps.length : Int) - 1) = true := by rw [beq_iff_eq]; omega
    have hb : parse4 x = some l4 := by
     cases hp : parse4 x with
     | none => have := HOB.out; rw [hp] at this; cases this
     | some b => rw [hl4e b hp]
    have hg : groups true ps = some (out ++ [l4.getD 0 0 * 256 + l4.getD 1 0, l4.getD 2 0 * 256 + l4.getD 3 0]) := by
     rw [hG.out, groups_special HX.out h3 hb]; rfl
    have HG := Lib.hid hg; clear hg hb
    obtain ⟨y0, y1, y2, y3, rfl⟩ : ∃ y0 y1 y2 y3, l4 = [y0, y1, y2, y3] := by
     match l4, hl4 with
     | [a, b, c, d], _ => exact ⟨a, b, c, d, rfl⟩
    have b0 := hl4b y0 (by simp)
    have b1 := hl4b y1 (by simp)
    have b2 := hl4b y2 (by simp)
    have b3 := hl4b y3 (by simp)
    have d0 : w6.cell? ⟨n6, 0, none⟩ = some (.int .u8 y0) := hb6.cell rfl
    have d1 : w6.cell? ⟨n6, 1, none⟩ = some (.int .u8 y1) := hb6.cell rfl
    have d2 : w6.cell? ⟨n6, 2, none⟩ = some (.int .u8 y2) := hb6.cell rfl
    have d3 : w6.cell? ⟨n6, 3, none⟩ = some (.int .u8 y3) := hb6.cell rfl
    have o1 := or_u16 b0.1 b0.2 b1.1 b1.2
    have o2 := or_u16 b2.1 b2.2 b3.1 b3.2
    simp only [List.getD_cons_zero, List.getD_cons_succ] at HG
    go_wp2_with (at_builtin; refine wpList_append_own _ rfl _ _ 233 rfl w3.heap.size 239 i0 (.int .u16 0) 1 2 Tryz.underlying233 HI.out HZ0.out HZ1.out HZ2.out rfl (by decide) _ _ _ rfl (hown6.alloc _) ⟨w6.heap.size, 0, none⟩ 2 2 [.int .u16 (y0 * 256 + y1), .int .u16 (y2 * 256 + y3)] rfl rfl ?c1 ?c2 ?c3 ?c4 ?c5 ?_)
    first
     | (case c1 =>
       intro j u hj
       have B1 := Blk.new w6 #[Value.int IntKind.u16 (y0 * 256 + y1), Value.int IntKind.u16 (y2 * 256 + y3)] 239
       have e1 : (⟨w6.heap.size, 0, none⟩ : Addr).add j = ⟨w6.heap.size, j, none⟩ := by unfold Addr.add; split <;> simp_all
       rw [e1]
       exact B1.cell hj)
     | skip
    case c2 => simp [Value.oneCell']
    case c3 => unfold maxLen; omega
    case c4 => omega
    case c5 => first | omega | (rw [World.size_alloc]; omega) | (simp; omega)
    intro v' w7 hown' hgrow _
    have Ho' := Lib.hid hown'; clear hown'
    have Hg := Lib.hid hgrow; clear hgrow
    have hlt2 := hown6.lt
    have Hl := Lib.hid hlt2; clear hlt2
    have Ho := Lib.hid hown6; clear hown6
    go_wp2_with fail
    go_roundw
    case rel =>
     refine ⟨k + 1, out ++ [y0 * 256 + y1, y2 * 256 + y3], by omega, by go_num, by simp; omega, ?_, ?_, ?_, ?_, Lib.hid ?_⟩
     ·rw [List.length_append, List.map_append]; exact Ho'.out
     ·exact hsc6.grown (fun g hg e => by have := (Hl.out g hg).1; omega) Hg.out
     ·exact Ext.grown (hx6.alloc _) Hg.out (fun g hg => by have := (Hl.out g hg).1; omega)
     ·exact Ext.grown (hy6.alloc _) Hg.out (fun g hg => (Hl.out g hg).1)
     ·rw [HG.out, h3, List.drop_length, groups]; simp
    case measure => simp [intOf]; omega
   ·have hgx := groups_hex (last := last) HX.out (by rw [HOB.out]; exact hsp)
    have HGX := Lib.hid hgx; clear hgx
    have hsz := hxz
    have hcases : ob = false ∨ (ob = true /\ last = false) ∨ (ob = true /\ last = true /\ ((k : Int) == (ps.length : Int) - 1) = false) := by
     cases ob
     ·exact .inl rfl
     ·cases last
      ·exact .inr (.inl ⟨rfl, rfl⟩)
      ·exact .inr (.inr ⟨rfl, rfl, by rw [beq_eq_false_iff_ne]; intro h; exact hsp ⟨rfl, rfl, by omega⟩⟩)
    clear hsp
    have hth := trim_hex x
    have HTH := Lib.hid hth; clear hth
    by_cases hbad : hexg x < 0
    ·have hg : groups last ps = none := by rw [hG.out, HGX.out, if_pos hbad]; rfl
     have HG := Lib.hid hg; clear hg
     by_cases q1 : (x.size : Int) < 1
     ·rcases hcases with rfl | ⟨rfl, rfl⟩ | ⟨rfl, rfl, hk1⟩
      all_goals go_wp2_with fail
      all_goals go_ret2
      all_goals (refine ⟨_, (by rw [HG.out]; rfl), ?_, hx6⟩; intro l h; rw [HG.out] at h; cases h)
     by_cases q2 : (4 : Int) < x.size
     ·rcases hcases with rfl | ⟨rfl, rfl⟩ | ⟨rfl, rfl, hk1⟩
      all_goals go_wp2_with fail
      all_goals go_ret2
      all_goals (refine ⟨_, (by rw [HG.out]; rfl), ?_, hx6⟩; intro l h; rw [HG.out] at h; cases h)
     have hnx : allHex x x.size = false := by
      cases h : allHex x x.size with
      | false => rfl
      | true =>
       have h5 := hval_bd x x.size h
       unfold hexg at hbad; rw [if_neg (by omega), h, if_neg (by simp)] at hbad
       omega
     have hte : (Lib.trimS x.data.toList hexSet).isEmpty = false := by rw [HTH.out]; exact hnx
     clear hnx hbad
     have q1' : 1 <= (x.size : Int) := by omega
     have q2' : (x.size : Int) <= 4 := by omega
     have htr := trim_any x w6 (by omega)
     generalize Lib.trimS x.data.toList hexSet = tl at *
     have HTR := Lib.hid htr; clear htr
     rcases hcases with rfl | ⟨rfl, rfl⟩ | ⟨rfl, rfl, hk1⟩
     all_goals go_wp2_with (first | (go_at_call 138; refine HTR.out.mono ?_; rintro e w7 ⟨rfl, hx7⟩))
     all_goals go_ret2
     all_goals (refine ⟨_, (by rw [HG.out]; rfl), ?_, hx6.trans hx7⟩; intro l h; rw [HG.out] at h; cases h)
    ·have hxx : 1 <= x.size /\ x.size <= 4 /\ allHex x x.size = true /\ hexg x = hval x x.size := by
      unfold hexg at hbad ⊢
      by_cases h1 : x.size = 0 ∨ 4 < x.size
      ·rw [if_pos h1] at hbad; omega
      ·rw [if_neg h1] at hbad ⊢
       cases h : allHex x x.size with
       | false => rw [h, if_pos rfl] at hbad; omega
       | true => rw [if_neg (by simp)]; exact ⟨by omega, by omega, rfl, rfl⟩
     obtain ⟨z1, z2, z3, z4⟩ := hxx
     have hgb := hexg_bd x
     have hgr := HGX.out
     rw [if_neg hbad] at hgr
     have HGR := Lib.hid hgr; clear hgr HGX
     have hpu := fun w => parseUintP_any x w z1 z2 z3
     rw [← z4] at hpu
     have HPU := Lib.hid hpu; clear hpu
     have htr := trim_any x w6 (by omega)
     have htz : (⟨(Lib.trimS x.data.toList hexSet).toArray⟩ : ByteArray).toList = [] := by
      rw [Lib.toList_data, List.isEmpty_iff.1 (HTH.out.trans z3)]
     generalize (⟨(Lib.trimS x.data.toList hexSet).toArray⟩ : ByteArray) = tstr at *
     have HZ3 := Lib.hid z3; have HZ4 := Lib.hid z4; clear z3 z4 HTH
     generalize hexg x = g at *
     have q1' : 1 <= (x.size : Int) := by omega
     have q2' : (x.size : Int) <= 4 := by omega
     have qd1 : decide ((x.size : Int) < 1) = false := decide_eq_false (by omega)
     have qd2 : decide ((4 : Int) < x.size) = false := decide_eq_false (by omega)
     have e16 : IntKind.u16.wrap g = g := by rw [IntKind.wrap_u16]; omega
     have HTR := Lib.hid htr; clear htr
     have Hown6 := Lib.hid hown6; clear hown6
     have HGB := Lib.hid hgb; clear hgb
     have HBAD := Lib.hid hbad; clear hbad
     have HE16 := Lib.hid e16; clear e16
     clear z1 z2
     rcases hcases with rfl | ⟨rfl, rfl⟩ | ⟨rfl, rfl, hk1⟩
     all_goals go_wp2_with ((go_at_call 138; refine HTR.out.mono ?_; rintro e w8 ⟨rfl, hx8⟩; refine Hid.out ?_))
     all_goals refine Lib.hid ?_
     all_goals go_upto_region 14 with (first | (go_at_call 225; refine (HPU.out _).mono ?_; rintro e w9 ⟨rfl, hx9⟩))
     all_goals (
      have hx9t := hx6.trans (hx8.trans hx9)
      have hy9t := hy6.trans (hx8.trans hx9)
      have hsc9 := (hsc6.ext hx8).ext hx9
      have hown9 := ownsRow_keep (ownsRow_keep Hown6.out (hx8.keep []) (by simp)) (hx9.keep []) (by simp)
      have hsz9 := hy9t.size
      have e16 := HE16.out
      clear hx6 hx8 hx9 hy6 hsc6
      go_wp2_with (at_builtin; refine wpList_append_own _ rfl _ _ 233 rfl w3.heap.size 239 i0 (.int .u16 0) 1 2 Tryz.underlying233 HI.out HZ0.out HZ1.out HZ2.out rfl (by decide) _ _ _ rfl (hown9.alloc _) ⟨w9.heap.size, 0, none⟩ 1 1 [.int .u16 g] rfl rfl ?c1 ?c2 ?c3 ?c4 ?c5 ?_)
      first
       | (case c1 =>
         intro j u hj
         have B1 := Blk.new w9 #[Value.int IntKind.u16 g] 239
         have e1 : (⟨w9.heap.size, 0, none⟩ : Addr).add j = ⟨w9.heap.size, j, none⟩ := by unfold Addr.add; split <;> simp_all
         rw [e1]
         exact B1.cell hj)
       | skip
      case c2 => simp [Value.oneCell']
      case c3 => unfold maxLen; omega
      case c4 => omega
      case c5 => first | omega | (rw [World.size_alloc]; omega) | (simp; omega)
      intro v' w7 hown' hgrow _
      have Ho' := Lib.hid hown'; clear hown'
      have Hg := Lib.hid hgrow; clear hgrow
      have hlt2 := hown9.lt
      have Hl := Lib.hid hlt2; clear hlt2
      have Ho := Lib.hid hown9; clear hown9
      go_wp2_with fail
      go_roundw
      case rel =>
       refine ⟨k + 1, out ++ [g], by omega, by go_num, by simp; omega, ?_, ?_, ?_, ?_, Lib.hid ?_⟩
       ·rw [List.length_append, List.map_append]; exact Ho'.out
       ·exact hsc9.grown (fun g hg e => by have := (Hl.out g hg).1; omega) Hg.out
       ·exact Ext.grown (hx9t.alloc _) Hg.out (fun g hg => by have := (Hl.out g hg).1; omega)
       ·exact Ext.grown (hy9t.alloc _) Hg.out (fun g hg => (Hl.out g hg).1)
       ·rw [hG.out, HGR.out, Option.map_map]
        congr 1
        funext l
        simp
      case measure => simp [intOf]; omega)
  ·obtain rfl : k = ps.length := by omega
   have hlt' : ¬ ((ps.length : Nat) : Int) < ps.length := by omega
   have e : groups last ps = some out := by rw [hG.out, List.drop_length, groups]; simp
   have E := Lib.hid e; clear e
   have Ho := Lib.hid hown; clear hown
   go_wp2_with fail
   go_ret2
   exact ⟨_, by rw [E.out]; rfl, fun l h => by rw [E.out] at h; cases h; exact ownsRow_le Ho.out hx3.size, hx⟩
open Go.RowKit
def ok16 (gs : List Int) : Prop := ∀ x ∈ gs, 0 <= x /\ x < 65536
def adr6 (gs : List Int) (k : Nat) : Adr := (true, hilo (gs.take k) ++ List.replicate (16 - 2 * k) 0)
theorem hilo_len (l : List Int) : (hilo l).length = 2 * l.length := by
 induction l with
 | nil => rfl
 | cons x l ih => simp only [hilo, List.flatMap_cons, List.length_append] at *; simp at *; omega
theorem hilo_app (a b : List Int) : hilo (a ++ b) = hilo a ++ hilo b := by simp [hilo]
theorem hilo_ok {l : List Int} (h : ok16 l) : ∀ x ∈ hilo l, 0 <= x /\ x < 256 := by
 intro x hx
 simp only [hilo, List.mem_flatMap] at hx
 obtain ⟨y, hy, hx⟩ := hx
 have := h y hy
 simp at hx
 rcases hx with rfl | rfl <;> omega
theorem okA_adr6 {gs : List Int} (h : ok16 gs) (hl : gs.length = 8) {k : Nat} (hk : k <= 8) : okA (adr6 gs k) := by
 refine ⟨by simp [adr6, hilo_len]; omega, fun x hx => ?_⟩
 rcases List.mem_append.1 hx with hx | hx
 ·exact hilo_ok (fun y hy => h y (List.mem_of_mem_take hy)) x hx
 ·have := List.eq_of_mem_replicate hx; omega
theorem adr6_set {gs : List Int} (hl : gs.length = 8) {k : Nat} (hk : k < 8) {x : Int} (hx : gs[k]? = some x) :
  ((ac (adr6 gs k)).toList.set (1 + 2 * k) (.int .u8 (x / 256))).set (1 + (2 * k + 1)) (.int .u8 (x % 256)) = (ac (adr6 gs (k + 1))).toList := by
 have e0 : (hilo (gs.take k)).length = 2 * k := by rw [hilo_len, List.length_take]; omega
 unfold ac adr6
 rw [List.take_add_one, hx, Option.toList_some, hilo_app, show 16 - 2 * k = (16 - 2 * (k + 1)) + 1 + 1 by omega, List.replicate_succ, List.replicate_succ]
 simp only [Nat.add_comm 1, List.set_cons_succ, List.map_append, List.map_cons]
 have e1 : ((hilo (gs.take k)).map (Value.int .u8)).length = 2 * k := by rw [List.length_map, e0]
 rw [List.set_append_right _ _ (by omega), e1, Nat.sub_self, List.set_cons_zero, List.set_append_right _ _ (by omega), e1, show 2 * k + 1 - 2 * k = 1 by omega, List.set_cons_succ, List.set_cons_zero, List.append_assoc]
 rfl
theorem adr6_all {gs : List Int} (hl : gs.length = 8) : adr6 gs 8 = (true, hilo gs) := by unfold adr6; rw [List.take_of_length_le (by omega)]; simp
theorem v6_ok {gs : List Int} (hl : gs.length = 8) : v6 gs = (adr6 gs 8, true) := by unfold v6; rw [if_pos hl, adr6_all hl]
theorem v6_no {gs : List Int} (hl : ¬ gs.length = 8) : v6 gs = (zadr, false) := by unfold v6; rw [if_neg hl]
def Grps (w : World) (v : Value) (gs : List Int) : Prop := ∃ a cap, v = .slice a gs.length cap /\ gs.length <= cap /\ ok16 gs /\ (gs.length = 8 -> ∃ b off, a = some ⟨b, off, none⟩ /\ b < w.heap.size /\ ∀ j x, gs[j]? = some x -> w.cell? ⟨b, off + j, none⟩ = some (.int .u16 x))
theorem u8_div {x : Int} (h : 0 <= x) (h1 : x < 65536) : IntKind.u8.wrap (x / 256) = x / 256 := by
 have : ∀ n : Int, IntKind.u8.wrap n = n % 256 := fun n => by simp [IntKind.wrap, IntKind.bits, IntKind.signed]
 rw [this]; omega
theorem u8_mod {x : Int} : IntKind.u8.wrap x = x % 256 := by simp [IntKind.wrap, IntKind.bits, IntKind.signed]
theorem V6_any (v : Value) (gs : List Int) (w : World) (hv : Grps w v gs) (hn : gs.length <= 140737488351232) :
  Calls Tryz.prog 218 #[v] w fun e w' => e = .returned (.tuple #[av (v6 gs).1, .bool (v6 gs).2]) /\ Ext w w' := by
 obtain ⟨a, cap, rfl, hcap, h16, hcells⟩ := hv
 go_enter Tryz.func218, Tryz.ntmps218
 go_upto_region 1 with fail
 rw [← ac_zadr]
 have hx := (Ext.refl w).alloc (.cells (ac zadr) 41)
 have hr := Blk.new w (ac zadr) 41
 generalize hw2 : w.alloc (.cells (ac zadr) 41) = w2 at *
 clear hw2
 by_cases h8 : gs.length = 8
 ·obtain ⟨b, off, rfl, hb, hc⟩ := hcells h8
  have hn4 : ((gs.length : Int) != 8) = false := by rw [bne_eq_false_iff_eq]; omega
  have hC : ∀ j x, gs[j]? = some x -> w2.cell? ⟨b, off + j, none⟩ = some (.int .u16 x) := fun j x hj => by rw [hx.cell hb]; exact hc j x hj
  have hA0 : okA (adr6 gs 0) := okA_adr6 h16 h8 (Nat.zero_le _)
  have hb4 := Blk.new w2 (ac zadr) 41
  have H16 := Lib.hid h16; have H8 := Lib.hid h8; have HC := Lib.hid hC; clear hcells h16 hc hC h8
  have hg8 : (gs.length : Int) <= 8 := by have := H8.out; omega
  have hg8' : (8 : Int) <= gs.length := by have := H8.out; omega
  have hr2 := hr.lt
  go_upto_region 4 with (refine wpList_store_A rfl _ _ rfl okA_zadr hA0 hb4 rfl rfl ?_)
  change Code.wp _ _ _ _ ((w2.alloc (.cells (ac zadr) 41)).setRow w2.heap.size (ac (adr6 gs 0)))
  rw [World.setRow_alloc_new]
  have hb5 := Blk.new w2 (ac (adr6 gs 0)) 41
  have hr5 := hr.ext ((Ext.refl w2).alloc (.cells (ac (adr6 gs 0)) 41))
  have hx5 := hx.alloc (.cells (ac (adr6 gs 0)) 41)
  have hC5 : ∀ j x, gs[j]? = some x -> (w2.alloc (.cells (ac (adr6 gs 0)) 41)).cell? ⟨b, off + j, none⟩ = some (.int .u16 x) := fun j x hj => by
   rw [((Ext.refl w2).alloc _).cell (show b < w2.heap.size from Nat.lt_of_lt_of_le hb hx.size)]; exact HC.out j x hj
  have hbc : b ≠ w2.heap.size := by have := hx.size; omega
  have hwc : w.heap.size <= w2.heap.size := hx.size
  have hrc : w.heap.size ≠ w2.heap.size := by omega
  have HC5 := Lib.hid hC5; clear hC5 hb4 HC hr hx hr2
  generalize w2.alloc (.cells (ac (adr6 gs 0)) 41) = w5 at *
  generalize w2.heap.size = c at *
  go_wp2_with fail
  go_loopw [5, 6, 14] (fun _ _ i wr => ∃ k : Nat, k <= 8 /\ i = .int .i64 k /\ Blk wr w.heap.size (ac zadr).toList 41 /\ Blk wr c (ac (adr6 gs k)).toList 41 /\ Hid (∀ j x, gs[j]? = some x -> wr.cell? ⟨b, off + j, none⟩ = some (.int .u16 x)) /\ Ext w wr) (fun _ _ i _ => 8 - (intOf i).toNat)
  case atStart => exact ⟨0, Nat.zero_le _, rfl, hr5, hb5, HC5, hx5⟩
  case round =>
   obtain ⟨k, hk, rfl, hr, hb, hC, hx⟩ := hrel
   have hA := okA_adr6 H16.out H8.out hk
   by_cases hlt : k < 8
   ·have hlt' : (k : Int) < gs.length := by omega
    obtain ⟨x, hxk⟩ : ∃ x, gs[k]? = some x := ⟨gs[k]'(by have := H8.out; omega), List.getElem?_eq_getElem _⟩
    have hcell := hC.out k x hxk
    have hxb := H16.out x (List.mem_of_getElem? hxk)
    have HX := Lib.hid hxk; clear hxk
    have e1 := u8_div hxb.1 hxb.2
    have e2 := @u8_mod x
    have hcell2 := hb.cell (i := 1 + 2 * k) (by rw [Array.getElem?_toList]; exact ac_at hA (by omega))
    have hcell3 := hb.cell (i := 1 + (2 * k + 1)) (by rw [Array.getElem?_toList]; exact ac_at hA (by omega))
    have hf2 := hb.free (1 + 2 * k)
    have hf3 := hb.free (1 + (2 * k + 1))
    go_wp2_with fail
    go_roundw
    case rel =>
     refine ⟨k + 1, by omega, by go_num, (hr.set_ne ⟨c, _, none⟩ (fun e => hrc e.symm) _).set_ne ⟨c, _, none⟩ (fun e => hrc e.symm) _, ?_, Lib.hid fun j y hj => ?_, (hx.setCell (p := ⟨c, _, none⟩) hwc _).setCell (p := ⟨c, _, none⟩) hwc _⟩
     ·rw [← adr6_set H8.out hlt HX.out]; exact (hb.set (1 + 2 * k) (.int .u8 (x / 256))).set (1 + (2 * k + 1)) (.int .u8 (x % 256))
     ·rw [World.cell?_of_block (Below.heap_setCell _ _ _ b hbc), World.cell?_of_block (Below.heap_setCell _ _ _ b hbc)]; exact hC.out j y hj
    case measure => simp [intOf]; omega
   ·obtain rfl : k = 8 := by omega
    have E := Lib.hid (v6_ok H8.out)
    go_wp2_with (first | refine wpList_load_A rfl _ rfl hA hb rfl ?_ | refine wpList_store_A rfl _ _ rfl okA_zadr hA hr rfl rfl ?_)
    refine bodyPost_ret (res_A2 rfl rfl hA (hr.row _)) rfl ⟨by rw [E.out]; rfl, hx.setRow (Nat.le_refl _) _⟩
 ·have hn4 : ((gs.length : Int) != 8) = true := by rw [bne_iff_ne]; omega
  have E := Lib.hid (v6_no h8)
  clear h8 hcells h16
  go_wp2_with (refine wpList_store_A rfl _ _ rfl okA_zadr okA_zadr hr rfl rfl ?_)
  refine bodyPost_ret (res_A2 rfl rfl okA_zadr (hr.row _)) rfl ⟨by rw [E.out]; rfl, hx.setRow (Nat.le_refl _) _⟩
theorem rV6_any (v : Value) (gs : List Int) (w : World) (hv : Grps w v gs) (hn : gs.length <= 140737488351232) :
  Calls Tryz.prog 223 #[v] w fun e w' => e = .returned (.tuple #[av (v6 gs).1, .bool (v6 gs).2]) /\ Ext w w' := by
 obtain ⟨a, cap, rfl, hcap, h16, hcells⟩ := hv
 go_enter Tryz.func223, Tryz.ntmps223
 go_upto_region 1 with fail
 rw [← ac_zadr]
 have hx := (Ext.refl w).alloc (.cells (ac zadr) 41)
 have hr := Blk.new w (ac zadr) 41
 generalize hw2 : w.alloc (.cells (ac zadr) 41) = w2 at *
 clear hw2
 by_cases h8 : gs.length = 8
 ·obtain ⟨b, off, rfl, hb, hc⟩ := hcells h8
  have hn4 : ((gs.length : Int) != 8) = false := by rw [bne_eq_false_iff_eq]; omega
  have hC : ∀ j x, gs[j]? = some x -> w2.cell? ⟨b, off + j, none⟩ = some (.int .u16 x) := fun j x hj => by rw [hx.cell hb]; exact hc j x hj
  have hA0 : okA (adr6 gs 0) := okA_adr6 h16 h8 (Nat.zero_le _)
  have hb4 := Blk.new w2 (ac zadr) 41
  have H16 := Lib.hid h16; have H8 := Lib.hid h8; have HC := Lib.hid hC; clear hcells h16 hc hC h8
  have hg8 : (gs.length : Int) <= 8 := by have := H8.out; omega
  have hg8' : (8 : Int) <= gs.length := by have := H8.out; omega
  have hr2 := hr.lt
  go_upto_region 4 with (refine wpList_store_A rfl _ _ rfl okA_zadr hA0 hb4 rfl rfl ?_)
  change Code.wp _ _ _ _ ((w2.alloc (.cells (ac zadr) 41)).setRow w2.heap.size (ac (adr6 gs 0)))
  rw [World.setRow_alloc_new]
  have hb5 := Blk.new w2 (ac (adr6 gs 0)) 41
  have hr5 := hr.ext ((Ext.refl w2).alloc (.cells (ac (adr6 gs 0)) 41))
  have hx5 := hx.alloc (.cells (ac (adr6 gs 0)) 41)
  have hC5 : ∀ j x, gs[j]? = some x -> (w2.alloc (.cells (ac (adr6 gs 0)) 41)).cell? ⟨b, off + j, none⟩ = some (.int .u16 x) := fun j x hj => by
   rw [((Ext.refl w2).alloc _).cell (show b < w2.heap.size from Nat.lt_of_lt_of_le hb hx.size)]; exact HC.out j x hj
  have hbc : b ≠ w2.heap.size := by have := hx.size; omega
  have hwc : w.heap.size <= w2.heap.size := hx.size
  have hrc : w.heap.size ≠ w2.heap.size := by omega
  have HC5 := Lib.hid hC5; clear hC5 hb4 HC hr hx hr2
  generalize w2.alloc (.cells (ac (adr6 gs 0)) 41) = w5 at *
  generalize w2.heap.size = c at *
  go_wp2_with fail
  go_loopw [5] (fun i wr => ∃ k : Nat, k <= 8 /\ i = .int .i64 k /\ Blk wr w.heap.size (ac zadr).toList 41 /\ Blk wr c (ac (adr6 gs k)).toList 41 /\ Hid (∀ j x, gs[j]? = some x -> wr.cell? ⟨b, off + j, none⟩ = some (.int .u16 x)) /\ Ext w wr) (fun i _ => 8 - (intOf i).toNat)
  case atStart => exact ⟨0, Nat.zero_le _, rfl, hr5, hb5, HC5, hx5⟩
  case round =>
   obtain ⟨k, hk, rfl, hr, hb, hC, hx⟩ := hrel
   have hA := okA_adr6 H16.out H8.out hk
   by_cases hlt : k < 8
   ·have hlt' : (k : Int) < gs.length := by omega
    obtain ⟨x, hxk⟩ : ∃ x, gs[k]? = some x := ⟨gs[k]'(by have := H8.out; omega), List.getElem?_eq_getElem _⟩
    have hcell := hC.out k x hxk
    have hxb := H16.out x (List.mem_of_getElem? hxk)
    have HX := Lib.hid hxk; clear hxk
    have e1 := u8_div hxb.1 hxb.2
    have e2 := @u8_mod x
    have hcell2 := hb.cell (i := 1 + 2 * k) (by rw [Array.getElem?_toList]; exact ac_at hA (by omega))
    have hcell3 := hb.cell (i := 1 + (2 * k + 1)) (by rw [Array.getElem?_toList]; exact ac_at hA (by omega))
    have hf2 := hb.free (1 + 2 * k)
    have hf3 := hb.free (1 + (2 * k + 1))
    go_wp2_with fail
    go_region
    go_wp2_with fail
    go_roundw
    case rel =>
     refine ⟨k + 1, by omega, by go_num, (hr.set_ne ⟨c, _, none⟩ (fun e => hrc e.symm) _).set_ne ⟨c, _, none⟩ (fun e => hrc e.symm) _, ?_, Lib.hid fun j y hj => ?_, ((hx.setCell (p := ⟨c, _, none⟩) hwc _).setCell (p := ⟨c, _, none⟩) hwc _).drew⟩
     ·rw [← adr6_set H8.out hlt HX.out]; exact (hb.set (1 + 2 * k) (.int .u8 (x / 256))).set (1 + (2 * k + 1)) (.int .u8 (x % 256))
     ·show ((wr.setCell ⟨c, 1 + 2 * k, none⟩ _).setCell ⟨c, 1 + (2 * k + 1), none⟩ _).cell? _ = _
      rw [World.cell?_of_block (Below.heap_setCell _ _ _ b hbc), World.cell?_of_block (Below.heap_setCell _ _ _ b hbc)]; exact hC.out j y hj
    case measure => simp [intOf]; omega
   ·obtain rfl : k = 8 := by omega
    have E := Lib.hid (v6_ok H8.out)
    go_wp2_with (first | refine wpList_load_A rfl _ rfl hA hb rfl ?_ | refine wpList_store_A rfl _ _ rfl okA_zadr hA hr rfl rfl ?_)
    refine bodyPost_ret (res_A2 rfl rfl hA (hr.row _)) rfl ⟨by rw [E.out]; rfl, hx.setRow (Nat.le_refl _) _⟩
 ·have hn4 : ((gs.length : Int) != 8) = true := by rw [bne_iff_ne]; omega
  have E := Lib.hid (v6_no h8)
  clear h8 hcells h16
  go_wp2_with (refine wpList_store_A rfl _ _ rfl okA_zadr okA_zadr hr rfl rfl ?_)
  refine bodyPost_ret (res_A2 rfl rfl okA_zadr (hr.row _)) rfl ⟨by rw [E.out]; rfl, hx.setRow (Nat.le_refl _) _⟩
open Go.RowKit
theorem zeroCells_list (v : Value) (m : Nat) : (Builtin.zeroCells #[v] m).toList = List.replicate m v := by
 unfold Builtin.zeroCells
 apply List.ext_getElem?
 intro j
 simp [Nat.mod_one, List.getElem?_replicate]
 by_cases h : j < m
 ·simp [h, List.getElem?_range]
 ·simp [h]
section
variable {P : Program} (w : World)
theorem run_append_made (base : Nat) (t tx ty e : TypeId) (i : TypeInfo) (z : Value) (bytes : Nat) (ht : P.underlying t = some (.slice e)) (hk : P.underlying tx = some (.int .i64)) (hi : P.info? e = some i) (hz : i.zero = some z)
  (hsize : i.size = 1) (hby : i.bytes = bytes) (hzs : z.cells = #[z]) (hz1 : z.oneCell' = true)
  (v : Value) (n : Nat) (xs : List Value) (hown : w.ownsRow base e 1 v n xs) (m : Nat) (hm : 0 < m) (hml : m * bytes <= 281474976710656) (hm6 : m <= 9223372036854775807)
  (h63 : n + m <= maxLen) (hbytes : (n + m) * bytes <= 140737488355328) (hbase : base <= w.heap.size) :
  ∃ v' w', (Builtin.append_ #[t, tx] ty #[v, .int .i64 m]).run P w = .ok v' w' /\ w'.ownsRow base e 1 v' (n + m) (xs ++ List.replicate m z) /\ w.grownBy w' v.ownBlock /\ v' ≠ .slice none 0 0 := by
 subst hby
 have hsmall : n + m <= 9223372036854775807 := by simp only [maxLen] at h63; omega
 have hlen : (xs ++ List.replicate m z).length = n + m := by rw [List.length_append, hown.1, List.length_replicate, Nat.mul_one]
 have hw : wrap64 (m : Int) = m := IntWalk.wrap64_in _ (by omega)
 have hw2 : IntKind.i64.wrap (m : Int) = m := IntWalk.i64_in _ (by omega)
 have h48 : ¬ ((281474976710656 : Int) < (m : Int) * (i.bytes : Int)) := by
  have h1 := Int.natCast_mul m i.bytes
  rw [← h1]; generalize m * i.bytes = q at *; omega
 have hzl := zeroCells_list z m
 have grown : ∀ (old : Nat), old < n + m -> ∀ (row : Option Nat),
   (w.drew.alloc (.cells (xs.toArray ++ (List.replicate m z).toArray ++ Builtin.zeroCells z.cells (grownCap w (n + m) old e - (n + m))) e)).ownsRow base e 1
    (.slice (some ⟨w.heap.size, 0, none⟩) (n + m) (grownCap w (n + m) old e)) (n + m) (xs ++ List.replicate m z) /\
   w.grownBy (w.drew.alloc (.cells (xs.toArray ++ (List.replicate m z).toArray ++ Builtin.zeroCells z.cells (grownCap w (n + m) old e - (n + m))) e)) row := by
  intro old ho row
  have hge := grownCap_ge w (n + m) old e
  have hcm : grownCap w (n + m) old e <= maxLen := grownCap_le_maxLen w (n + m) old e h63
  refine ⟨⟨by rw [hlen, Nat.mul_one], .inr ⟨w.heap.size, _, _, rfl, hbase, heap_alloc_new w.drew _, hge, hcm, ?_, ?_⟩⟩, (have hg := World.grownBy_alloc w.drew (.cells (xs.toArray ++ (List.replicate m z).toArray ++ Builtin.zeroCells z.cells (grownCap w (n + m) old e - (n + m))) e) row; ⟨hg.os, hg.tape, hg.output, hg.size, hg.block⟩)⟩
  ·simp only [Array.size_append, List.size_toArray, size_zeroCells, hzs, hown.1, List.length_replicate, Nat.mul_one, List.size_toArray, List.length_cons, List.length_nil]
   simp
   omega
  ·simp only [Array.toList_append, List.append_assoc]
   rw [← List.append_assoc, Nat.mul_one, ← hlen]
   exact List.take_left
 have hm0 : ¬ m = 0 := by omega
 have hm1 : ¬ ((m : Int) < 0) := by omega
 have hzl2 : Builtin.zeroCells #[z] m = (List.replicate m z).toArray := by apply Array.ext'; rw [hzl]
 rcases hown.2 with ⟨rfl, rfl⟩ | ⟨g, cap, cur, rfl, hbg, hg, hnc, hcm, hcs, htake⟩
 ·have hx : xs = [] := List.eq_nil_of_length_eq_zero (by simpa using hown.1)
  subst hx
  have h48' : ¬ (281474976710656 < Builtin.nextslicecap m 0 * i.bytes) := by rw [nextslicecap_zero hm]; omega
  have hgr := grown 0 (by omega) (Value.ownBlock (.slice none 0 0))
  simp only [Nat.zero_add, List.nil_append] at hgr ⊢
  refine ⟨.slice (some ⟨w.heap.size, 0, none⟩) m (grownCap w m 0 e), _, ?_, hgr.1, hgr.2, by simp⟩
  have h63' : ¬ (9223372036854775807 < (m : Int)) := by omega
  simp [Builtin.append_, run_underlying ht, run_underlying hk, sizeOf, typeInfo, zeroValue, hi, hz, hsize, hzs, asInt, asIntOf, hw, hw2, hm0, hm1, h48, h48', h63', Question.forced, run_firstCells_none, newRow, grownCap, hzl2]
 ·by_cases hroom : n + m <= cap
  ·have hfit : n * 1 + (List.replicate m z).length <= cur.size := by rw [List.length_replicate, hcs, Nat.mul_one, Nat.mul_one]; exact hroom
   have hst := run_storeCells_at P g (n * 1) e (List.replicate m z) 0 cur w hg (by simpa using hfit) (fun u hu => by rw [List.eq_of_mem_replicate hu]; exact hz1)
   simp only [Nat.add_zero, Nat.mul_one] at hst
   refine ⟨.slice (some ⟨g, 0, none⟩) (n + m) cap, w.setRow g (cur.toList.take n ++ List.replicate m z ++ cur.toList.drop (n + (List.replicate m z).length)).toArray, ?_, ⟨by rw [hlen, Nat.mul_one], .inr ⟨g, cap, _, rfl, hbg, setRow_heap w g cur _ e _ hg, hroom, hcm, ?_, ?_⟩⟩, ⟨rfl, rfl, rfl, by simp, fun k _ hk => setRow_other w g k _ (fun e => hk (by simp [Value.ownBlock, e]))⟩, by simp⟩
   ·simp [Builtin.append_, run_underlying ht, run_underlying hk, sizeOf, typeInfo, zeroValue, hi, hz, hsize, hzs, asInt, asIntOf, hw, hw2, hm0, hm1, h48, hroom, Addr.add_lit, hzl, hst]
   ·simp only [List.size_toArray, List.length_append, List.length_take, List.length_drop, Array.length_toList, List.length_replicate] at *
    omega
   ·have e1 : cur.toList.take n = xs := by simpa using htake
    rw [e1, Nat.mul_one, ← hlen]
    exact List.take_left
  ·have hfo := run_firstCells_some (P := P) w.drew 1 n ⟨g, 0, none⟩ n cap xs (by simpa using hown.1) (fun j u hj => by simpa using hown.cells (g := g) rfl j u hj)
   have h48' : ¬ (281474976710656 < Builtin.nextslicecap (n + m) cap * i.bytes) := by have := growslice_fits (old := cap) (by omega) hbytes; omega
   have h63' : ¬ (9223372036854775807 < ((n : Int) + (m : Int))) := by omega
   have hgr := grown cap (by omega) (Value.ownBlock (.slice (some ⟨g, 0, none⟩) n cap))
   refine ⟨.slice (some ⟨w.heap.size, 0, none⟩) (n + m) (grownCap w (n + m) cap e), _, ?_, hgr.1, hgr.2, by simp⟩
   simp [Builtin.append_, run_underlying ht, run_underlying hk, sizeOf, typeInfo, zeroValue, hi, hz, hsize, hzs, asInt, asIntOf, hw, hw2, hm0, hm1, h48, h48', h63', hroom, Question.forced, hfo, newRow, grownCap, hzl2]
theorem wpList_append_made {ops : Array Oper} {rest : List Oper} {o : Oper} {a : Act} {Q : Exit -> Act -> World -> Prop} (hgd : o.guard = none) (s x : Operand) (t tx : TypeId)
  (ho : o.op = .call { callee := .builtin .append, args := #[s, x], argTypes := #[t, tx] })
  (base : Nat) (e : TypeId) (i : TypeInfo) (z : Value) (bytes : Nat) (ht : P.underlying t = some (.slice e)) (hk : P.underlying tx = some (.int .i64)) (hi : P.info? e = some i) (hz : i.zero = some z)
  (hsize : i.size = 1) (hby : i.bytes = bytes) (hzs : z.cells = #[z]) (hz1 : z.oneCell' = true)
  (v : Value) (n : Nat) (xs : List Value) (hs : a.eval s = v) (hown : w.ownsRow base e 1 v n xs) (m : Nat) (hx : a.eval x = .int .i64 m) (hm : 0 < m) (hml : m * bytes <= 281474976710656) (hm6 : m <= 9223372036854775807)
  (h63 : n + m <= maxLen) (hbytes : (n + m) * bytes <= 140737488355328) (hbase : base <= w.heap.size)
  (h : ∀ v' w', w'.ownsRow base e 1 v' (n + m) (xs ++ List.replicate m z) -> w.grownBy w' v.ownBlock -> v' ≠ .slice none 0 0 -> wpList P ops Q rest (a.put o.dst v') w') : wpList P ops Q (o :: rest) a w := by
 obtain ⟨v', w', hr, h2, h3, h4⟩ := run_append_made (P := P) w base t tx o.type e i z bytes ht hk hi hz hsize hby hzs hz1 v n xs hown m hm hml hm6 h63 hbytes hbase
 refine wpList_plain hgd fun _ hK => ?_
 unfold Oper.wp execOp
 simp only [ho, resolve, invoke, builtin, Sem.run_bind, Sem.run_pure, Result.andThen_ok, List.map_toArray, List.map_cons, List.map_nil, hs, hx, hr]
 exact hK _ _ (h v' w' h2 h3 h4)
end
end Go.Proofs.YtnohnnjeabehjaaGreatDoor
