/-
  strconv.AppendUint at base 16, of a number of 16 bits.
-/
import Derived.Test.YtpdoddelnahlnaaDoorIpA
import Derived.Laws.AppendOwn
import Derived.Laws.OwnMore
import Derived.Laws.BitsLemmas
import Derived.Lib.SmallJoins
set_option linter.unusedSimpArgs false
set_option linter.unusedVariables false
namespace Go.Proofs.YtpdoddelnahlnaaDoor
open Go.RowKit Go.Joins

/-- byte cells of a text -/
def bcells (l : List UInt8) : List Value := l.map fun c => Value.int .u8 c.toNat
theorem bcells_app (a b : List UInt8) : bcells (a ++ b) = bcells a ++ bcells b := by simp [bcells]
theorem hexT_small {n : Nat} (h : n < 16) : hexT n = [hexc n] := by rw [hexT, dif_pos h]
theorem hexT_big {n : Nat} (h : ¬ n < 16) : hexT n = hexT (n / 16) ++ [hexc (n % 16)] := by rw [hexT, dif_neg h]
theorem hexT_len {n : Nat} (h : n < 65536) : (hexT n).length ≤ 4 := by
  by_cases h1 : n < 16
  · rw [hexT_small h1]; simp
  rw [hexT_big h1]
  by_cases h2 : n / 16 < 16
  · rw [hexT_small h2]; simp
  rw [hexT_big h2]
  by_cases h3 : n / 16 / 16 < 16
  · rw [hexT_small h3]; simp
  rw [hexT_big h3, hexT_small (n := n / 16 / 16 / 16) (by omega)]; simp
theorem hexT_pos (n : Nat) : 1 ≤ (hexT n).length := by
  by_cases h1 : n < 16
  · rw [hexT_small h1]; simp
  · rw [hexT_big h1]; simp
def digs : ByteArray := ⟨#[48, 49, 50, 51, 52, 53, 54, 55, 56, 57, 97, 98, 99, 100, 101, 102, 103, 104, 105, 106, 107, 108, 109, 110, 111, 112, 113, 114, 115, 116, 117, 118, 119, 120, 121, 122]⟩
theorem digs_at : ∀ m : Fin 16, B digs m.val = ((hexc m.val).toNat : Int) := by decide +kernel
theorem digs_is {m : Nat} (h : m < 16) : B digs m = ((hexc m).toNat : Int) := digs_at ⟨m, h⟩
theorem and15 {n : Nat} (h : n < 65536) : bits BinOp.and IntKind.u64 (n : Int) 15 = ((n % 16 : Nat) : Int) := by
  have := bits_mask .u64 64 (by decide) wraps_u64 4 (by decide) (n : Int) (by omega) (by omega)
  rw [show (2 : Int) ^ 4 - 1 = 15 by decide] at this
  rw [this, show (2 : Int) ^ 4 = 16 by decide]; omega

theorem grownBy_set {w w1 : World} {row : Option Nat} (h : w.grownBy w1 row) {p : Addr} (hp : w.heap.size ≤ p.block) (u : Value) : w.grownBy (w1.setCell p u) row :=
  ⟨h.os, h.tape, h.output, by simpa [World.setCell] using h.size, fun k hk hr => by rw [Below.heap_setCell _ _ _ _ (by omega)]; exact h.block k hk hr⟩
theorem grownBy_trans {a b c : World} {row row' : Option Nat} (h : a.grownBy b row) (k : b.grownBy c row') (hr : row' = row) : a.grownBy c row := by
  subst hr
  exact ⟨k.os.trans h.os, k.tape.trans h.tape, k.output.trans h.output, Nat.le_trans h.size k.size, fun i hi hn => (k.block i (Nat.lt_of_lt_of_le hi h.size) hn).trans (h.block i hi hn)⟩
theorem rep_set (q : Nat) (z d : Value) (t : List Value) : (List.replicate (q + 1) z ++ t).set q d = List.replicate q z ++ d :: t := by
  rw [List.replicate_succ', List.append_assoc, List.set_append_right _ _ (by simp)]; simp
theorem rep_at (q : Nat) (z : Value) (t : List Value) : (List.replicate (q + 1) z ++ t)[q]? = some z := by
  rw [List.getElem?_append_left (by simp), List.getElem?_replicate, if_pos (by omega)]
set_option maxHeartbeats 400000 in
theorem tz16 (w : World) (ht : w.cell? ⟨7, 15, none⟩ = some (.int .u8 4)) : Calls Tryd.prog 99 #[.int .u64 16] w fun e w' => e = .returned (.int .i64 4) ∧ w = w' := by
  have hq : (IntKind.u64.wrap (bits BinOp.and IntKind.u64 16 (IntKind.u64.wrap (-16)) * 285870213051353865) / 288230376151711744).toNat = 15 := by decide
  have hq2 : IntKind.u64.wrap (bits BinOp.and IntKind.u64 16 (IntKind.u64.wrap (-16)) * 285870213051353865) / 288230376151711744 = 15 := by decide
  go_enter Tryd.func99, Tryd.ntmps99
  go_wp2
  go_ret
  exact ⟨rfl, rfl⟩
theorem pow16 (w : World) : Calls Tryd.prog 98 #[.int .i64 16] w fun e w' => e = .returned (.bool true) ∧ w = w' := by
  have hq : bits BinOp.and IntKind.i64 16 15 = 0 := by decide
  go_enter Tryd.func98, Tryd.ntmps98
  go_wp2
  go_ret
  exact ⟨rfl, rfl⟩
theorem info8 : (Tryd.prog.info? 5).map (fun i => (i.zero, i.size, i.bytes)) = some (some (.int .u8 0), 1, 1) := by kernel_rfl
theorem own_sliceX {w : World} {B : Nat} {e : TypeId} {v : Value} {n : Nat} {xs : List Value} (h : w.ownsRow B e 1 v n xs) : ∃ a cap, v = .slice a n cap := by
  obtain ⟨_, h4⟩ := h
  rcases h4 with ⟨rfl, hn⟩ | ⟨g, cap, cur, rfl, _, _, hc, _⟩
  · exact ⟨none, 0, by rw [hn]⟩
  · exact ⟨_, cap, rfl⟩
theorem zc65 : Tryd.zeroCells116.toList = List.replicate 65 (.int .u8 0) := by kernel_rfl
set_option maxRecDepth 20000 in
set_option maxHeartbeats 4000000 in
theorem formatBits_any (N : Nat) (hN : N < 65536) (w : World) (B0 n0 : Nat) (v : Value) (xs : List Value) (hown : w.ownsRow B0 5 1 v n0 xs) (hn0 : n0 ≤ 1000) (hB0 : B0 ≤ w.heap.size)
    (ht : w.cell? ⟨7, 15, none⟩ = some (.int .u8 4)) :
    Calls Tryd.prog 84 #[v, .int .u64 N, .int .i64 16, .bool false, .bool true] w fun e w' => ∃ v', e = .returned (.tuple #[v', .string ⟨#[]⟩]) ∧ w'.ownsRow B0 5 1 v' (n0 + (hexT N).length) (xs ++ bcells (hexT N)) ∧ w.grownBy w' v.ownBlock := by
  obtain ⟨i0, hi, hz0, hz1, hz2⟩ := info_parts info8
  have HI := Lib.hid hi; have HZ0 := Lib.hid hz0; have HZ1 := Lib.hid hz1; have HZ2 := Lib.hid hz2
  clear hi hz0 hz1 hz2
  obtain ⟨va, vc, rfl⟩ := own_sliceX hown
  go_enter Tryd.func84, Tryd.ntmps84
  go_upto_region 5 with fail
  have hb := Blk.new w Tryd.zeroCells116 116
  rw [zc65] at hb
  have hg0 := World.grownBy_alloc w (.cells Tryd.zeroCells116 116) (Value.slice va n0 vc).ownBlock
  have hown1 := hown.alloc (.cells Tryd.zeroCells116 116)
  have ht1 : (w.alloc (.cells Tryd.zeroCells116 116)).cell? ⟨7, 15, none⟩ = some (.int .u8 4) := by
    rw [((Ext.refl w).alloc _).cell (World.block_lt_of_cell? _ _ ht)]; exact ht
  have hltv := hown.lt
  generalize w.alloc (.cells Tryd.zeroCells116 116) = w1 at *
  have hbl := hb.lt
  have hbq : Hid (w.heap.size ≤ w.heap.size) := Lib.hid (Nat.le_refl _)
  obtain ⟨b, hbe⟩ : ∃ b, b = w.heap.size := ⟨_, rfl⟩
  have HBE := Lib.hid hbe
  rw [← hbe] at hb hltv hbl hB0 ⊢
  clear hbq hbe
  have HOW := Lib.hid hown1; have HG0 := Lib.hid hg0; clear hown1 hg0 hown
  go_wp2_with (first | (go_at_call 98; refine (pow16 _).mono ?_; rintro e w' ⟨rfl, rfl⟩) | (go_at_call 99; refine (tz16 _ ht1).mono ?_; rintro e w' ⟨rfl, rfl⟩))
  go_loopw [1, 13] (fun u i wr => ∃ (n p : Nat) (tl : List UInt8), n < 65536 ∧ u = .int .u64 n ∧ p + tl.length = 65 ∧ i = .int .i64 p ∧ Hid (hexT N = hexT n ++ tl) ∧ (hexT n).length + tl.length ≤ 4 ∧ Blk wr b (List.replicate p (.int .u8 0) ++ bcells tl) 116 ∧ wr.ownsRow B0 5 1 (.slice va n0 vc) n0 xs ∧ w.grownBy wr (Value.slice va n0 vc).ownBlock) (fun u _ _ => (intOf u).toNat)
  case atStart => exact ⟨N, 65, [], hN, rfl, rfl, rfl, Lib.hid (by rw [List.append_nil]), by have := hexT_len hN; simpa using this, by simpa [bcells] using hb, HOW.out, HG0.out⟩
  case round =>
    obtain ⟨n, p, tl, hn, rfl, hp, rfl, hX, hlen, hb, how, hg⟩ := hrel
    obtain ⟨q, rfl⟩ : ∃ q, p = q + 1 := ⟨p - 1, by omega⟩
    have hq65 : q < 65 := by omega
    have hcell : wr.cell? ⟨b, q, none⟩ = some (.int .u8 0) := hb.cell (rep_at q _ _)
    have hfr := hb.free q
    have hvb : (Value.slice va n0 vc).ownBlock ≠ some b := fun e => by have := (hltv b e).2; omega
    by_cases h16 : n < 16
    · have hd := digs_is h16
      unfold digs at hd
      have hX1 : Hid (hexT N = hexc n :: tl) := Lib.hid (by rw [hX.out, hexT_small h16]; rfl)
      have hlen2 : tl.length ≤ 3 := by have := hexT_pos n; omega
      have hnd : (n : Int) < 16 := by omega
      have hn36 : (n : Int) < 36 := by omega
      have hal : Tryd.prog.arrayLen 116 = 65 := by kernel_rfl
      have hsl : ∀ W, (Instr.sliceAt 116 (.pointer (some ⟨b, 0, none⟩)) (some (.int .i64 (q : Int))) none none).run Tryd.prog W = .ok (.slice (some ⟨b, q, none⟩) (tl.length + 1) (tl.length + 1)) W := fun W => by
        rw [run_sliceAt_array_l W 116 ⟨b, 0, none⟩ (by simp [Program.arrayLen, Program.elem, Tryd.underlying116]) .i64 (q : Int) (by omega) (by rw [hal]; omega)]
        have e1 : Tryd.prog.elem 116 = 5 := by kernel_rfl
        rw [hal, e1, Tryd.sizeOf5]
        have e2 : ¬ 65 = q := by omega
        have e3 : 65 - q = tl.length + 1 := by omega
        have e4 : ¬ q = 0 := by omega
        simp [slicedAt, e2, e3, e4, Addr.add]
      go_wp2_with (at_builtin; refine wpList_append_own _ rfl _ _ 33 rfl B0 5 i0 (.int .u8 0) 1 1 Tryd.underlying33 HI.out HZ0.out HZ1.out HZ2.out rfl (by decide) _ _ _ rfl (ownsRow_setCell_other how (a := ⟨b, q, none⟩) hvb _) ⟨b, q, none⟩ (tl.length + 1) (tl.length + 1) (bcells (hexc n :: tl)) rfl ?c1 ?c2 ?c3 ?c4 ?c5 ?c6 ?_)
      case c1 => simp [bcells]
      case c2 =>
        intro j u hj
        have hb2 := hb.set q (.int .u8 (hexc n).toNat)
        rw [rep_set] at hb2
        refine hb2.cell ?_
        rw [List.getElem?_append_right (by simp), List.length_replicate, Nat.add_sub_cancel_left]
        exact hj
      case c3 => intro u hu; obtain ⟨x, _, rfl⟩ := List.mem_map.1 hu; rfl
      case c4 => unfold maxLen; omega
      case c5 => omega
      case c6 => have := hb.lt; simp [World.setCell]; omega
      intro v' w9 hown' hgrow _
      have HO := Lib.hid hown'; have HG := Lib.hid hgrow; clear hown' hgrow
      go_wp2_with fail
      go_ret2
      refine ⟨_, rfl, ?_, grownBy_trans (grownBy_set hg (p := ⟨b, q, none⟩) (Nat.le_of_eq HBE.out.symm) _) HG.out rfl⟩
      rw [hX1.out]; exact HO.out
    · have hnd : (16 : Int) ≤ n := by omega
      have hm : n % 16 < 16 := Nat.mod_lt _ (by decide)
      have ha := and15 hn
      have hd := digs_is hm
      unfold digs at hd
      have hXn : Hid (hexT N = hexT (n / 16) ++ (hexc (n % 16) :: tl)) := Lib.hid (by rw [hX.out, hexT_big h16]; simp)
      have hln : (hexT (n / 16)).length + (hexc (n % 16) :: tl).length ≤ 4 := by
        rw [hexT_big h16] at hlen; simp at hlen ⊢; omega
      have HLN := Lib.hid hln; clear hln hlen
      generalize hmm : n % 16 = m at *
      clear hmm
      have hm36 : (m : Int) < 36 := by omega
      go_wp2_with fail
      go_roundw
      case rel =>
        refine ⟨n / 16, q, hexc m :: tl, by omega, by first | rfl | (congr 1; omega), by simp; omega, by go_num, hXn, HLN.out, ?_, ownsRow_setCell_other how (a := ⟨b, q, none⟩) hvb _, grownBy_set hg (p := ⟨b, q, none⟩) (Nat.le_of_eq HBE.out.symm) _⟩
        have := hb.set q (.int .u8 (hexc m).toNat)
        rw [rep_set] at this
        exact this
      case measure => simp [intOf]; omega

set_option maxHeartbeats 1000000 in
theorem appendHexI_any (N : Nat) (hN : N < 65536) (w : World) (B0 n0 : Nat) (v : Value) (xs : List Value) (hown : w.ownsRow B0 5 1 v n0 xs) (hn0 : n0 ≤ 1000) (hB0 : B0 ≤ w.heap.size)
    (ht : w.cell? ⟨7, 15, none⟩ = some (.int .u8 4)) :
    Calls Tryd.prog 70 #[v, .int .u64 N, .int .i64 16] w fun e w' => ∃ v', e = .returned v' ∧ w'.ownsRow B0 5 1 v' (n0 + (hexT N).length) (xs ++ bcells (hexT N)) ∧ w.grownBy w' v.ownBlock := by
  have hf := formatBits_any N hN w B0 n0 v xs hown hn0 hB0 ht
  obtain ⟨va, vc, rfl⟩ := own_sliceX hown
  have HF := Lib.hid hf; clear hf hown
  go_enter Tryd.func70, Tryd.ntmps70
  go_wp2_with (go_at_call 84; refine HF.out.mono ?_; rintro e w1 ⟨v', rfl, hx1, hg1⟩; obtain ⟨va2, vc2, rfl⟩ := own_sliceX hx1)
  go_ret
  exact ⟨_, rfl, hx1, hg1⟩
set_option maxHeartbeats 1000000 in
theorem appendHex_any (N : Nat) (hN : N < 65536) (w : World) (B0 n0 : Nat) (v : Value) (xs : List Value) (hown : w.ownsRow B0 5 1 v n0 xs) (hn0 : n0 ≤ 1000) (hB0 : B0 ≤ w.heap.size)
    (ht : w.cell? ⟨7, 15, none⟩ = some (.int .u8 4)) :
    Calls Tryd.prog 58 #[v, .int .u64 N, .int .i64 16] w fun e w' => ∃ v', e = .returned v' ∧ w'.ownsRow B0 5 1 v' (n0 + (hexT N).length) (xs ++ bcells (hexT N)) ∧ w.grownBy w' v.ownBlock := by
  have hf := appendHexI_any N hN w B0 n0 v xs hown hn0 hB0 ht
  obtain ⟨va, vc, rfl⟩ := own_sliceX hown
  have HF := Lib.hid hf; clear hf hown
  go_enter Tryd.func58, Tryd.ntmps58
  go_wp2_with (go_at_call 70; refine HF.out.mono ?_; rintro e w1 ⟨v', rfl, hx1, hg1⟩; obtain ⟨va2, vc2, rfl⟩ := own_sliceX hx1)
  go_ret
  exact ⟨_, rfl, hx1, hg1⟩
end Go.Proofs.YtpdoddelnahlnaaDoor
