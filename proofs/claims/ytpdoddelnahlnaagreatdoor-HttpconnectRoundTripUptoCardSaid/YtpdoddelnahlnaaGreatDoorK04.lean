/-
  Several texts joined: IpF, IpX, IpFm.
-/
import Derived.Test.YtpdoddelnahlnaaGreatDoorK03
import Derived.Laws.AppendOwn
import Derived.Laws.OwnMore
import Derived.Laws.BitsLemmas
import Derived.Lib.SmallJoins
import Derived.Lib.AppendStr
import Derived.Lib.ItoaLen
/-
  Contract of longestZeroRun.
-/
set_option linter.unusedSimpArgs false
set_option linter.unusedVariables false
namespace Go.Proofs.YtpdoddelnahlnaaGreatDoor
open Go.RowKit

theorem wpList_load_Ag {ops : Array Oper} {rest : List Oper} {o : Oper} {f : Act} {w : World} {Q : Exit → Act → World → Prop} (hw : Region.wanted o (yielded ops f.tmps) = true) (x : Operand) (ho : o.op = .load 30 x)
    {b : Nat} {a : Adr} (ha : okA a) (hb : Blk w b (ac a).toList 30) (hx : f.eval x = .pointer (some ⟨b, 0, none⟩)) (h : wpList Tryz.prog ops Q rest (f.put o.dst (.agg (ac a))) w) : wpList Tryz.prog ops Q (o :: rest) f w := by
  refine wpList_step fun K hK => ?_
  rw [if_pos hw]
  have := wp_load_mid (P := Tryz.prog) (op := o) (a := f) (w := w) (K := K) (Q := Q) 30 x ho b 0 hx (ac a).toList _ (fun j v hj => by rw [Nat.zero_add]; exact hb.cell hj) Tryz.underlying30 rfl (by rw [info_A, Array.length_toList, ac_size ha])
  exact this (hK _ _ h)
theorem zrun_stop (l : List Int) : ∀ (f i k : Nat), i ≤ k → k ≤ i + f → (∀ j, i ≤ j → j < k → grp l j = 0) → (k = i + f ∨ grp l k ≠ 0) → zrun l f i = k - i
  | 0, i, k, h1, h2, _, _ => by rw [zrun]; omega
  | f + 1, i, k, h1, h2, h3, h4 => by
    rw [zrun]
    by_cases h : k = i
    · subst h
      rw [if_neg]
      · omega
      · rcases h4 with h4 | h4
        · omega
        · exact h4
    · rw [if_pos (h3 i (Nat.le_refl _) (by omega)), zrun_stop l f (i + 1) k (by omega) (by omega) (fun j a b => h3 j (by omega) b) (by rcases h4 with h4 | h4; exact .inl (by omega); exact .inr h4)]
      omega
theorem zr_stop {l : List Int} {i k : Nat} (h1 : i ≤ k) (h2 : k ≤ 8) (h3 : ∀ j, i ≤ j → j < k → grp l j = 0) (h4 : k = 8 ∨ grp l k ≠ 0) : zr l i = k - i :=
  zrun_stop l (8 - i) i k h1 (by omega) h3 (by rcases h4 with h4 | h4; exact .inl (by omega); exact .inr h4)
theorem zrun_le (l : List Int) : ∀ (f i : Nat), zrun l f i ≤ f
  | 0, _ => Nat.le_refl _
  | f + 1, i => by rw [zrun]; split; have := zrun_le l f (i + 1); omega; omega
theorem zr_le (l : List Int) (i : Nat) : zr l i ≤ 8 - i := zrun_le _ _ _
theorem best_bd (l : List Int) : ∀ i, i ≤ 8 → (best l i = (-1, 1) ∨ (0 ≤ (best l i).1 ∧ (best l i).1 < i ∧ 2 ≤ (best l i).2 ∧ (best l i).1 + (best l i).2 ≤ 8))
  | 0, _ => .inl rfl
  | i + 1, h => by
    have ih := best_bd l i (by omega)
    have hz := zr_le l i
    rw [best]
    by_cases hc : (best l i).2 < zr l i
    · rw [if_pos hc]
      right
      rcases ih with ih | ih
      · rw [ih] at hc; simp at hc ⊢; omega
      · simp; omega
    · rw [if_neg hc]
      rcases ih with ih | ih
      · exact .inl ih
      · right; omega
/-- where the run ends, or -1 -/
def upto (l : List Int) (i : Nat) : Int := if (best l i).1 < 0 then -1 else (best l i).1 + (best l i).2

set_option maxRecDepth 4000 in
set_option maxHeartbeats 4000000 in
theorem longest_any (a : Adr) (ha : okA a) (w : World) :
    Calls Tryz.prog 70 #[av a] w fun e w' => e = .returned (.tuple #[.int .i64 (best a.2 8).1, .int .i64 (upto a.2 8)]) ∧ Ext w w' := by
  unfold av
  go_enter Tryz.func70, Tryz.ntmps70
  go_upto_region 1 with fail
  have hx := (Ext.refl w).alloc (.cells (ac a) 30)
  have hb := ABox.new ha w
  generalize w.alloc (.cells (ac a) 30) = w1 at *
  generalize w.heap.size = b at *
  go_wp2_with fail
  go_loopw [4, 5, 6, 7, 8] (fun f t _ _ c wr => ∃ i : Nat, i ≤ 8 ∧ c = .int .i64 i ∧ f = .int .i64 (best a.2 i).1 ∧ t = .int .i64 (upto a.2 i) ∧ ABox wr b a ∧ Ext w wr) (fun _ _ _ _ c _ => 8 - (intOf c).toNat)
  case atStart => exact ⟨0, Nat.zero_le _, rfl, rfl, rfl, hb, hx⟩
  case round =>
    obtain ⟨i, hi, rfl, rfl, rfl, hb, hx⟩ := hrel
    by_cases hlt : i < 8
    · have hlt' : (i : Int) < 8 := by omega
      obtain ⟨wo, hwo⟩ : ∃ wo : World, wo = wr := ⟨_, rfl⟩
      rw [← hwo]; rw [← hwo] at hb hx
      clear hwo
      generalize hF : (best a.2 i).1 = F at *
      generalize hT : upto a.2 i = T at *
      have HF := Lib.hid hF; have HT := Lib.hid hT; clear hF hT
      go_wp2_with fail
      go_loopw [7] (fun k wr => ∃ j : Nat, i ≤ j ∧ j ≤ 8 ∧ k = .int .i64 j ∧ ABox wr b a ∧ Ext w wr ∧ Hid (∀ q, i ≤ q → q < j → grp a.2 q = 0)) (fun k _ => 8 - (intOf k).toNat)
      case atStart => exact ⟨i, Nat.le_refl _, hi, rfl, hb, hx, Lib.hid fun q h1 h2 => by omega⟩
      case round =>
        obtain ⟨j, hj1, hj2, rfl, hb, hx, hz⟩ := hrel
        by_cases hlt2 : j < 8
        · have hlt3 : (j : Int) < 8 := by omega
          have hcall := group_any a ha j hlt2 wr
          have HC := Lib.hid hcall; clear hcall
          by_cases hg : grp a.2 j = 0
          · have hgb : (grp a.2 j == 0) = true := by rw [beq_iff_eq]; exact hg
            have HG := Lib.hid hg; clear hg
            have hjd : decide ((j : Int) < 8) = true := decide_eq_true hlt3
            go_wp2_with (first | refine wpList_load_Ag (by first | rfl | simp [Region.wanted, yielded, hjd]) _ rfl ha hb.blk rfl ?_ | (go_at_call 72; refine HC.out.mono ?_; rintro e w3 ⟨rfl, hx3⟩))
            refine ⟨⟨j + 1, by omega, by omega, by go_num, hb.ext ha hx3, hx.trans hx3, Lib.hid fun q h1 h2 => ?_⟩, by simp [intOf]; omega⟩
            by_cases h : q = j
            · subst h; exact HG.out
            · exact hz.out q h1 (by omega)
          · have hgb : (grp a.2 j == 0) = false := by rw [beq_eq_false_iff_ne]; exact hg
            have hzr : zr a.2 i = j - i := zr_stop hj1 hj2 hz.out (.inr hg)
            have HZR := Lib.hid hzr; clear hzr hg
            have hjd : decide ((j : Int) < 8) = true := decide_eq_true hlt3
            go_upto_region 8 with (first | refine wpList_load_Ag (by first | rfl | simp [Region.wanted, yielded, hjd]) _ rfl ha hb.blk rfl ?_ | (go_at_call 72; refine HC.out.mono ?_; rintro e w3 ⟨rfl, hx3⟩))
            have hb3 := hb.ext ha hx3
            have hxx := hx.trans hx3
            have hbb := best_bd a.2 i hi
            have hmx : max 1 (wrap64 (T - F)) = (best a.2 i).2 := by
              rw [← HT.out, ← HF.out]; unfold upto
              rcases hbb with h | ⟨h1, h2, h3, h4⟩
              · rw [h]; show max 1 (wrap64 ((if (-1 : Int) < 0 then -1 else -1 + 1) - -1)) = 1; rw [if_pos (by decide), IntWalk.wrap64_in _ (by omega)]; omega
              · rw [if_neg (by omega), show (best a.2 i).1 + (best a.2 i).2 - (best a.2 i).1 = (best a.2 i).2 by omega, IntWalk.wrap64_in _ (by omega)]; omega
            have HMX := Lib.hid hmx; have HBB := Lib.hid hbb; clear hmx hbb
            go_wp2_with fail
            all_goals rename_i hcmp
            all_goals rw [HMX.out] at hcmp
            all_goals first
              | (have hs : best a.2 (i + 1) = ((i : Int), (zr a.2 i : Int)) := by rw [best, if_pos (by have := HZR.out; omega)]
                 refine ⟨⟨i + 1, by omega, by go_num, by rw [hs], by (unfold upto; rw [hs, if_neg (by omega)]; have := HZR.out; first | rfl | (congr 1; omega)), hb3, hxx⟩, by simp [intOf]; omega⟩)
              | (have hs : best a.2 (i + 1) = best a.2 i := by rw [best, if_neg (by have := HZR.out; omega)]
                 refine ⟨⟨i + 1, by omega, by go_num, by rw [hs, HF.out], by (have h2 : upto a.2 (i + 1) = upto a.2 i := by (unfold upto; rw [hs])); rw [h2, HT.out], hb3, hxx⟩, by simp [intOf]; omega⟩)
        · obtain rfl : j = 8 := by omega
          have hzr : zr a.2 i = 8 - i := zr_stop hj1 hj2 hz.out (.inl rfl)
          have HZR := Lib.hid hzr; clear hzr
          go_upto_region 8 with fail
          have hb3 := hb
          have hxx := hx
          have hbb := best_bd a.2 i hi
          have hmx : max 1 (wrap64 (T - F)) = (best a.2 i).2 := by
            rw [← HT.out, ← HF.out]; unfold upto
            rcases hbb with h | ⟨h1, h2, h3, h4⟩
            · rw [h]; show max 1 (wrap64 ((if (-1 : Int) < 0 then -1 else -1 + 1) - -1)) = 1; rw [if_pos (by decide), IntWalk.wrap64_in _ (by omega)]; omega
            · rw [if_neg (by omega), show (best a.2 i).1 + (best a.2 i).2 - (best a.2 i).1 = (best a.2 i).2 by omega, IntWalk.wrap64_in _ (by omega)]; omega
          have HMX := Lib.hid hmx; have HBB := Lib.hid hbb; clear hmx hbb
          go_wp2_with fail
          all_goals rename_i hcmp
          all_goals rw [HMX.out] at hcmp
          all_goals first
            | (have hs : best a.2 (i + 1) = ((i : Int), (zr a.2 i : Int)) := by rw [best, if_pos (by have := HZR.out; omega)]
               refine ⟨⟨i + 1, by omega, by go_num, by rw [hs], by (unfold upto; rw [hs, if_neg (by omega)]; have := HZR.out; first | rfl | (congr 1; omega)), hb3, hxx⟩, by simp [intOf]; omega⟩)
            | (have hs : best a.2 (i + 1) = best a.2 i := by rw [best, if_neg (by have := HZR.out; omega)]
               refine ⟨⟨i + 1, by omega, by go_num, by rw [hs, HF.out], by (have h2 : upto a.2 (i + 1) = upto a.2 i := by (unfold upto; rw [hs])); rw [h2, HT.out], hb3, hxx⟩, by simp [intOf]; omega⟩)
    · obtain rfl : i = 8 := by omega
      go_wp2_with fail
      go_ret2
      exact ⟨rfl, hx⟩
end Go.Proofs.YtpdoddelnahlnaaGreatDoor
/-
  strconv.AppendUint at base 16, of a number of 16 bits.
-/
set_option linter.unusedSimpArgs false
set_option linter.unusedVariables false
namespace Go.Proofs.YtpdoddelnahlnaaGreatDoor
open Go.RowKit Go.Joins

/-- byte cells of a text -/
def bcells (l : List UInt8) : List Value := l.map fun c => Value.int .u8 c.toNat
theorem bcells_app (a b : List UInt8) : bcells (a ++ b) = bcells a ++ bcells b := by simp [bcells]
theorem hexT_small {n : Nat} (h : n < 16) : hexT n = [hexc n] := by rw [hexT, dif_pos h]
theorem hexT_big {n : Nat} (h : ¬ n < 16) : hexT n = hexT (n / 16) ++ [hexc (n % 16)] := by rw [hexT, dif_neg h]
theorem hexT_len {n : Nat} (h : n < 65536) : (hexT n).length ≤ 4 := by
  by_cases h1 : n < 16
  · rw [hexT_small h1]; simp
  rw [hexT_big h1]
  by_cases h2 : n / 16 < 16
  · rw [hexT_small h2]; simp
  rw [hexT_big h2]
  by_cases h3 : n / 16 / 16 < 16
  · rw [hexT_small h3]; simp
  rw [hexT_big h3, hexT_small (n := n / 16 / 16 / 16) (by omega)]; simp
theorem hexT_pos (n : Nat) : 1 ≤ (hexT n).length := by
  by_cases h1 : n < 16
  · rw [hexT_small h1]; simp
  · rw [hexT_big h1]; simp
def digs : ByteArray := ⟨#[48, 49, 50, 51, 52, 53, 54, 55, 56, 57, 97, 98, 99, 100, 101, 102, 103, 104, 105, 106, 107, 108, 109, 110, 111, 112, 113, 114, 115, 116, 117, 118, 119, 120, 121, 122]⟩
theorem digs_at : ∀ m : Fin 16, B digs m.val = ((hexc m.val).toNat : Int) := by decide +kernel
theorem digs_is {m : Nat} (h : m < 16) : B digs m = ((hexc m).toNat : Int) := digs_at ⟨m, h⟩
theorem and15 {n : Nat} (h : n < 65536) : bits BinOp.and IntKind.u64 (n : Int) 15 = ((n % 16 : Nat) : Int) := by
  have := bits_mask .u64 64 (by decide) wraps_u64 4 (by decide) (n : Int) (by omega) (by omega)
  rw [show (2 : Int) ^ 4 - 1 = 15 by decide] at this
  rw [this, show (2 : Int) ^ 4 = 16 by decide]; omega

theorem grownBy_set {w w1 : World} {row : Option Nat} (h : w.grownBy w1 row) {p : Addr} (hp : w.heap.size ≤ p.block) (u : Value) : w.grownBy (w1.setCell p u) row :=
  ⟨h.os, h.tape, h.output, by simpa [World.setCell] using h.size, fun k hk hr => by rw [Below.heap_setCell _ _ _ _ (by omega)]; exact h.block k hk hr⟩
theorem grownBy_trans {a b c : World} {row row' : Option Nat} (h : a.grownBy b row) (k : b.grownBy c row') (hr : row' = row) : a.grownBy c row := by
  subst hr
  exact ⟨k.os.trans h.os, k.tape.trans h.tape, k.output.trans h.output, Nat.le_trans h.size k.size, fun i hi hn => (k.block i (Nat.lt_of_lt_of_le hi h.size) hn).trans (h.block i hi hn)⟩
theorem rep_set (q : Nat) (z d : Value) (t : List Value) : (List.replicate (q + 1) z ++ t).set q d = List.replicate q z ++ d :: t := by
  rw [List.replicate_succ', List.append_assoc, List.set_append_right _ _ (by simp)]; simp
theorem rep_at (q : Nat) (z : Value) (t : List Value) : (List.replicate (q + 1) z ++ t)[q]? = some z := by
  rw [List.getElem?_append_left (by simp), List.getElem?_replicate, if_pos (by omega)]
set_option maxHeartbeats 400000 in
theorem tz16 (w : World) (ht : w.cell? ⟨7, 15, none⟩ = some (.int .u8 4)) : Calls Tryz.prog 147 #[.int .u64 16] w fun e w' => e = .returned (.int .i64 4) ∧ w = w' := by
  have hq : (IntKind.u64.wrap (bits BinOp.and IntKind.u64 16 (IntKind.u64.wrap (-16)) * 285870213051353865) / 288230376151711744).toNat = 15 := by decide
  have hq2 : IntKind.u64.wrap (bits BinOp.and IntKind.u64 16 (IntKind.u64.wrap (-16)) * 285870213051353865) / 288230376151711744 = 15 := by decide
  go_enter Tryz.func147, Tryz.ntmps147
  go_wp2
  go_ret
  exact ⟨rfl, rfl⟩
theorem pow16 (w : World) : Calls Tryz.prog 146 #[.int .i64 16] w fun e w' => e = .returned (.bool true) ∧ w = w' := by
  have hq : bits BinOp.and IntKind.i64 16 15 = 0 := by decide
  go_enter Tryz.func146, Tryz.ntmps146
  go_wp2
  go_ret
  exact ⟨rfl, rfl⟩
theorem info8 : (Tryz.prog.info? 5).map (fun i => (i.zero, i.size, i.bytes)) = some (some (.int .u8 0), 1, 1) := by kernel_rfl
theorem own_sliceX {w : World} {B : Nat} {e : TypeId} {v : Value} {n : Nat} {xs : List Value} (h : w.ownsRow B e 1 v n xs) : ∃ a cap, v = .slice a n cap := by
  obtain ⟨_, h4⟩ := h
  rcases h4 with ⟨rfl, hn⟩ | ⟨g, cap, cur, rfl, _, _, hc, _⟩
  · exact ⟨none, 0, by rw [hn]⟩
  · exact ⟨_, cap, rfl⟩
theorem zc65 : Tryz.zeroCells133.toList = List.replicate 65 (.int .u8 0) := by kernel_rfl
set_option maxRecDepth 20000 in
set_option maxHeartbeats 4000000 in
theorem formatBits_any (N : Nat) (hN : N < 65536) (w : World) (B0 n0 : Nat) (v : Value) (xs : List Value) (hown : w.ownsRow B0 5 1 v n0 xs) (hn0 : n0 ≤ 1000) (hB0 : B0 ≤ w.heap.size)
    (ht : w.cell? ⟨7, 15, none⟩ = some (.int .u8 4)) :
    Calls Tryz.prog 127 #[v, .int .u64 N, .int .i64 16, .bool false, .bool true] w fun e w' => ∃ v', e = .returned (.tuple #[v', .string ⟨#[]⟩]) ∧ w'.ownsRow B0 5 1 v' (n0 + (hexT N).length) (xs ++ bcells (hexT N)) ∧ w.grownBy w' v.ownBlock := by
  obtain ⟨i0, hi, hz0, hz1, hz2⟩ := info_parts info8
  have HI := Lib.hid hi; have HZ0 := Lib.hid hz0; have HZ1 := Lib.hid hz1; have HZ2 := Lib.hid hz2
  clear hi hz0 hz1 hz2
  obtain ⟨va, vc, rfl⟩ := own_sliceX hown
  go_enter Tryz.func127, Tryz.ntmps127
  go_upto_region 5 with fail
  have hb := Blk.new w Tryz.zeroCells133 133
  rw [zc65] at hb
  have hg0 := World.grownBy_alloc w (.cells Tryz.zeroCells133 133) (Value.slice va n0 vc).ownBlock
  have hown1 := hown.alloc (.cells Tryz.zeroCells133 133)
  have ht1 : (w.alloc (.cells Tryz.zeroCells133 133)).cell? ⟨7, 15, none⟩ = some (.int .u8 4) := by
    rw [((Ext.refl w).alloc _).cell (World.block_lt_of_cell? _ _ ht)]; exact ht
  have hltv := hown.lt
  generalize w.alloc (.cells Tryz.zeroCells133 133) = w1 at *
  have hbl := hb.lt
  have hbq : Hid (w.heap.size ≤ w.heap.size) := Lib.hid (Nat.le_refl _)
  obtain ⟨b, hbe⟩ : ∃ b, b = w.heap.size := ⟨_, rfl⟩
  have HBE := Lib.hid hbe
  rw [← hbe] at hb hltv hbl hB0 ⊢
  clear hbq hbe
  have HOW := Lib.hid hown1; have HG0 := Lib.hid hg0; clear hown1 hg0 hown
  go_wp2_with (first | (go_at_call 146; refine (pow16 _).mono ?_; rintro e w' ⟨rfl, rfl⟩) | (go_at_call 147; refine (tz16 _ ht1).mono ?_; rintro e w' ⟨rfl, rfl⟩))
  go_loopw [1, 13] (fun u i wr => ∃ (n p : Nat) (tl : List UInt8), n < 65536 ∧ u = .int .u64 n ∧ p + tl.length = 65 ∧ i = .int .i64 p ∧ Hid (hexT N = hexT n ++ tl) ∧ (hexT n).length + tl.length ≤ 4 ∧ Blk wr b (List.replicate p (.int .u8 0) ++ bcells tl) 133 ∧ wr.ownsRow B0 5 1 (.slice va n0 vc) n0 xs ∧ w.grownBy wr (Value.slice va n0 vc).ownBlock) (fun u _ _ => (intOf u).toNat)
  case atStart => exact ⟨N, 65, [], hN, rfl, rfl, rfl, Lib.hid (by rw [List.append_nil]), by have := hexT_len hN; simpa using this, by simpa [bcells] using hb, HOW.out, HG0.out⟩
  case round =>
    obtain ⟨n, p, tl, hn, rfl, hp, rfl, hX, hlen, hb, how, hg⟩ := hrel
    obtain ⟨q, rfl⟩ : ∃ q, p = q + 1 := ⟨p - 1, by omega⟩
    have hq65 : q < 65 := by omega
    have hcell : wr.cell? ⟨b, q, none⟩ = some (.int .u8 0) := hb.cell (rep_at q _ _)
    have hfr := hb.free q
    have hvb : (Value.slice va n0 vc).ownBlock ≠ some b := fun e => by have := (hltv b e).2; omega
    by_cases h16 : n < 16
    · have hd := digs_is h16
      unfold digs at hd
      have hX1 : Hid (hexT N = hexc n :: tl) := Lib.hid (by rw [hX.out, hexT_small h16]; rfl)
      have hlen2 : tl.length ≤ 3 := by have := hexT_pos n; omega
      have hnd : (n : Int) < 16 := by omega
      have hn36 : (n : Int) < 36 := by omega
      have hal : Tryz.prog.arrayLen 133 = 65 := by kernel_rfl
      have hsl : ∀ W, (Instr.sliceAt 133 (.pointer (some ⟨b, 0, none⟩)) (some (.int .i64 (q : Int))) none none).run Tryz.prog W = .ok (.slice (some ⟨b, q, none⟩) (tl.length + 1) (tl.length + 1)) W := fun W => by
        rw [run_sliceAt_array_l W 133 ⟨b, 0, none⟩ (by simp [Program.arrayLen, Program.elem, Tryz.underlying133]) .i64 (q : Int) (by omega) (by rw [hal]; omega)]
        have e1 : Tryz.prog.elem 133 = 5 := by kernel_rfl
        rw [hal, e1, Tryz.sizeOf5]
        have e2 : ¬ 65 = q := by omega
        have e3 : 65 - q = tl.length + 1 := by omega
        have e4 : ¬ q = 0 := by omega
        simp [slicedAt, e2, e3, e4, Addr.add]
      go_wp2_with (at_builtin; refine wpList_append_own _ rfl _ _ 22 rfl B0 5 i0 (.int .u8 0) 1 1 Tryz.underlying22 HI.out HZ0.out HZ1.out HZ2.out rfl (by decide) _ _ _ rfl (ownsRow_setCell_other how (a := ⟨b, q, none⟩) hvb _) ⟨b, q, none⟩ (tl.length + 1) (tl.length + 1) (bcells (hexc n :: tl)) rfl ?c1 ?c2 ?c3 ?c4 ?c5 ?c6 ?_)
      case c1 => simp [bcells]
      case c2 =>
        intro j u hj
        have hb2 := hb.set q (.int .u8 (hexc n).toNat)
        rw [rep_set] at hb2
        refine hb2.cell ?_
        rw [List.getElem?_append_right (by simp), List.length_replicate, Nat.add_sub_cancel_left]
        exact hj
      case c3 => intro u hu; obtain ⟨x, _, rfl⟩ := List.mem_map.1 hu; rfl
      case c4 => unfold maxLen; omega
      case c5 => omega
      case c6 => have := hb.lt; simp [World.setCell]; omega
      intro v' w9 hown' hgrow _
      have HO := Lib.hid hown'; have HG := Lib.hid hgrow; clear hown' hgrow
      go_wp2_with fail
      go_ret2
      refine ⟨_, rfl, ?_, grownBy_trans (grownBy_set hg (p := ⟨b, q, none⟩) (Nat.le_of_eq HBE.out.symm) _) HG.out rfl⟩
      rw [hX1.out]; exact HO.out
    · have hnd : (16 : Int) ≤ n := by omega
      have hm : n % 16 < 16 := Nat.mod_lt _ (by decide)
      have ha := and15 hn
      have hd := digs_is hm
      unfold digs at hd
      have hXn : Hid (hexT N = hexT (n / 16) ++ (hexc (n % 16) :: tl)) := Lib.hid (by rw [hX.out, hexT_big h16]; simp)
      have hln : (hexT (n / 16)).length + (hexc (n % 16) :: tl).length ≤ 4 := by
        rw [hexT_big h16] at hlen; simp at hlen ⊢; omega
      have HLN := Lib.hid hln; clear hln hlen
      generalize hmm : n % 16 = m at *
      clear hmm
      have hm36 : (m : Int) < 36 := by omega
      go_wp2_with fail
      go_roundw
      case rel =>
        refine ⟨n / 16, q, hexc m :: tl, by omega, by first | rfl | (congr 1; omega), by simp; omega, by go_num, hXn, HLN.out, ?_, ownsRow_setCell_other how (a := ⟨b, q, none⟩) hvb _, grownBy_set hg (p := ⟨b, q, none⟩) (Nat.le_of_eq HBE.out.symm) _⟩
        have := hb.set q (.int .u8 (hexc m).toNat)
        rw [rep_set] at this
        exact this
      case measure => simp [intOf]; omega

set_option maxHeartbeats 1000000 in
theorem appendHexI_any (N : Nat) (hN : N < 65536) (w : World) (B0 n0 : Nat) (v : Value) (xs : List Value) (hown : w.ownsRow B0 5 1 v n0 xs) (hn0 : n0 ≤ 1000) (hB0 : B0 ≤ w.heap.size)
    (ht : w.cell? ⟨7, 15, none⟩ = some (.int .u8 4)) :
    Calls Tryz.prog 104 #[v, .int .u64 N, .int .i64 16] w fun e w' => ∃ v', e = .returned v' ∧ w'.ownsRow B0 5 1 v' (n0 + (hexT N).length) (xs ++ bcells (hexT N)) ∧ w.grownBy w' v.ownBlock := by
  have hf := formatBits_any N hN w B0 n0 v xs hown hn0 hB0 ht
  obtain ⟨va, vc, rfl⟩ := own_sliceX hown
  have HF := Lib.hid hf; clear hf hown
  go_enter Tryz.func104, Tryz.ntmps104
  go_wp2_with (go_at_call 127; refine HF.out.mono ?_; rintro e w1 ⟨v', rfl, hx1, hg1⟩; obtain ⟨va2, vc2, rfl⟩ := own_sliceX hx1)
  go_ret
  exact ⟨_, rfl, hx1, hg1⟩
set_option maxHeartbeats 1000000 in
theorem appendHex_any (N : Nat) (hN : N < 65536) (w : World) (B0 n0 : Nat) (v : Value) (xs : List Value) (hown : w.ownsRow B0 5 1 v n0 xs) (hn0 : n0 ≤ 1000) (hB0 : B0 ≤ w.heap.size)
    (ht : w.cell? ⟨7, 15, none⟩ = some (.int .u8 4)) :
    Calls Tryz.prog 71 #[v, .int .u64 N, .int .i64 16] w fun e w' => ∃ v', e = .returned v' ∧ w'.ownsRow B0 5 1 v' (n0 + (hexT N).length) (xs ++ bcells (hexT N)) ∧ w.grownBy w' v.ownBlock := by
  have hf := appendHexI_any N hN w B0 n0 v xs hown hn0 hB0 ht
  obtain ⟨va, vc, rfl⟩ := own_sliceX hown
  have HF := Lib.hid hf; clear hf hown
  go_enter Tryz.func71, Tryz.ntmps71
  go_wp2_with (go_at_call 104; refine HF.out.mono ?_; rintro e w1 ⟨v', rfl, hx1, hg1⟩; obtain ⟨va2, vc2, rfl⟩ := own_sliceX hx1)
  go_ret
  exact ⟨_, rfl, hx1, hg1⟩
end Go.Proofs.YtpdoddelnahlnaaGreatDoor
/-
  Contract of ip.Format.
-/
set_option linter.unusedSimpArgs false
set_option linter.unusedVariables false
namespace Go.Proofs.YtpdoddelnahlnaaGreatDoor
open Go.RowKit Go.Joins

/-- what holds of the library's tables -/
structure Tabs (w : World) : Prop where
  tz : w.cell? ⟨7, 15, none⟩ = some (.int .u8 4)
  p10 : Lib.TabIs Tryz.prog w "internal/strconv.uint64pow10" .u64 Lib.pow10Tab
theorem Tabs.ext {w w' : World} (h : Tabs w) (k : Ext w w') : Tabs w' :=
  ⟨by rw [k.cell (World.block_lt_of_cell? _ _ h.tz)]; exact h.tz, (Lib.tabBelow_of_tabIs h.p10) w' k⟩
theorem bcells_eq (l : List UInt8) : bcells l = Lib.byteCells l := rfl
theorem own_str {P : Program} {w : World} {B : Nat} {a : Option Addr} {n cap : Nat} {l : List UInt8} {src dst : TypeId} (h : w.ownsRow B 5 1 (.slice a n cap) n (bcells l)) (hs : P.underlying src = some (.slice 5)) (he : P.underlying 5 = some (.int .u8)) (hd : P.underlying dst = some .string) :
    (convert src dst (.slice a n cap)).run P w = .ok (.string (txt l)) w := by
  have hlen : l.length = n := by have := h.1; simpa [bcells] using this
  have h' := h
  obtain ⟨_, h4⟩ := h'
  rcases h4 with ⟨h5, hn⟩ | ⟨g, cap', cur, h5, _, _, hc, _⟩
  · cases h5
    obtain rfl : l = [] := List.eq_nil_of_length_eq_zero hlen
    exact run_convert_bytes_nil w src 5 hs he 0 0 dst hd
  · cases h5
    have e : strOfNums (l.map fun c => (c.toNat : Int)) = txt l := BA_ext (by
      rw [strOfNums_data, List.map_map]
      show _ = l
      conv => rhs; rw [← List.map_id l]
      refine List.map_congr_left fun x _ => ?_
      simp)
    rw [← e]
    refine run_convert_bytes_arg w src 5 hs he g 0 n cap (l.map fun c => (c.toNat : Int)) (by simp [hlen]) (fun i hi => ?_) dst hd
    have := h.cells (g := g) rfl i (.int .u8 (l.getD i 0).toNat) (by
      unfold bcells; rw [List.getElem?_map, List.getD_eq_getElem?_getD, List.getElem?_eq_getElem (by omega)]; rfl)
    rw [show (⟨g, 0, none⟩ : Addr).add i = ⟨g, i, none⟩ from by unfold Addr.add; split <;> simp_all] at this
    rw [Nat.zero_add, this]
    congr 2
    rw [List.getD_eq_getElem?_getD, List.getD_eq_getElem?_getD, List.getElem?_map, List.getElem?_eq_getElem (by omega)]; rfl
def pre4 (l : List Int) : Nat → List UInt8
  | 0 => []
  | k + 1 => pre4 l k ++ (if 0 < k then [46] else []) ++ Lib.decDigits (l.getD k 0).toNat
theorem fmt4_pre (l : List Int) : fmt4 l = pre4 l 4 := by
  unfold fmt4
  simp [pre4]
theorem itoa_len {x : Int} (h0 : 0 ≤ x) (h1 : x < 256) : (Lib.itoa x).length ≤ 21 := Lib.itoa_length_le x (by omega) (by omega)
theorem itoa_dec {x : Int} (h0 : 0 ≤ x) : Lib.itoa x = Lib.decDigits x.toNat := by unfold Lib.itoa; rw [if_neg (by omega)]

set_option maxRecDepth 8000 in
set_option maxHeartbeats 4000000 in
theorem format4_any (a : Adr) (ha : okA a) (hf : a.1 = false) (hv : validA a = true) (w : World) (htabs : Tabs w) :
    Calls Tryz.prog 41 #[av a] w fun e w' => e = .returned (.string (txt (fmtA a))) ∧ Ext w w' := by
  have hfm : fmtA a = pre4 a.2 4 := by unfold fmtA; rw [hv, hf, ← fmt4_pre]; rfl
  have HFM := Lib.hid hfm; clear hfm
  obtain ⟨i0, hi, hz0, hz1, hz2⟩ := info_parts info8
  have HI := Lib.hid hi; have HZ0 := Lib.hid hz0; have HZ1 := Lib.hid hz1; have HZ2 := Lib.hid hz2
  clear hi hz0 hz1 hz2
  have hcall := fun w => valid_any a ha w
  rw [hv] at hcall
  have HC := Lib.hid hcall; clear hcall hv
  unfold av
  go_enter Tryz.func41, Tryz.ntmps41
  go_upto_region 1 with fail
  have hx := (Ext.refl w).alloc (.cells (ac a) 30)
  have hb := ABox.new ha w
  generalize hwq : w.alloc (.cells (ac a) 30) = w0 at *
  clear hwq
  go_wp2_with (first | refine wpList_load_A rfl _ rfl ha hb.blk rfl ?_ | (go_at_call 36; refine (HC.out _).mono ?_; rintro e w1 ⟨rfl, hx1⟩; refine Hid.out ?_))
  refine Lib.hid ?_
  have hb1 := hb.ext ha hx1
  have hx11 := hx.trans hx1
  have ht1 := htabs.ext hx11
  have hB0 : w.heap.size < w1.heap.size := hb1.lt
  clear hb hx hx1
  have hfam := hb1.fam
  rw [hf] at hfam
  have hal : Tryz.prog.arrayLen 28 = 16 := by kernel_rfl
  go_wp2_with fail
  go_loopw [3, 4, 5, 18] (fun v _ _ c wr => ∃ k : Nat, k ≤ 4 ∧ c = .int .i64 k ∧ wr.ownsRow w1.heap.size 5 1 v (pre4 a.2 k).length (bcells (pre4 a.2 k)) ∧ (pre4 a.2 k).length ≤ 25 * k ∧ ABox wr w.heap.size a ∧ Ext w1 wr) (fun _ _ _ c _ => 4 - (intOf c).toNat)
  case atStart => exact ⟨0, Nat.zero_le _, rfl, World.ownsRow_nil _ _ _ _, Nat.le_refl _, hb1, Ext.refl _⟩
  case round =>
    obtain ⟨k, hk, rfl, hown, hpl, hb, hx⟩ := hrel
    have hsz := hx.size
    by_cases hlt : k < 4
    · have hlt' : (k : Int) < 4 := by omega
      have hcell := hb.at' k (by omega)
      have hxb := X_bd ha k
      have hps : pre4 a.2 (k + 1) = pre4 a.2 k ++ (if 0 < k then [46] else []) ++ Lib.itoa (X a k) := by rw [pre4, itoa_dec hxb.1]; rfl
      have hil := itoa_len hxb.1 hxb.2
      have HPS := Lib.hid hps; clear hps
      generalize pre4 a.2 k = pr at *
      generalize X a k = x at *
      obtain ⟨va, vc, rfl⟩ := own_sliceX hown
      by_cases h0 : 0 < k
      · have h0' : (0 : Int) < k := by omega
        rw [if_pos h0] at HPS
        go_upto_region 10 with (at_builtin; refine wpList_append_own _ rfl _ _ 22 rfl w1.heap.size 5 i0 (.int .u8 0) 1 1 Tryz.underlying22 HI.out HZ0.out HZ1.out HZ2.out rfl (by decide) _ _ _ rfl (hown.alloc _) ⟨wr.heap.size, 0, none⟩ 1 1 [.int .u8 46] rfl rfl ?c1 ?c2 ?c3 ?c4 ?c5 ?_)
        case c1 =>
          intro j u hj
          have B1 := Blk.new wr #[Value.int .u8 46] 5
          have e1 : (⟨wr.heap.size, 0, none⟩ : Addr).add j = ⟨wr.heap.size, j, none⟩ := by unfold Addr.add; split <;> simp_all
          rw [e1]
          exact B1.cell hj
        case c2 => simp [Value.oneCell']
        case c3 => unfold maxLen; omega
        case c4 => omega
        case c5 => first | omega | (rw [World.size_alloc]; omega)
        intro v' w7 hown' hgrow _
        have hlv := hown.lt
        have hx7 : Ext w1 w7 := Ext.grown (hx.alloc _) hgrow (fun g hg => (hlv g hg).1)
        have hb7 : ABox w7 w.heap.size a := .of_blk ha (((hb.blk).alloc _).keep (Keep.of_grown hgrow) (fun hm => by
          cases ho : (Value.slice va pr.length vc).ownBlock with
          | none => rw [ho] at hm; simp at hm
          | some g => rw [ho] at hm; simp at hm; have := (hlv g ho).1; omega))
        obtain ⟨vb, vd, rfl⟩ := own_sliceX hown'
        have hown7 : w7.ownsRow w1.heap.size 5 1 (.slice vb (pr.length + 1) vd) (pr ++ [46]).length (bcells (pr ++ [46])) := by
          rw [List.length_append, bcells_app]; exact hown'
        have Hg := Lib.hid hgrow; clear hgrow hown' hown hx hb
        go_upto_region 10 with fail
        have hBW := Lib.hid (hx7).size
        have htw : Lib.TabBelow Tryz.prog w1.heap.size w7 "internal/strconv.uint64pow10" .u64 Lib.pow10Tab := (Lib.tabBelow_of_tabIs ht1.p10).on hx7
        have hai := Tryz.strconv_AppendInt_10 w1.heap.size (pr ++ [46]).length x (by omega) (by omega) _ _ w7 hown7 hBW.out (by simp; omega) htw
        have HAI := Lib.hid hai
        have Hh := Lib.hid hx7; have Hb := Lib.hid hb7
        clear hai htw hown7 hx7 hb7
        go_wp2_with (go_at_call 69; refine HAI.out.mono ?_; rintro e w9 ⟨v9, rfl, ho9, hx9, _⟩; obtain ⟨v10, v11, rfl⟩ := own_sliceX ho9)
        go_roundw
        case rel =>
          refine ⟨k + 1, by omega, by go_num, ?_, ?_, .of_blk ha (Hb.out.blk.of_heap (Below.block hx9 _ hB0)), Below.trans Hh.out hx9⟩
          · rw [HPS.out]
            first
              | (rw [List.length_append, bcells_app]; exact ho9)
              | (simp only [List.length_append, bcells_app] at ho9 ⊢; exact ho9)
          · rw [HPS.out]; simp; omega
        case measure => simp [intOf]; omega
      · have h0' : ¬ (0 : Int) < k := by omega
        rw [if_neg h0, List.append_nil] at HPS
        go_upto_region 10 with fail
        have hBW := Lib.hid (hx).size
        have htw : Lib.TabBelow Tryz.prog w1.heap.size wr "internal/strconv.uint64pow10" .u64 Lib.pow10Tab := (Lib.tabBelow_of_tabIs ht1.p10).on hx
        have hai := Tryz.strconv_AppendInt_10 w1.heap.size (pr).length x (by omega) (by omega) _ _ wr hown hBW.out (by simp; omega) htw
        have HAI := Lib.hid hai
        have Hh := Lib.hid hx; have Hb := Lib.hid hb
        clear hai htw hown hx hb
        go_wp2_with (go_at_call 69; refine HAI.out.mono ?_; rintro e w9 ⟨v9, rfl, ho9, hx9, _⟩; obtain ⟨v10, v11, rfl⟩ := own_sliceX ho9)
        go_roundw
        case rel =>
          refine ⟨k + 1, by omega, by go_num, ?_, ?_, .of_blk ha (Hb.out.blk.of_heap (Below.block hx9 _ hB0)), Below.trans Hh.out hx9⟩
          · rw [HPS.out]
            first
              | (rw [List.length_append, bcells_app]; exact ho9)
              | (simp only [List.length_append, bcells_app] at ho9 ⊢; exact ho9)
          · rw [HPS.out]; simp; omega
        case measure => simp [intOf]; omega
    · obtain rfl : k = 4 := by omega
      obtain ⟨va, vc, rfl⟩ := own_sliceX hown
      have hcv := own_str hown Tryz.underlying22 Tryz.underlying5 Tryz.underlying9
      have hlt' : ¬ ((4 : Nat) : Int) < 4 := by omega
      have HOW := Lib.hid hown; clear hown
      go_wp2_with fail
      go_ret
      exact ⟨by rw [HFM.out]; rfl, hx11.trans hx⟩

theorem tail6_at {l : List Int} {f m : Int} {k i : Nat} (h : i < 8) (he : (i : Int) = f) : tail6 l f m (k + 1) i = [58, 58] ++ tail6 l f m k (i + m.toNat) := by
  rw [tail6, if_neg (by omega), if_pos he]
theorem tail6_no {l : List Int} {f m : Int} {k i : Nat} (h : i < 8) (he : ¬ (i : Int) = f) : tail6 l f m (k + 1) i = (if 0 < i ∧ (i : Int) ≠ f + m then [58] else []) ++ hexT (grp l i).toNat ++ tail6 l f m k (i + 1) := by
  rw [tail6, if_neg (by omega), if_neg he]
theorem tail6_end {l : List Int} {f m : Int} {k i : Nat} (h : 8 ≤ i) : tail6 l f m k i = [] := by
  cases k with
  | zero => rfl
  | succ k => rw [tail6, if_pos h]
theorem grp_bd {a : Adr} (ha : okA a) (i : Nat) : 0 ≤ grp a.2 i ∧ grp a.2 i < 65536 := by
  have h1 := X_bd ha (2 * i)
  have h2 := X_bd ha (2 * i + 1)
  unfold X at h1 h2; unfold grp; omega
end Go.Proofs.YtpdoddelnahlnaaGreatDoor
