/-
  Several texts joined: HbDec, HoL.
-/
import Derived.Test.YtnohnnjeabehjaaGreatDoorK10
import Derived.Lib.ConvBytes
set_option maxHeartbeats 1000000
set_option maxRecDepth 4000
set_option linter.unusedVariables false
set_option linter.unusedSimpArgs false
namespace Go.Proofs.YtnohnnjeabehjaaGreatDoor
def val6 (x : Int) : Int := if 65 <= x /\ x <= 90 then x - 65 else if 97 <= x /\ x <= 122 then x - 71 else if 48 <= x /\ x <= 57 then x + 4 else if x = 43 then 62 else if x = 47 then 63 else -1
theorem val6_bd (x : Int) : -1 <= val6 x /\ val6 x < 64 := by unfold val6; (repeat' split) <;> omega
theorem val6_fin : ∀ r : Fin 64, val6 ((alpha.getD r.1 0).toNat : Int) = (r.1 : Int) := by decide
theorem val6_L {n : Int} (h0 : 0 <= n) (h1 : n < 64) : val6 ((L6 n).toNat : Int) = n := by
 have := val6_fin ⟨n.toNat, by omega⟩
 unfold L6
 simp only at this
 rw [this]; omega
theorem L6_ne {n : Int} (h0 : 0 <= n) (h1 : n < 64) : L6 n ≠ 61 := by
 intro e
 have := val6_L h0 h1
 rw [e] at this
 have e2 : val6 (((61 : UInt8).toNat : Nat) : Int) = -1 := by decide
 rw [e2] at this; omega
def dstep (v : Int) (b : Nat) (o : List UInt8) (k : Int) : Int × Nat × List UInt8 :=
 if 8 <= b + 6 then ((v * 64 + k) % 2 ^ (b + 6 - 8), b + 6 - 8, o ++ [UInt8.ofNat ((v * 64 + k) / 2 ^ (b + 6 - 8)).toNat]) else (v * 64 + k, b + 6, o)
def drun : Int -> Nat -> List UInt8 -> List UInt8 -> Option (List UInt8)
 | _, _, o, [] => some o
 | v, b, o, c :: l => if val6 c.toNat < 0 then none else drun (dstep v b o (val6 c.toNat)).1 (dstep v b o (val6 c.toNat)).2.1 (dstep v b o (val6 c.toNat)).2.2 l
def trimPad (l : List UInt8) : List UInt8 := (l.reverse.dropWhile (· == 61)).reverse
def pdec (s : ByteArray) : ByteArray × Bool := match drun 0 0 [] (trimPad s.data.toList) with
 | none => (⟨#[]⟩, false)
 | some o => if encB (txt o) = s then (txt o, true) else (⟨#[]⟩, false)
def cl0 (x : Int) : Int := if x < 0 then 0 else x
def vcnt (a b c d : Int) : Nat := (if a < 0 then 0 else 1) + (if b < 0 then 0 else 1) + (if c < 0 then 0 else 1) + (if d < 0 then 0 else 1)
def rq (a b c d : Int) : List UInt8 := [UInt8.ofNat ((cl0 a * 4 + cl0 b / 16) % 256).toNat] ++ (if 2 < vcnt a b c d then [UInt8.ofNat ((cl0 b * 16 + cl0 c / 4) % 256).toNat] else []) ++ (if 3 < vcnt a b c d then [UInt8.ofNat ((cl0 c * 64 + cl0 d) % 256).toNat] else [])
def rdecL : List UInt8 -> List UInt8
 | a :: b :: c :: d :: r => rq (val6 a.toNat) (val6 b.toNat) (val6 c.toNat) (val6 d.toNat) ++ rdecL r
 | _ => []
def rdec (s : ByteArray) : ByteArray × Bool := if s.size % 4 ≠ 0 then (⟨#[]⟩, false) else if encB (txt (rdecL s.data.toList)) = s then (txt (rdecL s.data.toList), true) else (⟨#[]⟩, false)
theorem byte_back (a : UInt8) : UInt8.ofNat ((a.toNat : Int)).toNat = a := by rw [Int.toNat_natCast, UInt8.ofNat_toNat]
theorem val61 : val6 (((61 : UInt8).toNat : Nat) : Int) = -1 := by decide
theorem rdec_enc : ∀ l : List UInt8, rdecL (encL l) = l
 | [] => rfl
 | [a] => by
  have ha := a.toNat_lt
  have e1 := val6_L (n := (a.toNat : Int) / 4) (by omega) (by omega)
  have e2 := val6_L (n := (a.toNat : Int) % 4 * 16 + 0 / 16) (by omega) (by omega)
  simp only [encL, quad, rdecL, List.append_nil]
  rw [e1, e2]
  simp only [show ¬ (2 : Nat) <= 1 by decide, show ¬ (3 : Nat) <= 1 by decide, if_false, val61]
  have c0 : cl0 ((a.toNat : Int) / 4) = (a.toNat : Int) / 4 := if_neg (by omega)
  have c1 : cl0 ((a.toNat : Int) % 4 * 16 + 0 / 16) = (a.toNat : Int) % 4 * 16 := by unfold cl0; rw [if_neg (by omega)]; omega
  have cn : vcnt ((a.toNat : Int) / 4) ((a.toNat : Int) % 4 * 16 + 0 / 16) (-1) (-1) = 2 := by unfold vcnt; rw [if_neg (by omega), if_neg (by omega)]; rfl
  unfold rq
  rw [c0, c1, cn]
  simp only [show ¬ (2 : Nat) < 2 by decide, show ¬ (3 : Nat) < 2 by decide, if_false, List.append_nil]
  rw [show ((a.toNat : Int) / 4 * 4 + (a.toNat : Int) % 4 * 16 / 16) % 256 = a.toNat by omega, byte_back]
 | [a, b] => by
  have ha := a.toNat_lt
  have hb := b.toNat_lt
  have e1 := val6_L (n := (a.toNat : Int) / 4) (by omega) (by omega)
  have e2 := val6_L (n := (a.toNat : Int) % 4 * 16 + (b.toNat : Int) / 16) (by omega) (by omega)
  have e3 := val6_L (n := (b.toNat : Int) % 16 * 4 + 0 / 64) (by omega) (by omega)
  simp only [encL, quad, rdecL, List.append_nil, Nat.le_refl, if_true]
  rw [e1, e2, e3]
  simp only [show ¬ (3 : Nat) <= 2 by decide, if_false, val61]
  have c0 : cl0 ((a.toNat : Int) / 4) = (a.toNat : Int) / 4 := if_neg (by omega)
  have c1 : cl0 ((a.toNat : Int) % 4 * 16 + (b.toNat : Int) / 16) = (a.toNat : Int) % 4 * 16 + (b.toNat : Int) / 16 := if_neg (by omega)
  have c2 : cl0 ((b.toNat : Int) % 16 * 4 + 0 / 64) = (b.toNat : Int) % 16 * 4 := by unfold cl0; rw [if_neg (by omega)]; omega
  have cn : vcnt ((a.toNat : Int) / 4) ((a.toNat : Int) % 4 * 16 + (b.toNat : Int) / 16) ((b.toNat : Int) % 16 * 4 + 0 / 64) (-1) = 3 := by unfold vcnt; rw [if_neg (by omega), if_neg (by omega), if_neg (by omega)]; rfl
  unfold rq
  rw [c0, c1, c2, cn]
  simp only [show (2 : Nat) < 3 by decide, show ¬ (3 : Nat) < 3 by decide, if_false, if_true, List.append_nil]
  rw [show ((a.toNat : Int) / 4 * 4 + ((a.toNat : Int) % 4 * 16 + (b.toNat : Int) / 16) / 16) % 256 = a.toNat by omega, byte_back,
   show (((a.toNat : Int) % 4 * 16 + (b.toNat : Int) / 16) * 16 + (b.toNat : Int) % 16 * 4 / 4) % 256 = b.toNat by omega, byte_back]
  rfl
 | a :: b :: c :: r => by
  have ha := a.toNat_lt
  have hb := b.toNat_lt
  have hc := c.toNat_lt
  have e1 := val6_L (n := (a.toNat : Int) / 4) (by omega) (by omega)
  have e2 := val6_L (n := (a.toNat : Int) % 4 * 16 + (b.toNat : Int) / 16) (by omega) (by omega)
  have e3 := val6_L (n := (b.toNat : Int) % 16 * 4 + (c.toNat : Int) / 64) (by omega) (by omega)
  have e4 := val6_L (n := (c.toNat : Int) % 64) (by omega) (by omega)
  have ih := rdec_enc r
  simp only [encL, quad, List.cons_append, List.nil_append, rdecL, show (2 : Nat) <= 3 by decide, Nat.le_refl, if_true]
  rw [e1, e2, e3, e4, ih]
  have c0 : cl0 ((a.toNat : Int) / 4) = (a.toNat : Int) / 4 := if_neg (by omega)
  have c1 : cl0 ((a.toNat : Int) % 4 * 16 + (b.toNat : Int) / 16) = (a.toNat : Int) % 4 * 16 + (b.toNat : Int) / 16 := if_neg (by omega)
  have c2 : cl0 ((b.toNat : Int) % 16 * 4 + (c.toNat : Int) / 64) = (b.toNat : Int) % 16 * 4 + (c.toNat : Int) / 64 := if_neg (by omega)
  have c3 : cl0 ((c.toNat : Int) % 64) = (c.toNat : Int) % 64 := if_neg (by omega)
  have cn : vcnt ((a.toNat : Int) / 4) ((a.toNat : Int) % 4 * 16 + (b.toNat : Int) / 16) ((b.toNat : Int) % 16 * 4 + (c.toNat : Int) / 64) ((c.toNat : Int) % 64) = 4 := by unfold vcnt; rw [if_neg (by omega), if_neg (by omega), if_neg (by omega), if_neg (by omega)]
  unfold rq
  rw [c0, c1, c2, c3, cn]
  simp only [show (2 : Nat) < 4 by decide, show (3 : Nat) < 4 by decide, if_true]
  rw [show ((a.toNat : Int) / 4 * 4 + ((a.toNat : Int) % 4 * 16 + (b.toNat : Int) / 16) / 16) % 256 = a.toNat by omega, byte_back,
   show (((a.toNat : Int) % 4 * 16 + (b.toNat : Int) / 16) * 16 + ((b.toNat : Int) % 16 * 4 + (c.toNat : Int) / 64) / 4) % 256 = b.toNat by omega, byte_back,
   show (((b.toNat : Int) % 16 * 4 + (c.toNat : Int) / 64) * 64 + (c.toNat : Int) % 64) % 256 = c.toNat by omega, byte_back]
  rfl
def encU : List UInt8 -> List UInt8
 | [] => []
 | [a] => [L6 ((a.toNat : Int) / 4), L6 ((a.toNat : Int) % 4 * 16)]
 | [a, b] => [L6 ((a.toNat : Int) / 4), L6 ((a.toNat : Int) % 4 * 16 + (b.toNat : Int) / 16), L6 ((b.toNat : Int) % 16 * 4)]
 | a :: b :: c :: r => [L6 ((a.toNat : Int) / 4), L6 ((a.toNat : Int) % 4 * 16 + (b.toNat : Int) / 16), L6 ((b.toNat : Int) % 16 * 4 + (c.toNat : Int) / 64), L6 ((c.toNat : Int) % 64)] ++ encU r
theorem encU_ne : ∀ (l : List UInt8), ∀ x ∈ encU l, x ≠ 61
 | [], x, hx => by cases hx
 | [a], x, hx => by
  have ha := a.toNat_lt
  simp only [encU, List.mem_cons, List.not_mem_nil, or_false] at hx
  rcases hx with rfl | rfl <;> exact L6_ne (by omega) (by omega)
 | [a, b], x, hx => by
  have ha := a.toNat_lt
  have hb := b.toNat_lt
  simp only [encU, List.mem_cons, List.not_mem_nil, or_false] at hx
  rcases hx with rfl | rfl | rfl <;> exact L6_ne (by omega) (by omega)
 | a :: b :: c :: r, x, hx => by
  have ha := a.toNat_lt
  have hb := b.toNat_lt
  have hc := c.toNat_lt
  simp only [encU, List.cons_append, List.nil_append, List.mem_cons] at hx
  rcases hx with rfl | rfl | rfl | rfl | hx
  ·exact L6_ne (by omega) (by omega)
  ·exact L6_ne (by omega) (by omega)
  ·exact L6_ne (by omega) (by omega)
  ·exact L6_ne (by omega) (by omega)
  ·exact encU_ne r x hx
theorem encL_U : ∀ l : List UInt8, ∃ p : List UInt8, encL l = encU l ++ p /\ ∀ x ∈ p, x = 61
 | [] => ⟨[], rfl, fun x hx => by cases hx⟩
 | [a] => ⟨[61, 61], by simp [encL, quad, encU], fun x hx => by simp at hx; exact hx⟩
 | [a, b] => ⟨[61], by simp [encL, quad, encU], fun x hx => by simp at hx; exact hx⟩
 | a :: b :: c :: r => by
  obtain ⟨p, h1, h2⟩ := encL_U r
  exact ⟨p, by simp [encL, quad, encU, h1], h2⟩
theorem trimPad_app {u p : List UInt8} (hu : ∀ x ∈ u, x ≠ 61) (hp : ∀ x ∈ p, x = 61) : trimPad (u ++ p) = u := by
 unfold trimPad
 rw [List.reverse_append]
 have h1 : ∀ (q r : List UInt8), (∀ x ∈ q, x = 61) -> (q ++ r).dropWhile (· == 61) = r.dropWhile (· == 61) := by
  intro q r
  induction q with
  | nil => intro _; rfl
  | cons y q ih => intro hq; rw [List.cons_append, List.dropWhile_cons, if_pos (by rw [hq y (by simp)]; rfl), ih (fun x hx => hq x (by simp [hx]))]
 rw [h1 _ _ (fun x hx => hp x (by simpa using hx))]
 have h2 : u.reverse.dropWhile (· == 61) = u.reverse := by
  cases hr : u.reverse with
  | nil => rfl
  | cons y q => rw [List.dropWhile_cons, if_neg (by have := hu y (by rw [← List.mem_reverse, hr]; simp); simpa using this)]
 rw [h2, List.reverse_reverse]
theorem drun_cons {v : Int} {b : Nat} {o : List UInt8} {n : Int} (h0 : 0 <= n) (h1 : n < 64) (l : List UInt8) : drun v b o (L6 n :: l) = drun (dstep v b o n).1 (dstep v b o n).2.1 (dstep v b o n).2.2 l := by
 rw [drun, val6_L h0 h1, if_neg (by omega)]
theorem drun_enc : ∀ (l o : List UInt8), drun 0 0 o (encU l) = some (o ++ l)
 | [], o => by rw [encU, drun, List.append_nil]
 | [a], o => by
  have ha := a.toNat_lt
  rw [encU, drun_cons (by omega) (by omega)]
  simp only [dstep, show ¬ 8 <= 0 + 6 by decide, if_false]
  rw [drun_cons (by omega) (by omega)]
  simp only [dstep, show 8 <= 0 + 6 + 6 by decide, if_true, drun]
  rw [show ((0 * 64 + (a.toNat : Int) / 4) * 64 + (a.toNat : Int) % 4 * 16) / 2 ^ (0 + 6 + 6 - 8) = a.toNat by rw [show (2 : Int) ^ (0 + 6 + 6 - 8) = 16 by decide]; omega, byte_back]
 | [a, b], o => by
  have ha := a.toNat_lt
  have hb := b.toNat_lt
  rw [encU, drun_cons (by omega) (by omega)]
  simp only [dstep, show ¬ 8 <= 0 + 6 by decide, if_false]
  rw [drun_cons (by omega) (by omega)]
  simp only [dstep, show 8 <= 0 + 6 + 6 by decide, if_true]
  rw [drun_cons (by omega) (by omega)]
  simp only [dstep, show 8 <= 0 + 6 + 6 - 8 + 6 by decide, if_true, drun]
  rw [show (2 : Int) ^ (0 + 6 + 6 - 8) = 16 by decide, show (2 : Int) ^ (0 + 6 + 6 - 8 + 6 - 8) = 4 by decide]
  rw [show ((0 * 64 + (a.toNat : Int) / 4) * 64 + ((a.toNat : Int) % 4 * 16 + (b.toNat : Int) / 16)) / 16 = a.toNat by omega, byte_back,
   show ((((0 * 64 + (a.toNat : Int) / 4) * 64 + ((a.toNat : Int) % 4 * 16 + (b.toNat : Int) / 16)) % 16) * 64 + (b.toNat : Int) % 16 * 4) / 4 = b.toNat by omega, byte_back]
  simp
 | a :: b :: c :: r, o => by
  have ha := a.toNat_lt
  have hb := b.toNat_lt
  have hc := c.toNat_lt
  have ih := drun_enc r (o ++ [a] ++ [b] ++ [c])
  rw [encU, List.cons_append, drun_cons (by omega) (by omega)]
  simp only [dstep, show ¬ 8 <= 0 + 6 by decide, if_false]
  rw [List.cons_append, drun_cons (by omega) (by omega)]
  simp only [dstep, show 8 <= 0 + 6 + 6 by decide, if_true]
  rw [List.cons_append, drun_cons (by omega) (by omega)]
  simp only [dstep, show 8 <= 0 + 6 + 6 - 8 + 6 by decide, if_true]
  rw [List.cons_append, drun_cons (by omega) (by omega), List.nil_append]
  simp only [dstep, show 8 <= 0 + 6 + 6 - 8 + 6 - 8 + 6 by decide, if_true]
  rw [show (2 : Int) ^ (0 + 6 + 6 - 8) = 16 by decide, show (2 : Int) ^ (0 + 6 + 6 - 8 + 6 - 8) = 4 by decide, show (2 : Int) ^ (0 + 6 + 6 - 8 + 6 - 8 + 6 - 8) = 1 by decide, show 0 + 6 + 6 - 8 + 6 - 8 + 6 - 8 = 0 by decide]
  rw [show ((0 * 64 + (a.toNat : Int) / 4) * 64 + ((a.toNat : Int) % 4 * 16 + (b.toNat : Int) / 16)) / 16 = a.toNat by omega, byte_back]
  rw [show ((0 * 64 + (a.toNat : Int) / 4) * 64 + ((a.toNat : Int) % 4 * 16 + (b.toNat : Int) / 16)) % 16 = (b.toNat : Int) / 16 by omega]
  rw [show ((b.toNat : Int) / 16 * 64 + ((b.toNat : Int) % 16 * 4 + (c.toNat : Int) / 64)) / 4 = b.toNat by omega, byte_back]
  rw [show ((b.toNat : Int) / 16 * 64 + ((b.toNat : Int) % 16 * 4 + (c.toNat : Int) / 64)) % 4 = (c.toNat : Int) / 64 by omega]
  rw [show ((c.toNat : Int) / 64 * 64 + (c.toNat : Int) % 64) / 1 = c.toNat by omega, byte_back, show ((c.toNat : Int) / 64 * 64 + (c.toNat : Int) % 64) % 1 = 0 by omega, ih]
  simp
theorem pdec_enc (x : ByteArray) : pdec (encB x) = (x, true) := by
 obtain ⟨p, h1, h2⟩ := encL_U x.data.toList
 have e : trimPad (encB x).data.toList = encU x.data.toList := by
  show trimPad (encL x.data.toList) = _
  rw [h1]; exact trimPad_app (encU_ne _) h2
 have ex : txt x.data.toList = x := rfl
 unfold pdec
 rw [e, drun_enc, List.nil_append]
 simp only [ex, if_true]
theorem rdec_pdec (s : ByteArray) : rdec s = pdec s := by
 have hp : ∀ x, encB x = s -> pdec s = (x, true) := fun x h => by rw [← h]; exact pdec_enc x
 have hr : ∀ x, encB x = s -> rdec s = (x, true) := fun x h => by
  have hz : s.size % 4 = 0 := by rw [← h, size_list]; show (encL x.data.toList).length % 4 = 0; rw [encL_len]; omega
  have e : rdecL s.data.toList = x.data.toList := by rw [← h]; exact rdec_enc _
  have ex : txt x.data.toList = x := rfl
  unfold rdec
  rw [if_neg (by omega), e, ex, if_pos h]
 by_cases hx : ∃ x, encB x = s
 ·obtain ⟨x, h⟩ := hx
  rw [hp x h, hr x h]
 ·have h1 : pdec s = (⟨#[]⟩, false) := by
   unfold pdec
   cases drun 0 0 [] (trimPad s.data.toList) with
   | none => rfl
   | some o => simp only; rw [if_neg (fun h => hx ⟨_, h⟩)]
  have h2 : rdec s = (⟨#[]⟩, false) := by
   unfold rdec
   split
   ·rfl
   ·rw [if_neg (fun h => hx ⟨_, h⟩)]
  rw [h1, h2]
open Go.RowKit
structure BRow (w : World) (b : Nat) (l : List Int) : Prop where
 lt : b < w.heap.size
 cell : ∀ j x, l[j]? = some x -> w.cell? ⟨b, j, none⟩ = some (.int .u8 x)
 free : ∀ j, j < l.length -> w.frozen? ⟨b, j, none⟩ = false
theorem frozen_of_block {w w' : World} {p : Addr} (h : w'.heap[p.block]? = w.heap[p.block]?) : w'.frozen? p = w.frozen? p := by
 unfold World.frozen?; rw [h]
theorem BRow.ext {w w' : World} {b : Nat} {l : List Int} (h : BRow w b l) (k : Ext w w') : BRow w' b l :=
 ⟨Nat.lt_of_lt_of_le h.lt k.size, fun j x hj => by rw [k.cell h.lt]; exact h.cell j x hj, fun j hj => by rw [frozen_of_block (w := w) (Below.block k b h.lt)]; exact h.free j hj⟩
theorem frozen_setCell {w : World} {b i j : Nat} {v : Value} : (w.setCell ⟨b, i, none⟩ v).frozen? ⟨b, j, none⟩ = w.frozen? ⟨b, j, none⟩ := by
 unfold World.frozen? World.setCell
 simp only [Array.getElem?_modify, if_true]
 cases h : w.heap[b]? with
 | none => rfl
 | some o => cases o <;> rfl
theorem BRow.set {w : World} {b : Nat} {l : List Int} (h : BRow w b l) {i : Nat} (hi : i < l.length) (x : Int) : BRow (w.setCell ⟨b, i, none⟩ (.int .u8 x)) b (l.set i x) := by
 have h0 := h.cell i l[i] (List.getElem?_eq_getElem hi)
 refine ⟨by simpa [World.setCell] using h.lt, fun j y hj => ?_, fun j hj => by rw [frozen_setCell]; exact h.free j (by simpa using hj)⟩
 rw [List.getElem?_set] at hj
 by_cases e : i = j
 ·subst e
  rw [if_pos rfl, if_pos hi] at hj
  cases hj
  unfold World.cell? World.setCell at *
  simp only [Array.getElem?_modify, if_true] at *
  cases hb : w.heap[b]? with
  | none => rw [hb] at h0; cases h0
  | some o =>
   rw [hb] at h0
   cases o <;> simp at h0 ⊢
   rename_i cs t fr
   have : i < cs.size := by
    obtain ⟨q, -⟩ := Array.getElem?_eq_some_iff.1 h0
    exact q
   simp [this]
 ·rw [if_neg e] at hj
  have h1 := h.cell j y hj
  unfold World.cell? World.setCell at *
  simp only [Array.getElem?_modify, if_true] at *
  cases hb : w.heap[b]? with
  | none => rw [hb] at h1; cases h1
  | some o =>
   rw [hb] at h1
   cases o <;> simp at h1 ⊢
   rw [Array.getElem?_setIfInBounds_ne e]; exact h1
theorem conv_str (s : ByteArray) (w : World) : ∃ w1 cap, (convert 9 33 (.string s)).run Tryz.prog w = .ok (.slice (some ⟨w.heap.size, 0, none⟩) s.size cap) w1 /\ s.size <= cap /\ BRow w1 w.heap.size (numsB s) /\ Ext w w1 := by
 refine ⟨_, _, Lib.run_convert_string_bytes w 9 33 5 s Tryz.underlying9 Tryz.underlying33 Tryz.underlying5, grownCap_ge _ _ _ _, ⟨?_, fun j x hj => ?_, fun j hj => ?_⟩, ⟨?_, ?_, ?_, ?_, ?_⟩⟩
 ·rw [Lib.bytesWorld_size]; omega
 ·have hjl : j < s.size := by rw [← numsB_len]; exact (List.getElem?_eq_some_iff.1 hj).1
  rw [numsB_get s j hjl] at hj
  cases hj
  rw [Lib.bytesWorld_cell w _ s j hjl]; rfl
 ·rw [numsB_len] at hj
  unfold World.frozen?
  rw [Lib.bytesWorld_at_new]
  have : s.size <= (Lib.bytesCells w 5 s).size := by
   unfold Lib.bytesCells
   rw [Array.size_append, Array.size_map]
   show s.data.size <= _
   omega
  simp
  omega
 all_goals first | rfl | skip
 ·rw [Lib.bytesWorld_size]; omega
 ·intro i hi; exact Lib.bytesWorld_at_old w _ s i hi
theorem conv_back {w : World} {b : Nat} {l : List Int} (h : BRow w b l) (cap : Nat) : (convert 33 9 (.slice (some ⟨b, 0, none⟩) l.length cap)).run Tryz.prog w = .ok (.string (strOfNums l)) w :=
 run_convert_bytes_arg w 33 5 Tryz.underlying33 Tryz.underlying5 b 0 l.length cap l rfl (fun i hi => by
  rw [Nat.zero_add]
  refine h.cell i _ ?_
  rw [List.getD_eq_getElem?_getD, List.getElem?_eq_getElem hi]; rfl) 9 Tryz.underlying9
theorem lower_any (s : ByteArray) (hs : s.size <= maxLen) (w : World) : Calls Tryz.prog 149 #[.string s] w fun e w' => e = .returned (.string (lowB s)) /\ Ext w w' := by
 replace hs := size_max hs
 obtain ⟨w1, cap, hcv, hcap, hrow, hx⟩ := conv_str s w
 rw [← lowTo_zero] at hrow
 generalize hbs : w.heap.size = b at *
 replace hbs := Nat.le_of_eq hbs
 have hbw := hrow.lt
 go_enter Tryz.func149, Tryz.ntmps149
 go_wp2_with fail
 clear hcv
 go_loopw [4, 5, 10] (fun _ _ c wr => ∃ k : Nat, k <= s.size /\ c = .int .i64 k /\ BRow wr b (lowTo s k) /\ Ext w wr) (fun _ _ c _ => s.size - (intOf c).toNat)
 case atStart => exact ⟨0, Nat.zero_le _, rfl, hrow, hx⟩
 case round =>
  obtain ⟨k, hk, rfl, hrow, hx⟩ := hrel
  by_cases hlt : k < s.size
  ·have hlt' : (k : Int) < s.size := by omega
   have hcell := hrow.cell k _ (lowTo_at s hlt)
   have hfree := hrow.free k (by rw [lowTo_len]; exact hlt)
   have bk := B_bd s k
   by_cases hu : 65 <= B s k /\ B s k <= 90
   ·have e8 : IntKind.u8.wrap (B s k - 65) = B s k - 65 := by
     have : ∀ n : Int, IntKind.u8.wrap n = n % 256 := fun n => by simp [IntKind.wrap, IntKind.bits, IntKind.signed]
     rw [this]; omega
    have e9 : IntKind.u8.wrap (B s k - 65 + 97) = B s k + 32 := by
     have : ∀ n : Int, IntKind.u8.wrap n = n % 256 := fun n => by simp [IntKind.wrap, IntKind.bits, IntKind.signed]
     rw [this]; omega
    have hg1 := hu.1
    have hg2 := hu.2
    have HR := Lib.hid (hrow.set (i := k) (by rw [lowTo_len]; exact hlt) (B s k + 32))
    have HLW : Hid (lowI (B s k) = B s k + 32) := Lib.hid (by unfold lowI; rw [if_pos hu])
    clear hu
    go_wp2_with fail
    go_roundw
    case rel => exact ⟨k + 1, by omega, by go_num, by rw [← lowTo_set s hlt, HLW.out]; exact HR.out, hx.setCell (p := ⟨b, k, none⟩) hbs _⟩
    case measure => simp [intOf]; omega
   ·have HLW : Hid (lowI (B s k) = B s k) := Lib.hid (by unfold lowI; rw [if_neg hu])
    by_cases hg : B s k < 65
    ·clear hu
     go_wp2_with fail
     go_roundw
     case rel => exact ⟨k + 1, by omega, by go_num, by rw [← lowTo_keep s hlt HLW.out]; exact hrow, hx⟩
     case measure => simp [intOf]; omega
    ·have hg2 : 90 < B s k := by omega
     clear hu
     go_wp2_with fail
     go_roundw
     case rel => exact ⟨k + 1, by omega, by go_num, by rw [← lowTo_keep s hlt HLW.out]; exact hrow, hx⟩
     case measure => simp [intOf]; omega
  ·obtain rfl : k = s.size := by omega
   rw [lowTo_all] at hrow
   have hcv := conv_back hrow cap
   have hln : (lowNums s).length = s.size := by rw [← lowTo_all, lowTo_len]
   rw [hln] at hcv
   clear hln
   go_wp2_with fail
   go_ret; exact ⟨rfl, hx⟩
theorem lowB_size (s : ByteArray) : (lowB s).size = s.size := by unfold lowB; rw [strOfNums_size, ← lowTo_all, lowTo_len]
def hostS (s : ByteArray) : ByteArray := ⟨(Lib.trimSuffix (lowB s).data.toList [46]).toArray⟩
def nameP (s : ByteArray) : ByteArray × Bool := if okName (hostS s) = true then (hostS s, true) else (.empty, false)
theorem trimSuffix_len (l p : List UInt8) : (Lib.trimSuffix l p).length <= l.length := by
 unfold Lib.trimSuffix
 split
 ·rw [List.length_take]; omega
 ·exact Nat.le_refl _
theorem hostS_size (s : ByteArray) : (hostS s).size <= s.size := by
 have := trimSuffix_len (lowB s).data.toList [46]
 rw [← size_list, lowB_size] at this
 rw [size_list]; simpa [hostS] using this
theorem pname_any (s : ByteArray) (w : World) (henv : Env w) (hs : s.size <= maxLen) : Calls Tryz.prog 131 #[.string s] w fun e w' => e = .returned (.tuple #[.string (nameP s).1, .bool (nameP s).2]) /\ Ext w w' := by
 have HLo := Lib.hid (fun w => lower_any s hs w)
 have HTr := Lib.hid (fun w => Tryz.strings_TrimSuffix (lowB s) ⟨#[46]⟩ w (by rw [lowB_size]; exact size_max hs))
 have HV := Lib.hid (fun w h => vname_any (hostS s) w h (Nat.le_trans (hostS_size s) hs))
 have e : nameP s = if okName (hostS s) = true then (hostS s, true) else (.empty, false) := rfl
 rw [show (⟨(Lib.trimSuffix (lowB s).data.toList (⟨#[46]⟩ : ByteArray).data.toList).toArray⟩ : ByteArray) = hostS s from rfl] at HTr
 generalize hostS s = h at *
 generalize lowB s = l at *
 go_enter Tryz.func131, Tryz.ntmps131
 go_wp2_with (first | (go_at_call 149; refine (HLo.out _).mono ?_; rintro e w1 ⟨rfl, hx⟩) | (go_at_call 148; refine (HTr.out _).mono ?_; rintro e w2 ⟨rfl, rfl⟩; refine Hid.out ?_))
 refine Lib.hid ?_
 have K := HV.out w2 (henv.ext hx)
 clear HLo HTr HV
 cases ho : okName h
 ·rw [ho] at e K
  rw [if_neg (by simp)] at e
  have E := Lib.hid e
  clear e ho
  go_wp2_with (first | (go_at_call 145; refine K.mono ?_; rintro e w3 ⟨rfl, hx3⟩))
  go_ret2; exact ⟨by rw [E.out]; rfl, hx.trans hx3⟩
 ·rw [ho] at e K
  rw [if_pos rfl] at e
  have E := Lib.hid e
  clear e ho
  go_wp2_with (first | (go_at_call 145; refine K.mono ?_; rintro e w3 ⟨rfl, hx3⟩))
  go_ret2; exact ⟨by rw [E.out]; rfl, hx.trans hx3⟩
theorem okName_size {s : ByteArray} (h : okName s = true) : s.size <= 253 := by
 unfold okName at h; rw [Bool.and_eq_true, Bool.and_eq_true, decide_eq_true_eq] at h; exact h.1.1
theorem toList_beq {a b : ByteArray} : (a.toList == b.toList) = decide (a = b) := by
 rw [ByteArray.toList_eq, ByteArray.toList_eq]
 by_cases h : a = b
 ·subst h; simp
 ·rw [decide_eq_false h, beq_eq_false_iff_ne]
  exact fun e => h (BA_ext e)
def portP (s : ByteArray) : Int × Bool := numP s 1 65535
theorem pport_any (s : ByteArray) (hs : s.size <= maxLen) (w : World) : Calls Tryz.prog 197 #[.string s] w fun e w' => e = .returned (.tuple #[.int .i64 (portP s).1, .bool (portP s).2]) /\ w = w' := by
 have K := num_any s 1 65535 w hs
 rw [show numP s 1 65535 = portP s from rfl] at K
 go_enter Tryz.func197, Tryz.ntmps197
 go_wp2_with (first | (go_at_call 214; refine K.mono ?_; rintro e w2 ⟨rfl, rfl⟩))
 go_ret2; exact ⟨rfl, rfl⟩
end Go.Proofs.YtnohnnjeabehjaaGreatDoor
