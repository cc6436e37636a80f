/-
  Plain Lean: prefixes, bit by bit.
-/
import Derived.Test.YtbbdcodhgbgekaaGreatDoorCiP
import Derived.Test.YtbbdcodhgbgekaaGreatDoorIpB
import Derived.Test.YtbbdcodhgbgekaaGreatDoorIpR
set_option linter.unusedSimpArgs false
set_option linter.unusedVariables false
namespace Go.Proofs.YtbbdcodhgbgekaaGreatDoor
open Go.RowKit

/-- the first k bits of a byte -/
def maskB (x : Int) (k : Nat) : Int := x / 2 ^ (8 - k) * 2 ^ (8 - k)
/-- bit j of a byte, from the most significant one -/
def bt (x : Int) (j : Nat) : Int := x / 2 ^ (7 - j) % 2
def keepN (bits : Int) (i : Nat) : Nat := (max 0 (min (bits - 8 * (i : Int)) 8)).toNat
theorem keepN_le (bits : Int) (i : Nat) : keepN bits i ≤ 8 := by unfold keepN; omega
theorem keepN_lt {bits : Int} {i j : Nat} (hj : j < 8) : j < keepN bits i ↔ ((8 * i + j : Nat) : Int) < bits := by unfold keepN; omega
theorem fin_mask : ∀ (x : Fin 256) (k : Fin 9), 0 ≤ maskB (x.1 : Int) k.1 ∧ maskB (x.1 : Int) k.1 < 256 ∧ (∀ j : Fin 8, bt (maskB (x.1 : Int) k.1) j.1 = if j.1 < k.1 then bt (x.1 : Int) j.1 else 0) := by decide +kernel
theorem fin_sum : ∀ x : Fin 256, (x.1 : Int) = bt (x.1 : Int) 0 * 128 + bt (x.1 : Int) 1 * 64 + bt (x.1 : Int) 2 * 32 + bt (x.1 : Int) 3 * 16 + bt (x.1 : Int) 4 * 8 + bt (x.1 : Int) 5 * 4 + bt (x.1 : Int) 6 * 2 + bt (x.1 : Int) 7 := by decide +kernel
theorem fin_and : ∀ (x : Fin 256) (k : Fin 9), bits BinOp.and IntKind.u8 (x.1 : Int) (IntKind.u8.wrap (255 * 2 ^ (8 - k.1))) = maskB (x.1 : Int) k.1 := by decide +kernel
theorem fin_not : ∀ (x : Fin 256) (s : Fin 8), 0 ≤ bits BinOp.andNot IntKind.u8 (x.1 : Int) (2 ^ s.1) ∧ bits BinOp.andNot IntKind.u8 (x.1 : Int) (2 ^ s.1) < 256 ∧ ∀ j : Fin 8, bt (bits BinOp.andNot IntKind.u8 (x.1 : Int) (2 ^ s.1)) j.1 = if j.1 = 7 - s.1 then 0 else bt (x.1 : Int) j.1 := by decide +kernel
theorem nat8 {x : Int} (h : 0 ≤ x ∧ x < 256) : ∃ n : Fin 256, x = (n.1 : Int) := ⟨⟨x.toNat, by omega⟩, by simp; omega⟩
theorem mask_bd {x : Int} (h : 0 ≤ x ∧ x < 256) {k : Nat} (hk : k ≤ 8) : 0 ≤ maskB x k ∧ maskB x k < 256 := by
  obtain ⟨n, rfl⟩ := nat8 h
  have := fin_mask n ⟨k, by omega⟩
  exact ⟨this.1, this.2.1⟩
theorem mask_bt {x : Int} (h : 0 ≤ x ∧ x < 256) {k j : Nat} (hk : k ≤ 8) (hj : j < 8) : bt (maskB x k) j = if j < k then bt x j else 0 := by
  obtain ⟨n, rfl⟩ := nat8 h
  exact (fin_mask n ⟨k, by omega⟩).2.2 ⟨j, hj⟩
theorem and_mask {x : Int} (h : 0 ≤ x ∧ x < 256) {k : Nat} (hk : k ≤ 8) : bits BinOp.and IntKind.u8 x (IntKind.u8.wrap (255 * 2 ^ (8 - k))) = maskB x k := by
  obtain ⟨n, rfl⟩ := nat8 h
  exact fin_and n ⟨k, by omega⟩
theorem not_bd {x : Int} (h : 0 ≤ x ∧ x < 256) {s : Nat} (hs : s < 8) : 0 ≤ bits BinOp.andNot IntKind.u8 x (2 ^ s) ∧ bits BinOp.andNot IntKind.u8 x (2 ^ s) < 256 := by
  obtain ⟨n, rfl⟩ := nat8 h
  have := fin_not n ⟨s, hs⟩
  exact ⟨this.1, this.2.1⟩
theorem not_bt {x : Int} (h : 0 ≤ x ∧ x < 256) {s j : Nat} (hs : s < 8) (hj : j < 8) : bt (bits BinOp.andNot IntKind.u8 x (2 ^ s)) j = if j = 7 - s then 0 else bt x j := by
  obtain ⟨n, rfl⟩ := nat8 h
  exact (fin_not n ⟨s, hs⟩).2.2 ⟨j, hj⟩
theorem bt_ext {x y : Int} (hx : 0 ≤ x ∧ x < 256) (hy : 0 ≤ y ∧ y < 256) (h : ∀ j, j < 8 → bt x j = bt y j) : x = y := by
  obtain ⟨n, rfl⟩ := nat8 hx
  obtain ⟨m, rfl⟩ := nat8 hy
  rw [fin_sum n, fin_sum m, h 0 (by decide), h 1 (by decide), h 2 (by decide), h 3 (by decide), h 4 (by decide), h 5 (by decide), h 6 (by decide), h 7 (by decide)]
theorem bt_zero (j : Nat) : bt 0 j = 0 := by unfold bt; simp
def truncA (a : Adr) (bits : Int) : Adr := (a.1, (List.range 16).map fun i => maskB (X a i) (keepN bits i))
theorem X_trunc (a : Adr) (bits : Int) {i : Nat} (hi : i < 16) : X (truncA a bits) i = maskB (X a i) (keepN bits i) := by
  show ((List.range 16).map fun i => maskB (X a i) (keepN bits i)).getD i 0 = _
  rw [List.getD_eq_getElem?_getD, List.getElem?_map, List.getElem?_range hi]; rfl
theorem okA_trunc {a : Adr} (ha : okA a) (bits : Int) : okA (truncA a bits) := by
  refine ⟨by simp [truncA], fun x hx => ?_⟩
  obtain ⟨i, _, rfl⟩ := List.mem_map.1 hx
  exact mask_bd (X_bd ha i) (keepN_le _ _)
theorem adr_ext {a b : Adr} (ha : okA a) (hb : okA b) (h1 : a.1 = b.1) (h : ∀ i, i < 16 → ∀ j, j < 8 → bt (X a i) j = bt (X b i) j) : a = b := by
  refine Prod.ext h1 ?_
  apply List.ext_getElem?
  intro i
  rcases Nat.lt_or_ge i 16 with hi | hi
  · have e := bt_ext (X_bd ha i) (X_bd hb i) (h i hi)
    unfold X at e
    rw [List.getD_eq_getElem?_getD, List.getD_eq_getElem?_getD, List.getElem?_eq_getElem (by rw [ha.1]; exact hi), List.getElem?_eq_getElem (by rw [hb.1]; exact hi)] at e
    rw [List.getElem?_eq_getElem (by rw [ha.1]; exact hi), List.getElem?_eq_getElem (by rw [hb.1]; exact hi)]
    exact congrArg some e
  · rw [List.getElem?_eq_none (by rw [ha.1]; exact hi), List.getElem?_eq_none (by rw [hb.1]; exact hi)]
theorem bitA_bt (a : Adr) {i : Nat} (h : (i : Int) < bitLen a) : bitA a i = bt (X a (i / 8)) (i % 8) := by
  unfold bitA bt
  rw [if_neg (by omega)]
  have e1 : ((i : Int) / 8).toNat = i / 8 := by omega
  have e2 : (7 - (i : Int) % 8).toNat = 7 - i % 8 := by omega
  rw [e1, e2]
/-- past its bits an address holds zeros -/
theorem past_zero {a : Adr} (ha : okA a) (hv : validA a = true) {q : Nat} (hq : q < 16) {j : Nat} (h : bitLen a ≤ ((8 * q + j : Nat) : Int)) (hj : j < 8) : X a q = 0 := by
  cases hf : a.1 with
  | true => unfold bitLen at h; rw [hf] at h; simp at h; omega
  | false => unfold bitLen at h; rw [hf] at h; simp at h; exact (validA_iff ha hf).1 hv q (by omega) hq
theorem trunc_fix {a : Adr} (ha : okA a) (hv : validA a = true) {n : Int} (h0 : 0 ≤ n) : truncA a n = a ↔ ∀ i : Nat, n ≤ i → (i : Int) < bitLen a → bitA a i = 0 := by
  constructor
  · intro h i hi hb
    have hbl := bitLen_pos a
    rw [bitA_bt a hb]
    have e := X_trunc a n (i := i / 8) (by omega)
    rw [h] at e
    rw [e, mask_bt (X_bd ha _) (keepN_le _ _) (by omega), if_neg]
    rw [keepN_lt (by omega)]; omega
  · intro h
    refine adr_ext (okA_trunc ha n) ha rfl fun q hq j hj => ?_
    rw [X_trunc a n hq, mask_bt (X_bd ha _) (keepN_le _ _) hj]
    split
    · rfl
    · rename_i hk
      rw [keepN_lt hj] at hk
      rcases Int.lt_or_le ((8 * q + j : Nat) : Int) (bitLen a) with hb | hb
      · have := h (8 * q + j) (by omega) hb
        rw [bitA_bt a hb, show (8 * q + j) / 8 = q by omega, show (8 * q + j) % 8 = j by omega] at this
        exact this.symm
      · rw [past_zero ha hv hq hb hj, bt_zero]
theorem trunc_eq {a p : Adr} (ha : okA a) (hp : okA p) (hf : a.1 = p.1) {n : Int} (hfix : truncA p n = p) (hn : n ≤ bitLen p) : truncA a n = p ↔ ∀ i : Nat, (i : Int) < n → bitA p i = bitA a i := by
  have hbl : bitLen a = bitLen p := by unfold bitLen; rw [hf]
  have hbp := bitLen_pos p
  have hXp : ∀ q, q < 16 → X p q = maskB (X p q) (keepN n q) := fun q hq => by
    have e := X_trunc p n hq
    rwa [hfix] at e
  constructor
  · intro h i hi
    rw [bitA_bt p (by omega), bitA_bt a (by omega)]
    have e := X_trunc a n (i := i / 8) (by omega)
    rw [h] at e
    rw [e, mask_bt (X_bd ha _) (keepN_le _ _) (by omega), if_pos]
    rw [keepN_lt (by omega)]; omega
  · intro h
    refine adr_ext (okA_trunc ha n) hp hf fun q hq j hj => ?_
    rw [X_trunc a n hq, hXp q hq, mask_bt (X_bd ha _) (keepN_le _ _) hj, mask_bt (X_bd hp _) (keepN_le _ _) hj]
    split
    · rename_i hk
      rw [keepN_lt hj] at hk
      have := h (8 * q + j) hk
      rw [bitA_bt p (by omega), bitA_bt a (by omega), show (8 * q + j) / 8 = q by omega, show (8 * q + j) % 8 = j by omega] at this
      exact this.symm
    · rfl
def validP (p : Pfx) : Bool := validA p.1 && decide (0 ≤ p.2) && decide (p.2 ≤ bitLen p.1) && decide (truncA p.1 p.2 = p.1)
def prefixOf (a : Adr) (bits : Int) : Pfx × Bool := if validA a = true ∧ 0 ≤ bits ∧ bits ≤ bitLen a then ((truncA a bits, bits), true) else (zpfx, false)
def containsP (p : Pfx) (a : Adr) : Bool := validP p && validA a && decide (p.1.1 = a.1) && decide (truncA a p.2 = p.1)
def coversP (p q : Pfx) : Bool := validP q && decide (p.2 ≤ q.2) && containsP p q.1
def cmpI (x y : Int) : Int := if x < y then -1 else if y < x then 1 else 0
def cmpP (p q : Pfx) : Int := if cmpA p.1 q.1 = 0 then cmpI p.2 q.2 else cmpA p.1 q.1
end Go.Proofs.YtbbdcodhgbgekaaGreatDoor
