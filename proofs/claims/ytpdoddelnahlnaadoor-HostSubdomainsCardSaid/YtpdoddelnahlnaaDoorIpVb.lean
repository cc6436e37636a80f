/-
  Contract of gen.ValidAddr.
-/
import Derived.Test.YtpdoddelnahlnaaDoorRgA
import Derived.Test.YtpdoddelnahlnaaDoorIpRf
import Derived.Test.YtpdoddelnahlnaaDoorIpP
set_option linter.unusedSimpArgs false
set_option linter.unusedVariables false
namespace Go.Proofs.YtpdoddelnahlnaaDoor
open Go.RowKit
theorem valid_v4b (a b c d : Int) : validA (v4 a b c d) = true := by simp [validA, v4]

theorem Blk.setCells {b : Nat} {t : TypeId} : ∀ (vs : List Value) (o : Nat) (w : World) (cs : List Value), o + vs.length ≤ cs.length → Blk w b cs t → Blk (w.setCells b o vs) b (cs.take o ++ vs ++ cs.drop (o + vs.length)) t
  | [], o, w, cs, _, h => by
    rw [World.setCells, List.append_nil, List.length_nil, Nat.add_zero, List.take_append_drop]; exact h
  | v :: r, o, w, cs, hl, h => by
    have h1 := h.set o v
    have h2 := Blk.setCells r (o + 1) _ _ (by rw [List.length_set]; simp at hl; omega) h1
    rw [World.setCells]
    have ho : o < cs.length := by simp at hl; omega
    have e1 : (cs.set o v).take (o + 1) = cs.take o ++ [v] := by
      rw [List.take_add_one, List.take_set_of_le (Nat.le_refl _), List.getElem?_set, if_pos rfl, if_pos ho]; rfl
    have e2 : (cs.set o v).drop (o + 1 + r.length) = cs.drop (o + (v :: r).length) := by
      rw [List.drop_set_of_lt (by omega), List.length_cons, show o + 1 + r.length = o + (r.length + 1) by omega]
    rw [e1, e2, List.append_assoc, List.append_assoc] at h2
    rw [List.append_assoc]
    exact h2
theorem Ext.setCells {a : World} {b : Nat} (hb : a.heap.size ≤ b) : ∀ (vs : List Value) (o : Nat) (w : World), Ext a w → Ext a (w.setCells b o vs)
  | [], _, _, h => h
  | v :: r, o, w, h => Ext.setCells hb r (o + 1) _ (h.setCell hb v)
theorem heap_setCells (b c : Nat) : ∀ (vs : List Value) (hne : c ≠ b) (o : Nat) {w : World}, (w.setCells b o vs).heap[c]? = w.heap[c]?
  | [], _, _, _ => rfl
  | v :: r, hne, o, w => by rw [World.setCells, heap_setCells b c r hne (o + 1), Below.heap_setCell _ _ _ _ hne]
def vadr (a : Adr) : Adr := if a.1 = true then a else v4 (X a 0) (X a 1) (X a 2) (X a 3)
theorem okA_vadr {a : Adr} (ha : okA a) : okA (vadr a) := by
  unfold vadr
  split
  · exact ha
  · exact okA_v4 (X_bd ha _) (X_bd ha _) (X_bd ha _) (X_bd ha _)
theorem valid_vadr (a : Adr) : validA (vadr a) = true := by
  unfold vadr
  split
  · rename_i h; unfold validA; rw [h]; rfl
  · exact valid_v4b _ _ _ _
theorem ac_v4 (x y z t : Int) : ac (v4 x y z t) = #[.bool false, .int .u8 x, .int .u8 y, .int .u8 z, .int .u8 t, .int .u8 0, .int .u8 0, .int .u8 0, .int .u8 0, .int .u8 0, .int .u8 0, .int .u8 0, .int .u8 0, .int .u8 0, .int .u8 0, .int .u8 0, .int .u8 0] := rfl
theorem info_16 : (Tryd.prog.info? 35).map (·.size) = some 16 := by kernel_rfl
theorem there_A {w : World} {b : Nat} {a : Adr} (ha : okA a) (h : Blk w b (ac a).toList 37) : w.there b 1 16 := fun j hj => ⟨by
  have := h.cell (i := 1 + j) (v := .int .u8 (X a j)) (by rw [Array.getElem?_toList]; exact ac_at ha hj)
  rw [this]; rfl, h.free _⟩
theorem wpList_store_B {ops : Array Oper} {rest : List Oper} {o : Oper} {f : Act} {w : World} {Q : Exit → Act → World → Prop} (zs : List Int) (hgd : o.guard = none) (x y : Operand) (ho : o.op = .store 35 x y)
    {c : Nat} {a0 : Adr} (h0 : okA a0) (hb : Blk w c (ac a0).toList 37) (hs : zs.length = 16) (hx : f.eval x = .pointer (some ⟨c, 1, none⟩)) (hy : f.eval y = .agg (zs.map (Value.int .u8)).toArray)
    (h : wpList Tryd.prog ops Q rest (f.put o.dst undef) (w.setCells c 1 (zs.map (Value.int .u8)))) : wpList Tryd.prog ops Q (o :: rest) f w :=
  wpList_store_mid hgd 35 x y ho c 1 (zs.map (Value.int .u8)).toArray hx hy (by rw [List.size_toArray, List.length_map, hs]; exact there_A h0 hb) (by rw [info_16, List.size_toArray, List.length_map, hs]) (all_oneCell_toArray fun v hv => by
    obtain ⟨z, _, rfl⟩ := List.mem_map.1 hv; rfl) h
theorem Blk.store16 {w : World} {b : Nat} {a : Adr} (ha : okA a) (h : Blk w b (ac a).toList 37) {zs : List Int} (hz : zs.length = 16) : Blk (w.setCells b 1 (zs.map (Value.int .u8))) b (ac (a.1, zs)).toList 37 := by
  have hal : (ac a).toList.length = 17 := by rw [Array.length_toList, ac_size ha]
  have h2 := Blk.setCells (zs.map (Value.int .u8)) 1 w (ac a).toList (by rw [hal, List.length_map, hz]; decide) h
  rw [List.drop_of_length_le (by rw [hal, List.length_map, hz]; decide), List.append_nil] at h2
  exact h2
theorem tail6_len {l : List Int} (hg : ∀ i, grp l i < 65536) (f m : Int) : ∀ k i, (tail6 l f m k i).length ≤ 5 * k
  | 0, _ => by simp [tail6]
  | k + 1, i => by
    rw [tail6]
    have h1 := hexT_len (n := (grp l i).toNat) (by have := hg i; omega)
    split
    · simp
    · split
      · have := tail6_len hg f m k (i + m.toNat)
        simp only [List.length_append, List.length_cons, List.length_nil]; omega
      · have := tail6_len hg f m k (i + 1)
        simp only [List.length_append]
        split <;> simp only [List.length_cons, List.length_nil] <;> omega
theorem fmtA_len {a : Adr} (ha : okA a) : (fmtA a).length ≤ 45 := by
  unfold fmtA
  split
  · simp
  · split
    · exact tail6_len (fun i => (grp_bd ha i).2) _ _ _ _
    · have h : ∀ j, (Lib.decDigits (a.2.getD j 0).toNat).length ≤ 3 := fun j => dd_len 2 _ (by have := X_bd ha j; unfold X at this; omega)
      have h0 := h 0; have h1 := h 1; have h2 := h 2; have h3 := h 3
      unfold fmt4
      simp only [List.length_append, List.length_cons, List.length_nil]; omega
theorem ac_set {a : Adr} (j : Nat) (z : Int) : (ac a).toList.set (1 + j) (.int .u8 z) = (ac (a.1, a.2.set j z)).toList := by
  unfold ac
  rw [Nat.add_comm 1 j]
  simp only [List.set_cons_succ, List.map_set]
theorem okA_set {a : Adr} (ha : okA a) (j : Nat) : okA (a.1, a.2.set j 0) := by
  refine ⟨by rw [List.length_set]; exact ha.1, fun x hx => ?_⟩
  rcases List.mem_or_eq_of_mem_set hx with h | rfl
  · exact ha.2 x h
  · decide
end Go.Proofs.YtpdoddelnahlnaaDoor
