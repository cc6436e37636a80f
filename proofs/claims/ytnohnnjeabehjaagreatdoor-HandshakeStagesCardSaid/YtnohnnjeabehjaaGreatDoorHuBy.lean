/-
 A []byte argument, opened (the text of XLaw's open_bytes, for claims whose packs leave it out).
-/
import Derived.Test.YtnohnnjeabehjaaGreatDoorK21
set_option linter.unusedSimpArgs false
set_option linter.unusedVariables false
namespace Go.Proofs.YtnohnnjeabehjaaGreatDoor
open Go.ChangeShapes Go.WideShapes Go.ChangeAt Go.RowKit
theorem toNat_wf9 {n : Int} (h : (Lit.int .u8 n).wf = true) : 0 <= n /\ n < 256 := by
 simp [Lit.wf, IntKind.min, IntKind.max, IntKind.signed, IntKind.bits] at h
 omega
theorem B_strOfNums9 (xs : List Int) (i : Nat) : B (strOfNums xs) i = if i < xs.length then ((UInt8.ofNat (xs.getD i 0).toNat).toNat : Int) else 0 := by
 unfold B
 rw [strOfNums_data, List.getD_eq_getElem?_getD, List.getElem?_map, List.getD_eq_getElem?_getD]
 by_cases h : i < xs.length
 ·rw [if_pos h, List.getElem?_eq_getElem h]; rfl
 ·rw [if_neg h, List.getElem?_eq_none (by omega)]; rfl
theorem open_bytes9 {H : Type} {enc : TypeId × Value -> H} {P : Program} {W : World} {t e : TypeId} (ht : P.underlying t = some (.slice e)) (he : P.underlying e = some (.int .u8)) (hc : P.cellsOf e = 1) (hbz : P.bytesOf e = 1)
  {r : Reach} {b0 : Nat} {v : Value} {d : DataW H} {p : List MemPlace} (hval : Value.okWide P W r b0 t v) (hd : DataW.Trod enc P W 0 (fun _ => true) true t v d p)
  {ts : List TypeId} {ds : List (DataW H)} (hsz : (DataW.weightsEach P ts ds).all (· <= reachBytes) = true) {j : Nat} (hj : ts[j]? = some t) (hjd : ds[j]? = some d) :
  ∃ (a : Option Addr) (len cap : Nat) (x : ByteArray), v = .slice a len cap /\ x.size = len /\ x.size <= 140737488351232 /\
   ((a = none /\ len = 0 /\ cap = 0) ∨ ∃ ad, a = some ad /\ len <= cap /\ cap <= 140737488351232 /\ (0 < len -> ∃ b off, ad = ⟨b, off, none⟩ /\ b < W.heap.size /\ ∀ i, i < len -> W.cell? ⟨b, off + i, none⟩ = some (.int .u8 (B x i)))) /\
   ∀ W', Ext W W' -> ∀ dst, P.underlying dst = some .string -> (convert t dst (.slice a len cap)).run P W' = .ok (.string x) W' := by
 have hd0 := hd
 obtain ⟨a, len, cap, rfl⟩ := okWide_slice ht hval
 obtain ⟨fuel, hf⟩ := hd
 have hlt : ∀ q ∈ p, q.block < W.heap.size := DataW.trod_lt _ _ _ _ hf
 rcases open_ints ht he hc hf with ⟨hcs, hx⟩ | ⟨a', l', c', zs, hcs, _, hl, hm, hz, hx, hcell, hwz⟩
 ·simp [Value.cells] at hcs
  obtain ⟨rfl, rfl, rfl⟩ := hcs
  exact ⟨none, 0, 0, ByteArray.empty, rfl, rfl, by decide, .inl ⟨rfl, rfl, rfl⟩, fun W' _ dst hdst => run_convert_bytes_nil W' t e ht he 0 0 dst hdst⟩
 ·simp [Value.cells] at hcs
  obtain ⟨rfl, rfl, rfl⟩ := hcs
  simp only [Prod.mk.injEq] at hx
  obtain ⟨rfl, rfl⟩ := hx
  have hz' : zs.length = cap := by simpa using hz
  have hw := sized_slice hsz hj hjd ht
  have h2 : (zs.take len).length + (zs.drop len).length = zs.length := by simp; omega
  have h3 : zs.length <= 140737488351232 := by
   have : (lits .u8 (zs.take len) : List (DataW H)).length + (lits .u8 (zs.drop len) : List (DataW H)).length = zs.length := by simpa [lits] using h2
   rw [this, hbz] at hw
   simpa [reachBytes] using hw
  refine ⟨some a', len, cap, strOfNums (zs.take len), rfl, ?_, ?_, ?_, ?_⟩
  ·rw [strOfNums_size]; simp; omega
  ·rw [strOfNums_size]; simp; omega
  ·refine .inr ⟨a', rfl, hl, by omega, fun hpos => ?_⟩
   obtain ⟨b, off, spot⟩ := a'
   have h0 := hcell 0 (by omega)
   have hspot : spot = none := by simpa [Addr.add] using World.cell?_spot h0
   subst hspot
   refine ⟨b, off, rfl, ?_, fun i hi => ?_⟩
   ·exact hlt (.cell b off) (by rw [MemPlace.row]; exact List.mem_map.2 ⟨0, by simp; omega, by simp⟩)
   ·have h1 := hcell i (by omega)
    have e1 : (⟨b, off, none⟩ : Addr).add i = ⟨b, off + i, none⟩ := by unfold Addr.add; split <;> simp_all
    rw [e1] at h1
    rw [h1]
    have hw1 := hwz (zs.getD i 0) (by rw [List.getD_eq_getElem?_getD, List.getElem?_eq_getElem (by omega)]; exact List.getElem_mem _)
    have e2 := toNat_wf9 hw1
    rw [B_strOfNums9, if_pos (by simp; omega), show (zs.take len).getD i 0 = zs.getD i 0 from by simp [List.getD_eq_getElem?_getD, hi]]
    have : ((UInt8.ofNat (zs.getD i 0).toNat).toNat : Int) = zs.getD i 0 := by
     rw [UInt8.toNat_ofNat_of_lt' (by show _ < 256; omega)]; omega
    rw [this]
  ·intro W' hx dst hdst
   by_cases hpos : 0 < len
   ·obtain ⟨b, off, spot⟩ := a'
    have h0 := hcell 0 (by omega)
    have hspot : spot = none := by simpa [Addr.add] using World.cell?_spot h0
    subst hspot
    refine run_convert_bytes_arg W' t e ht he b off len cap (zs.take len) (by simp; omega) (fun i hi => ?_) dst hdst
    have h1 := hcell i (by omega)
    have e1 : (⟨b, off, none⟩ : Addr).add i = ⟨b, off + i, none⟩ := by unfold Addr.add; split <;> simp_all
    rw [e1] at h1
    have hb : b < W.heap.size := hlt (.cell b off) (by rw [MemPlace.row]; exact List.mem_map.2 ⟨0, by simp; omega, by simp⟩)
    rw [hx.cell (by exact hb), h1]
    simp only [List.getD_eq_getElem?_getD, List.getElem?_take, hi, if_true]
   ·obtain rfl : len = 0 := by omega
    rw [run_convert_bytes_string W' t dst e _ 0 cap ht he hdst, run_bytesToString W' _ 0 cap [] (by simp [loadCells, loadCellsFrom])]
    rfl
end Go.Proofs.YtnohnnjeabehjaaGreatDoor
