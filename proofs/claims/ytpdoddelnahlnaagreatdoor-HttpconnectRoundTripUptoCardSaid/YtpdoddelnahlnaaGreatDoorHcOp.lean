/-
  The arguments of the laws, opened: strings in a slice; a request.
-/
import Derived.Test.YtpdoddelnahlnaaGreatDoorRows
import Derived.Test.YtpdoddelnahlnaaGreatDoorHcX
import Derived.Test.YtpdoddelnahlnaaGreatDoorK42
import Derived.SliceStrings
import Derived.SizedLaws
import Derived.Lib.SmallJoins
set_option linter.unusedSimpArgs false
set_option linter.unusedVariables false
namespace Go.Proofs.YtpdoddelnahlnaaGreatDoor
open Go.RowKit Go.ChangeShapes Go.WideShapes Go.Deep
theorem bulk_strs {H : Type} : ∀ (ss : List ByteArray) (i : Nat), (ss.getD i ⟨#[]⟩).size ≤ Rows.uptoBulkAll (strs (H := H) ss)
  | [], i => by rw [List.getD_nil]; exact Nat.zero_le _
  | s :: ss, 0 => by
    have := size_list s
    show s.size ≤ Rows.uptoBulkAll ((DataW.lit (.string s.data.toList) : DataW H) :: strs ss)
    simp only [Rows.uptoBulkAll, Rows.uptoBulk]; omega
  | s :: ss, i + 1 => by
    have := bulk_strs (H := H) ss i
    rw [List.getD_cons_succ]
    show _ ≤ Rows.uptoBulkAll ((DataW.lit (.string s.data.toList) : DataW H) :: strs ss)
    simp only [Rows.uptoBulkAll]; omega
theorem addr_at (b off i : Nat) : (⟨b, off, none⟩ : Addr).add i = ⟨b, off + i, none⟩ := by unfold Addr.add; split <;> simp_all
theorem bytes_str : 1 ≤ Tryz.prog.bytesOf 9 := by decide +kernel
set_option maxRecDepth 100000 in
theorem open_strs {H : Type} {enc : TypeId × Value → H} {W : World} {r : Reach} {b0 : Nat} {v : Value} {d : DataW H} {p : List MemPlace} (hval : Value.okWide Tryz.prog W r b0 39 v) (hd : DataW.Trod enc Tryz.prog W 0 (fun _ => true) true 39 v d p)
    {ts : List TypeId} {ds : List (DataW H)} (hsz : (DataW.weightsEach Tryz.prog ts ds).all (· ≤ reachBytes) = true) {j : Nat} (hj : ts[j]? = some 39) (hjd : ds[j]? = some d) :
    ∃ (a : Option Addr) (n c : Nat) (xs : List ByteArray), v = .slice a n c ∧ n ≤ 140737488351232 ∧ StrsIn W a n c xs ∧ (Rows.uptoBulk d ≤ 1048576 → BigL xs) := by
  obtain ⟨a, len, cap, rfl⟩ := okWide_slice Tryz.underlying39 hval
  obtain ⟨fuel, hf⟩ := hd
  rcases open_strings Tryz.underlying39 Tryz.underlying9 cells_str hf with ⟨hcs, hx⟩ | ⟨a', l', c', ss, hcs, _, hl, hm, hz, hx, hcell, hwz⟩
  · simp [Value.cells] at hcs
    obtain ⟨rfl, rfl, rfl⟩ := hcs
    exact ⟨none, 0, 0, [], rfl, Nat.zero_le _, .inl ⟨rfl, rfl, rfl⟩, fun _ i => by rw [List.getD_nil]; exact Nat.zero_le _⟩
  · simp [Value.cells] at hcs
    obtain ⟨rfl, rfl, rfl⟩ := hcs
    simp only [if_true] at hz
    simp only [Prod.mk.injEq] at hx
    obtain ⟨rfl, rfl⟩ := hx
    have hw := sized_slice hsz hj hjd Tryz.underlying39
    have h3 : len ≤ 140737488351232 := by
      have hb := bytes_str
      have e1 : (strs (H := H) (ss.take len)).length = len := by unfold strs; rw [List.length_map, List.length_take]; omega
      have e2 : len ≤ ((strs (H := H) (ss.take len)).length + (strs (H := H) (ss.drop len)).length) * Tryz.prog.bytesOf 9 := by
        rw [e1]
        exact Nat.le_trans (Nat.le_add_right _ _) (Nat.le_mul_of_pos_right _ hb)
      have e3 : reachBytes = 140737488351232 := by decide +kernel
      rw [e3] at hw
      omega
    refine ⟨some a', len, cap, ss.take len, rfl, h3, .inr ⟨a', rfl, hl, fun h0 => ?_⟩, fun hb i => ?_⟩
    · obtain ⟨b, off, spot⟩ := a'
      have h00 := hcell 0 (by omega)
      have hspot : spot = none := by simpa [Addr.add] using World.cell?_spot h00
      subst hspot
      refine ⟨b, off, rfl, ?_, fun i hi => ?_⟩
      · rw [addr_at] at h00
        exact World.block_lt_of_cell? W _ h00
      · have hc := hcell i (by omega)
        rw [addr_at] at hc
        rw [hc, List.getD_eq_getElem?_getD, List.getD_eq_getElem?_getD, List.getElem?_take, if_pos hi]
        rw [List.getElem?_eq_getElem (by omega)]; rfl
    · have := bulk_strs (H := H) (ss.take len) i
      simp only [Rows.uptoBulk] at hb
      omega
section
variable {H : Type} {enc : TypeId × Value → H} {W : World} {base : Nat} {sp : Nat → Bool} {held : Bool} {r : Reach} {b0 : Nat}
set_option maxRecDepth 20000 in
theorem trod_T {cs : List Value} {fuel : Nat} {x : DataW H × List MemPlace} (hf : DataW.trod enc Tryz.prog W base sp held fuel 32 cs = some x) : ∃ q : Tgt, okT q ∧ cs = (tc q).toList := by
  obtain ⟨y0, y1, y2, n, -, hl, hs0, h0, h1⟩ := trod_struct3 Tryz.underlying32 hf
  obtain ⟨x0, x1, m, -, hl2, g0, g1⟩ := trod_struct2 Tryz.underlying30 h0
  obtain ⟨s, hs, -, hsw⟩ := DataW.trod_string Tryz.underlying9 hs0
  obtain ⟨b, hb, -⟩ := DataW.trod_bool Tryz.underlying4 g0
  obtain ⟨zs, hz, hzl, hzw⟩ := cells_ints Tryz.underlying28 Tryz.underlying5 cells_u8 cells_16 g1
  obtain ⟨k, hk, -, hkw⟩ := DataW.trod_int Tryz.underlying3 h1
  simp only [cells_b, cells_16, cells_A, cells_int, cells_str, List.drop_zero] at hb hz hk hs
  have hlen : cs.length = 19 := by rw [hl]; exact cells_T
  have hk' : cs.drop 18 = [.int .i64 k] := by
    rw [List.take_of_length_le (by rw [List.length_drop, hlen]; decide)] at hk; exact hk
  refine ⟨(s, (b, zs), k), ⟨⟨hzl, fun x hx => ?_⟩, ?_, hsw⟩, ?_⟩
  · have := hzw x hx
    simp only [Lit.wf, Bool.and_eq_true, decide_eq_true_eq, IntKind.min, IntKind.max, IntKind.bits, IntKind.signed] at this
    simp at this
    omega
  · unfold i64ok
    simp [Lit.wf, IntKind.min, IntKind.max, IntKind.bits, IntKind.signed] at hkw
    omega
  · rw [tc_list]
    unfold ac
    have e : cs = cs.take 1 ++ (cs.drop 1) := (List.take_append_drop 1 _).symm
    have e1 : cs.drop 1 = (cs.drop 1).take 17 ++ (cs.drop 1).drop 17 := (List.take_append_drop 17 _).symm
    have e2 : (cs.drop 1).take 17 = ((cs.drop 1).take 17).take 1 ++ ((cs.drop 1).take 17).drop 1 := (List.take_append_drop 1 _).symm
    rw [e, hs, e1, e2, List.drop_drop, hk']
    rw [List.take_of_length_le (by rw [List.length_drop, List.length_take, List.length_drop, hlen]; decide)] at hz
    rw [hb, hz]
    rfl
set_option maxRecDepth 20000 in
theorem open_C {v : Value} {d : DataW H} {p : List MemPlace} (hv : Value.okWide Tryz.prog W r b0 46 v) (h : DataW.Trod enc Tryz.prog W base sp held 46 v d p) :
    ∃ q : Cr, okC q ∧ v = cv q ∧ (Rows.uptoBulk d ≤ 1048576 → q.2.2.1.size ≤ 1048576 ∧ q.2.2.2.size ≤ 1048576) := by
  obtain ⟨cs, rfl, hsz⟩ := okWide_struct Tryz.underlying46 hv
  obtain ⟨fuel, hf⟩ := h
  obtain ⟨y0, y1, y2, y3, n, hx, hl, h0, h1, h2, h3⟩ := Joins.trod_struct4 Tryz.underlying46 hf
  obtain ⟨q, hq, hqc⟩ := trod_T h0
  obtain ⟨b, hb, -⟩ := DataW.trod_bool Tryz.underlying4 h1
  obtain ⟨us, hu, hux, huw⟩ := DataW.trod_string Tryz.underlying9 h2
  obtain ⟨ps, hp, hpx, hpw⟩ := DataW.trod_string Tryz.underlying9 h3
  rw [cells_C] at hsz
  have hc : (Value.agg cs).cells = cs := rfl
  rw [hc] at hqc hb hu hp
  simp only [cells_T, cells_bool, cells_str, List.drop_zero] at hqc hb hu hp
  have hlen : cs.toList.length = 22 := by simpa using hsz
  have e3 : cs.toList.drop 21 = [.string ps] := by
    rw [List.take_of_length_le (by rw [List.length_drop, hlen]; decide)] at hp; exact hp
  have e2 : cs.toList.drop 20 = .string us :: cs.toList.drop 21 := by
    have := (List.take_append_drop 1 (cs.toList.drop 20)).symm
    rw [hu, List.drop_drop] at this; exact this
  have e1 : cs.toList.drop 19 = .bool b :: cs.toList.drop 20 := by
    have := (List.take_append_drop 1 (cs.toList.drop 19)).symm
    rw [hb, List.drop_drop] at this; exact this
  have e0 : cs.toList = crl (q, b, us, ps) := by
    have := (List.take_append_drop 19 cs.toList).symm
    rw [hqc, e1, e2, e3] at this; exact this
  refine ⟨(q, b, us, ps), ⟨hq, huw, hpw⟩, ?_, fun hbk => ?_⟩
  · show Value.agg cs = Value.agg (crl (q, b, us, ps)).toArray
    rw [← e0]
  · simp only [Prod.mk.injEq] at hx
    rw [hx.1, hux, hpx] at hbk
    simp only [Rows.uptoBulk, Rows.uptoBulkAll] at hbk
    have := size_list us
    have := size_list ps
    exact ⟨by show us.size ≤ _; omega, by show ps.size ≤ _; omega⟩
end
end Go.Proofs.YtpdoddelnahlnaaGreatDoor
