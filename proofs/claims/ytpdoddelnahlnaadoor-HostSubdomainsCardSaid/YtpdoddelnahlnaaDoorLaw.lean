/-
  From a contract 'returns true and changes nothing that was there' to the row of a law.
-/
import Derived.ProofKit
import Derived.SizedLaws
import Derived.ShutString
import Derived.ChangeOld
import Derived.Below
import Derived.Lib.SmallJoins
import Derived.Test.YtpdoddelnahlnaaDoorBase
namespace Go.Proofs.YtpdoddelnahlnaaDoor
open Go.ChangeShapes Go.WideShapes Go.ChangeAt Go.RowKit

theorem trodAll_carry {H : Type} {enc : TypeId × Value → H} {P : Program} (hl : laidOutB P = true) {W W' : World} (hb : Below W.heap.size W W') :
    ∀ (ts : List TypeId) (vs : List Value) (ds : List (DataW H)) (ps : List MemPlace),
      ts.all (fun t => P.readableRec t && decide (t < P.types.size)) = true →
      DataW.TrodAll enc P W 0 (fun _ => true) true ts vs ds ps →
      DataW.TrodAll enc P W' 0 (fun b => decide (b < W.heap.size)) true ts vs ds ps
  | [], vs, ds, ps, _, h => by
    obtain ⟨rfl, rfl, rfl⟩ := trodAll_nil h
    exact trodAll_mk0
  | t :: ts, vs, ds, ps, hr, h => by
    obtain ⟨v, vs', d, ds', p, q, rfl, rfl, rfl, h1, h2⟩ := trodAll_cons h
    simp only [List.all_cons, Bool.and_eq_true, decide_eq_true_eq] at hr
    have hlt : ∀ x ∈ p, x.block < W.heap.size := by obtain ⟨m, hm⟩ := h1; exact DataW.trod_lt m _ _ _ hm
    exact trodAll_cons_mk (Below.trod hl hr.1.1 hr.1.2 h1 hb hlt) (trodAll_carry hl hb ts vs' ds' q (by simpa using hr.2) h2)

/-- The row's step for a law: what is left is the contract. -/
theorem law_lifted {C : Checked} {os : Os} {H : Type} {enc : TypeId × Value → H} (own : ownKnob C.prog.godebug = none) (hl : laidOutB C.prog = true) (started : os.Started)
    {f : FuncId} {fn : Func} (s : ChangeSpec) (noInit : C.prog.inits.idxOf? f = none) (hfn : C.prog.funcs[f]? = some fn)
    (hsv : s.vars = []) (tb : TypeId) (hres : fn.resultTypes = #[tb]) (htb : C.prog.underlying tb = some .bool)
    (hread : fn.params.toList.all (fun t => C.prog.readableRec t && decide (t < C.prog.types.size)) = true)
    (n : Nat) (hn : fn.params.size = n)
    (hspec : ∀ ds : List (DataW H), ds.length = n → s.fn H ds = { results := [.lit (.bool true)], args := ds })
    (witness : ∃ (w : World) (tape : Tape) (i : Input), w.os = os ∧ (w.forCall tape i).Shaped C.prog ∧ i.vars = [] ∧ Input.okWide C.prog (w.forCall tape i) .any w.heap.size f i ∧
      s.pre6 enc C.prog fn [] false (w.forCall tape i).memory i.args ∧ (({} : Assume)).holds C.prog (lone (Frame.enter C.prog f i.args .normal) [] (w.forCall tape i)))
    (contract : ∀ (W : World) (base : Nat) (args : List Value) (ds : List (DataW H)) (ps : List MemPlace),
      (∀ (j : Nat) t v, fn.params[j]? = some t → args[j]? = some v → Value.okWide C.prog W .any base t v) →
      DataW.TrodAll enc C.prog W 0 (fun _ => true) true fn.params.toList args ds ps →
      (DataW.weightsEach C.prog fn.params.toList ds).all (· ≤ reachBytes) = true →
      Calls C.prog f args.toArray W fun e W' => e = .returned (.bool true) ∧ Below W.heap.size W W') :
    ReturnsInHanded {} C os f .any (s.pre6 enc C.prog fn [] false) (s.post enc C.prog fn false true false false) := by
  refine returnsInHanded_of_change_sized own started noInit hfn witness ?_
  intro W base args ds gs before hval hW _ hsz _
  have hW' := hW
  obtain ⟨p, q, hA, hV, rfl, hfz, hnd⟩ := hW
  rw [hsv] at hV
  obtain ⟨rfl, rfl⟩ := trodVars_none hV
  have hlen : ∀ (ts : List TypeId) (vs : List Value) (ds : List (DataW H)) (ps : List MemPlace), DataW.TrodAll enc C.prog W 0 (fun _ => true) true ts vs ds ps → ds.length = ts.length := by
    intro ts
    induction ts with
    | nil => intro vs ds ps h; obtain ⟨_, rfl, _⟩ := trodAll_nil h; rfl
    | cons t ts ih => intro vs ds ps h; obtain ⟨v, vs', d, ds', p, q, rfl, rfl, rfl, h1, h2⟩ := trodAll_cons h; simp [ih _ _ _ h2]
  have hl2 := hlen _ _ _ _ hA
  have hsp := hspec ds (by rw [hl2]; simpa using hn)
  have hsz' : (DataW.weightsEach C.prog fn.params.toList ds).all (· ≤ reachBytes) = true := by
    have : s.plain.varTypes C.prog = [] := by simp [ChangeSpec.plain, DataSpec.varTypes, hsv]
    rw [this] at hsz
    simpa using hsz
  have hc := contract W base args.toList ds p (fun j t v h1 h2 => hval j t v h1 (by simpa using h2)) hA hsz'
  rw [Array.toArray_toList] at hc
  refine hc.mono fun e W' ⟨he, bel⟩ => ?_
  subst he
  refine ⟨_, rfl, ds, [], _, [], p, [], hW', ?_, ?_, ?_, bel.frame _, fun h => by cases h⟩
  · rw [List.append_nil, hsp, hres]; exact trodAll_mk1 (shut_bool htb _)
  · rw [List.append_nil, hsp]; exact trodAll_carry hl bel _ _ _ _ hread hA
  · rw [List.append_nil, hsp, hsv]; rfl
theorem toNat_wf {n : Int} (h : (Lit.int .u8 n).wf = true) : 0 ≤ n ∧ n < 256 := by
  simp [Lit.wf, IntKind.min, IntKind.max, IntKind.signed, IntKind.bits] at h
  omega
theorem B_strOfNums (xs : List Int) (i : Nat) : B (strOfNums xs) i = if i < xs.length then ((UInt8.ofNat (xs.getD i 0).toNat).toNat : Int) else 0 := by
  unfold B
  rw [strOfNums_data, List.getD_eq_getElem?_getD, List.getElem?_map, List.getD_eq_getElem?_getD]
  by_cases h : i < xs.length
  · rw [if_pos h, List.getElem?_eq_getElem h]; rfl
  · rw [if_neg h, List.getElem?_eq_none (by omega)]; rfl
/-- A []byte that came in: what it converts to, in every later world. -/
theorem open_bytes {H : Type} {enc : TypeId × Value → H} {P : Program} {W : World} {t e : TypeId} (ht : P.underlying t = some (.slice e)) (he : P.underlying e = some (.int .u8)) (hc : P.cellsOf e = 1) (hbz : P.bytesOf e = 1)
    {r : Reach} {b0 : Nat} {v : Value} {d : DataW H} {p : List MemPlace} (hval : Value.okWide P W r b0 t v) (hd : DataW.Trod enc P W 0 (fun _ => true) true t v d p)
    {ts : List TypeId} {ds : List (DataW H)} (hsz : (DataW.weightsEach P ts ds).all (· ≤ reachBytes) = true) {j : Nat} (hj : ts[j]? = some t) (hjd : ds[j]? = some d) :
    ∃ (a : Option Addr) (len cap : Nat) (x : ByteArray), v = .slice a len cap ∧ x.size = len ∧ x.size ≤ 140737488351232 ∧
      ((a = none ∧ len = 0 ∧ cap = 0) ∨ ∃ ad, a = some ad ∧ len ≤ cap ∧ cap ≤ 140737488351232 ∧ (0 < len → ∃ b off, ad = ⟨b, off, none⟩ ∧ b < W.heap.size ∧ ∀ i, i < len → W.cell? ⟨b, off + i, none⟩ = some (.int .u8 (B x i)))) ∧
      ∀ W', Ext W W' → ∀ dst, P.underlying dst = some .string → (convert t dst (.slice a len cap)).run P W' = .ok (.string x) W' := by
  have hd0 := hd
  obtain ⟨a, len, cap, rfl⟩ := okWide_slice ht hval
  obtain ⟨fuel, hf⟩ := hd
  have hlt : ∀ q ∈ p, q.block < W.heap.size := DataW.trod_lt _ _ _ _ hf
  rcases open_ints ht he hc hf with ⟨hcs, hx⟩ | ⟨a', l', c', zs, hcs, _, hl, hm, hz, hx, hcell, hwz⟩
  · simp [Value.cells] at hcs
    obtain ⟨rfl, rfl, rfl⟩ := hcs
    exact ⟨none, 0, 0, ByteArray.empty, rfl, rfl, by decide, .inl ⟨rfl, rfl, rfl⟩, fun W' _ dst hdst => run_convert_bytes_nil W' t e ht he 0 0 dst hdst⟩
  · simp [Value.cells] at hcs
    obtain ⟨rfl, rfl, rfl⟩ := hcs
    simp only [Prod.mk.injEq] at hx
    obtain ⟨rfl, rfl⟩ := hx
    have hz' : zs.length = cap := by simpa using hz
    have hw := sized_slice hsz hj hjd ht
    have h2 : (zs.take len).length + (zs.drop len).length = zs.length := by simp; omega
    have h3 : zs.length ≤ 140737488351232 := by
      have : (lits .u8 (zs.take len) : List (DataW H)).length + (lits .u8 (zs.drop len) : List (DataW H)).length = zs.length := by simpa [lits] using h2
      rw [this, hbz] at hw
      simpa [reachBytes] using hw
    refine ⟨some a', len, cap, strOfNums (zs.take len), rfl, ?_, ?_, ?_, ?_⟩
    · rw [strOfNums_size]; simp; omega
    · rw [strOfNums_size]; simp; omega
    · refine .inr ⟨a', rfl, hl, by omega, fun hpos => ?_⟩
      obtain ⟨b, off, spot⟩ := a'
      have h0 := hcell 0 (by omega)
      have hspot : spot = none := by simpa [Addr.add] using World.cell?_spot h0
      subst hspot
      refine ⟨b, off, rfl, ?_, fun i hi => ?_⟩
      · exact hlt (.cell b off) (by rw [MemPlace.row]; exact List.mem_map.2 ⟨0, by simp; omega, by simp⟩)
      · have h1 := hcell i (by omega)
        have e1 : (⟨b, off, none⟩ : Addr).add i = ⟨b, off + i, none⟩ := by unfold Addr.add; split <;> simp_all
        rw [e1] at h1
        rw [h1]
        have hw1 := hwz (zs.getD i 0) (by rw [List.getD_eq_getElem?_getD, List.getElem?_eq_getElem (by omega)]; exact List.getElem_mem _)
        have e2 := toNat_wf hw1
        rw [B_strOfNums, if_pos (by simp; omega), show (zs.take len).getD i 0 = zs.getD i 0 from by simp [List.getD_eq_getElem?_getD, hi]]
        have : ((UInt8.ofNat (zs.getD i 0).toNat).toNat : Int) = zs.getD i 0 := by
          rw [UInt8.toNat_ofNat_of_lt' (by show _ < 256; omega)]; omega
        rw [this]
    · intro W' hx dst hdst
      by_cases hpos : 0 < len
      · obtain ⟨b, off, spot⟩ := a'
        have h0 := hcell 0 (by omega)
        have hspot : spot = none := by simpa [Addr.add] using World.cell?_spot h0
        subst hspot
        refine run_convert_bytes_arg W' t e ht he b off len cap (zs.take len) (by simp; omega) (fun i hi => ?_) dst hdst
        have h1 := hcell i (by omega)
        have e1 : (⟨b, off, none⟩ : Addr).add i = ⟨b, off + i, none⟩ := by unfold Addr.add; split <;> simp_all
        rw [e1] at h1
        have hb : b < W.heap.size := hlt (.cell b off) (by rw [MemPlace.row]; exact List.mem_map.2 ⟨0, by simp; omega, by simp⟩)
        rw [hx.cell (by exact hb), h1]
        simp only [List.getD_eq_getElem?_getD, List.getElem?_take, hi, if_true]
      · obtain rfl : len = 0 := by omega
        rw [run_convert_bytes_string W' t dst e _ 0 cap ht he hdst, run_bytesToString W' _ 0 cap [] (by simp [loadCells, loadCellsFrom])]
        rfl
end Go.Proofs.YtpdoddelnahlnaaDoor
