/-
  Several texts joined: Law, LawR, LawW, NoGo.
-/
import Derived.ProofKit
import Derived.SizedLaws
import Derived.ShutString
import Derived.ChangeOld
import Derived.Below
import Derived.Lib.SmallJoins
import Derived.Test.YtmdlgfnibjcgmaaGreatDoorK01
import Derived.Deep.DeepHandedRow
import Derived.Lib.LaidTab
import Derived.Test.YtmdlgfnibjcgmaaGreatDoorK07
import Derived.Test.YtmdlgfnibjcgmaaGreatDoorK17
import Derived.Deep.DeepWitnessRowRef
import Derived.Stop.LaidErr
import Derived.Deep.DeepLaidRun
import Derived.Test.YtmdlgfnibjcgmaaGreatDoorCards
import Derived.Test.YtmdlgfnibjcgmaaGreatDoorTie
import Derived.Test.YtmdlgfnibjcgmaaGreatDoorProg
import Derived.KernelRfl
import GoSem.ClaimGoes
set_option maxRecDepth 100000
namespace Go.Proofs.YtmdlgfnibjcgmaaGreatDoor
open Go.ChangeShapes Go.WideShapes Go.ChangeAt Go.RowKit
theorem trodAll_carry {H : Type} {enc : TypeId × Value -> H} {P : Program} (hl : laidOutB P = true) {W W' : World} (hb : Below W.heap.size W W') :
  ∀ (ts : List TypeId) (vs : List Value) (ds : List (DataW H)) (ps : List MemPlace),
   ts.all (fun t => P.readableRec t && decide (t < P.types.size)) = true ->
   DataW.TrodAll enc P W 0 (fun _ => true) true ts vs ds ps ->
   DataW.TrodAll enc P W' 0 (fun b => decide (b < W.heap.size)) true ts vs ds ps
 | [], vs, ds, ps, _, h => by
  obtain ⟨rfl, rfl, rfl⟩ := trodAll_nil h
  exact trodAll_mk0
 | t :: ts, vs, ds, ps, hr, h => by
  obtain ⟨v, vs', d, ds', p, q, rfl, rfl, rfl, h1, h2⟩ := trodAll_cons h
  simp only [List.all_cons, Bool.and_eq_true, decide_eq_true_eq] at hr
  have hlt : ∀ x ∈ p, x.block < W.heap.size := by obtain ⟨m, hm⟩ := h1; exact DataW.trod_lt m _ _ _ hm
  exact trodAll_cons_mk (Below.trod hl hr.1.1 hr.1.2 h1 hb hlt) (trodAll_carry hl hb ts vs' ds' q (by simpa using hr.2) h2)
theorem law_lifted {C : Checked} {os : Os} {H : Type} {enc : TypeId × Value -> H} (own : ownKnob C.prog.godebug = none) (hl : laidOutB C.prog = true) (started : os.Started)
  {f : FuncId} {fn : Func} (s : ChangeSpec) (noInit : C.prog.inits.idxOf? f = none) (hfn : C.prog.funcs[f]? = some fn)
  (hsv : s.vars = []) (tb : TypeId) (hres : fn.resultTypes = #[tb]) (htb : C.prog.underlying tb = some .bool)
  (hread : fn.params.toList.all (fun t => C.prog.readableRec t && decide (t < C.prog.types.size)) = true)
  (n : Nat) (hn : fn.params.size = n)
  (hspec : ∀ ds : List (DataW H), ds.length = n -> s.fn H ds = { results := [.lit (.bool true)], args := ds })
  (witness : ∃ (w : World) (tape : Tape) (i : Input), w.os = os /\ (w.forCall tape i).Shaped C.prog /\ i.vars = [] /\ Input.okWide C.prog (w.forCall tape i) .any w.heap.size f i /\
   s.pre6 enc C.prog fn [] false (w.forCall tape i).memory i.args /\ (({} : Assume)).holds C.prog (lone (Frame.enter C.prog f i.args .normal) [] (w.forCall tape i)))
  (contract : ∀ (W : World) (base : Nat) (args : List Value) (ds : List (DataW H)) (ps : List MemPlace),
   (∀ (j : Nat) t v, fn.params[j]? = some t -> args[j]? = some v -> Value.okWide C.prog W .any base t v) ->
   DataW.TrodAll enc C.prog W 0 (fun _ => true) true fn.params.toList args ds ps ->
   (DataW.weightsEach C.prog fn.params.toList ds).all (· <= reachBytes) = true ->
   Calls C.prog f args.toArray W fun e W' => e = .returned (.bool true) /\ Below W.heap.size W W') :
  ReturnsInHanded {} C os f .any (s.pre6 enc C.prog fn [] false) (s.post enc C.prog fn false true false false) := by
 refine returnsInHanded_of_change_sized own started noInit hfn witness ?_
 intro W base args ds gs before hval hW _ hsz _
 have hW' := hW
 obtain ⟨p, q, hA, hV, rfl, hfz, hnd⟩ := hW
 rw [hsv] at hV
 obtain ⟨rfl, rfl⟩ := trodVars_none hV
 have hlen : ∀ (ts : List TypeId) (vs : List Value) (ds : List (DataW H)) (ps : List MemPlace), DataW.TrodAll enc C.prog W 0 (fun _ => true) true ts vs ds ps -> ds.length = ts.length := by
  intro ts
  induction ts with
  | nil => intro vs ds ps h; obtain ⟨_, rfl, _⟩ := trodAll_nil h; rfl
  | cons t ts ih => intro vs ds ps h; obtain ⟨v, vs', d, ds', p, q, rfl, rfl, rfl, h1, h2⟩ := trodAll_cons h; simp [ih _ _ _ h2]
 have hl2 := hlen _ _ _ _ hA
 have hsp := hspec ds (by rw [hl2]; simpa using hn)
 have hsz' : (DataW.weightsEach C.prog fn.params.toList ds).all (· <= reachBytes) = true := by
  have : s.plain.varTypes C.prog = [] := by simp [ChangeSpec.plain, DataSpec.varTypes, hsv]
  rw [this] at hsz
  simpa using hsz
 have hc := contract W base args.toList ds p (fun j t v h1 h2 => hval j t v h1 (by simpa using h2)) hA hsz'
 rw [Array.toArray_toList] at hc
 refine hc.mono fun e W' ⟨he, bel⟩ => ?_
 subst he
 refine ⟨_, rfl, ds, [], _, [], p, [], hW', ?_, ?_, ?_, bel.frame _, fun h => by cases h⟩
 ·rw [List.append_nil, hsp, hres]; exact trodAll_mk1 (shut_bool htb _)
 ·rw [List.append_nil, hsp]; exact trodAll_carry hl bel _ _ _ _ hread hA
 ·rw [List.append_nil, hsp, hsv]; rfl
theorem toNat_wf {n : Int} (h : (Lit.int .u8 n).wf = true) : 0 <= n /\ n < 256 := by
 simp [Lit.wf, IntKind.min, IntKind.max, IntKind.signed, IntKind.bits] at h
 omega
theorem B_strOfNums (xs : List Int) (i : Nat) : B (strOfNums xs) i = if i < xs.length then ((UInt8.ofNat (xs.getD i 0).toNat).toNat : Int) else 0 := by
 unfold B
 rw [strOfNums_data, List.getD_eq_getElem?_getD, List.getElem?_map, List.getD_eq_getElem?_getD]
 by_cases h : i < xs.length
 ·rw [if_pos h, List.getElem?_eq_getElem h]; rfl
 ·rw [if_neg h, List.getElem?_eq_none (by omega)]; rfl
theorem open_bytes {H : Type} {enc : TypeId × Value -> H} {P : Program} {W : World} {t e : TypeId} (ht : P.underlying t = some (.slice e)) (he : P.underlying e = some (.int .u8)) (hc : P.cellsOf e = 1) (hbz : P.bytesOf e = 1)
  {r : Reach} {b0 : Nat} {v : Value} {d : DataW H} {p : List MemPlace} (hval : Value.okWide P W r b0 t v) (hd : DataW.Trod enc P W 0 (fun _ => true) true t v d p)
  {ts : List TypeId} {ds : List (DataW H)} (hsz : (DataW.weightsEach P ts ds).all (· <= reachBytes) = true) {j : Nat} (hj : ts[j]? = some t) (hjd : ds[j]? = some d) :
  ∃ (a : Option Addr) (len cap : Nat) (x : ByteArray), v = .slice a len cap /\ x.size = len /\ x.size <= 140737488351232 /\
   ((a = none /\ len = 0 /\ cap = 0) ∨ ∃ ad, a = some ad /\ len <= cap /\ cap <= 140737488351232 /\ (0 < len -> ∃ b off, ad = ⟨b, off, none⟩ /\ b < W.heap.size /\ ∀ i, i < len -> W.cell? ⟨b, off + i, none⟩ = some (.int .u8 (B x i)))) /\
   ∀ W', Ext W W' -> ∀ dst, P.underlying dst = some .string -> (convert t dst (.slice a len cap)).run P W' = .ok (.string x) W' := by
 have hd0 := hd
 obtain ⟨a, len, cap, rfl⟩ := okWide_slice ht hval
 obtain ⟨fuel, hf⟩ := hd
 have hlt : ∀ q ∈ p, q.block < W.heap.size := DataW.trod_lt _ _ _ _ hf
 rcases open_ints ht he hc hf with ⟨hcs, hx⟩ | ⟨a', l', c', zs, hcs, _, hl, hm, hz, hx, hcell, hwz⟩
 ·simp [Value.cells] at hcs
  obtain ⟨rfl, rfl, rfl⟩ := hcs
  exact ⟨none, 0, 0, ByteArray.empty, rfl, rfl, by decide, .inl ⟨rfl, rfl, rfl⟩, fun W' _ dst hdst => run_convert_bytes_nil W' t e ht he 0 0 dst hdst⟩
 ·simp [Value.cells] at hcs
  obtain ⟨rfl, rfl, rfl⟩ := hcs
  simp only [Prod.mk.injEq] at hx
  obtain ⟨rfl, rfl⟩ := hx
  have hz' : zs.length = cap := by simpa using hz
  have hw := sized_slice hsz hj hjd ht
  have h2 : (zs.take len).length + (zs.drop len).length = zs.length := by simp; omega
  have h3 : zs.length <= 140737488351232 := by
   have : (lits .u8 (zs.take len) : List (DataW H)).length + (lits .u8 (zs.drop len) : List (DataW H)).length = zs.length := by simpa [lits] using h2
   rw [this, hbz] at hw
   simpa [reachBytes] using hw
  refine ⟨some a', len, cap, strOfNums (zs.take len), rfl, ?_, ?_, ?_, ?_⟩
  ·rw [strOfNums_size]; simp; omega
  ·rw [strOfNums_size]; simp; omega
  ·refine .inr ⟨a', rfl, hl, by omega, fun hpos => ?_⟩
   obtain ⟨b, off, spot⟩ := a'
   have h0 := hcell 0 (by omega)
   have hspot : spot = none := by simpa [Addr.add] using World.cell?_spot h0
   subst hspot
   refine ⟨b, off, rfl, ?_, fun i hi => ?_⟩
   ·exact hlt (.cell b off) (by rw [MemPlace.row]; exact List.mem_map.2 ⟨0, by simp; omega, by simp⟩)
   ·have h1 := hcell i (by omega)
    have e1 : (⟨b, off, none⟩ : Addr).add i = ⟨b, off + i, none⟩ := by unfold Addr.add; split <;> simp_all
    rw [e1] at h1
    rw [h1]
    have hw1 := hwz (zs.getD i 0) (by rw [List.getD_eq_getElem?_getD, List.getElem?_eq_getElem (by omega)]; exact List.getElem_mem _)
    have e2 := toNat_wf hw1
    rw [B_strOfNums, if_pos (by simp; omega), show (zs.take len).getD i 0 = zs.getD i 0 from by simp [List.getD_eq_getElem?_getD, hi]]
    have : ((UInt8.ofNat (zs.getD i 0).toNat).toNat : Int) = zs.getD i 0 := by
     rw [UInt8.toNat_ofNat_of_lt' (by show _ < 256; omega)]; omega
    rw [this]
  ·intro W' hx dst hdst
   by_cases hpos : 0 < len
   ·obtain ⟨b, off, spot⟩ := a'
    have h0 := hcell 0 (by omega)
    have hspot : spot = none := by simpa [Addr.add] using World.cell?_spot h0
    subst hspot
    refine run_convert_bytes_arg W' t e ht he b off len cap (zs.take len) (by simp; omega) (fun i hi => ?_) dst hdst
    have h1 := hcell i (by omega)
    have e1 : (⟨b, off, none⟩ : Addr).add i = ⟨b, off + i, none⟩ := by unfold Addr.add; split <;> simp_all
    rw [e1] at h1
    have hb : b < W.heap.size := hlt (.cell b off) (by rw [MemPlace.row]; exact List.mem_map.2 ⟨0, by simp; omega, by simp⟩)
    rw [hx.cell (by exact hb), h1]
    simp only [List.getD_eq_getElem?_getD, List.getElem?_take, hi, if_true]
   ·obtain rfl : len = 0 := by omega
    rw [run_convert_bytes_string W' t dst e _ 0 cap ht he hdst, run_bytesToString W' _ 0 cap [] (by simp [loadCells, loadCellsFrom])]
    rfl
open Go.ChangeShapes Go.WideShapes Go.ChangeAt Go.RowKit
theorem law_liftedR {C : Checked} {os : Os} {H : Type} {enc : TypeId × Value -> H} (own : ownKnob C.prog.godebug = none) (hl : laidOutB C.prog = true) (started : os.Started)
  {f : FuncId} {fn : Func} (s : ChangeSpec) (so : OpenSpec) (hso : ∃ c, so = { OpenSpec.ofChange s with cond := c }) {F : Stop.Interp} {laid : List (String × DataW Unit)} (noInit : C.prog.inits.idxOf? f = none) (hfn : C.prog.funcs[f]? = some fn)
  (hsv : s.vars = []) (tb : TypeId) (hres : fn.resultTypes = #[tb]) (htb : C.prog.underlying tb = some .bool)
  (hread : fn.params.toList.all (fun t => C.prog.readableRec t && decide (t < C.prog.types.size)) = true)
  (n : Nat) (hn : fn.params.size = n)
  (hspec : ∀ ds : List (DataW H), ds.length = n -> s.fn H ds = { results := [.lit (.bool true)], args := ds })
  (witness : ∃ (w : World) (tape : Tape) (i : Input), w.os = os /\ (w.forCall tape i).Shaped C.prog /\ i.vars = [] /\ Input.okWide C.prog (w.forCall tape i) .any w.heap.size f i /\
   so.preRow enc C.prog fn [] false laid (w.forCall tape i).memory i.args /\ (({} : Assume)).holds C.prog (lone (Frame.enter C.prog f i.args .normal) [] (w.forCall tape i)))
  (contract : ∀ (W : World) (base : Nat) (args : List Value) (ds : List (DataW H)) (ps : List MemPlace),
   (∀ (j : Nat) t v, fn.params[j]? = some t -> args[j]? = some v -> Value.okWide C.prog W .any base t v) ->
   DataW.TrodAll enc C.prog W 0 (fun _ => true) true fn.params.toList args ds ps ->
   (DataW.weightsEach C.prog fn.params.toList ds).all (· <= reachBytes) = true ->
   (∀ k, so.cond = some k -> k H (ds ++ []) = true) ->
   laidMetH C.prog laid W -> W.ShapedOpen C.prog ->
   Calls C.prog f args.toArray W fun e W' => e = .returned (.bool true) /\ Below W.heap.size W W') :
  ReturnsInHanded {} C os f .any (so.preRow enc C.prog fn [] false laid) ((so.at F).post enc C.prog fn false true false false) := by
 obtain ⟨c, rfl⟩ := hso
 refine returnsInHanded_of_row own started noInit hfn witness ?_
 intro W base args ds gs before hval hW _ hcond hsz hL hsh _
 have hW' := hW
 obtain ⟨p, q, hA, hV, rfl, hfz, hnd⟩ := hW
 have hV2 : DataW.TrodVars enc C.prog W (fun _ => true) s.vars gs q := hV
 rw [hsv] at hV2
 obtain ⟨rfl, rfl⟩ := trodVars_none hV2
 have hlen : ∀ (ts : List TypeId) (vs : List Value) (ds : List (DataW H)) (ps : List MemPlace), DataW.TrodAll enc C.prog W 0 (fun _ => true) true ts vs ds ps -> ds.length = ts.length := by
  intro ts
  induction ts with
  | nil => intro vs ds ps h; obtain ⟨_, rfl, _⟩ := trodAll_nil h; rfl
  | cons t ts ih => intro vs ds ps h; obtain ⟨v, vs', d, ds', p, q, rfl, rfl, rfl, h1, h2⟩ := trodAll_cons h; simp [ih _ _ _ h2]
 have hl2 := hlen _ _ _ _ hA
 have hsp := hspec ds (by rw [hl2]; simpa using hn)
 have hsz' : (DataW.weightsEach C.prog fn.params.toList ds).all (· <= reachBytes) = true := by
  have e : ∀ k, DataSpec.varTypes C.prog (({ OpenSpec.ofChange s with cond := k } : OpenSpec).bare.plain) = [] := fun k => by
   unfold DataSpec.varTypes; show s.vars.filterMap _ = []; rw [hsv]; rfl
  rw [e] at hsz
  simpa using hsz
 have hc := contract W base args.toList ds p (fun j t v h1 h2 => hval j t v h1 (by simpa using h2)) hA hsz' (fun k hk => hcond k hk) hL hsh
 rw [Array.toArray_toList] at hc
 refine hc.mono fun e W' ⟨he, bel⟩ => ?_
 subst he
 have hW2 : DataW.Whole enc C.prog fn.params.toList s.vars false W args.toList ds [] (p ++ []) := hW'
 refine ⟨_, rfl, ds, [], _, [], p, [], hW', ?_, ?_, ?_, bel.frame _, fun h => by cases h⟩
 ·rw [List.append_nil]
  show DataW.TrodAll enc C.prog W' W.heap.size (fun _ => false) false fn.resultTypes.toList _ (s.fn H ds).results _
  rw [hsp, hres]; exact trodAll_mk1 (shut_bool htb _)
 ·rw [List.append_nil]
  show DataW.TrodAll enc C.prog W' 0 _ true fn.params.toList _ (s.fn H ds).args _
  rw [hsp]; exact trodAll_carry hl bel _ _ _ _ hread hA
 ·rw [List.append_nil]
  show DataW.TrodVars enc C.prog W' _ s.vars (s.fn H ds).vars _
  rw [hsp, hsv]; rfl
open Go.ChangeShapes Go.WideShapes Go.ChangeAt Go.RowKit
theorem gMax : Tryz.prog.globalNamed "internal/bytealg.MaxLen" = some 2 := by kernel_rfl
theorem gP10 : Tryz.prog.globalNamed "internal/strconv.uint64pow10" = some 3 := by kernel_rfl
theorem gP10t : (Tryz.prog.globals[3]?).map (·.type) = some 399 := by kernel_rfl
theorem gTz : Tryz.prog.globalNamed "math/bits.deBruijn64tab" = some 5 := by kernel_rfl
theorem gTzt : (Tryz.prog.globals[5]?).map (·.type) = some 467 := by kernel_rfl
theorem cells96 : Tryz.prog.cellsOf 399 = 20 := by kernel_rfl
theorem cells123 : Tryz.prog.cellsOf 467 = 64 := by kernel_rfl
theorem cellsU64 : Tryz.prog.cellsOf 28 = 1 := by kernel_rfl
theorem cellsU8 : Tryz.prog.cellsOf 5 = 1 := by kernel_rfl
def tzTab : List Int := [0, 1, 56, 2, 57, 49, 28, 3, 61, 58, 42, 50, 38, 29, 17, 4, 62, 47, 59, 36, 45, 43, 51, 22, 53, 39, 33, 30, 24, 18, 12, 5, 63, 55, 48, 27, 60, 41, 37, 16, 46, 35, 44, 21, 52, 32, 23, 11, 54, 26, 40, 15, 34, 20, 31, 10, 25, 14, 19, 9, 13, 8, 7, 6]
theorem env_of_shaped {W : World} (h : W.ShapedOpen Tryz.prog) : Env W :=
 cell_of_shapedOpen_int (zero := #[.int .i64 0]) (t := 3) h (of_decide_eq_true (by kernel_rfl)) (by kernel_rfl) rfl (by kernel_rfl) (by kernel_rfl) Tryz.underlying3
theorem laid_open {W : World} (h : laidMetH Tryz.prog Rows.scriptValidatesRow.laid W) : laidMet Tryz.prog Rows.scriptValidatesRow.laid W := h
theorem tabs_of_laid {W : World} (h : laidMetH Tryz.prog Rows.scriptValidatesRow.laid W) : Tabs W := by
 have h1 : laidMet Tryz.prog (("math/bits.deBruijn64tab", Lib.tabData .u8 tzTab) :: ("internal/strconv.uint64pow10", Lib.tabData .u64 Lib.pow10Tab) :: Rows.scriptValidatesRow.laid.drop 3) W := (laid_open h).tail
 have a := Lib.tabIs_of_head gTz gTzt Tryz.underlying467 Tryz.underlying5 cellsU8 cells123 h1
 have b := Lib.tabIs_of_head gP10 gP10t Tryz.underlying399 Tryz.underlying28 cellsU64 cells96 h1.tail
 have c : W.cell? ⟨5, 15, none⟩ = some (.int .u8 (tzTab.getD 15 0)) := a.cell gTz 15 (of_decide_eq_true (by kernel_rfl))
 exact ⟨c, b⟩
def flatCells : DataW Unit -> List Value
 | .lit (.int k z) => [.int k z]
 | .agg xs => flats xs
 | _ => []
where flats : List (DataW Unit) -> List Value
 | [] => []
 | x :: xs => flatCells x ++ flats xs
def rangeText : ByteArray := ⟨#[118, 97, 108, 117, 101, 32, 111, 117, 116, 32, 111, 102, 32, 114, 97, 110, 103, 101]⟩
def syntaxText : ByteArray := ⟨#[105, 110, 118, 97, 108, 105, 100, 32, 115, 121, 110, 116, 97, 120]⟩
def setCells (cs : List Value) : Obj -> Obj
 | .cells _ t f => .cells cs.toArray t f
 | o => o
noncomputable def laidWorld (os : Os) (extra : Array Obj) : World :=
 let w0 := World.holding Tryz.prog os ⟨extra ++ #[.cells #[.string rangeText] 561, .cells #[.string syntaxText] 561], #[], []⟩
 let low := (World.settled Tryz.prog os).heap.size + extra.size
 { w0 with heap := ((((((w0.heap.modify 4 (setCells (flatCells Rows.laid_math_bits_deBruijn32tab))).modify 5 (setCells (flatCells Rows.laid_math_bits_deBruijn64tab))).modify 3 (setCells (flatCells Rows.laid_internal_strconv_uint64pow10))).modify 1 (setCells (flatCells Rows.laid_unicode_utf8_acceptRanges))).modify 0 (setCells (flatCells Rows.laid_unicode_utf8_first))).modify 7 (setCells [.iface 559 (.pointer (some ⟨low, 0, none⟩))])).modify 6 (setCells [.iface 559 (.pointer (some ⟨low + 1, 0, none⟩))]) }
theorem laid_met (os : Os) (args : Array Value) : laidMet Tryz.prog Rows.scriptValidatesRow.laid ((laidWorld os #[]).forCall (fun _ _ => 0) ⟨#[], args, []⟩).memory :=
 laidMet_of_run3 8 (by kernel_rfl) (by kernel_rfl) (by kernel_rfl)
theorem goes_none {P : Program} (h : (P.funcs.toList.all fun f => !f.goes) = true) (f : FuncId) : P.goes f = false := by
 have hf : ∀ (g : Nat) (fn : Func), P.funcs[g]? = some fn -> fn.goes = false := fun g fn hg => by
  have := List.all_eq_true.1 h fn (by simpa using Array.mem_of_getElem? hg)
  simpa using this
 have h1 : ∀ l : List FuncId, (l.any fun g => (P.funcs[g]?).any Func.goes) = false := fun l => by
  rw [List.any_eq_false]
  intro g _
  cases hg : P.funcs[g]? with
  | none => simp
  | some fn => simp [hf g fn hg]
 have h2 : P.funcs.any Func.goes = false := by
  rw [← Array.any_toList, List.any_eq_false]
  intro fn hm
  have := List.all_eq_true.1 h fn hm
  simpa using this
 unfold Program.goes
 rw [h2, Bool.and_false, Bool.or_false]
 first
  | exact h1 _
  | (rw [← Array.any_toList]; exact h1 _)
theorem goesAt_none {P : Program} (h : (P.funcs.toList.all fun f => !f.goes) = true) (s : Start) (f : String) : P.goesAt s f = false := by
 have h1 : P.goesFrom f = false := by
  unfold Program.goesFrom
  cases P.funcNamed f with
  | none => rfl
  | some g => exact goes_none h g
 unfold Program.goesAt
 rw [h1, Bool.false_or]
 have h2 : P.inits.toList.any P.goes = false := by
  rw [List.any_eq_false]
  intro g _
  rw [goes_none h g]; simp
 cases s <;> first | rfl | exact h2
theorem noGo : (Tryz.prog.funcs.toList.all fun f => !f.goes) = true := by kernel_rfl
theorem goesBy_none (c : OpenClaim) : c.goesBy Tryz.prog = false := goesAt_none noGo c.start c.func
end Go.Proofs.YtmdlgfnibjcgmaaGreatDoor
