/-
  Several texts joined: IpO, ScC.
-/
import Derived.Lib.LaidTab
import Derived.ChangeSame
import Derived.WideShapes
import Derived.Test.YtmdlgfnibjcgmaaGreatDoorK02
import Derived.SizedLaws
import Derived.Test.YtmdlgfnibjcgmaaGreatDoorK03
set_option maxRecDepth 100000
set_option linter.unusedVariables false
set_option linter.unusedSimpArgs false
namespace Go.Proofs.YtmdlgfnibjcgmaaGreatDoor
open Go.RowKit Go.ChangeShapes Go.WideShapes
section
variable {H : Type} {enc : TypeId × Value -> H} {W : World} {base : Nat} {sp : Nat -> Bool} {held : Bool} {r : Reach} {b0 : Nat}
theorem cells_ints {P : Program} {fuel : Nat} {t e : TypeId} {n : Nat} {k : IntKind} {cs : List Value} {x : DataW H × List MemPlace}
  (ht : P.underlying t = some (.array n e)) (he : P.underlying e = some (.int k)) (hce : P.cellsOf e = 1) (hct : P.cellsOf t = n)
  (h : DataW.trod enc P W base sp held fuel t cs = some x) : ∃ zs : List Int, cs = zs.map (Value.int k) /\ zs.length = n /\ ∀ z ∈ zs, (Lit.int k z).wf = true := by
 cases fuel with
 | zero => simp [DataW.trod] at h
 | succ fuel =>
  simp only [DataW.trod, ht, hce, hct, Nat.mul_one] at h
  split at h
  ·rename_i hl
   obtain ⟨xs, hm, hx⟩ := Option.map_eq_some_iff.1 h
   have key : ∀ i, i < n -> ∃ z, cs[i]? = some (.int k z) /\ (Lit.int k z).wf = true := by
    intro i hi
    obtain ⟨b, hb, hf⟩ := Lib.mapM_at hm i i (by simp [hi])
    obtain ⟨z, hc, rfl, hw⟩ := DataW.trod_int he hf
    have h1 : cs[i]? = some (.int k z) := by
     have := congrArg (·[0]?) hc
     simpa [List.getElem?_take, List.getElem?_drop] using this
    exact ⟨z, h1, hw⟩
   have hl' : cs.length = n := by simpa using hl
   refine ⟨cs.map fun v => match v with | .int _ z => z | _ => 0, ?_, by simpa using hl', ?_⟩
   ·apply List.ext_getElem?
    intro i
    rcases Nat.lt_or_ge i n with hi | hi
    ·obtain ⟨z, hz, _⟩ := key i hi
     simp [hz]
    ·simp [List.getElem?_eq_none (show cs.length <= i by omega)]
   ·intro z hz
    obtain ⟨v, hv, rfl⟩ := List.mem_map.1 hz
    obtain ⟨i, hi, rfl⟩ := List.getElem_of_mem hv
    obtain ⟨z, hz, hw⟩ := key i (by omega)
    rw [List.getElem?_eq_getElem hi] at hz
    rw [Option.some.inj hz]
    exact hw
  ·cases h
theorem cells_A : Tryz.prog.cellsOf 72 = 17 := by kernel_rfl
theorem cells_16 : Tryz.prog.cellsOf 70 = 16 := by kernel_rfl
theorem cells_b : Tryz.prog.cellsOf 4 = 1 := by kernel_rfl
theorem cells_u8 : Tryz.prog.cellsOf 5 = 1 := by kernel_rfl
theorem open_A {v : Value} {d : DataW H} {p : List MemPlace} (hv : Value.okWide Tryz.prog W r b0 72 v) (h : DataW.Trod enc Tryz.prog W base sp held 72 v d p) :
  ∃ a : Adr, okA a /\ v = av a := by
 obtain ⟨cs, rfl, hsz⟩ := okWide_struct Tryz.underlying72 hv
 obtain ⟨fuel, hf⟩ := h
 obtain ⟨y0, y1, n, -, hl, h0, h1⟩ := trod_struct2 Tryz.underlying72 hf
 obtain ⟨b, hb, -⟩ := DataW.trod_bool Tryz.underlying4 h0
 obtain ⟨zs, hz, hzl, hzw⟩ := cells_ints Tryz.underlying70 Tryz.underlying5 cells_u8 cells_16 h1
 rw [cells_A] at hsz
 have hc : (Value.agg cs).cells = cs := rfl
 rw [hc] at hb hz
 simp only [cells_b, cells_16] at hb hz
 refine ⟨(b, zs), ⟨hzl, fun x hx => ?_⟩, ?_⟩
 ·have := hzw x hx
  simp only [Lit.wf, Bool.and_eq_true, decide_eq_true_eq, IntKind.min, IntKind.max, IntKind.bits, IntKind.signed] at this
  simp at this
  omega
 ·unfold av ac
  congr 1
  apply Array.ext'
  have e : cs.toList = cs.toList.take 1 ++ cs.toList.drop 1 := (List.take_append_drop 1 _).symm
  rw [e]
  have h16 : (cs.toList.drop 1).take 16 = cs.toList.drop 1 := List.take_of_length_le (by simp; omega)
  rw [h16] at hz
  rw [hz]
  have hb' : cs.toList.take 1 = [.bool b] := by simpa using hb
  rw [hb']; rfl
end
open Go.RowKit Go.ChangeShapes Go.WideShapes
def evl (e : Ev) (sl : Value) : List Value := [.int .i64 e.k, .int .i64 e.c, .int .i64 e.a, .int .u64 e.n, .bool e.v6, .int .i64 e.r, .string e.d, sl]
theorem evl_len (e : Ev) (sl : Value) : (evl e sl).length = 8 := rfl
def okE (e : Ev) : Prop := okEv e /\ e.d.size <= maxLen /\ e.ads.length <= maxLen
def AdsIn (w : World) (sl : Value) (l : List Adr) : Prop :=
 ∃ (a : Option Addr) (cap : Nat), sl = .slice a l.length cap /\ l.length <= cap /\ (∀ x ∈ l, okA x) /\ (0 < l.length -> ∃ b off, a = some ⟨b, off, none⟩ /\ b < w.heap.size /\ ∀ i x, l[i]? = some x -> w.rangeAt b (off + i * 17) (ac x).toList)
def EvsIn (w : World) (sl : Value) (es : List Ev) : Prop :=
 ∃ (a : Option Addr) (cap : Nat), sl = .slice a es.length cap /\ es.length <= cap /\ (0 < es.length -> ∃ b off, a = some ⟨b, off, none⟩ /\ b < w.heap.size) /\
  ∀ i e, es[i]? = some e -> okE e /\ ∃ v, AdsIn w v e.ads /\ ∀ b off, a = some ⟨b, off, none⟩ -> w.rangeAt b (off + i * 8) (evl e v)
theorem rangeAt_ext {w w' : World} {b k : Nat} {cs : List Value} (h : w.rangeAt b k cs) (hb : b < w.heap.size) (hx : Ext w w') : w'.rangeAt b k cs := fun j u hj => by
 rw [hx.cell (show (⟨b, k + j, none⟩ : Addr).block < _ from hb)]; exact h j u hj
theorem AdsIn.ext {w w' : World} {sl : Value} {l : List Adr} (h : AdsIn w sl l) (k : Ext w w') : AdsIn w' sl l := by
 obtain ⟨a, cap, h1, h2, h3, h4⟩ := h
 refine ⟨a, cap, h1, h2, h3, fun hp => ?_⟩
 obtain ⟨b, off, e, hb, hc⟩ := h4 hp
 exact ⟨b, off, e, Nat.lt_of_lt_of_le hb k.size, fun i x hi => rangeAt_ext (hc i x hi) hb k⟩
theorem EvsIn.ext {w w' : World} {sl : Value} {es : List Ev} (h : EvsIn w sl es) (k : Ext w w') : EvsIn w' sl es := by
 obtain ⟨a, cap, h1, h2, h3, h4⟩ := h
 refine ⟨a, cap, h1, h2, fun hp => ?_, fun i e hi => ?_⟩
 ·obtain ⟨b, off, e, hb⟩ := h3 hp
  exact ⟨b, off, e, Nat.lt_of_lt_of_le hb k.size⟩
 ·obtain ⟨ho, v, hv, hr⟩ := h4 i e hi
  refine ⟨ho, v, hv.ext k, fun b off ha => ?_⟩
  obtain ⟨b', off', e', hb⟩ := h3 (by have := (List.getElem?_eq_some_iff.1 hi).1; omega)
  rw [ha] at e'
  cases e'
  exact rangeAt_ext (hr b off ha) hb k
theorem cells_E : Tryz.prog.cellsOf 31 = 8 := by kernel_rfl
theorem cells_sA : Tryz.prog.cellsOf 29 = 1 := by kernel_rfl
theorem cells_i : Tryz.prog.cellsOf 3 = 1 := by kernel_rfl
theorem cells_u : Tryz.prog.cellsOf 28 = 1 := by kernel_rfl
theorem cells_s : Tryz.prog.cellsOf 9 = 1 := by kernel_rfl
theorem add_e (b off i : Nat) : (⟨b, off, none⟩ : Addr).add i = ⟨b, off + i, none⟩ := by unfold Addr.add; split <;> simp_all
section
variable {H : Type} {enc : TypeId × Value -> H} {W : World} {base : Nat} {sp : Nat -> Bool} {held : Bool}
theorem trod_A {cs : List Value} {fuel : Nat} {x : DataW H × List MemPlace} (hf : DataW.trod enc Tryz.prog W base sp held fuel 72 cs = some x) : ∃ q : Adr, okA q /\ cs = (ac q).toList := by
 obtain ⟨y0, y1, n, -, hl, h0, h1⟩ := trod_struct2 Tryz.underlying72 hf
 obtain ⟨b, hb, -⟩ := DataW.trod_bool Tryz.underlying4 h0
 obtain ⟨zs, hz, hzl, hzw⟩ := cells_ints Tryz.underlying70 Tryz.underlying5 cells_u8 cells_16 h1
 simp only [cells_b, cells_16, List.drop_zero] at hb hz
 have hlen : cs.length = 17 := by rw [hl]; exact cells_A
 refine ⟨(b, zs), ⟨hzl, fun x hx => ?_⟩, ?_⟩
 ·have := hzw x hx
  simp only [Lit.wf, Bool.and_eq_true, decide_eq_true_eq, IntKind.min, IntKind.max, IntKind.bits, IntKind.signed] at this
  simp at this
  omega
 ·unfold ac
  rw [List.take_of_length_le (by rw [List.length_drop, hlen]; decide)] at hz
  have e := (List.take_append_drop 1 cs).symm
  rw [hb, hz] at e
  rw [e]; rfl
theorem trod_As {cs : List Value} {fuel : Nat} {x : DataW H × List MemPlace} (hf : DataW.trod enc Tryz.prog W base sp held fuel 29 cs = some x) : ∃ (sl : Value) (l : List Adr), cs = [sl] /\ AdsIn W sl l /\ l.length <= maxLen := by
 rcases DataW.trod_slice Tryz.underlying29 hf with ⟨hcs, hx⟩ | ⟨a', len, cap, elems, rest, n, _, hcs, hx, _, hl, hm, hel, hcell, _, _⟩
 ·exact ⟨.slice none 0 0, [], hcs, ⟨none, 0, rfl, Nat.le_refl _, (by intro x h; cases h), fun h => absurd h (by simp)⟩, Nat.zero_le _⟩
 ·have each : ∀ i, i < len -> ∃ q : Adr, okA q /\ ∀ j u, (ac q).toList[j]? = some u -> W.cell? ((a'.add (i * 17)).add j) = some u := by
   intro i hi
   have h1 := hcell i hi
   rw [List.getElem?_eq_getElem (by omega), cells_A] at h1
   obtain ⟨cs', hc1, hc2⟩ := Option.bind_eq_some_iff.1 h1
   obtain ⟨_, hlen, hc⟩ := World.cells?_some hc1
   obtain ⟨q, hq, rfl⟩ := trod_A hc2
   refine ⟨q, hq, fun j u hj => ?_⟩
   have hjl := (List.getElem?_eq_some_iff.1 hj).1
   rw [hc j (by omega)]; exact hj
  have pick : ∃ l : List Adr, l.length = len /\ ∀ i q, l[i]? = some q -> okA q /\ ∀ j u, (ac q).toList[j]? = some u -> W.cell? ((a'.add (i * 17)).add j) = some u := by
   refine ⟨(List.range len).map fun i => if h : i < len then (each i h).choose else zadr, by simp, fun i q hq => ?_⟩
   rw [List.getElem?_map] at hq
   obtain ⟨i', hi', rfl⟩ := Option.map_eq_some_iff.1 hq
   obtain ⟨hlt, he⟩ := List.getElem?_eq_some_iff.1 hi'
   rw [List.length_range] at hlt
   rw [List.getElem_range] at he
   subst he
   rw [dif_pos hlt]
   exact (each i hlt).choose_spec
  obtain ⟨l, hll, hq⟩ := pick
  refine ⟨_, l, hcs, ⟨some a', cap, by rw [hll], by omega, fun x hx => ?_, fun hp => ?_⟩, by omega⟩
  ·obtain ⟨i, hi⟩ := List.mem_iff_getElem?.1 hx
   exact (hq i x hi).1
  ·obtain ⟨b, off, spot⟩ := a'
   obtain ⟨q, hq0⟩ : ∃ q, l[0]? = some q := ⟨l[0]'hp, List.getElem?_eq_getElem hp⟩
   have h0 := (hq 0 q hq0).2 0 _ (by show (ac q).toList[0]? = some (.bool q.1); rfl)
   have hspot : spot = none := by simpa [Addr.add] using World.cell?_spot h0
   subst hspot
   refine ⟨b, off, rfl, ?_, fun i x hi j u hj => ?_⟩
   ·rw [add_e, add_e] at h0
    exact World.block_lt_of_cell? W _ h0
   ·have := (hq i x hi).2 j u hj
    rw [add_e, add_e] at this
    exact this
theorem wf64 {z : Int} (h : (Lit.int .i64 z).wf = true) : -9223372036854775808 <= z /\ z <= 9223372036854775807 := by
 simp [Lit.wf, IntKind.min, IntKind.max, IntKind.bits, IntKind.signed] at h
 omega
theorem wfu64 {z : Int} (h : (Lit.int .u64 z).wf = true) : 0 <= z /\ z <= 18446744073709551615 := by
 simp [Lit.wf, IntKind.min, IntKind.max, IntKind.bits, IntKind.signed] at h
 omega
theorem trod_E {cs : List Value} {fuel : Nat} {x : DataW H × List MemPlace} (hf : DataW.trod enc Tryz.prog W base sp held fuel 31 cs = some x) : ∃ (e : Ev) (v : Value), okE e /\ AdsIn W v e.ads /\ cs = evl e v := by
 obtain ⟨xs, m, _, _, hl, hlen, hq⟩ := DataW.trod_struct Tryz.underlying31 hf
 have h0 := hq 0 _ rfl
 have h1 := hq 1 _ rfl
 have h2 := hq 2 _ rfl
 have h3 := hq 3 _ rfl
 have h4 := hq 4 _ rfl
 have h5 := hq 5 _ rfl
 have h6 := hq 6 _ rfl
 have h7 := hq 7 _ rfl
 match xs, hlen with
 | [y0, y1, y2, y3, y4, y5, y6, y7], _ =>
 simp only [List.getElem?_cons_zero, List.getElem?_cons_succ] at h0 h1 h2 h3 h4 h5 h6 h7
 rw [cells_E] at hl
 match cs, hl with
 | [c0, c1, c2, c3, c4, c5, c6, c7], _ =>
  simp [cells_i, cells_u, cells_b, cells_s, cells_sA] at h0 h1 h2 h3 h4 h5 h6 h7
  obtain ⟨z0, e0, _, w0⟩ := DataW.trod_int Tryz.underlying3 h0
  obtain ⟨z1, e1, _, w1⟩ := DataW.trod_int Tryz.underlying3 h1
  obtain ⟨z2, e2, _, w2⟩ := DataW.trod_int Tryz.underlying3 h2
  obtain ⟨z3, e3, _, w3⟩ := DataW.trod_int Tryz.underlying28 h3
  obtain ⟨b4, e4, _⟩ := DataW.trod_bool Tryz.underlying4 h4
  obtain ⟨z5, e5, _, w5⟩ := DataW.trod_int Tryz.underlying3 h5
  obtain ⟨s6, e6, _, w6⟩ := DataW.trod_string Tryz.underlying9 h6
  obtain ⟨sl, l, e7, hA, hlm⟩ := trod_As h7
  simp at e0 e1 e2 e3 e4 e5 e6 e7
  refine ⟨⟨z0, z1, z2, z3, b4, z5, s6, l⟩, sl, ⟨⟨wf64 w0, wf64 w1, wf64 w2, wfu64 w3, wf64 w5, ?_⟩, w6, hlm⟩, hA, by rw [e0, e1, e2, e3, e4, e5, e6, e7]; rfl⟩
  obtain ⟨_, _, _, _, h, _⟩ := hA
  exact h
theorem trod_Es {cs : List Value} {fuel : Nat} {x : DataW H × List MemPlace} (hf : DataW.trod enc Tryz.prog W base sp held fuel 22 cs = some x) : ∃ (sl : Value) (l : List Ev), cs = [sl] /\ EvsIn W sl l /\ l.length <= maxLen := by
 rcases DataW.trod_slice Tryz.underlying22 hf with ⟨hcs, hx⟩ | ⟨a', len, cap, elems, rest, n, _, hcs, hx, _, hl, hm, hel, hcell, _, _⟩
 ·exact ⟨.slice none 0 0, [], hcs, ⟨none, 0, rfl, Nat.le_refl _, fun h => absurd h (by simp), fun i e h => by simp at h⟩, Nat.zero_le _⟩
 ·have each : ∀ i, i < len -> ∃ qv : Ev × Value, okE qv.1 /\ AdsIn W qv.2 qv.1.ads /\ ∀ j u, (evl qv.1 qv.2)[j]? = some u -> W.cell? ((a'.add (i * 8)).add j) = some u := by
   intro i hi
   have h1 := hcell i hi
   rw [List.getElem?_eq_getElem (by omega), cells_E] at h1
   obtain ⟨cs', hc1, hc2⟩ := Option.bind_eq_some_iff.1 h1
   obtain ⟨_, hlen, hc⟩ := World.cells?_some hc1
   obtain ⟨q, v, hq, hv, rfl⟩ := trod_E hc2
   refine ⟨(q, v), hq, hv, fun j u hj => ?_⟩
   have hjl : j < 8 := (List.getElem?_eq_some_iff.1 hj).1
   rw [hc j (by omega)]; exact hj
  have pick : ∃ l : List (Ev × Value), l.length = len /\ ∀ i q, l[i]? = some q -> okE q.1 /\ AdsIn W q.2 q.1.ads /\ ∀ j u, (evl q.1 q.2)[j]? = some u -> W.cell? ((a'.add (i * 8)).add j) = some u := by
   refine ⟨(List.range len).map fun i => if h : i < len then (each i h).choose else (⟨0, 0, 0, 0, false, 0, ⟨#[]⟩, []⟩, .slice none 0 0), by simp, fun i q hq => ?_⟩
   rw [List.getElem?_map] at hq
   obtain ⟨i', hi', rfl⟩ := Option.map_eq_some_iff.1 hq
   obtain ⟨hlt, he⟩ := List.getElem?_eq_some_iff.1 hi'
   rw [List.length_range] at hlt
   rw [List.getElem_range] at he
   subst he
   rw [dif_pos hlt]
   exact (each i hlt).choose_spec
  obtain ⟨l, hll, hq⟩ := pick
  obtain ⟨b, off, spot⟩ := a'
  have hspot : 0 < len -> spot = none /\ b < W.heap.size := fun hp => by
   have hl0 : 0 < l.length := by rw [hll]; exact hp
   obtain ⟨q, hq0⟩ : ∃ q, l[0]? = some q := ⟨l[0]'hl0, List.getElem?_eq_getElem hl0⟩
   have h0 := (hq 0 q hq0).2.2 0 _ rfl
   have hs : spot = none := by simpa [Addr.add] using World.cell?_spot h0
   subst hs
   rw [add_e, add_e] at h0
   exact ⟨rfl, World.block_lt_of_cell? W _ h0⟩
  refine ⟨_, l.map (·.1), hcs, ⟨some ⟨b, off, spot⟩, cap, by rw [List.length_map, hll], by rw [List.length_map]; omega, fun hp => ?_, fun i e hi => ?_⟩, by rw [List.length_map]; omega⟩
  ·rw [List.length_map, hll] at hp
   obtain ⟨rfl, hb⟩ := hspot hp
   exact ⟨b, off, rfl, hb⟩
  ·rw [List.getElem?_map] at hi
   obtain ⟨q, hqi, rfl⟩ := Option.map_eq_some_iff.1 hi
   obtain ⟨h1, h2, h3⟩ := hq i q hqi
   refine ⟨h1, q.2, h2, fun b' off' e j u hj => ?_⟩
   cases e
   have := h3 j u hj
   rw [add_e, add_e] at this
   exact this
end
theorem open_evs {H : Type} {enc : TypeId × Value -> H} {W : World} {v : Value} {d : DataW H} {p : List MemPlace} {r : Reach} {b0 : Nat} (hval : Value.okWide Tryz.prog W r b0 22 v) (hd : DataW.Trod enc Tryz.prog W 0 (fun _ => true) true 22 v d p) :
  ∃ l : List Ev, EvsIn W v l /\ l.length <= maxLen := by
 obtain ⟨a, len, cap, rfl⟩ := okWide_slice Tryz.underlying22 hval
 obtain ⟨fuel, hf⟩ := hd
 obtain ⟨sl, l, h1, h2, h3⟩ := trod_Es hf
 have : sl = .slice a len cap := by simpa [Value.cells] using h1.symm
 exact ⟨l, this ▸ h2, h3⟩
end Go.Proofs.YtmdlgfnibjcgmaaGreatDoor
