/-
  Several texts joined: RnW.
-/
import Derived.Laws.Append
import Derived.Test.YtmdlgfnibjcgmaaGreatDoorK36
set_option linter.unusedVariables false
set_option linter.unusedSimpArgs false
set_option linter.unusedSectionVars false
namespace Go.Proofs.YtmdlgfnibjcgmaaGreatDoor.Rn
open Go.RowKit
variable {P : Program} {τ : Tau} {A : Nat -> Prop} {B : Nat} {w : World} {s s' : St}
theorem row_some {d : TypeDesc} (h : isRowD d = true) : (∃ e, d = .slice e) ∨ d = .string := by
 cases d <;> simp [isRowD] at h
 ·exact .inr rfl
 ·exact .inl ⟨_, rfl⟩
section
variable {ts : Array TypeId} {t u ty e : TypeId} {d : TypeDesc} {i : TypeInfo} {z x : Value} {base : Option Addr} {len cap n : Nat} {cells : Array Value}
 (h0 : ts[0]? = some t) (h1 : ts[1]? = some u) (ht : P.underlying t = some (.slice e)) (hu : P.underlying u = some d) (hd : (∃ e, d = .slice e) ∨ d = .string) (hi : P.info? e = some i)
 (hlen : ∀ w', (Builtin.lenOf x).run P w' = .ok n w') (hfirst : ∀ k, (Builtin.firstCells i.size n x).run P { w with drawn := k } = .ok cells { w with drawn := k })
include h0 h1 ht hu hd hi hlen hfirst
theorem append_fits (hle : len + n <= cap) {w' : World} (hst : ∀ a, base = some a -> (storeCells (a.add (len * i.size)) cells.toList).run P w = .ok () w') (hnone : base = none -> w' = w) :
  (Builtin.append_ ts ty #[.slice base len cap, x]).run P w = .ok (.slice base (len + n) cap) w' := by
 have hf := hfirst w.drawn
 have hf' : (Builtin.firstCells i.size n x).run P w = .ok cells w := hf
 unfold Builtin.append_
 cases base with
 | none =>
  rw [hnone rfl]
  rcases hd with ⟨q, rfl⟩ | rfl <;>
  simp [h0, h1, run_under ht, run_under hu, run_size hi, hlen, hle, hf']
 | some a =>
  have hs := hst a rfl
  rcases hd with ⟨q, rfl⟩ | rfl <;>
  simp [h0, h1, run_under ht, run_under hu, run_size hi, hlen, hle, hf', hs]
theorem append_grows (hz : i.zero = some z) (hle : cap < len + n) (hb : (len + n) * i.bytes <= 1048576) (hn : len + n <= 1048576) {old : Array Value} (hold : ∀ k, (Builtin.firstCells i.size len (.slice base len cap)).run P { w with drawn := k } = .ok old { w with drawn := k }) :
  ∃ newCap k, len + n <= newCap /\ (Builtin.append_ ts ty #[.slice base len cap, x]).run P w = .ok (.slice (some ⟨w.heap.size, 0, none⟩) (len + n) newCap) (({ w with drawn := k } : World).alloc (.cells (old ++ cells ++ Builtin.zeroCells z.cells (newCap - (len + n))) e)) := by
 have hnot : ¬ len + n <= cap := by omega
 have hbig : ¬ (((len + n : Nat) : Int) > IntKind.i64.max /\ (false = true ∨ i.bytes = 0)) := by
  rintro ⟨q, _⟩
  have : IntKind.i64.max = 9223372036854775807 := rfl
  omega
 have hfit : ¬ Builtin.nextslicecap (len + n) cap * i.bytes > 2 ^ 48 := by
  have := growslice_fits (bytes := i.bytes) hle (by omega)
  omega
 have hti : (typeInfo e).run P w = .ok i w := by simp [typeInfo, hi]
 have hti' : ∀ w', (typeInfo e).run P w' = .ok i w' := fun w' => by simp [typeInfo, hi]
 have hzv : ∀ w', (zeroValue e).run P w' = .ok z w' := fun w' => by simp [zeroValue, typeInfo, hi, hz]
 have hch : (choose (.appendCap (len + n) cap e)).run P w = .ok (len + n + w.tape w.drawn (.appendCap (len + n) cap e) % (2 ^ 63 - (len + n))) { w with drawn := w.drawn + 1 } := by
  simp [choose, Sem.run, Question.forced, Question.cut]
 refine ⟨len + n + w.tape w.drawn (.appendCap (len + n) cap e) % (2 ^ 63 - (len + n)), w.drawn + 1, Nat.le_add_right _ _, ?_⟩
 have hol := hold (w.drawn + 1)
 have hfi := hfirst (w.drawn + 1)
 have hbig' : ¬ (((len : Int) + (n : Int)) > IntKind.i64.max /\ i.bytes = 0) := by
  rintro ⟨q, _⟩
  have : IntKind.i64.max = 9223372036854775807 := rfl
  omega
 have hbb : ¬ (((len + n : Nat) : Int) > IntKind.i64.max /\ i.bytes = 0) := by
  rintro ⟨q, _⟩
  have : IntKind.i64.max = 9223372036854775807 := rfl
  omega
 have hnr : ∀ (cs : Array Value) (w' : World), (newRow e cs).run P w' = .ok ⟨w'.heap.size, 0, none⟩ (w'.alloc (.cells cs e)) := fun cs w' => by simp [newRow]
 unfold Builtin.append_
 rcases hd with ⟨q, rfl⟩ | rfl
 ·simp only [h0, h1, List.getElem?_toArray, List.getElem?_cons_zero, List.getElem?_cons_succ, Sem.run_bind, run_under ht, run_under hu, Result.andThen_ok, run_size hi, Sem.run_pure, Bool.false_eq_true, if_false, hlen, if_neg hnot, hti', false_or]
  rw [if_neg hbb]
  simp only [Sem.run_bind, hti', Result.andThen_ok, if_neg hfit, hch, run_askRoom, hol, Bool.not_false, if_true, hfi, hzv, hnr, Sem.run_pure]
 ·simp only [h0, h1, List.getElem?_toArray, List.getElem?_cons_zero, List.getElem?_cons_succ, Sem.run_bind, run_under ht, run_under hu, Result.andThen_ok, run_size hi, Sem.run_pure, Bool.false_eq_true, if_false, hlen, if_neg hnot, hti', false_or]
  rw [if_neg hbb]
  simp only [Sem.run_bind, hti', Result.andThen_ok, if_neg hfit, hch, run_askRoom, hol, Bool.not_false, if_true, hfi, hzv, hnr, Sem.run_pure]
end
theorem range_drawn {b o k : Nat} {l : List Value} (h : w.rangeAt b o l) : ({ w with drawn := k } : World).rangeAt b o l := h
theorem run_cellsL {b o : Nat} {l : List Value} {n : Nat} (hl : l.length = n) (h : w.rangeAt b o l) : (loadCells ⟨b, o, none⟩ n).run P w = .ok l.toArray w := by
 subst hl
 exact run_loadCells_list (P := P) w _ l (fun j v hj => by rw [add0]; exact h j v hj)
theorem srcOf_ok {k n : Nat} {x : Value} {l : List Value} (h : srcOf k x s = some ((n, l), s')) (r : Rel P τ A B s.h w) :
  s'.h = s.h /\ s'.nx = s.nx /\ (∀ w', (Builtin.lenOf (mp τ x)).run P w' = .ok n w') /\ (∀ v ∈ l, inA A v) /\ l.length = n * k /\ ∀ d, (Builtin.firstCells k n (mp τ x)).run P { w with drawn := d } = .ok (l.map (mp τ)).toArray { w with drawn := d } := by
 cases x with
 | slice o n' c =>
  cases o with
  | some a =>
   simp only [srcOf] at h
   rw [bnd_some] at h
   obtain ⟨l', s1, h1, h2⟩ := h
   rw [ret_some] at h2
   cases h2
   obtain ⟨e1, e2, e3, e4, e5, e6, e7⟩ := loadN_ok h1 r
   refine ⟨e1, e2, fun w' => by rw [mp_sl]; rfl, e4, e5, fun d => ?_⟩
   rw [mp_sl, e6]
   exact run_cellsL (by rw [List.length_map]; exact e5) (range_drawn e7)
  | none =>
   simp only [srcOf] at h
   rw [grd_some] at h
   obtain ⟨h1, h2⟩ := h
   rw [ret_some] at h2
   cases h2
   have hn : n' = 0 := Nat.eq_of_beq_eq_true h1
   subst hn
   have e : mp τ (.slice none 0 c) = .slice none 0 c := by simp [mp]
   exact ⟨rfl, rfl, (fun w' => by rw [e]; rfl), (fun v hv => by cases hv), by simp, fun d => by rw [e]; rfl⟩
 | string z =>
  simp only [srcOf] at h
  rw [grd_some] at h
  obtain ⟨h1, h2⟩ := h
  rw [ret_some] at h2
  cases h2
  have hk : k = 1 := Nat.eq_of_beq_eq_true h1
  subst hk
  have e : mp τ (.string z) = .string z := by simp [mp]
  have hm : (strCells z).map (mp τ) = strCells z := by
   unfold strCells
   rw [List.map_map]
   exact List.map_congr_left fun b _ => by simp [mp]
  refine ⟨rfl, rfl, fun w' => by rw [e]; rfl, fun v hv => ?_, by unfold strCells; rw [List.length_map]; simp, fun d => ?_⟩
  ·unfold strCells at hv
   obtain ⟨b, _, rfl⟩ := List.mem_map.1 hv
   simp [inA]
  ·rw [e, hm]
   unfold Builtin.firstCells strCells
   simp only [Sem.run_pure]
   congr 1
   have hx : z.extract 0 z.size = z := by
    apply ByteArray.ext
    simp
   rw [hx]
   apply Array.toList_inj.1
   simp
 | _ => simp [srcOf, die] at h
theorem appNew_ok {e : TypeId} {cells : List Value} {need newCap b : Nat} {v : Value} {sp : List Value} {w' : World} (h : appNew e cells need s = some (v, s')) (r : Rel P τ A B s.h w) (hA : ¬ A s.nx) (hi : ∀ v ∈ cells, inA A v) (hk : sp.length = (newCap - need) * cells1 P e) (hn : need <= newCap)
  (hb : w'.heap[b]? = some (.cells (cells.map (mp τ) ++ sp).toArray e (0, 0))) (hB : B <= b) (hold : ∀ n u, s.h.get n = some u -> τ.σ n ≠ b /\ w'.heap[τ.σ n]? = w.heap[τ.σ n]?) (hbase : B <= w'.heap.size) :
  ∃ τ', mp τ' v = .slice (some ⟨b, 0, none⟩) need newCap /\ Agr τ τ' s.nx s'.nx /\ Rel P τ' (Un A s.nx s'.nx) B s'.h w' /\ inA (Un A s.nx s'.nx) v := by
 unfold appNew at h
 rw [bnd_some] at h
 obtain ⟨n, s1, h1, h2⟩ := h
 rw [ret_some] at h2
 cases h2
 obtain ⟨e1, e2, e3, e4⟩ := newo_ok h1
 subst e1
 refine ⟨τ.new s.nx b (newCap - need), ?_, ?_, ?_, ?_⟩
 ·rw [sl_new]
  have : need + (newCap - need) = newCap := by omega
  rw [this]
 ·rw [e4]; exact τ.new_agr _ _ _
 ·rw [e3, e4]
  refine Rel.new (o' := .cells (cells.map (mp τ) ++ sp).toArray e (0, 0)) r hA (fun v hv => inA_mono (fun _ => Un.left) _ (hi v (by simpa using hv))) ⟨rfl, ⟨sp, ?_, by rw [(τ.new_at _ _ _).2]; exact hk⟩, (fun q => by cases q), fun _ => rfl⟩ hb hB hold hbase
  simp only
  congr 1
  refine List.map_congr_left fun v hv => ?_
  refine (mp_agree (A := A) (fun m hm => τ.new_agr _ _ _ m fun q => ?_) v (hi v hv)).symm
  have e : m = s.nx := by omega
  subst e; exact hA hm
 ·rw [inA, e4]; exact .inr ⟨Nat.le_refl _, Nat.lt_succ_self _⟩
theorem appendA_ok {t u ty : TypeId} {ts : Array TypeId} {sl x v : Value} (h0 : ts[0]? = some t) (h1 : ts[1]? = some u) (h : appendA P t u sl x s = some (v, s')) (r : Rel P τ A B s.h w) (hsl : inA A sl) (hx : inA A x) (hA : s.nx < s'.nx -> ¬ A s.nx) :
  OpS P τ A B s w s' (Builtin.append_ ts ty #[mp τ sl, mp τ x]) v := by
 unfold appendA at h
 rw [opt_some] at h
 obtain ⟨e, g1, h⟩ := h
 rw [opt_some] at h
 obtain ⟨k, g2, h⟩ := h
 rw [opt_some] at h
 obtain ⟨by_, g3, h⟩ := h
 rw [opt_some] at h
 obtain ⟨z, g4, h⟩ := h
 rw [opt_some] at h
 obtain ⟨d, g5, h⟩ := h
 rw [grd_some, Bool.and_eq_true] at h
 obtain ⟨⟨g6, g7⟩, h⟩ := h
 rw [bnd_some] at h
 obtain ⟨⟨n, new⟩, s1, g8, h⟩ := h
 obtain ⟨i, i1, i2, i3, i4⟩ := zeroOf_some g4
 obtain ⟨i', j1, j2⟩ := sizeOf_some g2
 rw [i1] at j1; cases j1
 obtain ⟨i', j1, j3⟩ := bytesOf_some g3
 rw [i1] at j1; cases j1
 have ht := elem_some g1
 have hd := row_some g7
 obtain ⟨e1, e2, e3, e4, e5, e6⟩ := srcOf_ok g8 r
 have hc1 : cells1 P e = k := by unfold cells1; rw [i1]; exact j2
 have r1 : Rel P τ A B s1.h w := by rw [e1]; exact r
 cases sl with
 | slice base len cap =>
  simp only [appendB] at h
  rw [grd_some, Bool.and_eq_true, Bool.and_eq_true] at h
  obtain ⟨⟨⟨k1, k2⟩, k3⟩, h⟩ := h
  have k1' := Nat.le_of_ble_eq_true k1
  have k2' := Nat.le_of_ble_eq_true k2
  rw [sel_some] at h
  rcases h with ⟨h2, h⟩ | ⟨h2, h⟩
  ·have hle := Nat.le_of_ble_eq_true h2
   cases base with
   | none =>
    simp only [appIn] at h
    rw [grd_some] at h
    obtain ⟨h3, h⟩ := h
    rw [ret_some] at h
    cases h
    have em : ∀ n c, mp τ (.slice none n c) = .slice none n c := fun n c => by simp [mp]
    refine OpS.pure r e1 e2 ?_ (by simp [inA])
    rw [em, em]
    exact append_fits h0 h1 ht g5 hd i1 e3 (by rw [j2]; exact e6) hle (fun a ha => by cases ha) (fun _ => rfl)
   | some a =>
    simp only [appIn] at h
    rw [bnd_some] at h
    obtain ⟨u', s2, h3, h⟩ := h
    rw [ret_some] at h
    cases h
    obtain ⟨q1, q2, q3, w', q4, q5, q6⟩ := storeN_ok h3 r1 e4
    simp only at q1 q2 q4
    rw [inA] at hsl
    refine ⟨τ, w', ?_, Agr.refl _ _ _, q5.mono (fun _ => Un.left), inA_mono (fun _ => Un.left) _ (by rw [inA]; exact hsl), q6⟩
    rw [mp_sl, mp_sl]
    have := append_fits (ty := ty) (base := some ⟨τ.σ a.block, a.off, a.spot⟩) (len := len) (cap := cap + τ.x a.block) h0 h1 ht g5 hd i1 e3 (by rw [j2]; exact e6) (by omega) (w' := w') (fun b hb => by
     cases hb
     rw [q1, add0, j2]
     exact q4) (fun q => by cases q)
    exact this
  ·have hgt : cap < len + n := by
    have : ¬ len + n <= cap := fun q => by rw [Nat.ble_eq_true_of_le q] at h2; cases h2
    omega
   have hnew : s1.nx < s'.nx := by
    cases base with
    | none =>
     simp only [appOut] at h
     rw [grd_some] at h
     obtain ⟨_, h⟩ := h
     unfold appNew at h
     rw [bnd_some] at h
     obtain ⟨b, s3, q1, q2⟩ := h
     rw [ret_some] at q2; cases q2
     exact newo_lt q1
    | some a =>
     simp only [appOut] at h
     rw [grd_some] at h
     obtain ⟨_, h⟩ := h
     rw [bnd_some] at h
     obtain ⟨o, s3, q1, h⟩ := h
     rw [opt_some] at h
     obtain ⟨c, q2, h⟩ := h
     rw [grd_some] at h
     obtain ⟨_, h⟩ := h
     rw [opt_some] at h
     obtain ⟨old, q3, h⟩ := h
     rw [bnd_some] at h
     obtain ⟨u', s4, q4, h⟩ := h
     unfold appNew at h
     rw [bnd_some] at h
     obtain ⟨b, s5, q5, q6⟩ := h
     rw [ret_some] at q6; cases q6
     have n3 := (geto_ok q1).2.2
     have n4 : s4.nx = s3.nx := by
      rw [sel_some] at q4
      rcases q4 with ⟨_, q⟩ | ⟨_, q⟩
      ·exact (seto_ok q).2.2
      ·rw [ret_some] at q; cases q; rfl
     have := newo_lt q5
     omega
   have hA' : ¬ A s1.nx := by rw [e2] at hnew ⊢; exact hA hnew
   have hzlen : ∀ m, (Builtin.zeroCells z.cells m).toList.length = m * k := fun m => by
    unfold Builtin.zeroCells
    simp [i4, j2]
   cases base with
   | none =>
    simp only [appOut] at h
    rw [grd_some] at h
    obtain ⟨h3, h⟩ := h
    have hl0 : len = 0 := Nat.eq_of_beq_eq_true h3
    subst hl0
    have em : ∀ n c, mp τ (.slice none n c) = .slice none n c := fun n c => by simp [mp]
    obtain ⟨newCap, dk, c1, c2⟩ := append_grows (ty := ty) (base := none) (len := 0) (cap := cap) (old := #[]) h0 h1 ht g5 hd i1 e3 (by rw [j2]; exact e6) i2 hgt (by rw [j3]; exact k1') k2' (fun k => rfl)
    rw [Nat.zero_add] at c1 c2
    obtain ⟨τ', t1, t2, t3, t4⟩ := appNew_ok (sp := (Builtin.zeroCells z.cells (newCap - n)).toList) (newCap := newCap) (b := w.heap.size) (w' := ({ w with drawn := dk } : World).alloc (.cells (#[] ++ (new.map (mp τ)).toArray ++ Builtin.zeroCells z.cells (newCap - n)) e)) h r1 hA' e4 (by rw [hc1]; exact hzlen _) c1
     (by
      have := heap_alloc_new { w with drawn := dk } (.cells (#[] ++ (new.map (mp τ)).toArray ++ Builtin.zeroCells z.cells (newCap - n)) e)
      rw [show ({ w with drawn := dk } : World).heap.size = w.heap.size from rfl] at this
      rw [this]
      congr 2
      apply Array.toList_inj.1
      simp) r.base (fun m o hm => by
      obtain ⟨_, _, _, o', q4, _⟩ := r1.dom m o hm
      have hlt := (Array.getElem?_eq_some_iff.1 q4).1
      exact ⟨Nat.ne_of_lt hlt, Below.heap_alloc { w with drawn := dk } _ _ hlt⟩) (by simp; have := r.base; omega)
    rw [e2] at t2 t3 t4
    refine ⟨τ', _, ?_, t2, t3, t4, ((Below.refl B w).trans (⟨rfl, rfl, rfl, Nat.le_refl _, fun _ _ => rfl⟩ : Below B w { w with drawn := dk })).alloc r.base _⟩
    rw [em, t1]
    exact c2
   | some a =>
    simp only [appOut] at h
    rw [grd_some, Bool.and_eq_true] at h
    obtain ⟨⟨h3, h4⟩, h⟩ := h
    rw [bnd_some] at h
    obtain ⟨o, s3, q1, h⟩ := h
    rw [opt_some] at h
    obtain ⟨c, q2, h⟩ := h
    rw [grd_some, Bool.and_eq_true, Bool.and_eq_true] at h
    obtain ⟨⟨⟨h5, h6⟩, h7⟩, h⟩ := h
    rw [opt_some] at h
    obtain ⟨old, q3, h⟩ := h
    rw [bnd_some] at h
    obtain ⟨u', s4, q4, h⟩ := h
    obtain ⟨ab, ao, asp⟩ := a
    simp only at h3 h4 q1
    have ha0 : ao = 0 := Nat.eq_of_beq_eq_true h3
    have has : asp = none := by simpa using h4
    subst ha0 has
    obtain ⟨f1, f2, f3⟩ := geto_ok q1
    obtain ⟨ca, fr, b1, b2, b3⟩ := cellsO_some q2
    subst b1
    obtain ⟨v1, v2⟩ := cut_some q3
    have hce : c.2.1 = e := Nat.eq_of_beq_eq_true h5
    have hfr := Nat.le_of_ble_eq_true h6
    have hlenc : c.1.length = cap * k := Nat.eq_of_beq_eq_true h7
    obtain ⟨d1, d2, d3, o', d4, d5⟩ := r1.dom _ _ f1
    cases o' <;> try exact d5.elim
    rename_i c' t' fr'
    obtain ⟨w1, ⟨sp0, w2, w3⟩, w4, w5⟩ := d5
    have hfr0 : fr' = (0, 0) := w5 (by rw [← b3]; omega)
    subst hfr0
    rw [hce] at w1 w3
    rw [w1] at d4
    rw [hc1] at w3
    have hlen2 : c'.toList.length = cap * k + τ.x ab * k := by
     rw [w2, List.length_append, List.length_map, w3, ← b2, hlenc]
    have hold : old = ca.toList.take (len * k) := by rw [v2, b2]; simp
    have holdA : ∀ v ∈ old ++ new, inA A v := fun v hv => by
     rcases List.mem_append.1 hv with q | q
     ·rw [hold] at q; exact d2 v (List.mem_of_mem_take q)
     ·exact e4 v q
    have hlk : len * k <= cap * k := by rw [← hlenc]; simpa using v1
    have hs4 : s4.nx = s1.nx /\ ((fr.1 = 1 /\ s4.h = s1.h.set none ab) ∨ (fr.1 = 0 /\ s4.h = s1.h)) := by
     rw [sel_some] at q4
     rcases q4 with ⟨hb, q⟩ | ⟨hb, q⟩
     ·obtain ⟨_, y1, y2⟩ := seto_ok q
      exact ⟨by rw [y2, f3], .inl ⟨by rw [← b3]; exact Nat.eq_of_beq_eq_true hb, by rw [y1, f2]⟩⟩
     ·rw [ret_some] at q
      cases q
      refine ⟨f3, .inr ⟨?_, f2⟩⟩
      have : c.2.2 ≠ 1 := fun q => by rw [q] at hb; cases hb
      rw [← b3]; omega
    have r4 : Rel P τ A B s4.h w := by
     rcases hs4.2 with ⟨_, q⟩ | ⟨_, q⟩
     ·rw [q]; exact r1.none
     ·rw [q]; exact r1
    have hgetold : ∀ m u, s4.h.get m = some u -> s1.h.get m = some u := by
     intro m u hm
     rcases hs4.2 with ⟨_, q⟩ | ⟨_, q⟩
     ·rw [q, get_set] at hm
      by_cases e : m = ab
      ·rw [if_pos e] at hm; cases hm
      ·rw [if_neg e] at hm; exact hm
     ·rw [q] at hm; exact hm
    have hmapold : c'.toList.take (len * k) = old.map (mp τ) := by
     rw [w2, List.take_append_of_le_length (by rw [List.length_map, ← b2, hlenc]; exact hlk), hold, List.map_take]
    by_cases hin : len + n <= cap + τ.x ab
    ·have hfr1 : fr.1 = 1 := by
      rcases hs4.2 with ⟨q, _⟩ | ⟨q, _⟩
      ·exact q
      ·have := w4 q; omega
     have hs4' : s4.h = s1.h.set none ab := by
      rcases hs4.2 with ⟨_, q⟩ | ⟨q, _⟩
      ·exact q
      ·omega
     have hsz : len * k + n * k <= c'.size := by
      have h1 : (len + n) * k <= (cap + τ.x ab) * k := Nat.mul_le_mul_right k hin
      rw [Nat.add_mul, Nat.add_mul] at h1
      have : c'.toList.length = c'.size := by simp
      omega
     have hone : ∀ v ∈ new.map (mp τ), v.oneCell' = true := by
      intro v hv
      obtain ⟨y, hy, rfl⟩ := List.mem_map.1 hv
      exact mp_atom τ (List.all_eq_true.1 k3 y hy)
     have hst := run_storeCells_at P (τ.σ ab) (len * k) e (new.map (mp τ)) 0 c' w d4 (by rw [List.length_map, e5]; omega) hone
     simp only [Nat.add_zero, List.length_map, e5] at hst
     have hrow : w.setRow (τ.σ ab) (c'.toList.take (len * k) ++ new.map (mp τ) ++ c'.toList.drop (len * k + n * k)).toArray = putW w (τ.σ ab) (.cells ((old ++ new).map (mp τ) ++ c'.toList.drop (len * k + n * k)).toArray e (0, 0)) := by
      rw [hmapold, ← List.map_append]
      unfold World.setRow putW
      congr 1
      have hlt := (Array.getElem?_eq_some_iff.1 d4).1
      refine Array.ext_getElem? fun i => ?_
      rw [Array.getElem?_modify, Array.getElem?_setIfInBounds]
      by_cases e : τ.σ ab = i
      ·subst e; rw [if_pos rfl, if_pos rfl, if_pos hlt, d4]; rfl
      ·rw [if_neg e, if_neg e]
     rw [hrow] at hst
     obtain ⟨τ', t1, t2, t3, t4⟩ := appNew_ok (sp := c'.toList.drop (len * k + n * k)) (newCap := cap + τ.x ab) (b := τ.σ ab) (w' := putW w (τ.σ ab) (.cells ((old ++ new).map (mp τ) ++ c'.toList.drop (len * k + n * k)).toArray e (0, 0))) h r4 (by rw [hs4.1]; exact hA') holdA
      (by
       rw [hc1, List.length_drop, hlen2, Nat.sub_mul, Nat.add_mul, Nat.add_mul]) hin
      (by
       have hlt := (Array.getElem?_eq_some_iff.1 d4).1
       simp only [putW]
       rw [Array.getElem?_setIfInBounds_self_of_lt hlt]) d3
      (fun m u hm => by
       have hm1 := hgetold m u hm
       have hne : m ≠ ab := by
        intro q
        rw [hs4', get_set, if_pos q] at hm; cases hm
       have hs : τ.σ m ≠ τ.σ ab := fun q => hne (r1.inj m ab u _ hm1 f1 q)
       refine ⟨hs, ?_⟩
       simp only [putW]
       rw [Array.getElem?_setIfInBounds_ne (Ne.symm hs)]) (by simp [putW]; exact r.base)
     rw [hs4.1, e2] at t2 t3 t4
     refine ⟨τ', _, ?_, t2, t3, t4, Below.putW _ d3⟩
     rw [mp_sl, t1]
     exact append_fits (ty := ty) (base := some ⟨τ.σ ab, 0, none⟩) (len := len) (cap := cap + τ.x ab) h0 h1 ht g5 hd i1 e3 (by rw [j2]; exact e6) hin (fun b hb => by
      cases hb
      rw [add0, j2, Nat.zero_add]
      exact hst) (fun q => by cases q)
    ·have hrange : w.rangeAt (τ.σ ab) 0 (old.map (mp τ)) := by
      intro j v hj
      unfold World.cell?
      simp only [d4, Option.isSome_none, Bool.false_eq_true, if_false, Nat.zero_add]
      have : c'[j]? = c'.toList[j]? := by simp
      rw [this, ← hj, ← hmapold, List.getElem?_take]
      have hj' := (List.getElem?_eq_some_iff.1 hj).1
      rw [← hmapold, List.length_take] at hj'
      rw [if_pos (by omega)]
     have holdlen : (old.map (mp τ)).length = len * k := by
      rw [← hmapold, List.length_take, hlen2]; omega
     obtain ⟨newCap, dk, c1, c2⟩ := append_grows (ty := ty) (base := some ⟨τ.σ ab, 0, none⟩) (len := len) (cap := cap + τ.x ab) (old := (old.map (mp τ)).toArray) h0 h1 ht g5 hd i1 e3 (by rw [j2]; exact e6) i2 (by omega) (by rw [j3]; exact k1') k2' (fun q => by
      rw [j2]
      exact run_cellsL holdlen (range_drawn hrange))
     obtain ⟨τ', t1, t2, t3, t4⟩ := appNew_ok (sp := (Builtin.zeroCells z.cells (newCap - (len + n))).toList) (newCap := newCap) (b := w.heap.size) (w' := ({ w with drawn := dk } : World).alloc (.cells ((old.map (mp τ)).toArray ++ (new.map (mp τ)).toArray ++ Builtin.zeroCells z.cells (newCap - (len + n))) e)) h r4 (by rw [hs4.1]; exact hA') holdA (by rw [hc1]; exact hzlen _) c1
      (by
       have := heap_alloc_new { w with drawn := dk } (.cells ((old.map (mp τ)).toArray ++ (new.map (mp τ)).toArray ++ Builtin.zeroCells z.cells (newCap - (len + n))) e)
       rw [show ({ w with drawn := dk } : World).heap.size = w.heap.size from rfl] at this
       rw [this]
       congr 2
       apply Array.toList_inj.1
       simp) r.base (fun m o hm => by
       obtain ⟨_, _, _, o', q4, _⟩ := r4.dom m o hm
       have hlt := (Array.getElem?_eq_some_iff.1 q4).1
       exact ⟨Nat.ne_of_lt hlt, Below.heap_alloc { w with drawn := dk } _ _ hlt⟩) (by simp; have := r.base; omega)
     rw [hs4.1, e2] at t2 t3 t4
     refine ⟨τ', _, ?_, t2, t3, t4, ((Below.refl B w).trans (⟨rfl, rfl, rfl, Nat.le_refl _, fun _ _ => rfl⟩ : Below B w { w with drawn := dk })).alloc r.base _⟩
     rw [mp_sl, t1]
     exact c2
 | _ => simp [appendB, die] at h
end Go.Proofs.YtmdlgfnibjcgmaaGreatDoor.Rn
