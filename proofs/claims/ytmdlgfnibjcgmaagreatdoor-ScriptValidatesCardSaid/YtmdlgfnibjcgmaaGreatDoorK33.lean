/-
  Several texts joined: RnO, RnP.
-/
import Derived.Deep.MidRow
import Derived.Test.YtmdlgfnibjcgmaaGreatDoorK32
set_option linter.unusedVariables false
set_option linter.unusedSimpArgs false
set_option linter.unusedSectionVars false
namespace Go.Proofs.YtmdlgfnibjcgmaaGreatDoor.Rn
open Go.RowKit
variable {P : Program} {τ : Tau} {A : Nat -> Prop} {B : Nat} {w : World} {s s' : St}
theorem geto_ok {b : Nat} {o : Obj} (h : geto b s = some (o, s')) : s.h.get b = some o /\ s'.h = s.h /\ s'.nx = s.nx := by
 unfold geto at h
 cases hb : s.h.get b with
 | none => rw [hb] at h; cases h
 | some o1 => rw [hb] at h; cases h; exact ⟨rfl, rfl, rfl⟩
theorem seto_ok {b : Nat} {o : Option Obj} {u : Unit} (h : seto b o s = some (u, s')) : (∃ o0, s.h.get b = some o0) /\ s'.h = s.h.set o b /\ s'.nx = s.nx := by
 unfold seto at h
 cases hb : s.h.get b with
 | none => rw [hb] at h; cases h
 | some o1 => rw [hb] at h; cases h; exact ⟨⟨o1, rfl⟩, rfl, rfl⟩
theorem newo_ok {o : Obj} {n : Nat} (h : newo o s = some (n, s')) : n = s.nx /\ s.h.get s.nx = none /\ s'.h = s.h.set (some o) s.nx /\ s'.nx = s.nx + 1 := by
 obtain ⟨hh, nx, lg, rd, wr⟩ := s
 simp only [newo, newS] at h
 cases hb : hh.get nx with
 | none => rw [hb] at h; cases h; exact ⟨rfl, rfl, rfl, rfl⟩
 | some o1 => rw [hb] at h; cases h
theorem cellsO_some {o : Obj} {c : List Value × TypeId × Nat} (h : cellsO o = some c) : ∃ ca fr, o = .cells ca c.2.1 fr /\ c.1 = ca.toList /\ c.2.2 = fr.1 := by
 cases o <;> simp [cellsO] at h
 rename_i ca t fr
 exact ⟨ca, fr, by rw [← h], by rw [← h], by rw [← h]⟩
theorem cut_some {l r : List Value} {o n : Nat} (h : cut l o n = some r) : o + n <= l.length /\ r = (l.drop o).take n := by
 unfold cut sel at h
 cases hb : Nat.ble (o + n) l.length with
 | false => rw [hb] at h; cases h
 | true => rw [hb] at h; cases h; exact ⟨Nat.le_of_ble_eq_true hb, rfl⟩
theorem loadN_ok {a : Addr} {n : Nat} {l : List Value} (h : loadN a n s = some (l, s')) (r : Rel P τ A B s.h w) :
  s'.h = s.h /\ s'.nx = s.nx /\ A a.block /\ (∀ v ∈ l, inA A v) /\ l.length = n /\ a.spot = none /\ w.rangeAt (τ.σ a.block) a.off (l.map (mp τ)) := by
 unfold loadN at h
 rw [grd_some] at h
 obtain ⟨h0, h⟩ := h
 rw [bnd_some] at h
 obtain ⟨o, s1, h1, h⟩ := h
 rw [opt_some] at h
 obtain ⟨c, h2, h⟩ := h
 rw [lft_some] at h
 obtain ⟨l', h3, h4⟩ := h
 cases h4
 obtain ⟨g1, g2, g3⟩ := geto_ok h1
 obtain ⟨ca, fr, e1, e2, e3⟩ := cellsO_some h2
 subst e1
 obtain ⟨k1, k2⟩ := cut_some h3
 obtain ⟨d1, d2, d3, o', d4, d5⟩ := r.dom _ _ g1
 cases o' <;> try exact d5.elim
 rename_i c' t' fr'
 obtain ⟨q1, ⟨sp, q2, q3⟩, q4, q5⟩ := d5
 refine ⟨g2, g3, d1, fun v hv => ?_, ?_, by simpa using h0, fun j v hj => ?_⟩
 ·rw [k2] at hv
  exact d2 v (by rw [← e2]; exact List.mem_of_mem_drop (List.mem_of_mem_take hv))
 ·rw [k2, List.length_take, List.length_drop]; omega
 ·unfold World.cell?
  simp only [d4]
  rw [k2, e2] at hj
  rw [e2] at k1
  have hj' := (List.getElem?_eq_some_iff.1 hj).1
  simp only [List.length_map, List.length_take, List.length_drop] at hj'
  have e : c'[a.off + j]? = (c'.toList)[a.off + j]? := by simp
  simp only [Option.isSome_none, Bool.false_eq_true, if_false]
  rw [e, q2, List.getElem?_append_left (by rw [List.length_map]; omega), ← hj, List.getElem?_map, List.getElem?_map, List.getElem?_take, if_pos (by omega), List.getElem?_drop]
theorem storeN_ok {a : Addr} {vs : List Value} {u : Unit} (h : storeN a vs s = some (u, s')) (r : Rel P τ A B s.h w) (hv : ∀ v ∈ vs, inA A v) :
  a.spot = none /\ A a.block /\ s'.nx = s.nx /\ ∃ w', (storeCells ⟨τ.σ a.block, a.off, none⟩ (vs.map (mp τ))).run P w = .ok () w' /\ Rel P τ A B s'.h w' /\ Below B w w' := by
 unfold storeN at h
 rw [grd_some] at h
 obtain ⟨h0, h⟩ := h
 rw [bnd_some] at h
 obtain ⟨o, s1, h1, h⟩ := h
 rw [opt_some] at h
 obtain ⟨c, h2, h⟩ := h
 rw [grd_some] at h
 obtain ⟨h3, h⟩ := h
 obtain ⟨g1, g2, g3⟩ := geto_ok h1
 obtain ⟨ca, fr, e1, e2, e3⟩ := cellsO_some h2
 obtain ⟨⟨o0, j1⟩, j2, j3⟩ := seto_ok h
 subst e1
 rw [Bool.and_eq_true] at h0 h3
 have hfr : fr.1 ≠ 2 := by
  intro q
  have := h3.1
  rw [e3, q] at this
  exact absurd this (by decide)
 have hlen := Nat.le_of_ble_eq_true h3.2
 obtain ⟨d1, d2, d3, o', d4, d5⟩ := r.dom _ _ g1
 have d50 := d5
 cases o' <;> try exact d5.elim
 rename_i c' t' fr'
 obtain ⟨q1, ⟨sp, q2, q3⟩, q4, q5⟩ := d5
 have q5' := q5 hfr
 subst q5'
 have hsz : c'.toList.length = ca.toList.length + sp.length := by rw [q2, List.length_append, List.length_map]
 have hone : ∀ v ∈ vs.map (mp τ), v.oneCell' = true := by
  intro v hv'
  obtain ⟨x, hx, rfl⟩ := List.mem_map.1 hv'
  exact mp_atom τ (List.all_eq_true.1 h0.2 x hx)
 have hst := run_storeCells_at P (τ.σ a.block) a.off t' (vs.map (mp τ)) 0 c' w d4 (by rw [List.length_map]; rw [e2] at hlen; simp only [Array.length_toList] at hsz hlen; omega) hone
 refine ⟨by simpa using h0.1, d1, by rw [j3, g3], _, hst, ?_, ?_⟩
 ·have e4 : w.setRow (τ.σ a.block) (c'.toList.take (a.off + 0) ++ vs.map (mp τ) ++ c'.toList.drop (a.off + 0 + (vs.map (mp τ)).length)).toArray
    = putW w (τ.σ a.block) (.cells (c'.toList.take (a.off + 0) ++ vs.map (mp τ) ++ c'.toList.drop (a.off + 0 + (vs.map (mp τ)).length)).toArray t' (0, 0)) := by
   unfold World.setRow putW
   congr 1
   have hlt := (Array.getElem?_eq_some_iff.1 d4).1
   refine Array.ext_getElem? fun i => ?_
   rw [Array.getElem?_modify, Array.getElem?_setIfInBounds]
   by_cases e : τ.σ a.block = i
   ·subst e; rw [if_pos rfl, if_pos rfl, if_pos hlt, d4]; rfl
   ·rw [if_neg e, if_neg e]
  rw [e4, j2, g2]
  refine Rel.put r g1 (fun v hv' => ?_) ⟨q1, ⟨sp, ?_, q3⟩, fun k => q4 (by rw [← e3]; exact k), fun _ => rfl⟩
  ·have hm : v ∈ putAt c.1 a.off vs := by simpa using hv'
   unfold putAt at hm
   rcases List.mem_append.1 hm with q | q
   ·rcases List.mem_append.1 q with q | q
    ·exact d2 v (by rw [← e2]; exact List.mem_of_mem_take q)
    ·exact hv v q
   ·exact d2 v (by rw [← e2]; exact List.mem_of_mem_drop q)
  ·simp only [Nat.add_zero, List.length_map]
   unfold putAt
   rw [e2] at hlen ⊢
   rw [q2, List.take_append_of_le_length (by rw [List.length_map]; omega), List.drop_append_of_le_length (by rw [List.length_map]; omega)]
   simp
 ·have hB : B <= τ.σ a.block := d3
  unfold World.setRow
  exact ⟨rfl, rfl, rfl, by simp, fun k hk => by simp only; rw [Array.getElem?_modify, if_neg (by omega)]⟩
def OpS (P : Program) (τ : Tau) (A : Nat -> Prop) (B : Nat) (s : St) (w : World) (s' : St) (sem : Sem Value) (v : Value) : Prop :=
 ∃ τ' w', sem.run P w = .ok (mp τ' v) w' /\ Agr τ τ' s.nx s'.nx /\ Rel P τ' (Un A s.nx s'.nx) B s'.h w' /\ inA (Un A s.nx s'.nx) v /\ Below B w w'
theorem OpS.pure {sem : Sem Value} {v : Value} (r : Rel P τ A B s.h w) (h1 : s'.h = s.h) (h2 : s'.nx = s.nx) (hr : sem.run P w = .ok (mp τ v) w) (hv : inA A v) : OpS P τ A B s w s' sem v :=
 ⟨τ, w, hr, Agr.refl _ _ _, by rw [h1]; exact r.mono fun n hn => .inl hn, inA_mono (fun _ => Un.left) _ hv, Below.refl _ _⟩
theorem new_any {o o' : Obj} {n x : Nat} (h : newo o s = some (n, s')) (r : Rel P τ A B s.h w) (hA : ¬ A s.nx) (hi : inO (Un A s.nx (s.nx + 1)) o) (ho : OR P (τ.new s.nx w.heap.size x) s.nx o o') :
  n = s.nx /\ s'.nx = s.nx + 1 /\ Agr τ (τ.new s.nx w.heap.size x) s.nx s'.nx /\ Rel P (τ.new s.nx w.heap.size x) (Un A s.nx s'.nx) B s'.h (w.alloc o') /\ Below B w (w.alloc o') /\ Un A s.nx s'.nx s.nx := by
 obtain ⟨e1, e2, e3, e4⟩ := newo_ok h
 refine ⟨e1, e4, ?_, ?_, (Below.refl _ _).alloc r.base _, ?_⟩
 ·rw [e4]; exact τ.new_agr _ _ _
 ·rw [e3, e4]; exact r.alloc hA hi ho
 ·rw [e4]; exact .inr ⟨Nat.le_refl _, Nat.lt_succ_self _⟩
theorem new_cells {c : Array Value} {t : TypeId} {n : Nat} (h : newo (.cells c t (0, 0)) s = some (n, s')) (r : Rel P τ A B s.h w) (hA : ¬ A s.nx) (hi : ∀ v ∈ c.toList, inA A v) :
  n = s.nx /\ s'.nx = s.nx + 1 /\ Agr τ (τ.new s.nx w.heap.size 0) s.nx s'.nx /\ Rel P (τ.new s.nx w.heap.size 0) (Un A s.nx s'.nx) B s'.h (w.alloc (.cells (c.map (mp τ)) t)) /\ Below B w (w.alloc (.cells (c.map (mp τ)) t)) /\ Un A s.nx s'.nx s.nx := by
 refine new_any h r hA (fun v hv => inA_mono (fun _ => Un.left) _ (hi v hv)) ⟨rfl, ⟨[], ?_, ?_⟩, fun _ => (τ.new_at _ _ _).2, fun _ => rfl⟩
 ·rw [List.append_nil, Array.toList_map]
  refine List.map_congr_left fun v hv => ?_
  refine (mp_agree (A := A) (fun m hm => τ.new_agr _ _ _ m fun q => ?_) v (hi v hv)).symm
  have e : m = s.nx := by omega
  subst e; exact hA hm
 ·rw [(τ.new_at _ _ _).2]; simp
theorem ptr_new (b x : Nat) : mp (τ.new s.nx b x) (ptr s.nx) = .pointer (some ⟨b, 0, none⟩) := by
 unfold ptr
 rw [mp, (τ.new_at _ _ _).1]
theorem OpS.newv {c : Array Value} {t : TypeId} {x : Nx} {sem : Sem Value} (h : newv (.cells c t (0, 0)) s = some (x, s')) (r : Rel P τ A B s.h w) (hA : ¬ A s.nx) (hi : ∀ v ∈ c.toList, inA A v)
  (hs : sem.run P w = .ok (.pointer (some ⟨w.heap.size, 0, none⟩)) (w.alloc (.cells (c.map (mp τ)) t))) : ∃ v, x = .val v /\ OpS P τ A B s w s' sem v := by
 unfold Rn.newv at h
 rw [bnd_some] at h
 obtain ⟨n, s1, h1, h2⟩ := h
 unfold val at h2
 rw [ret_some] at h2
 cases h2
 obtain ⟨e1, e2, e3, e4, e5, e6⟩ := new_cells h1 r hA hi
 subst e1
 exact ⟨_, rfl, _, _, by rw [hs, ptr_new], e3, e4, by unfold ptr; rw [inA]; exact e6, e5⟩
theorem inA_cells {v : Value} (h : inA A v) : ∀ u ∈ v.cells.toList, inA A u := by
 match v with
 | .agg c => rw [inA_agg] at h; exact h
 | .bool _ | .int _ _ | .float _ _ | .complex _ _ _ | .string _ | .nilFunc | .nilIface | .chan _ => intro u hu; simp [Value.cells] at hu; subst hu; exact h
 | .pointer none | .slice none _ _ | .map none => intro u hu; simp [Value.cells] at hu; subst hu; exact h
 | .pointer (some _) | .slice (some _) _ _ | .map (some _) => intro u hu; simp [Value.cells] at hu; subst hu; exact h
 | .func _ ⟨_⟩ ⟨_⟩ => intro u hu; simp [Value.cells] at hu; subst hu; exact h
 | .tuple ⟨_⟩ => intro u hu; simp [Value.cells] at hu; subst hu; exact h
 | .iface _ _ => intro u hu; simp [Value.cells] at hu; subst hu; exact h
theorem closed_cells {v : Value} (h : closed v = true) (τ : Tau) : v.cells.map (mp τ) = v.cells := by
 rw [← mp_cells, mp_closed τ v h]
theorem alloc_ok {t : TypeId} {x : Nx} (h : opt (zeroOf P t) (fun z => newv (.cells z.cells t (0, 0))) s = some (x, s')) (r : Rel P τ A B s.h w) (hA : s.nx < s'.nx -> ¬ A s.nx) : ∃ v, x = .val v /\ OpS P τ A B s w s' (Instr.alloc t true (.tuple #[])) v := by
 rw [opt_some] at h
 obtain ⟨z, h1, h2⟩ := h
 obtain ⟨i, k1, k2, k3, _⟩ := zeroOf_some h1
 have hlt : s.nx < s'.nx := by
  have := h2
  unfold Rn.newv at this
  rw [bnd_some] at this
  obtain ⟨n, s1, j1, j2⟩ := this
  unfold val at j2
  rw [ret_some] at j2
  cases j2
  rw [(newo_ok j1).2.2.2]; exact Nat.lt_succ_self _
 refine OpS.newv h2 r (hA hlt) (inA_cells (inA_closed A z k3)) ?_
 rw [closed_cells k3]
 simp [Instr.alloc, zeroValue, typeInfo, k1, k2, newVar, newRow]
theorem newv_lt {o : Obj} {x : Nx} (h : newv o s = some (x, s')) : s.nx < s'.nx := by
 unfold Rn.newv at h
 rw [bnd_some] at h
 obtain ⟨n, s1, j1, j2⟩ := h
 unfold val at j2
 rw [ret_some] at j2
 cases j2
 rw [(newo_ok j1).2.2.2]; exact Nat.lt_succ_self _
theorem box_ok {t : TypeId} {v0 : Value} {x : Nx} (h : newv (.cells v0.cells t (0, 0)) s = some (x, s')) (r : Rel P τ A B s.h w) (hv : inA A v0) (hA : s.nx < s'.nx -> ¬ A s.nx) : ∃ v, x = .val v /\ OpS P τ A B s w s' (Instr.box t (mp τ v0)) v := by
 refine OpS.newv h r (hA (newv_lt h)) (inA_cells hv) ?_
 simp [Instr.box, newVar, newRow, mp_cells]
theorem pureRun_ok {α : Type} : ∀ (sem : Sem α) (a : α) (w : World), pureRun P sem = some a -> sem.run P w = .ok a w
 | .pure a, b, w, h => by cases h; rfl
 | .program k, b, w, h => by
  show (k P).run P w = _
  exact pureRun_ok (k P) b w h
 | .load .., b, w, h | .store .., b, w, h | .new .., b, w, h | .shape .., b, w, h | .freeze .., b, w, h | .frozen .., b, w, h | .getObj .., b, w, h | .setObj .., b, w, h | .choose .., b, w, h | .sys .., b, w, h | .mark .., b, w, h | .halt _, b, w, h => by cases h
end Go.Proofs.YtmdlgfnibjcgmaaGreatDoor.Rn
set_option linter.unusedSectionVars false
namespace Go.Proofs.YtmdlgfnibjcgmaaGreatDoor.Rn
open Go.RowKit
variable {P : Program} {τ : Tau} {A : Nat -> Prop} {B : Nat} {w : World} {s s' : St}
theorem val_some {v : Value} {x : Nx} : val v s = some (x, s') ↔ x = .val v /\ s' = s := by
 unfold val
 rw [ret_some]
 constructor
 ·intro h; cases h; exact ⟨rfl, rfl⟩
 ·rintro ⟨rfl, rfl⟩; rfl
theorem run_under {t : TypeId} {d : TypeDesc} (h : P.underlying t = some d) (w : World) : (underlying t).run P w = .ok d w := by
 simp [underlying, h]
theorem run_size {t : TypeId} {i : TypeInfo} (h : P.info? t = some i) (w : World) : (sizeOf t).run P w = .ok i.size w := by
 simp [sizeOf, typeInfo, h]
theorem aggB {t : TypeId} {b : Bool} (h : isAggB P t = some b) (w : World) : (isAgg t).run P w = .ok b w := by
 unfold isAggB at h
 obtain ⟨d, h1, h2⟩ := Option.map_eq_some_iff.1 h
 unfold isAgg
 rw [Sem.run_bind, run_under h1, Result.andThen_ok]
 subst h2
 cases d <;> rfl
theorem add0 (b o n : Nat) : (⟨b, o, none⟩ : Addr).add n = ⟨b, o + n, none⟩ := by unfold Addr.add; split <;> simp_all
theorem mp_ptr (τ : Tau) (a : Addr) : mp τ (.pointer (some a)) = .pointer (some ⟨τ.σ a.block, a.off, a.spot⟩) := by rw [mp]
theorem loadVar_ok {t : TypeId} {a : Addr} {u : Value} (h : loadA P t (.pointer (some a)) s = some (u, s')) (r : Rel P τ A B s.h w) :
  s'.h = s.h /\ s'.nx = s.nx /\ inA A u /\ (loadVar t ⟨τ.σ a.block, a.off, a.spot⟩).run P w = .ok (mp τ u) w := by
 unfold loadA at h
 simp only at h
 rw [opt_some] at h
 obtain ⟨b, h1, h⟩ := h
 cases b with
 | true =>
  simp only at h
  rw [opt_some] at h
  obtain ⟨k, h2, h⟩ := h
  rw [bnd_some] at h
  obtain ⟨l, s1, h3, h4⟩ := h
  rw [ret_some] at h4
  cases h4
  obtain ⟨i, k1, k2⟩ := sizeOf_some h2
  obtain ⟨e1, e2, e3, e4, e5, e6, e7⟩ := loadN_ok h3 r
  refine ⟨e1, e2, inA_agg.2 (by simpa using e4), ?_⟩
  have hl : (loadCells ⟨τ.σ a.block, a.off, none⟩ (l.map (mp τ)).length).run P w = .ok (l.map (mp τ)).toArray w :=
   run_loadCells_list (P := P) w _ (l.map (mp τ)) (fun j v hj => by rw [add0]; exact e7 j v hj)
  rw [List.length_map, e5] at hl
  rw [e6]
  unfold loadVar
  rw [Sem.run_bind, aggB h1, Result.andThen_ok]
  simp only [if_true, Sem.run_bind, run_size k1, Result.andThen_ok, k2, hl, Sem.run_pure]
  rw [mp_agg]; simp
 | false =>
  simp only at h
  rw [bnd_some] at h
  obtain ⟨l, s1, h3, h4⟩ := h
  obtain ⟨e1, e2, e3, e4, e5, e6, e7⟩ := loadN_ok h3 r
  match l, e5, h4 with
  | [v], _, h4 =>
   simp only at h4
   rw [ret_some] at h4
   cases h4
   refine ⟨e1, e2, e4 u (by simp), ?_⟩
   have := e7 0 (mp τ u) rfl
   rw [e6]
   unfold loadVar
   rw [Sem.run_bind, aggB h1, Result.andThen_ok]
   simp only [Bool.false_eq_true, if_false]
   simp only [Nat.add_zero] at this
   simp [this]
theorem loadA_ok {t : TypeId} {v u : Value} (h : loadA P t v s = some (u, s')) (r : Rel P τ A B s.h w) :
  s'.h = s.h /\ s'.nx = s.nx /\ inA A u /\ ∃ a, mp τ v = .pointer (some a) /\ (loadVar t a).run P w = .ok (mp τ u) w := by
 match v with
 | .pointer (some a) =>
  obtain ⟨h1, h2, h3, h4⟩ := loadVar_ok h r
  exact ⟨h1, h2, h3, _, mp_ptr τ a, h4⟩
 | .pointer none | .bool _ | .int _ _ | .float _ _ | .complex _ _ _ | .string _ | .slice _ _ _ | .map _ | .chan _ | .func _ _ _ | .nilFunc | .iface _ _ | .nilIface | .agg _ | .tuple _ => simp [loadA, die] at h
theorem storeA_ok {t : TypeId} {x v : Value} {y : Nx} (h : storeA P t x v s = some (y, s')) (r : Rel P τ A B s.h w) (hv : inA A v) :
  y = .val undef /\ s'.nx = s.nx /\ ∃ w', (Instr.storeAt t (mp τ x) (mp τ v)).run P w = .ok () w' /\ Rel P τ A B s'.h w' /\ Below B w w' := by
 match x with
 | .pointer (some a) =>
  unfold storeA at h
  simp only at h
  rw [opt_some] at h
  obtain ⟨k, h1, h⟩ := h
  rw [grd_some] at h
  obtain ⟨h2, h⟩ := h
  rw [bnd_some] at h
  obtain ⟨u, s1, h3, h4⟩ := h
  rw [val_some] at h4
  obtain ⟨rfl, rfl⟩ := h4
  obtain ⟨i, k1, k2⟩ := sizeOf_some h1
  have h2' := Nat.eq_of_beq_eq_true h2
  obtain ⟨e1, e2, e3, w', e4, e5, e6⟩ := storeN_ok h3 r (inA_cells hv)
  refine ⟨rfl, e3, w', ?_, e5, e6⟩
  rw [mp_ptr, e1]
  unfold Instr.storeAt storeVar
  have hc : (mp τ v).cells = v.cells.map (mp τ) := mp_cells τ v
  have hne : ¬ ((v.cells.map (mp τ)).size ≠ i.size) := by rw [Array.size_map, k2, h2']; simp
  rw [Sem.run_bind]
  simp only [Instr.sureAddr, Sem.run_pure, Result.andThen_ok, Sem.run_bind, run_size k1, hc, if_neg hne]
  rw [Array.toList_map]
  exact e4
 | .pointer none | .bool _ | .int _ _ | .float _ _ | .complex _ _ _ | .string _ | .slice _ _ _ | .map _ | .chan _ | .func _ _ _ | .nilFunc | .iface _ _ | .nilIface | .agg _ | .tuple _ => simp [storeA, die] at h
theorem clo_ok {sem : Sem Value} {x : Nx} (h : clo P sem s = some (x, s')) (r : Rel P τ A B s.h w) : ∃ v, x = .val v /\ OpS P τ A B s w s' sem v := by
 unfold clo at h
 rw [opt_some] at h
 obtain ⟨v, h1, h⟩ := h
 rw [grd_some] at h
 obtain ⟨h2, h⟩ := h
 rw [val_some] at h
 obtain ⟨rfl, rfl⟩ := h
 exact ⟨v, rfl, OpS.pure r rfl rfl (by rw [mp_closed τ v h2]; exact pureRun_ok _ _ _ h1) (inA_closed A v h2)⟩
def binSem (op : BinOp) (t : TypeId) (x y : Operand) (a b : Value) : Sem Value := do eqGuard op t x y a b; binOp op t a b
theorem pureRun_bind {α β : Type} : ∀ (x : Sem α) (f : α -> Sem β), pureRun P (x >>= f) = (pureRun P x).bind fun a => pureRun P (f a)
 | .pure a, f => rfl
 | .program k, f => by
  show pureRun P ((k P).bind f) = _
  exact pureRun_bind (k P) f
 | .load .., f | .store .., f | .new .., f | .shape .., f | .freeze .., f | .frozen .., f | .getObj .., f | .setObj .., f | .choose .., f | .sys .., f | .mark .., f | .halt _, f => rfl
theorem guard_ok {op : BinOp} {t : TypeId} {x y x' y' : Operand} {a b : Value} (h : a ≠ .nilIface ∨ b ≠ .nilIface) : eqGuard op t x y a b = eqGuard op t x' y' a b := by
 unfold eqGuard
 congr 1
 split
 ·rcases h with h | h <;> exact (h rfl).elim
 ·rfl
 ·rfl
theorem binC_ok {op : BinOp} {t : TypeId} {a b : Value} {x : Nx} {xo yo : Operand} (h : binC P op t a b s = some (x, s')) (r : Rel P τ A B s.h w) (ha : closed a = true) (hb : closed b = true) :
  ∃ v, x = .val v /\ OpS P τ A B s w s' (binSem op t xo yo (mp τ a) (mp τ b)) v := by
 unfold binC at h
 rw [grd_some] at h
 obtain ⟨h0, h⟩ := h
 obtain ⟨v, h1, h2⟩ := clo_ok h r
 refine ⟨v, h1, ?_⟩
 rw [mp_closed τ a ha, mp_closed τ b hb]
 unfold binSem
 rw [guard_ok (x' := .tmp 0) (y' := .tmp 0) (.inl (by intro e; subst e; cases h0))]
 exact h2
theorem run_binInt (op : BinOp) (t : TypeId) (xo yo : Operand) (k : IntKind) (a b : Int) (w : World) (hs : op ≠ .shl /\ op ≠ .shr) :
  (binSem op t xo yo (.int k a) (.int k b)).run P w = (match op with
   | .add | .sub | .mul => Op.intArith op k a b
   | .quo | .rem => Op.intDiv op k a b
   | .and | .or | .xor | .andNot => Op.intBits op k a b
   | _ => Op.intCmp op a b).run P w := by
 have hg : (eqGuard op t xo yo (.int k a) (.int k b)).run P w = .ok () w := by
  cases op <;> rfl
 unfold binSem
 rw [Sem.run_bind, hg, Result.andThen_ok]
 cases op <;> first | exact (hs.1 rfl).elim | exact (hs.2 rfl).elim | (simp [binOp])
theorem intOp_ok {op : BinOp} {t : TypeId} {k : IntKind} {a b : Int} {x : Nx} {xo yo : Operand} (h : intOp P op t k a b s = some (x, s')) (r : Rel P τ A B s.h w) :
  ∃ v, x = .val v /\ OpS P τ A B s w s' (binSem op t xo yo (.int k a) (.int k b)) v := by
 have fin : ∀ v, closed v = true -> val v s = some (x, s') -> (binSem op t xo yo (.int k a) (.int k b)).run P w = .ok v w -> ∃ v, x = .val v /\ OpS P τ A B s w s' (binSem op t xo yo (.int k a) (.int k b)) v := by
  intro v hv h1 h2
  rw [val_some] at h1
  obtain ⟨rfl, rfl⟩ := h1
  exact ⟨v, rfl, OpS.pure r rfl rfl (by rw [mp_closed τ v hv]; exact h2) (inA_closed A v hv)⟩
 have mpi : ∀ n, mp τ (.int k n) = .int k n := fun n => by simp [mp]
 have rest : binC P op t (.int k a) (.int k b) s = some (x, s') -> ∃ v, x = .val v /\ OpS P τ A B s w s' (binSem op t xo yo (.int k a) (.int k b)) v := by
  intro h1
  have := binC_ok (xo := xo) (yo := yo) h1 r rfl rfl
  rw [mpi, mpi] at this
  exact this
 cases op <;> first
  | exact rest h
  | exact fin _ rfl h (by rw [run_binInt _ _ _ _ _ _ _ _ ⟨by simp, by simp⟩]; rfl)
def negIf (o : BinOp) (c : Bool) : Bool := match o with
 | .neq => !c
 | _ => c
theorem run_eqSem {t : TypeId} {xo yo : Operand} {x y : Value} {c : Bool} {w : World} (h1 : (Op.equal t x y).run P w = .ok c w) (h2 : ∀ o : BinOp, (eqGuard o t xo yo x y).run P w = .ok () w)
  (h3 : binOp .eql t x y = (do pure (.bool (← Op.equal t x y)))) (h4 : binOp .neq t x y = (do pure (.bool (!(← Op.equal t x y))))) (o : BinOp) (ho : o = .eql ∨ o = .neq) : (binSem o t xo yo x y).run P w = .ok (.bool (negIf o c)) w := by
 unfold binSem
 rcases ho with rfl | rfl
 ·rw [Sem.run_bind, h2, Result.andThen_ok, h3]; simp [h1, negIf]
 ·rw [Sem.run_bind, h2, Result.andThen_ok, h4]; simp [h1, negIf]
theorem eq_pn {t e : TypeId} {p : Addr} {w : World} (k : P.underlying t = some (.pointer e)) : (Op.equal t (.pointer (some p)) (.pointer none)).run P w = .ok false w := by
 unfold Op.equal Op.maxDepth
 rw [Op.equalIn, Sem.run_bind, run_under k, Result.andThen_ok]; rfl
theorem eq_np {t e : TypeId} {p : Addr} {w : World} (k : P.underlying t = some (.pointer e)) : (Op.equal t (.pointer none) (.pointer (some p))).run P w = .ok false w := by
 unfold Op.equal Op.maxDepth
 rw [Op.equalIn, Sem.run_bind, run_under k, Result.andThen_ok]; rfl
theorem eq_sn {t e : TypeId} {p : Addr} {n c m d : Nat} {w : World} (k : P.underlying t = some (.slice e)) : (Op.equal t (.slice (some p) n c) (.slice none m d)).run P w = .ok false w := by
 unfold Op.equal Op.maxDepth
 rw [Op.equalIn, Sem.run_bind, run_under k, Result.andThen_ok]; rfl
theorem eq_pp {t e : TypeId} {p : Addr} {i : TypeInfo} {w : World} (k : P.underlying t = some (.pointer e)) (hi : P.info? e = some i) : (Op.equal t (.pointer (some p)) (.pointer (some p))).run P w = .ok true w := by
 unfold Op.equal Op.maxDepth
 rw [Op.equalIn, Sem.run_bind, run_under k, Result.andThen_ok]
 simp only [Sem.run_bind, run_size hi, Result.andThen_ok]
 by_cases hz : i.size = 0
 ·simp [hz]
 ·simp [hz, sameAddr]
theorem binB_ok {op : BinOp} {t : TypeId} {a b : Value} {x : Nx} {xo yo : Operand} (h : binB P op t a b s = some (x, s')) (r : Rel P τ A B s.h w) (ha : inA A a) (hb : inA A b) :
  ∃ v, x = .val v /\ OpS P τ A B s w s' (binSem op t xo yo (mp τ a) (mp τ b)) v := by
 unfold binB at h
 cases hc : closed a && closed b with
 | true =>
  rw [hc] at h
  rw [Bool.and_eq_true] at hc
  exact binC_ok h r hc.1 hc.2
 | false =>
  rw [hc] at h
  simp only at h
  have key : ∀ (e : Bool), eqA P t a b = some e -> (∀ o : BinOp, o = .eql ∨ o = .neq -> (binSem o t xo yo (mp τ a) (mp τ b)).run P w = .ok (.bool (negIf o e)) w) := by
   intro e he o ho
   have isP : ∀ {f : TypeDesc -> Bool}, der P t f = true -> ∃ d, P.underlying t = some d /\ f d = true := by
    intro f hf
    unfold der at hf
    cases hu : P.underlying t with
    | none => rw [hu] at hf; cases hf
    | some d => rw [hu] at hf; exact ⟨d, rfl, hf⟩
   match a, b, he with
   | .pointer (some p), .pointer none, he =>
    simp only [eqA, sel] at he
    cases hd : der P t isPtrD with
    | false => rw [hd] at he; cases he
    | true =>
     rw [hd] at he; cases he
     obtain ⟨d, k1, k2⟩ := isP hd
     cases d <;> simp [isPtrD] at k2
     rw [mp_ptr, show mp τ (.pointer none) = .pointer none by simp [mp]]
     exact run_eqSem (c := false) (eq_pn k1) (fun o => by cases o <;> rfl) rfl rfl o ho
   | .pointer none, .pointer (some p), he =>
    simp only [eqA, sel] at he
    cases hd : der P t isPtrD with
    | false => rw [hd] at he; cases he
    | true =>
     rw [hd] at he; cases he
     obtain ⟨d, k1, k2⟩ := isP hd
     cases d <;> simp [isPtrD] at k2
     rw [mp_ptr, show mp τ (.pointer none) = .pointer none by simp [mp]]
     exact run_eqSem (c := false) (eq_np k1) (fun o => by cases o <;> rfl) rfl rfl o ho
   | .slice (some p) _ _, .slice none _ _, he =>
    simp only [eqA, sel] at he
    cases hd : der P t isSlD with
    | false => rw [hd] at he; cases he
    | true =>
     rw [hd] at he; cases he
     obtain ⟨d, k1, k2⟩ := isP hd
     cases d <;> simp [isSlD] at k2
     rw [mp, show ∀ n c, mp τ (.slice none n c) = .slice none n c from fun n c => by simp [mp]]
     exact run_eqSem (c := false) (eq_sn k1) (fun o => by cases o <;> rfl) rfl rfl o ho
   | .pointer (some p), .pointer (some q), he =>
    simp only [eqA, sel] at he
    cases hd : ((ptrElem P t).any (fun e => (sizeOf? P e).isSome) && p == q) with
    | false => rw [hd] at he; cases he
    | true =>
     rw [hd] at he; cases he
     rw [Bool.and_eq_true] at hd
     obtain rfl : p = q := by simpa using hd.2
     have hd1 := hd.1
     unfold ptrElem at hd1
     cases hu : P.underlying t with
     | none => rw [hu] at hd1; simp at hd1
     | some d =>
      rw [hu] at hd1
      cases d <;> simp at hd1
      rename_i e
      cases hz : sizeOf? P e with
      | none => rw [hz] at hd1; simp at hd1
      | some k =>
       obtain ⟨i, i1, i2⟩ := sizeOf_some hz
       rw [mp_ptr]
       exact run_eqSem (c := true) (eq_pp hu i1) (fun o => by cases o <;> rfl) rfl rfl o ho
  cases op <;> try (simp [die] at h; done)
  ·rw [bnd_some] at h
   obtain ⟨e, s1, h1, h2⟩ := h
   rw [lft_some] at h1
   obtain ⟨e', h3, h4⟩ := h1
   cases h4
   rw [val_some] at h2
   obtain ⟨rfl, rfl⟩ := h2
   exact ⟨_, rfl, OpS.pure r rfl rfl (by rw [key e h3 .eql (.inl rfl)]; simp [mp, negIf]) (by simp [inA])⟩
  ·rw [bnd_some] at h
   obtain ⟨e, s1, h1, h2⟩ := h
   rw [lft_some] at h1
   obtain ⟨e', h3, h4⟩ := h1
   cases h4
   rw [val_some] at h2
   obtain ⟨rfl, rfl⟩ := h2
   exact ⟨_, rfl, OpS.pure r rfl rfl (by rw [key e h3 .neq (.inr rfl)]; simp [mp, negIf]) (by simp [inA])⟩
theorem binA_ok {op : BinOp} {t : TypeId} {a b : Value} {x : Nx} {xo yo : Operand} (h : binA P op t a b s = some (x, s')) (r : Rel P τ A B s.h w) (ha : inA A a) (hb : inA A b) :
  ∃ v, x = .val v /\ OpS P τ A B s w s' (binSem op t xo yo (mp τ a) (mp τ b)) v := by
 unfold binA at h
 split at h
 ·split at h
  ·rename_i k m _ k' n
   rw [sel_some] at h
   rcases h with ⟨hk, h⟩ | ⟨_, h⟩
   ·obtain rfl : k = k' := by simpa using hk
    have e : ∀ n, mp τ (.int k n) = .int k n := fun n => by simp [mp]
    rw [e, e]
    exact intOp_ok h r
   ·exact binB_ok h r ha hb
  ·exact binB_ok h r ha hb
 ·exact binB_ok h r ha hb
theorem unB_ok {op : UnOp} {v : Value} {x : Nx} (h : unB P op v s = some (x, s')) (r : Rel P τ A B s.h w) : ∃ u, x = .val u /\ OpS P τ A B s w s' (Op.unary op (mp τ v)) u := by
 unfold unB at h
 rw [grd_some] at h
 obtain ⟨h1, h2⟩ := h
 rw [mp_closed τ v h1]
 exact clo_ok h2 r
theorem unA_ok {op : UnOp} {v : Value} {x : Nx} (h : unA P op v s = some (x, s')) (r : Rel P τ A B s.h w) : ∃ u, x = .val u /\ OpS P τ A B s w s' (Op.unary op (mp τ v)) u := by
 have key : ∀ b, v = .bool b -> op = .not -> ∃ u, x = .val u /\ OpS P τ A B s w s' (Op.unary op (mp τ v)) u := by
  rintro b rfl rfl
  have h' : val (.bool (!b)) s = some (x, s') := h
  rw [val_some] at h'
  obtain ⟨rfl, rfl⟩ := h'
  exact ⟨_, rfl, OpS.pure r rfl rfl (by simp [mp, Op.unary]) (by simp [inA])⟩
 cases op with
 | not => cases v <;> first | exact key _ rfl rfl | exact unB_ok h r
 | _ => exact unB_ok h r
end Go.Proofs.YtmdlgfnibjcgmaaGreatDoor.Rn
