/-
  Several texts joined: RnR, RnT.
-/
import Derived.Test.YtmdlgfnibjcgmaaGreatDoorK34
import Derived.Laws.MakeOwn
set_option linter.unusedVariables false
set_option linter.unusedSimpArgs false
set_option linter.unusedSectionVars false
namespace Go.Proofs.YtmdlgfnibjcgmaaGreatDoor.Rn
open Go.RowKit
variable {P : Program} {τ : Tau} {A : Nat -> Prop} {B : Nat} {w : World} {s s' : St}
theorem pureRun_pure {α : Type} (a : α) : pureRun P (pure a : Sem α) = some a := rfl
theorem pureRun_under (t : TypeId) : pureRun P (underlying t) = P.underlying t := by
 unfold underlying
 rw [pureRun_bind]
 show (some P).bind _ = _
 simp only [Option.bind_some]
 cases P.underlying t <;> rfl
theorem pureRun_size (t : TypeId) : pureRun P (sizeOf t) = (P.info? t).map (·.size) := by
 unfold sizeOf typeInfo
 rw [pureRun_bind, pureRun_bind]
 show ((some P).bind _).bind _ = _
 simp only [Option.bind_some]
 cases P.info? t <;> rfl
theorem pureRun_agg (t : TypeId) : pureRun P (isAgg t) = isAggB P t := by
 unfold isAgg isAggB
 rw [pureRun_bind, pureRun_under]
 cases P.underlying t with
 | none => rfl
 | some d => cases d <;> rfl
theorem part_ok {t : TypeId} {cs : Array Value} {off : Nat} {u : Value} (h : pureRun P (part t cs off) = some u) (w : World) :
  (part t (cs.map (mp τ)) off).run P w = .ok (mp τ u) w /\ ((∀ v ∈ cs.toList, inA A v) -> inA A u) := by
 unfold part at h ⊢
 rw [pureRun_bind, pureRun_agg, Option.bind_eq_some_iff] at h
 obtain ⟨b, h1, h2⟩ := h
 rw [Sem.run_bind, aggB h1, Result.andThen_ok]
 cases b with
 | true =>
  simp only [if_true] at h2 ⊢
  rw [pureRun_bind, pureRun_size, Option.bind_eq_some_iff] at h2
  obtain ⟨k, h3, h4⟩ := h2
  rw [pureRun_pure] at h4
  cases h4
  obtain ⟨i, i1, i2⟩ := Option.map_eq_some_iff.1 h3
  refine ⟨?_, fun hv => inA_agg.2 fun v hm => hv v ?_⟩
  ·simp only [Sem.run_bind, run_size i1, Result.andThen_ok, i2, Sem.run_pure]
   rw [mp_agg]; simp
  ·rw [Array.toList_extract] at hm
   simp only [List.extract_eq_take_drop] at hm
   exact List.mem_of_mem_drop (List.mem_of_mem_take hm)
 | false =>
  simp only [Bool.false_eq_true, if_false] at h2 ⊢
  cases hc : cs[off]? with
  | none => rw [hc] at h2; cases h2
  | some v =>
   rw [hc] at h2
   rw [pureRun_pure] at h2
   cases h2
   refine ⟨?_, fun hv => hv u ?_⟩
   ·simp [hc]
   ·have : cs.toList[off]? = some u := by simpa using hc
    exact List.mem_of_getElem? this
theorem pureA_some {sem : Sem Value} {x : Nx} (h : pureA P sem s = some (x, s')) : ∃ u, pureRun P sem = some u /\ x = .val u /\ s' = s := by
 unfold pureA at h
 rw [bnd_some] at h
 obtain ⟨u, s1, h1, h2⟩ := h
 rw [lft_some] at h1
 obtain ⟨v, h3, h4⟩ := h1
 cases h4
 rw [val_some] at h2
 exact ⟨_, h3, h2.1, h2.2⟩
theorem field_ok {t : TypeId} {v : Value} {i : Nat} {x : Nx} (h : pureA P (Instr.field t v i) s = some (x, s')) (r : Rel P τ A B s.h w) (hv : inA A v) : ∃ u, x = .val u /\ OpS P τ A B s w s' (Instr.field t (mp τ v) i) u := by
 obtain ⟨u, h1, rfl, rfl⟩ := pureA_some h
 refine ⟨u, rfl, ?_⟩
 unfold Instr.field at h1 ⊢
 rw [pureRun_bind, pureRun_under, Option.bind_eq_some_iff] at h1
 obtain ⟨d, h2, h3⟩ := h1
 cases d with
 | struct fs =>
  simp only at h3
  cases hf : fs[i]? with
  | none => rw [hf] at h3; cases h3
  | some f =>
   rw [hf] at h3
   simp only at h3
   rw [pureRun_bind, Option.bind_eq_some_iff] at h3
   obtain ⟨cs, h4, h5⟩ := h3
   have hv2 : v = .agg cs := by
    cases v <;> first | (cases h4; rfl) | (cases h4; done)
   subst hv2
   obtain ⟨k1, k2⟩ := part_ok (τ := τ) (A := A) h5 w
   refine OpS.pure r rfl rfl ?_ (k2 (inA_agg.1 hv))
   rw [mp_agg]
   simp only [Sem.run_bind, run_under h2, Result.andThen_ok, hf, asAgg, Sem.run_pure]
   exact k1
 | _ => cases h3
theorem idxA_ok {t : TypeId} {v iv : Value} {x : Nx} (h : idxA P t v iv s = some (x, s')) (r : Rel P τ A B s.h w) (hv : inA A v) : ∃ u, x = .val u /\ OpS P τ A B s w s' (Instr.index t (mp τ v) (mp τ iv)) u := by
 unfold idxA at h
 rw [opt_some] at h
 obtain ⟨j, h1, h⟩ := h
 rw [opt_some] at h
 obtain ⟨d, h2, h⟩ := h
 obtain ⟨k, rfl⟩ := nat_some h1
 have hi : mp τ (.int k (j : Int)) = .int k (j : Int) := by simp [mp]
 rw [hi]
 unfold idxD at h
 split at h
 ·rename_i len e cs
  rw [grd_some] at h
  obtain ⟨h3, h⟩ := h
  rw [opt_some] at h
  obtain ⟨z, h4, h⟩ := h
  obtain ⟨u, h5, rfl, rfl⟩ := pureA_some h
  obtain ⟨i, i1, i2⟩ := sizeOf_some h4
  obtain ⟨k1, k2⟩ := part_ok (τ := τ) (A := A) h5 w
  refine ⟨u, rfl, OpS.pure r rfl rfl ?_ (k2 (inA_agg.1 hv))⟩
  have q : (0 : Int) <= j /\ (j : Int) < len := by
   have : j < len := by simpa using h3
   omega
  rw [mp_agg]
  unfold Instr.index
  simp only [Sem.run_bind, asIntOf, Sem.run_pure, Result.andThen_ok, run_under h2, if_pos q, run_size i1, i2, Int.toNat_natCast]
  exact k1
 ·rename_i z
  rw [opt_some] at h
  obtain ⟨b, h3, h⟩ := h
  rw [val_some] at h
  obtain ⟨rfl, rfl⟩ := h
  rw [nth_eq] at h3
  refine ⟨_, rfl, OpS.pure r rfl rfl ?_ (by simp [inA])⟩
  rw [show mp τ (.string z) = .string z by simp [mp]]
  have hz : z[j]? = some b := by
   have hj := (List.getElem?_eq_some_iff.1 h3).1
   have hj' : j < z.size := by simpa using hj
   rw [getElem?_pos z j hj']
   have := (List.getElem?_eq_some_iff.1 h3).2
   rw [← this]
   rfl
  unfold Instr.index
  have q : (0 : Int) <= j := by omega
  simp only [Sem.run_bind, asIntOf, Sem.run_pure, Result.andThen_ok, run_under h2, if_pos q, Int.toNat_natCast, hz]
  simp [mp]
 ·rw [die_some] at h; exact h.elim
theorem extrA_ok {v : Value} {i : Nat} {x : Nx} (h : extrA v i s = some (x, s')) (r : Rel P τ A B s.h w) (hv : inA A v) : ∃ u, x = .val u /\ OpS P τ A B s w s' (Instr.extract (mp τ v) i) u := by
 cases v with
 | tuple vs =>
  simp only [extrA] at h
  rw [opt_some] at h
  obtain ⟨u, h1, h2⟩ := h
  rw [val_some] at h2
  obtain ⟨rfl, rfl⟩ := h2
  rw [nth_eq] at h1
  have hg : vs[i]? = some u := by simpa using h1
  refine ⟨u, rfl, OpS.pure r rfl rfl ?_ (inA_tuple.1 hv u (List.mem_of_getElem? h1))⟩
  rw [mp_tuple]
  simp [Instr.extract, hg]
 | _ => simp [extrA, die] at h
theorem bnd?_some {v : Option Value} {d n : Nat} (h : bnd? v d = some n) : (v = none /\ n = d) ∨ ∃ k, v = some (.int k (n : Int)) := by
 unfold bnd? at h
 cases v with
 | none => cases h; exact .inl ⟨rfl, rfl⟩
 | some v => obtain ⟨k, rfl⟩ := nat_some h; exact .inr ⟨k, rfl⟩
theorem run_bound {k : IntKind} {n y : Nat} {c : BoundsCode} (h : n <= y) (w : World) : (Instr.sliceBound (.int k (n : Int)) y c).run P w = .ok n w := by
 have q : (0 : Int) <= n /\ (n : Int) <= y := by omega
 simp [Instr.sliceBound, asIntOf, q]
theorem run_bounds {isS : Bool} {len cap h l : Nat} {lo hi : Option Value} (h1 : bnd? hi len = some h) (h2 : bnd? lo 0 = some l) (hc : h <= cap) (hl : l <= h) (w : World) :
  (Instr.sliceBounds isS len cap lo hi none).run P w = .ok (l, h, cap) w := by
 unfold Instr.sliceBounds
 rcases bnd?_some h1 with ⟨rfl, rfl⟩ | ⟨k, rfl⟩ <;> rcases bnd?_some h2 with ⟨rfl, rfl⟩ | ⟨k2, rfl⟩ <;> simp [run_bound hc, run_bound hl]
theorem bnd?_mp {v : Option Value} {d n : Nat} (h : bnd? v d = some n) : v.map (mp τ) = v := by
 rcases bnd?_some h with ⟨rfl, _⟩ | ⟨k, rfl⟩
 ·rfl
 ·simp [mp]
theorem sliceV_ok {t : TypeId} {v : Value} {lo hi : Option Value} {x : Nx} (h : sliceV P t v lo hi s = some (x, s')) (r : Rel P τ A B s.h w) (hv : inA A v) :
  ∃ u, x = .val u /\ OpS P τ A B s w s' (Instr.sliceAt t (mp τ v) (lo.map (mp τ)) (hi.map (mp τ)) none) u := by
 unfold sliceV at h
 rw [opt_some] at h
 obtain ⟨d, h1, h⟩ := h
 rw [opt_some] at h
 obtain ⟨l, h2, h⟩ := h
 have hadd : ∀ (a : Addr) (n : Nat), (a.add n).block = a.block := fun a n => by unfold Addr.add; split <;> rfl
 have hadd2 : ∀ (a : Addr) (n : Nat), (⟨τ.σ a.block, a.off, a.spot⟩ : Addr).add n = ⟨τ.σ (a.add n).block, (a.add n).off, (a.add n).spot⟩ := fun a n => by unfold Addr.add; split <;> rfl
 split at h
 ·rename_i z
  rw [opt_some] at h
  obtain ⟨h', h3, h⟩ := h
  unfold sliceS at h
  rw [grd_some, Bool.and_eq_true] at h
  obtain ⟨⟨h4, h5⟩, h⟩ := h
  rw [val_some] at h
  obtain ⟨rfl, rfl⟩ := h
  have k4 := Nat.le_of_ble_eq_true h4
  have k5 := Nat.le_of_ble_eq_true h5
  refine ⟨_, rfl, OpS.pure r rfl rfl ?_ (by simp [inA])⟩
  rw [bnd?_mp h2, bnd?_mp h3, show mp τ (.string z) = .string z by simp [mp]]
  have hb := run_bounds (P := P) (isS := false) h3 h2 k5 k4 w
  simp [Instr.sliceAt, run_under h1, Instr.slice, hb, mp]
 ·rename_i e a len cap
  rw [opt_some] at h
  obtain ⟨h', h3, h⟩ := h
  unfold sliceL at h
  rw [grd_some, Bool.and_eq_true] at h
  obtain ⟨⟨h4, h5⟩, h⟩ := h
  have k4 := Nat.le_of_ble_eq_true h4
  have k5 := Nat.le_of_ble_eq_true h5
  rw [opt_some] at h
  obtain ⟨z, hz, h⟩ := h
  obtain ⟨i, i1, i2⟩ := sizeOf_some hz
  have main : ∀ (cap' : Nat) (a' : Option Addr), cap <= cap' -> (Instr.sliceAt t (.slice a' len cap') (lo.map (mp τ)) (hi.map (mp τ)) none).run P w = .ok (.slice (if cap' = l then a' else a'.map (·.add (l * i.size))) (h' - l) (cap' - l)) w := by
   intro cap' a' hcap
   rw [bnd?_mp h2, bnd?_mp h3]
   have hb := run_bounds (P := P) (isS := true) h3 h2 (Nat.le_trans k5 hcap) k4 w
   simp [Instr.sliceAt, run_under h1, Instr.slice, hb, run_size i1]
  rw [sel_some] at h
  rcases h with ⟨h6, h⟩ | ⟨h6, h⟩
  ·rw [val_some] at h
   obtain ⟨rfl, rfl⟩ := h
   have hl0 : l = 0 := Nat.eq_of_beq_eq_true h6
   subst hl0
   have hA : inA A (.slice a h' cap) := by
    cases a with
    | none => simp [inA]
    | some a => rw [inA] at hv ⊢; exact hv
   refine ⟨_, rfl, OpS.pure r rfl rfl ?_ hA⟩
   cases a with
   | none =>
    have e : ∀ n c, mp τ (.slice none n c) = .slice none n c := fun n c => by simp [mp]
    rw [e, e, main cap none (Nat.le_refl _)]
    simp
   | some a =>
    rw [mp_sl, mp_sl, main (cap + τ.x a.block) _ (Nat.le_add_right _ _)]
    have : ∀ b : Addr, b.add 0 = b := fun b => by unfold Addr.add; simp
    simp [this]
  ·rw [grd_some] at h
   obtain ⟨h7, h⟩ := h
   rw [val_some] at h
   obtain ⟨rfl, rfl⟩ := h
   have k7 : l < cap := by simpa using h7
   cases a with
   | none =>
    have e : ∀ n c, mp τ (.slice none n c) = .slice none n c := fun n c => by simp [mp]
    refine ⟨_, rfl, OpS.pure r rfl rfl ?_ (by simp [inA])⟩
    rw [e, main cap none (Nat.le_refl _)]
    simp [mp]
   | some a =>
    refine ⟨_, rfl, OpS.pure r rfl rfl ?_ ?_⟩
    ·rw [mp_sl, main (cap + τ.x a.block) _ (Nat.le_add_right _ _), if_neg (by omega)]
     simp only [Option.map_some]
     rw [mp_sl, ← hadd2, hadd, i2]
     have : cap + τ.x a.block - l = cap - l + τ.x a.block := by omega
     rw [this]
    ·simp only [Option.map_some]
     rw [inA, hadd]; rw [inA] at hv; exact hv
 ·rename_i n e a
  rw [opt_some] at h
  obtain ⟨h', h3, h⟩ := h
  unfold sliceY at h
  rw [grd_some, Bool.and_eq_true, Bool.and_eq_true] at h
  obtain ⟨⟨⟨h4, h5⟩, h6⟩, h⟩ := h
  rw [bnd_some] at h
  obtain ⟨o, s1, g1, h⟩ := h
  rw [opt_some] at h
  obtain ⟨c, g2, h⟩ := h
  rw [grd_some] at h
  obtain ⟨g3, h⟩ := h
  rw [opt_some] at h
  obtain ⟨z, hz, h⟩ := h
  rw [val_some] at h
  obtain ⟨rfl, rfl⟩ := h
  obtain ⟨f1, f2, f3⟩ := geto_ok g1
  obtain ⟨ca, fr, j1, j2, j3⟩ := cellsO_some g2
  subst j1
  have hx : τ.x a.block = 0 := by
   obtain ⟨d1, d2, d3, o', d4, d5⟩ := r.dom _ _ f1
   cases o' <;> try exact d5.elim
   exact d5.2.2.1 (by rw [← j3]; exact Nat.eq_of_beq_eq_true g3)
  obtain ⟨i, i1, i2⟩ := sizeOf_some hz
  have k4 := Nat.le_of_ble_eq_true h4
  have k5 := Nat.le_of_ble_eq_true h5
  have k6 : l < n := by simpa using h6
  have hb := run_bounds (P := P) (isS := false) h3 h2 k5 k4 w
  refine ⟨_, rfl, OpS.pure r f2 f3 ?_ (by rw [inA, hadd]; rw [inA] at hv; exact hv)⟩
  have hne : ¬ n = l := by omega
  rw [bnd?_mp h2, bnd?_mp h3, mp_ptr, mp_sl, ← hadd2, hadd, hx]
  simp [Instr.sliceAt, run_under h1, Instr.sureAddr, hb, run_size i1, hne, i2]
 ·rw [die_some] at h; exact h.elim
end Go.Proofs.YtmdlgfnibjcgmaaGreatDoor.Rn
set_option linter.unusedSectionVars false
namespace Go.Proofs.YtmdlgfnibjcgmaaGreatDoor.Rn
open Go.RowKit
variable {P : Program} {τ : Tau} {A : Nat -> Prop} {B : Nat} {w : World} {s s' : St}
theorem fold_mp (τ : Tau) (off : Nat) : ∀ (l : List (Value × Nat)) (cs : Array Value),
  ((l.map fun p => (mp τ p.1, p.2)).foldl (fun cs p => cs.setIfInBounds (off + p.2) p.1) (cs.map (mp τ))) = (l.foldl (fun cs p => cs.setIfInBounds (off + p.2) p.1) cs).map (mp τ)
 | [], cs => rfl
 | p :: l, cs => by
  rw [List.map_cons, List.foldl_cons, List.foldl_cons]
  simp only
  rw [← Array.map_setIfInBounds]
  exact fold_mp τ off l _
theorem fill_mp (τ : Tau) (place : Nat -> Option (Nat × Nat)) : ∀ (parts : List (Nat × Value)) (cs c : Array Value), Instr.fill place cs parts = some c ->
  Instr.fill place (cs.map (mp τ)) (parts.map fun p => (p.1, mp τ p.2)) = some (c.map (mp τ))
 | [], cs, c, h => by simp only [Instr.fill, Option.some.injEq] at h; subst h; simp [Instr.fill]
 | (i, v) :: rest, cs, c, h => by
  simp only [Instr.fill] at h
  simp only [List.map_cons, Instr.fill]
  cases hp : place i with
  | none => rw [hp] at h; simp at h
  | some q =>
   obtain ⟨off, size⟩ := q
   rw [hp] at h
   simp only at h ⊢
   split at h
   ·cases h
   ·rename_i hn
    rw [if_neg (by rw [mp_cells, Array.size_map, Array.size_map]; exact hn)]
    rw [← fill_mp τ place rest _ c h]
    congr 1
    have e : (mp τ v).cells.zipIdx = (v.cells.zipIdx.map fun p => (mp τ p.1, p.2)) := by
     rw [mp_cells]
     apply Array.ext'
     simp [List.zipIdx_map]
    rw [e, ← Array.foldl_toList, ← Array.foldl_toList, Array.toList_map]
    exact fold_mp τ off _ _
theorem fill_in {A : Nat -> Prop} (place : Nat -> Option (Nat × Nat)) : ∀ (parts : List (Nat × Value)) (cs c : Array Value), Instr.fill place cs parts = some c -> (∀ v ∈ cs.toList, inA A v) -> (∀ p ∈ parts, inA A p.2) -> ∀ v ∈ c.toList, inA A v
 | [], cs, c, h, h1, _ => by simp only [Instr.fill, Option.some.injEq] at h; subst h; exact h1
 | (i, v) :: rest, cs, c, h, h1, h2 => by
  simp only [Instr.fill] at h
  cases hp : place i with
  | none => rw [hp] at h; simp at h
  | some q =>
   obtain ⟨off, size⟩ := q
   rw [hp] at h
   simp only at h
   split at h
   ·cases h
   ·refine fill_in place rest _ c h ?_ (fun p hp' => h2 p (List.mem_cons_of_mem _ hp'))
    have hv := inA_cells (h2 (i, v) (List.mem_cons_self ..))
    have gen : ∀ (l : List (Value × Nat)) (cs : Array Value), (∀ p ∈ l, inA A p.1) -> (∀ v ∈ cs.toList, inA A v) -> ∀ v ∈ (l.foldl (fun cs p => cs.setIfInBounds (off + p.2) p.1) cs).toList, inA A v := by
     intro l
     induction l with
     | nil => intro cs _ h; exact h
     | cons p l ih =>
      intro cs hl hcs
      rw [List.foldl_cons]
      refine ih _ (fun q hq => hl q (List.mem_cons_of_mem _ hq)) (fun v hv => ?_)
      rw [Array.toList_setIfInBounds] at hv
      rcases List.mem_or_eq_of_mem_set hv with q | q
      ·exact hcs v q
      ·subst q; exact hl p (List.mem_cons_self ..)
    rw [← Array.foldl_toList]
    refine gen _ _ (fun p hp' => hv p.1 ?_) h1
    rw [Array.toList_zipIdx] at hp'
    exact (List.mem_zipIdx' hp').2 ▸ (by simp)
theorem rep_mem {l : List Value} {v : Value} : ∀ n, v ∈ rep n l -> v ∈ l
 | 0, h => by cases h
 | n + 1, h => by
  have : rep (n + 1) l = l ++ rep n l := rfl
  rw [this] at h
  rcases List.mem_append.1 h with q | q
  ·exact q
  ·exact rep_mem n q
theorem rep_len (l : List Value) : ∀ n, (rep n l).length = n * l.length
 | 0 => by rw [Nat.zero_mul]; rfl
 | n + 1 => by
  have : rep (n + 1) l = l ++ rep n l := rfl
  rw [this, List.length_append, rep_len l n, Nat.succ_mul]; omega
theorem rep_get (l : List Value) : ∀ n i, i < n * l.length -> (rep n l)[i]? = l[i % l.length]?
 | 0, i, h => by omega
 | n + 1, i, h => by
  have e : rep (n + 1) l = l ++ rep n l := rfl
  rw [e]
  have hl : 0 < l.length := by
   rcases Nat.eq_zero_or_pos l.length with q | q
   ·rw [q] at h; omega
   ·exact q
  by_cases q : i < l.length
  ·rw [List.getElem?_append_left q, Nat.mod_eq_of_lt q]
  ·rw [List.getElem?_append_right (by omega), rep_get l n _ (by rw [Nat.succ_mul] at h; omega)]
   congr 1
   exact (Nat.mod_eq_sub_mod (by omega)).symm
theorem range_rep (l : List Value) (n m : Nat) (hm : n * l.length = m) : (Array.range m).map (fun i => l.toArray[i % l.toArray.size]!) = (rep n l).toArray := by
 apply Array.ext_getElem?
 intro i
 subst hm
 simp only [Array.getElem?_map, Array.getElem?_range, List.getElem?_toArray]
 by_cases h : i < n * l.length
 ·rw [if_pos h, rep_get l n i h]
  have hl : 0 < l.length := by
   rcases Nat.eq_zero_or_pos l.length with q | q
   ·rw [q] at h; omega
   ·exact q
  have hlt := Nat.mod_lt i hl
  simp [List.getElem?_eq_getElem hlt]
 ·rw [if_neg h, List.getElem?_eq_none (by rw [rep_len]; omega)]; rfl
theorem built_ok {t : TypeId} {parts : List (Nat × Value)} {c : Array Value} {z : Value} (hz : zeroOf P t = some z) (h : P.built t parts = some c) :
  P.built t (parts.map fun p => (p.1, mp τ p.2)) = some (c.map (mp τ)) /\ ((∀ p ∈ parts, inA A p.2) -> ∀ v ∈ c.toList, inA A v) := by
 obtain ⟨i, i1, i2, i3, _⟩ := zeroOf_some hz
 unfold Program.built at h ⊢
 rw [i1] at h ⊢
 have hzc := closed_cells i3 τ
 have hzi := inA_cells (inA_closed A z i3)
 cases hu : P.underlying t with
 | none => rw [hu] at h; simp at h
 | some d =>
  rw [hu] at h
  cases d <;> try (simp at h; done)
  ·rename_i n e
   simp only [i2] at h ⊢
   cases he : P.info? e with
   | none => rw [he] at h; simp at h
   | some ie =>
    rw [he] at h
    simp only at h ⊢
    have := fill_mp τ _ parts _ _ h
    rw [hzc] at this
    exact ⟨this, fun hp => fill_in _ parts _ _ h hzi hp⟩
  ·rename_i fs
   simp only [i2] at h ⊢
   split at h
   ·rename_i hpl hq
    cases hpl
    have := fill_mp τ _ parts _ _ h
    rw [hzc] at this
    exact ⟨this, fun hp => fill_in _ parts _ _ h hzi hp⟩
   ·cases h
theorem build_ok {t : TypeId} {parts : Array (Nat × Operand)} {ρ ρ' : Operand -> Value} {x : Nx} (hρ : ∀ p ∈ parts.toList, ρ' p.2 = mp τ (ρ p.2)) (hA : ∀ p ∈ parts.toList, inA A (ρ p.2))
  (h : (opt (zeroOf P t) fun _ => opt (P.built t (parts.toList.map fun p => (p.1, ρ p.2))) fun c => val (.agg c)) s = some (x, s')) (r : Rel P τ A B s.h w) :
  ∃ u, x = .val u /\ OpS P τ A B s w s' (Instr.build t (parts.map fun (i, x) => (i, ρ' x))) u := by
 rw [opt_some] at h
 obtain ⟨z, h1, h⟩ := h
 rw [opt_some] at h
 obtain ⟨c, h2, h⟩ := h
 rw [val_some] at h
 obtain ⟨rfl, rfl⟩ := h
 obtain ⟨k1, k2⟩ := built_ok (τ := τ) (A := A) h1 h2
 refine ⟨_, rfl, OpS.pure r rfl rfl ?_ (inA_agg.2 (k2 (fun p hp => ?_)))⟩
 ·rw [mp_agg]
  refine run_build w t _ _ ?_
  rw [Array.toList_map, ← k1]
  congr 1
  rw [List.map_map]
  exact List.map_congr_left fun p hp => by simp [hρ p hp]
 ·obtain ⟨q, hq, rfl⟩ := List.mem_map.1 hp
  exact hA q hq
theorem sl_new (b x n m : Nat) : mp (τ.new s.nx b x) (.slice (some ⟨s.nx, 0, none⟩) n m) = .slice (some ⟨b, 0, none⟩) n (m + x) := by
 rw [mp_sl, (τ.new_at _ _ _).1, (τ.new_at _ _ _).2]
theorem newo_lt {o : Obj} {n : Nat} (h : newo o s = some (n, s')) : s.nx < s'.nx := by
 rw [(newo_ok h).2.2.2]; exact Nat.lt_succ_self _
theorem buildSl_ok {t : TypeId} {len : Nat} {parts : Array (Nat × Operand)} {ρ ρ' : Operand -> Value} {x : Nx} (hρ : ∀ p ∈ parts.toList, ρ' p.2 = mp τ (ρ p.2)) (hA : ∀ p ∈ parts.toList, inA A (ρ p.2))
  (h : buildSl P t len (parts.toList.map fun p => (p.1, ρ p.2)) s = some (x, s')) (r : Rel P τ A B s.h w) (hn : s.nx < s'.nx -> ¬ A s.nx) :
  ∃ u, x = .val u /\ OpS P τ A B s w s' (Instr.buildSlice t len (parts.map fun (i, x) => (i, ρ' x))) u := by
 unfold buildSl at h
 rw [opt_some] at h
 obtain ⟨e, h1, h⟩ := h
 rw [opt_some] at h
 obtain ⟨k, h2, h⟩ := h
 rw [opt_some] at h
 obtain ⟨z, h3, h⟩ := h
 rw [grd_some] at h
 obtain ⟨h4, h⟩ := h
 rw [opt_some] at h
 obtain ⟨cs, h5, h⟩ := h
 rw [bnd_some] at h
 obtain ⟨b, s1, h6, h⟩ := h
 rw [val_some] at h
 obtain ⟨rfl, rfl⟩ := h
 obtain ⟨i, i1, i2, i3, i4⟩ := zeroOf_some h3
 obtain ⟨j, j1, j2⟩ := sizeOf_some h2
 rw [i1] at j1
 cases j1
 have hle := Nat.le_of_ble_eq_true h4
 have hzi : ∀ v ∈ (rep len z.cells.toList).toArray.toList, inA A v := fun v hv => inA_cells (inA_closed A z i3) v (rep_mem len (by simpa using hv))
 have hcs : ∀ v ∈ cs.toList, inA A v := fill_in _ _ _ _ h5 hzi (fun p hp => by
  obtain ⟨q, hq, rfl⟩ := List.mem_map.1 hp
  exact hA q hq)
 obtain ⟨e1, e2, e3, e4, e5, e6⟩ := new_cells h6 r (hn (newo_lt h6)) hcs
 subst e1
 refine ⟨_, rfl, _, _, ?_, e3, e4, by rw [inA]; exact e6, e5⟩
 rw [sl_new]
 have hf := fill_mp τ _ _ _ _ h5
 have hz0 : (rep len z.cells.toList).toArray.map (mp τ) = (rep len z.cells.toList).toArray := by
  have hc := closed_cells i3 τ
  have hc' : ∀ v ∈ z.cells.toList, mp τ v = v := by
   intro v hv
   obtain ⟨n, hn', he⟩ := List.mem_iff_getElem.1 hv
   have := congrArg (fun a : Array Value => a.toList[n]?) hc
   simp only [Array.toList_map, List.getElem?_map, List.getElem?_eq_getElem hn', Option.map_some, he, Option.some.injEq] at this
   exact this
  apply Array.ext'
  rw [Array.toList_map]
  exact (List.map_congr_left fun v hv => hc' v (rep_mem len hv)).trans (by simp)
 rw [hz0] at hf
 have hnot : ¬ len * i.size > 2 ^ 24 := by rw [j2]; omega
 have hrow : (Array.range (len * i.size)).map (fun j => z.cells[j % z.cells.size]!) = (rep len z.cells.toList).toArray := by
  have := range_rep z.cells.toList len (len * i.size) (by rw [← i4]; simp)
  simpa using this
 have hcell : ∀ zero : Array Value, zero = (if len * i.size = 0 then #[] else z.cells) -> (Array.range (len * i.size)).map (fun j => zero[j % zero.size]!) = (rep len z.cells.toList).toArray := by
  intro zero hz
  by_cases q : len * i.size = 0
  ·rw [if_pos q] at hz
   subst hz
   rw [← hrow, q]; simp
  ·rw [if_neg q] at hz
   subst hz
   exact hrow
 have hpar : (parts.map fun (i, x) => (i, ρ' x)).toList = (parts.toList.map fun p => (p.1, ρ p.2)).map fun p => (p.1, mp τ p.2) := by
  rw [Array.toList_map, List.map_map]
  exact List.map_congr_left fun p hp => by simp [hρ p hp]
 rw [← j2] at hf
 unfold Instr.buildSlice
 simp only [Sem.run_bind, run_under (elem_some h1), Result.andThen_ok, run_size i1, if_neg hnot]
 by_cases q : len * i.size = 0
 ·have hc := hcell #[] (by rw [if_pos q])
  simp only [if_pos q, Sem.run_bind, Sem.run_pure, Result.andThen_ok, hc, hpar, hf]
  simp [newRow]
 ·have hc := hcell z.cells (by rw [if_neg q])
  have hz : (zeroValue e).run P w = .ok z w := by simp [zeroValue, typeInfo, i1, i2]
  simp only [if_neg q, Sem.run_bind, hz, Sem.run_pure, Result.andThen_ok, hc, hpar, hf]
  simp [newRow]
end Go.Proofs.YtmdlgfnibjcgmaaGreatDoor.Rn
