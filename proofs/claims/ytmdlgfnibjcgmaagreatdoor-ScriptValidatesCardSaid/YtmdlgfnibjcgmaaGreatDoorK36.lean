/-
  Several texts joined: RnU, RnV.
-/
import Derived.Test.YtmdlgfnibjcgmaaGreatDoorK35
set_option linter.unusedVariables false
set_option linter.unusedSimpArgs false
set_option linter.unusedSectionVars false
namespace Go.Proofs.YtmdlgfnibjcgmaaGreatDoor.Rn
open Go.RowKit
variable {P : Program} {τ : Tau} {A : Nat -> Prop} {B : Nat} {w : World} {s s' : St}
theorem mp_rep {z : Value} (hc : closed z = true) (τ : Tau) (n : Nat) : (rep n z.cells.toList).toArray.map (mp τ) = (rep n z.cells.toList).toArray := by
 have hc := closed_cells hc τ
 have hc' : ∀ v ∈ z.cells.toList, mp τ v = v := by
  intro v hv
  obtain ⟨n, hn', he⟩ := List.mem_iff_getElem.1 hv
  have := congrArg (fun a : Array Value => a.toList[n]?) hc
  simp only [Array.toList_map, List.getElem?_map, List.getElem?_eq_getElem hn', Option.map_some, he, Option.some.injEq] at this
  exact this
 apply Array.ext'
 rw [Array.toList_map]
 exact (List.map_congr_left fun v hv => hc' v (rep_mem n hv)).trans (by simp)
theorem made_rep {z : Value} {i : TypeInfo} (h : z.cells.size = i.size) (n : Nat) : madeCells z.cells (n * i.size) = (rep n z.cells.toList).toArray := by
 have := range_rep z.cells.toList n (n * i.size) (by rw [← h]; simp)
 unfold madeCells
 simpa using this
theorem makeSl_ok {t : TypeId} {l c : Value} {x : Nx} (h : makeSl P t l c s = some (x, s')) (r : Rel P τ A B s.h w) (hn : s.nx < s'.nx -> ¬ A s.nx) : ∃ u, x = .val u /\ OpS P τ A B s w s' (Instr.makeSlice t (mp τ l) (mp τ c)) u := by
 unfold makeSl at h
 rw [opt_some] at h
 obtain ⟨e, h1, h⟩ := h
 rw [opt_some] at h
 obtain ⟨k, h2, h⟩ := h
 rw [opt_some] at h
 obtain ⟨z, h3, h⟩ := h
 rw [opt_some] at h
 obtain ⟨by_, h4, h⟩ := h
 rw [opt_some] at h
 obtain ⟨n, h5, h⟩ := h
 rw [opt_some] at h
 obtain ⟨m, h6, h⟩ := h
 rw [grd_some, Bool.and_eq_true, Bool.and_eq_true] at h
 obtain ⟨⟨⟨g1, g2⟩, g3⟩, h⟩ := h
 rw [bnd_some] at h
 obtain ⟨b, s1, h7, h⟩ := h
 rw [val_some] at h
 obtain ⟨rfl, rfl⟩ := h
 obtain ⟨i, i1, i2, i3, i4⟩ := zeroOf_some h3
 obtain ⟨j, j1, j2⟩ := bytesOf_some h4
 rw [i1] at j1; cases j1
 obtain ⟨kl, rfl⟩ := nat_some h5
 obtain ⟨km, rfl⟩ := nat_some h6
 have k1 := Nat.le_of_ble_eq_true g1
 have k2 := Nat.le_of_ble_eq_true g2
 have k3 := Nat.le_of_ble_eq_true g3
 obtain ⟨e1, e2, e3, e4, e5, e6⟩ := new_cells h7 r (hn (newo_lt h7)) (fun v hv => inA_cells (inA_closed A z i3) v (rep_mem m (by simpa using hv)))
 subst e1
 rw [mp_rep i3] at e4 e5
 refine ⟨_, rfl, _, _, ?_, e3, e4, by rw [inA]; exact e6, e5⟩
 rw [sl_new]
 have hmi : ∀ (k : IntKind) (n : Int), mp τ (.int k n) = .int k n := fun k n => by simp [mp]
 have hb : (i.bytes : Int) * (m : Int) <= 281474976710656 := by
  have h1 : i.bytes * m <= 1048576 := by rw [j2, Nat.mul_comm]; exact k2
  have h2 : ((i.bytes * m : Nat) : Int) <= 1048576 := by omega
  rw [Int.natCast_mul] at h2
  omega
 rw [hmi, hmi, run_make w t e i z (elem_some h1) i1 i2 kl km n m (by omega) (by omega) hb (by omega)]
 simp only [Int.toNat_natCast, made_rep i4]
 rfl
theorem makeMap_ok {t : TypeId} {x : Nx} (h : (bnd (newo (.map #[] 0)) fun n => val (.map (some n))) s = some (x, s')) (r : Rel P τ A B s.h w) (hn : s.nx < s'.nx -> ¬ A s.nx) : ∃ u, x = .val u /\ OpS P τ A B s w s' (Instr.makeMap t none) u := by
 rw [bnd_some] at h
 obtain ⟨b, s1, h7, h⟩ := h
 rw [val_some] at h
 obtain ⟨rfl, rfl⟩ := h
 obtain ⟨e1, e2, e3, e4, e5, e6⟩ := new_any (τ := τ) (x := 0) (o' := .map #[] 0) h7 r (hn (newo_lt h7)) (fun e he => by simp at he) ⟨rfl, rfl, fun e he => by simp at he⟩
 subst e1
 refine ⟨_, rfl, _, _, ?_, e3, e4, by rw [inA]; exact e6, e5⟩
 rw [mp, (τ.new_at _ _ _).1]
 simp [Instr.makeMap]
theorem mapTy_some {t : TypeId} {ty : TypeId × TypeId} (h : mapTy P t = some ty) : P.underlying t = some (.map ty.1 ty.2) := by
 unfold mapTy at h
 obtain ⟨d, h1, h2⟩ := Option.bind_eq_some_iff.1 h
 cases d <;> simp at h2
 rw [h1, ← h2]
theorem mapO_some {o : Obj} {e : List MapEntry × Nat} (h : mapO o = some e) : ∃ es, o = .map es e.2 /\ e.1 = es.toList := by
 cases o <;> simp [mapO] at h
 rename_i es c
 exact ⟨es, by rw [← h], by rw [← h]⟩
theorem map_at {b : Nat} {es : Array MapEntry} {c : Nat} (h : s.h.get b = some (.map es c)) (r : Rel P τ A B s.h w) :
  A b /\ B <= τ.σ b /\ (∀ e ∈ es.toList, inA A e.val) /\ (∀ e ∈ es.toList, closed e.key = true) /\ ∃ es', w.heap[τ.σ b]? = some (.map es' c) /\ es'.toList = es.toList.map (mpE τ) := by
 obtain ⟨d1, d2, d3, o', d4, d5⟩ := r.dom _ _ h
 cases o' <;> try exact d5.elim
 rename_i es' c'
 obtain ⟨k1, k2, k3⟩ := d5
 subst k2
 exact ⟨d1, d3, d2, k3, es', d4, k1⟩
theorem run_getMap {b c : Nat} {es : Array MapEntry} (h : w.heap[b]? = some (.map es c)) : (getObj b).run P w = .ok (.map es c) w := by
 simp [getObj, Sem.run, h]
theorem keyEq_some {t : TypeId} {a b : Value} {c : Bool} (h : keyEq P t a b = some c) : closed a = true /\ closed b = true /\ pureRun P (Op.equal t a b) = some c := by
 unfold keyEq sel at h
 cases hc : closed a && closed b with
 | false => rw [hc] at h; cases h
 | true => rw [hc] at h; rw [Bool.and_eq_true] at hc; exact ⟨hc.1, hc.2, h⟩
theorem same_equal {t : TypeId} {d : TypeDesc} {a b : Value} {c : Bool} (hd : P.underlying t = some d) (h : Instr.sameNow d a b = some c) (w : World) : (Op.equal t a b).run P w = .ok c w := by
 unfold Op.equal Op.maxDepth
 rw [Op.equalIn, Sem.run_bind, run_under hd, Result.andThen_ok]
 unfold Instr.sameNow at h
 split at h
 ·rename_i k a k' b
  split at h
  ·rename_i hk
   cases h
   simp [hk]
  ·cases h
 ·cases h; rfl
 ·cases h; rfl
 ·cases h
theorem findNow_ok {t : TypeId} {d : TypeDesc} {k : Value} (hd : P.underlying t = some d) : ∀ (es : List MapEntry) (i : Nat) (f f' : Option (Nat × Value)), keyFind P t k es i = some f -> Instr.findNow d k (es.map (mpE τ)) i = some f' -> f' = f.map fun q => (q.1, mp τ q.2)
 | [], i, f, f', h, h' => by cases h; cases h'; rfl
 | e :: es, i, f, f', h, h' => by
  simp only [keyFind] at h
  simp only [List.map_cons, Instr.findNow] at h'
  cases hk : keyEq P t k e.key with
  | none => rw [hk] at h; cases h
  | some b =>
   obtain ⟨_, _, k3⟩ := keyEq_some hk
   have e1 := pureRun_ok (P := P) _ _ default k3
   have hkey : (mpE τ e).key = e.key := rfl
   cases hs : Instr.sameNow d k (mpE τ e).key with
   | none => rw [hs] at h'; cases h'
   | some b' =>
    have e2 : (Op.equal t k e.key).run P default = .ok b' default := same_equal hd hs default
    rw [e1] at e2
    have : b = b' := by injection e2
    subst this
    rw [hk] at h
    rw [hs] at h'
    cases b with
    | true => cases h; cases h'; rfl
    | false => exact findNow_ok hd es (i + 1) f f' h h'
theorem findAsking_ok {t : TypeId} {k : Value} : ∀ (es : List MapEntry) (i : Nat) (f : Option (Nat × Value)) (w : World), keyFind P t k es i = some f -> (Instr.findAsking t k (es.map (mpE τ)) i).run P w = .ok (f.map fun q => (q.1, mp τ q.2)) w
 | [], i, f, w, h => by cases h; simp [Instr.findAsking]
 | e :: es, i, f, w, h => by
  simp only [keyFind] at h
  cases hk : keyEq P t k e.key with
  | none => rw [hk] at h; cases h
  | some b =>
   obtain ⟨_, _, k3⟩ := keyEq_some hk
   have e1 := pureRun_ok (P := P) _ _ w k3
   rw [hk] at h
   have hkey : (mpE τ e).key = e.key := rfl
   simp only [List.map_cons, Instr.findAsking, Sem.run_bind, hkey, e1, Result.andThen_ok]
   cases b with
   | true => cases h; simp [mpE]
   | false =>
    simp only [Bool.false_eq_true, if_false]
    exact findAsking_ok es (i + 1) f w h
theorem findKey_ok {t : TypeId} {d : TypeDesc} {k : Value} {es : List MapEntry} {f : Option (Nat × Value)} (hd : P.underlying t = some d) (h : keyFind P t k es 0 = some f) (w : World) :
  (Instr.findKey t k (es.map (mpE τ))).run P w = .ok (f.map fun q => (q.1, mp τ q.2)) w := by
 unfold Instr.findKey
 rw [Sem.run_bind, run_under hd, Result.andThen_ok]
 split
 ·rename_i f' hf
  rw [findNow_ok hd es 0 f f' h hf]; rfl
 ·exact findAsking_ok es 0 f w h
theorem keyOk_some {kt : TypeId} {em : Bool} {k : Value} (h : keyOk P kt em k = true) (w : World) : closed k = true /\ (Instr.checkKey em 10000 kt k).run P w = .ok () w := by
 unfold keyOk at h
 rw [Bool.and_eq_true] at h
 cases hp : pureRun P (Instr.checkKey em 10000 kt k) with
 | none => rw [hp] at h; simp at h
 | some u => exact ⟨h.1, pureRun_ok _ _ _ hp⟩
theorem keyFind_mem {t : TypeId} {k : Value} : ∀ (es : List MapEntry) (i : Nat) (q : Nat × Value), keyFind P t k es i = some (some q) -> ∃ e ∈ es, e.val = q.2
 | [], i, q, h => by cases h
 | e :: es, i, q, h => by
  simp only [keyFind] at h
  split at h
  ·cases h; exact ⟨e, List.mem_cons_self .., rfl⟩
  ·obtain ⟨e', h1, h2⟩ := keyFind_mem es (i + 1) q h
   exact ⟨e', List.mem_cons_of_mem _ h1, h2⟩
  ·cases h
theorem empty_map {τ : Tau} {es : List MapEntry} {es' : Array MapEntry} (h : es'.toList = es.map (mpE τ)) : es'.isEmpty = es.isEmpty := by
 have : es'.toList.isEmpty = es.isEmpty := by rw [h]; cases es <;> rfl
 rw [← this]; simp
theorem lookB_ok {t kt et : TypeId} {es : List MapEntry} {k m' : Value} {ok : Bool} {x : Nx} {es' : Array MapEntry} (ht : P.underlying t = some (.map kt et)) (h : lookB P (kt, et) es k ok s = some (x, s')) (he : es'.toList = es.map (mpE τ)) (hA : ∀ e ∈ es, inA A e.val)
  (hsem : (Instr.lookup t m' (mp τ k) ok).run P w = (do
   Instr.checkKey es'.isEmpty 10000 kt (mp τ k)
   let (v, ok') ← match ← Instr.findKey kt (mp τ k) es'.toList with
    | some (_, v) => pure (v, true)
    | none => pure (← zeroValue et, false)
   pure (if ok then .tuple #[v, .bool ok'] else v) : Sem Value).run P w) : s' = s /\ ∃ u, x = .val u /\ inA A u /\ (Instr.lookup t m' (mp τ k) ok).run P w = .ok (mp τ u) w := by
 unfold lookB at h
 rw [grd_some] at h
 obtain ⟨h1, h⟩ := h
 rw [opt_some] at h
 obtain ⟨z, h2, h⟩ := h
 rw [opt_some] at h
 obtain ⟨f, h3, h⟩ := h
 rw [val_some] at h
 obtain ⟨rfl, rfl⟩ := h
 obtain ⟨k1, k2⟩ := keyOk_some h1 w
 obtain ⟨i, i1, i2, i3, _⟩ := zeroOf_some h2
 have hd : ∃ d, P.underlying kt = some d := by
  unfold keyOk at h1
  rw [Bool.and_eq_true] at h1
  cases hu : P.underlying kt with
  | some d => exact ⟨d, rfl⟩
  | none =>
   exfalso
   have := h1.2
   unfold Instr.checkKey at this
   rw [pureRun_bind, pureRun_under, hu] at this
   cases this
 obtain ⟨d, hd⟩ := hd
 have hf := findKey_ok (τ := τ) hd h3 w
 have hz : (zeroValue et).run P w = .ok z w := by simp [zeroValue, typeInfo, i1, i2]
 rw [mp_closed τ k k1] at hsem ⊢
 rw [empty_map he, he] at hsem
 have hin : ∀ q, f = some q -> inA A q.2 := by
  intro q hq
  subst hq
  obtain ⟨e, e1, e2⟩ := keyFind_mem es 0 q h3
  rw [← e2]; exact hA e e1
 refine ⟨rfl, _, rfl, ?_, ?_⟩
 ·cases f with
  | none => cases ok <;> simp [lookRes, sel, inA_tuple, inA_closed A z i3, inA]
  | some q => cases ok <;> simp [lookRes, sel, inA_tuple, hin q rfl, inA]
 ·rw [hsem, Sem.run_bind, k2, Result.andThen_ok]
  cases f with
  | none => cases ok <;> simp [hf, hz, lookRes, sel, mp_tuple, mp_closed τ z i3, mp]
  | some q => cases ok <;> simp [hf, lookRes, sel, mp_tuple, mp]
theorem lookA_ok {t : TypeId} {m k : Value} {ok : Bool} {x : Nx} (h : lookA P t m k ok s = some (x, s')) (r : Rel P τ A B s.h w) (hm : inA A m) : ∃ u, x = .val u /\ OpS P τ A B s w s' (Instr.lookup t (mp τ m) (mp τ k) ok) u := by
 unfold lookA at h
 rw [opt_some] at h
 obtain ⟨⟨kt, et⟩, h1, h⟩ := h
 have ht := mapTy_some h1
 cases m with
 | map o =>
  cases o with
  | none =>
   simp only at h
   obtain ⟨rfl, u, rfl, k1, k2⟩ := lookB_ok (τ := τ) (A := A) (w := w) (es' := #[]) (m' := .map none) ht h rfl (fun e he => by cases he) (by
    simp [Instr.lookup, run_under ht]
    congr 1)
   exact ⟨u, rfl, OpS.pure r rfl rfl (by rw [show mp τ (.map none) = .map none by simp [mp]]; exact k2) k1⟩
  | some b =>
   simp only at h
   rw [bnd_some] at h
   obtain ⟨o, s1, g1, h⟩ := h
   rw [opt_some] at h
   obtain ⟨e, g2, h⟩ := h
   obtain ⟨f1, f2, f3⟩ := geto_ok g1
   obtain ⟨es, j1, j2⟩ := mapO_some g2
   subst j1
   obtain ⟨d1, d2, d3, d4, es', d5, d6⟩ := map_at f1 r
   rw [j2] at h
   obtain ⟨rfl, u, rfl, k1, k2⟩ := lookB_ok (τ := τ) (A := A) (w := w) (es' := es') (m' := .map (some (τ.σ b))) ht h d6 d3 (by
    simp [Instr.lookup, run_under ht, run_getMap d5]
    congr 1)
   exact ⟨u, rfl, OpS.pure r f2 f3 (by rw [show mp τ (.map (some b)) = .map (some (τ.σ b)) by rw [mp]]; exact k2) k1⟩
 | _ => simp [die] at h
theorem run_setO {b : Nat} {o o' : Obj} (h : w.heap[b]? = some o') (hc : ∀ c t f, o' ≠ .cells c t f) : (setObj b o).run P w = .ok () (putW w b o) := by
 cases o' <;> first | exact (hc _ _ _ rfl).elim | simp [setObj, Sem.run, h, putW]
theorem updE_ok {es : List MapEntry} {clock : Nat} {k v : Value} {f : Option (Nat × Value)} {o : Obj} {es' : Array MapEntry} (h : updE es clock k v f = some o) (hk : closed k = true) (he : es'.toList = es.map (mpE τ)) (hc : ∀ e ∈ es, closed e.key = true)
  (hA : ∀ e ∈ es, inA A e.val) (hv : inA A v) : ∃ o', OR P τ 0 o o' /\ (∀ b, OR P τ b o o') /\ inO A o /\ (match f with
   | some q => ∃ e, es'[q.1]? = some e /\ Instr.sameBits 10000 e.key k = true /\ o' = .map (es'.modify q.1 fun e => { e with key := k, val := mp τ v }) clock
   | none => o' = .map (es'.push { key := k, val := mp τ v, born := clock }) (clock + 1)) := by
 cases f with
 | none =>
  simp only [updE, Option.some.injEq] at h
  subst h
  have key : ∀ b, OR P τ b (.map (es ++ [(⟨k, v, clock⟩ : MapEntry)]).toArray (clock + 1)) (.map (es'.push { key := k, val := mp τ v, born := clock }) (clock + 1)) := by
   intro b
   refine ⟨?_, rfl, fun e hm => ?_⟩
   ·simp only [Array.toList_push, he]
    simp [mpE]
   ·simp only [List.mem_append, List.mem_singleton] at hm
    rcases hm with q | q
    ·exact hc e q
    ·subst q; exact hk
  refine ⟨_, key 0, key, fun e hm => ?_, rfl⟩
  simp only [List.mem_append, List.mem_singleton] at hm
  rcases hm with q | q
  ·exact hA e q
  ·subst q; exact hv
 | some q =>
  simp only [updE] at h
  rw [nth_eq] at h
  split at h
  ·rename_i e hq
   unfold sel at h
   split at h
   ·rename_i hs
    cases h
    have hq' : es'[q.1]? = some (mpE τ e) := by
     have : es'.toList[q.1]? = some (mpE τ e) := by rw [he, List.getElem?_map, hq]; rfl
     simpa using this
    have hlt := (List.getElem?_eq_some_iff.1 hq).1
    have key : ∀ b, OR P τ b (.map (es.set q.1 ⟨k, v, e.born⟩).toArray clock) (.map (es'.modify q.1 fun e => { e with key := k, val := mp τ v }) clock) := by
     intro b
     refine ⟨?_, rfl, fun e' hm => ?_⟩
     ·apply List.ext_getElem?
      intro i
      simp only [Array.getElem?_toList, Array.getElem?_modify, List.getElem?_map, List.getElem?_set]
      by_cases hi : q.1 = i
      ·subst hi
       simp only [if_true, hq', hlt]
       simp [mpE]
      ·simp only [if_neg hi]
       have : es'[i]? = es'.toList[i]? := by simp
       rw [this, he, List.getElem?_map]
     ·simp only at hm
      rcases List.mem_or_eq_of_mem_set hm with j | j
      ·exact hc e' j
      ·subst j; exact hk
    refine ⟨_, key 0, key, fun e' hm => ?_, mpE τ e, hq', hs, rfl⟩
    simp only at hm
    rcases List.mem_or_eq_of_mem_set hm with j | j
    ·exact hA e' j
    ·subst j; exact hv
   ·cases h
  ·cases h
theorem updA_ok {t : TypeId} {m k v : Value} {x : Nx} (h : updA P t m k v s = some (x, s')) (r : Rel P τ A B s.h w) (hm : inA A m) (hv : inA A v) :
  x = .val undef /\ s'.nx = s.nx /\ ∃ w', (Instr.mapUpdate t (mp τ m) (mp τ k) (mp τ v)).run P w = .ok () w' /\ Rel P τ A B s'.h w' /\ Below B w w' := by
 unfold updA at h
 rw [opt_some] at h
 obtain ⟨⟨kt, et⟩, h1, h⟩ := h
 have ht := mapTy_some h1
 cases m with
 | map o =>
  cases o with
  | none => simp [die] at h
  | some b =>
   simp only at h
   rw [bnd_some] at h
   obtain ⟨o, s1, g1, h⟩ := h
   rw [opt_some] at h
   obtain ⟨e, g2, h⟩ := h
   rw [grd_some] at h
   obtain ⟨h2, h⟩ := h
   rw [opt_some] at h
   obtain ⟨f, h3, h⟩ := h
   rw [opt_some] at h
   obtain ⟨o2, h4, h⟩ := h
   rw [bnd_some] at h
   obtain ⟨u, s2, h5, h⟩ := h
   rw [val_some] at h
   obtain ⟨rfl, rfl⟩ := h
   obtain ⟨f1, f2, f3⟩ := geto_ok g1
   obtain ⟨es, j1, j2⟩ := mapO_some g2
   subst j1
   obtain ⟨d1, d2, d3, d4, es', d5, d6⟩ := map_at f1 r
   obtain ⟨k1, k2⟩ := keyOk_some h2 w
   obtain ⟨⟨o0, i1⟩, i2, i3⟩ := seto_ok h5
   rw [j2] at h3 h4
   obtain ⟨o', q1, q2, q3, q4⟩ := updE_ok (P := P) (τ := τ) (A := A) h4 k1 d6 d4 d3 hv
   have hd : ∃ d, P.underlying kt = some d := by
    unfold keyOk at h2
    rw [Bool.and_eq_true] at h2
    cases hu : P.underlying kt with
    | some d => exact ⟨d, rfl⟩
    | none =>
     exfalso
     have := h2.2
     unfold Instr.checkKey at this
     rw [pureRun_bind, pureRun_under, hu] at this
     cases this
   obtain ⟨d, hd⟩ := hd
   have hf := findKey_ok (τ := τ) hd h3 w
   have hset := run_setO (P := P) (o := o') d5 (fun c t f => by simp)
   refine ⟨rfl, by rw [i3, f3], putW w (τ.σ b) o', ?_, ?_, Below.putW _ d2⟩
   ·rw [mp_closed τ k k1, show mp τ (.map (some b)) = .map (some (τ.σ b)) by rw [mp]]
    unfold Instr.mapUpdate
    simp only [Sem.run_bind, run_under ht, Result.andThen_ok, run_getMap d5, k2, d6, hf]
    cases f with
    | none =>
     simp only at q4
     subst q4
     simp only [Option.map_none]
     exact hset
    | some q =>
     simp only at q4
     obtain ⟨e2, e3, e4, e5⟩ := q4
     subst e5
     simp only [Option.map_some]
     have hst : (Instr.keyThatStays ((Option.map (fun x => x.key) es'[q.1]?).getD k) k).run P w = .ok k w := by
      rw [e3]
      simp [Instr.keyThatStays, e4]
     rw [Sem.run_bind, hst, Result.andThen_ok]
     exact hset
   ·rw [i2, f2]
    exact Rel.put r f1 q3 (q2 b)
 | _ => simp [die] at h
end Go.Proofs.YtmdlgfnibjcgmaaGreatDoor.Rn
set_option linter.unusedSectionVars false
namespace Go.Proofs.YtmdlgfnibjcgmaaGreatDoor.Rn
open Go.RowKit
variable {P : Program} {τ : Tau} {A : Nat -> Prop} {B : Nat} {w : World} {s s' : St}
theorem under_of_key {kt : TypeId} {em : Bool} {k : Value} (h2 : keyOk P kt em k = true) : ∃ d, P.underlying kt = some d := by
 unfold keyOk at h2
 rw [Bool.and_eq_true] at h2
 cases hu : P.underlying kt with
 | some d => exact ⟨d, rfl⟩
 | none =>
  exfalso
  have := h2.2
  unfold Instr.checkKey at this
  rw [pureRun_bind, pureRun_under, hu] at this
  cases this
theorem map_erase {α β : Type} (f : α -> β) : ∀ (l : List α) (i : Nat), (l.map f).eraseIdx i = (l.eraseIdx i).map f
 | [], i => by simp
 | a :: l, 0 => rfl
 | a :: l, i + 1 => by simp [map_erase f l i]
theorem delA_ok {t u : TypeId} {ts : Array TypeId} {m k : Value} {x : Nx} (hts : ts[0]? = some t) (h : delA P t m k s = some (x, s')) (r : Rel P τ A B s.h w) (hm : inA A m) :
  x = .val (.tuple #[]) /\ s'.nx = s.nx /\ ∃ w', (Builtin.delete_ ts u #[mp τ m, mp τ k]).run P w = .ok (.tuple #[]) w' /\ Rel P τ A B s'.h w' /\ Below B w w' := by
 unfold delA at h
 rw [opt_some] at h
 obtain ⟨⟨kt, et⟩, h1, h⟩ := h
 have ht := mapTy_some h1
 cases m with
 | map o =>
  cases o with
  | none => simp [die] at h
  | some b =>
   simp only at h
   rw [bnd_some] at h
   obtain ⟨o, s1, g1, h⟩ := h
   rw [opt_some] at h
   obtain ⟨e, g2, h⟩ := h
   rw [grd_some] at h
   obtain ⟨h2, h⟩ := h
   rw [opt_some] at h
   obtain ⟨f, h3, h⟩ := h
   obtain ⟨f1, f2, f3⟩ := geto_ok g1
   obtain ⟨es, j1, j2⟩ := mapO_some g2
   subst j1
   obtain ⟨d1, d2, d3, d4, es', d5, d6⟩ := map_at f1 r
   obtain ⟨k1, k2⟩ := keyOk_some h2 w
   rw [j2] at h3 h
   obtain ⟨d, hd⟩ := under_of_key h2
   have hf := findKey_ok (τ := τ) hd h3 w
   rw [j2] at k2
   have hem := empty_map d6
   have hrun : ∀ o', (setObj (τ.σ b) o').run P w = .ok () (putW w (τ.σ b) o') := fun o' => run_setO (P := P) (o := o') d5 (fun c t f => by simp)
   cases f with
   | none =>
    simp only at h
    rw [val_some] at h
    obtain ⟨rfl, rfl⟩ := h
    have hput : putW w (τ.σ b) (.map es' e.2) = w := by
     unfold putW
     have hlt := (Array.getElem?_eq_some_iff.1 d5).1
     have hge := (Array.getElem?_eq_some_iff.1 d5).2
     have : w.heap.setIfInBounds (τ.σ b) (.map es' e.2) = w.heap := by
      apply Array.ext_getElem?
      intro i
      rw [Array.getElem?_setIfInBounds]
      by_cases q : τ.σ b = i
      ·subst q; rw [if_pos rfl, if_pos hlt, d5]
      ·rw [if_neg q]
     rw [this]
    refine ⟨rfl, f3, w, ?_, by rw [f2]; exact r, Below.refl _ _⟩
    rw [mp_closed τ k k1, show mp τ (.map (some b)) = .map (some (τ.σ b)) by rw [mp]]
    unfold Builtin.delete_
    simp only [hts, List.getElem?_toArray, List.getElem?_cons_zero, List.getElem?_cons_succ, Sem.run_bind, run_under ht, Result.andThen_ok, run_getMap d5, hem, k2, d6, hf, Option.map_none, hrun, hput]
    rfl
   | some q =>
    simp only at h
    rw [bnd_some] at h
    obtain ⟨u', s2, h5, h⟩ := h
    rw [val_some] at h
    obtain ⟨rfl, rfl⟩ := h
    obtain ⟨⟨o0, i1⟩, i2, i3⟩ := seto_ok h5
    refine ⟨rfl, by rw [i3, f3], putW w (τ.σ b) (.map (es'.eraseIdxIfInBounds q.1) e.2), ?_, ?_, Below.putW _ d2⟩
    ·rw [mp_closed τ k k1, show mp τ (.map (some b)) = .map (some (τ.σ b)) by rw [mp]]
     unfold Builtin.delete_
     simp only [hts, List.getElem?_toArray, List.getElem?_cons_zero, List.getElem?_cons_succ, Sem.run_bind, run_under ht, Result.andThen_ok, run_getMap d5, hem, k2, d6, hf, Option.map_some, hrun]
     rfl
    ·rw [i2, f2]
     refine Rel.put r f1 (fun e' he' => d3 e' ?_) ⟨?_, rfl, fun e' he' => d4 e' ?_⟩
     ·exact List.mem_of_mem_eraseIdx (by simpa using he')
     ·rw [Array.toList_eraseIdxIfInBounds, d6]
      simp [map_erase]
     ·exact List.mem_of_mem_eraseIdx (by simpa using he')
 | _ => simp [die] at h
theorem rangeA_ok {t : TypeId} {m : Value} {x : Nx} (h : rangeA P t m s = some (x, s')) (r : Rel P τ A B s.h w) (hm : inA A m) (hn : s.nx < s'.nx -> ¬ A s.nx) : ∃ u, x = .val u /\ OpS P τ A B s w s' (Instr.range t (mp τ m)) u := by
 unfold rangeA at h
 rw [opt_some] at h
 obtain ⟨⟨kt, et⟩, h1, h⟩ := h
 have ht := mapTy_some h1
 have fin : ∀ {s1 : St} {o o' : Obj}, s1.h = s.h -> s1.nx = s.nx -> newv o s1 = some (x, s') -> inO A o -> OR P τ 0 o o' -> (∀ b, ∀ τ', (∀ n, A n -> τ'.σ n = τ.σ n /\ τ'.x n = τ.x n) -> OR P τ' b o o') -> (Instr.range t (mp τ m)).run P w = .ok (.pointer (some ⟨w.heap.size, 0, none⟩)) (w.alloc o') ->
   ∃ u, x = .val u /\ OpS P τ A B s w s' (Instr.range t (mp τ m)) u := by
  intro s1 o o' e1 e2 hv hi _ ho hr
  have hlt := newv_lt hv
  unfold newv at hv
  rw [bnd_some] at hv
  obtain ⟨n, s2, j1, j2⟩ := hv
  rw [val_some] at j2
  obtain ⟨rfl, rfl⟩ := j2
  have hA := hn (by rw [← e2]; exact hlt)
  obtain ⟨k1, k2, k3, k4, k5, k6⟩ := new_any (τ := τ) (x := 0) (o' := o') j1 (by rw [e1]; exact r) (by rw [e2]; exact hA) (inO_mono (fun _ => Un.left) hi) (ho _ _ (fun q hq => τ.new_agr _ _ _ q (fun c => by
   have : q = s1.nx := by omega
   subst this; rw [e2] at hq; exact hA hq)))
  rw [e2] at k1 k2 k3 k4 k6
  subst k1
  exact ⟨_, rfl, _, _, by rw [hr, ptr_new], k3, k4, by unfold ptr; rw [inA]; exact k6, k5⟩
 cases m with
 | map o =>
  cases o with
  | none =>
   simp only at h
   refine fin (o' := .mapIter none 0 #[] 0) rfl rfl h (fun r hr => by cases hr) ⟨rfl, rfl, rfl, rfl⟩ (fun _ _ _ => ⟨rfl, rfl, rfl, rfl⟩) ?_
   rw [show mp τ (.map none) = .map none by simp [mp]]
   simp [Instr.range, run_under ht]
  | some b =>
   simp only at h
   rw [bnd_some] at h
   obtain ⟨o, s1, g1, h⟩ := h
   rw [opt_some] at h
   obtain ⟨e, g2, h⟩ := h
   obtain ⟨f1, f2, f3⟩ := geto_ok g1
   obtain ⟨es, j1, j2⟩ := mapO_some g2
   subst j1
   obtain ⟨d1, d2, d3, d4, es', d5, d6⟩ := map_at f1 r
   refine fin (o' := .mapIter (some (τ.σ b)) e.2 #[] e.2) f2 f3 h (fun r hr => by cases hr; exact d1) ⟨rfl, rfl, rfl, rfl⟩ (fun _ τ' hτ => ⟨by simp [(hτ b d1).1], rfl, rfl, rfl⟩) ?_
   rw [show mp τ (.map (some b)) = .map (some (τ.σ b)) by rw [mp]]
   simp [Instr.range, run_under ht, run_getMap d5]
 | _ => simp [die] at h
theorem iterO_some {o : Obj} {it : Option Nat × Nat × List Nat × Nat} (h : iterO o = some it) : ∃ seen, o = .mapIter it.1 it.2.1 seen it.2.2.2 /\ it.2.2.1 = seen.toList := by
 cases o <;> simp [iterO] at h
 rename_i m since seen st
 exact ⟨seen, by rw [← h], by rw [← h]⟩
theorem filter_mpE (τ : Tau) (p : MapEntry -> Bool) (hp : ∀ e, p (mpE τ e) = p e) (es : List MapEntry) : (es.map (mpE τ)).filter p = (es.filter p).map (mpE τ) := by
 rw [List.filter_map]
 congr 1
 exact List.filter_congr fun e _ => hp e
theorem nextA_ok {v : Value} {ty : TypeId} {x : Nx} (h : nextA v s = some (x, s')) (r : Rel P τ A B s.h w) :
  s'.nx = s.nx /\ ∃ u w', x = .val u /\ (Instr.next (mp τ v) false ty).run P w = .ok (mp τ u) w' /\ Rel P τ A B s'.h w' /\ inA A u /\ Below B w w' := by
 unfold nextA at h
 split at h
 ·rename_i b
  rw [bnd_some] at h
  obtain ⟨o, s1, g1, h⟩ := h
  rw [opt_some] at h
  obtain ⟨it, g2, h⟩ := h
  obtain ⟨f1, f2, f3⟩ := geto_ok g1
  obtain ⟨seen, j1, j2⟩ := iterO_some g2
  obtain ⟨m, since, sn, last⟩ := it
  simp only at j1 j2 h
  subst j1 j2
  obtain ⟨d1, d2, d3, o', d4, d5⟩ := r.dom _ _ f1
  cases o' <;> try exact d5.elim
  rename_i m' since' seen' last'
  obtain ⟨q1, q2, q3, q4⟩ := d5
  subst q1 q2 q3 q4
  rw [mp_ptr]
  cases m with
  | none =>
   simp only at h
   rw [val_some] at h
   obtain ⟨rfl, rfl⟩ := h
   refine ⟨f3, _, w, rfl, ?_, by rw [f2]; exact r, inA_closed A _ (by rfl), Below.refl _ _⟩
   rw [mp_tuple]
   simp [Instr.next, getObj, Sem.run, d4, mp]
  | some mb =>
   simp only at h
   rw [bnd_some] at h
   obtain ⟨o, s2, g3, h⟩ := h
   rw [opt_some] at h
   obtain ⟨e, g4, h⟩ := h
   obtain ⟨f4, f5, f6⟩ := geto_ok g3
   obtain ⟨es, j1, j2⟩ := mapO_some g4
   subst j1
   rw [f2] at f4
   obtain ⟨m1, m2, m3, m4, es', m5, m6⟩ := map_at f4 r
   rw [j2] at h
   unfold nextB at h
   rw [grd_some] at h
   obtain ⟨h1, h⟩ := h
   have hobj : (getObj (τ.σ b)).run P w = .ok (.mapIter (some (τ.σ mb)) since' seen' last') w := by
    simp [getObj, Sem.run, d4]
   have hsn : seen'.isEmpty = seen'.toList.isEmpty := by simp
   have hes : es'.isEmpty = es.toList.isEmpty := empty_map m6
   have hall : (es'.all fun e => decide (e.born ≥ last')) = es.toList.all fun e => Nat.ble last' e.born := by
    rw [← Array.all_toList, m6, List.all_map]
    congr 1
    funext e
    simp only [Function.comp, mpE]
    rw [Bool.eq_iff_iff]; simp
   have hgd : (!seen'.isEmpty && !es'.isEmpty && es'.all fun e => decide (e.born ≥ last')) = false := by
    rw [hsn, hes, hall]
    cases hq : (!seen'.toList.isEmpty && !es.toList.isEmpty && es.toList.all fun e => Nat.ble last' e.born) with
    | false => rfl
    | true => rw [hq] at h1; cases h1
   have hleft : (es'.filter fun e => !seen'.contains e.born).toList = (es.toList.filter fun e => !seen'.toList.contains e.born).map (mpE τ) := by
    rw [Array.toList_filter, m6, filter_mpE]
    ·congr 1
     apply List.filter_congr
     intro e _
     simp
    ·intro e; rfl
   cases hl : es.toList.filter fun e => !seen'.toList.contains e.born with
   | nil =>
    rw [hl] at h
    simp only at h
    rw [val_some] at h
    obtain ⟨rfl, rfl⟩ := h
    rw [hl] at hleft
    have hl0 : (es'.filter fun e => !seen'.contains e.born) = #[] := Array.toList_inj.1 hleft
    refine ⟨by rw [f6, f3], _, w, rfl, ?_, by rw [f5, f2]; exact r, inA_closed A _ (by rfl), Below.refl _ _⟩
    rw [mp_tuple]
    unfold Instr.next
    simp only [Sem.run_bind, hobj, Result.andThen_ok, run_getMap m5, hgd, Bool.false_eq_true, if_false, hl0]
    simp [Question.forced, mp]
   | cons e1 tl =>
    rw [hl] at h
    cases tl with
    | cons e2 tl => simp only at h; rw [die_some] at h; exact h.elim
    | nil =>
    simp only at h
    rw [grd_some] at h
    obtain ⟨h2, h⟩ := h
    rw [bnd_some] at h
    obtain ⟨u, s3, h3, h⟩ := h
    rw [val_some] at h
    obtain ⟨rfl, rfl⟩ := h
    obtain ⟨⟨o0, i1⟩, i2, i3⟩ := seto_ok h3
    rw [hl] at hleft
    have hl0 : (es'.filter fun e => !seen'.contains e.born) = #[mpE τ e1] := Array.toList_inj.1 hleft
    have hmem : e1 ∈ es.toList := by
     have : e1 ∈ es.toList.filter fun e => !seen'.toList.contains e.born := by rw [hl]; simp
     exact (List.mem_filter.1 this).1
    have hborn : e1.born < since' := by simpa using h2
    have hset := run_setO (P := P) (o := .mapIter (some (τ.σ mb)) since' (seen'.push e1.born) e.2) d4 (fun c t f => by simp)
    refine ⟨by rw [i3, f6, f3], _, putW w (τ.σ b) (.mapIter (some (τ.σ mb)) since' (seen'.push e1.born) e.2), rfl, ?_, ?_, ?_, Below.putW _ d3⟩
    ·rw [mp_tuple]
     have hk := mp_closed τ e1.key (m4 e1 hmem)
     have hb1 : (mpE τ e1).born < since' := hborn
     have hb2 : ¬ since' <= (mpE τ e1).born := by omega
     unfold Instr.next
     simp only [Sem.run_bind, hobj, Result.andThen_ok, run_getMap m5, hgd, Bool.false_eq_true, if_false, hl0]
     have ef1 : (#[mpE τ e1].filter fun x => decide (x.born < since')) = #[mpE τ e1] := by
      apply Array.toList_inj.1
      rw [Array.toList_filter]; simp [hb1]
     have ef2 : (#[mpE τ e1].filter fun x => decide (x.born ≥ since')) = #[] := by
      apply Array.toList_inj.1
      rw [Array.toList_filter]; simp [hb1]
     rw [ef1, ef2]
     simp [Question.forced, hset, mp, hk, mpE]
    ·rw [i2, f5, f2]
     exact Rel.put r f1 (fun r' hr => by cases hr; exact m1) ⟨rfl, rfl, Array.toList_inj.1 (by simp), rfl⟩
    ·rw [inA_tuple]
     intro v hv
     simp at hv
     rcases hv with rfl | rfl | rfl
     ·simp [inA]
     ·exact inA_closed A _ (m4 e1 hmem)
     ·exact m3 e1 hmem
 ·rw [die_some] at h; exact h.elim
end Go.Proofs.YtmdlgfnibjcgmaaGreatDoor.Rn
