/-
  Several texts joined: RnX, RnY.
-/
import Derived.Lib.UnsafeStr
import Derived.Test.YtmdlgfnibjcgmaaGreatDoorK37
set_option linter.unusedVariables false
set_option linter.unusedSimpArgs false
set_option linter.unusedSectionVars false
namespace Go.Proofs.YtmdlgfnibjcgmaaGreatDoor.Rn
open Go.RowKit
variable {P : Program} {τ : Tau} {A : Nat -> Prop} {B : Nat} {w : World} {s s' : St}
theorem copyTo_ok {base : Option Addr} {m : Nat} {cells : List Value} {x : Nx} (h : copyTo base m cells s = some (x, s')) (r : Rel P τ A B s.h w) (hv : ∀ v ∈ cells, inA A v) :
  x = .val (.int .i64 m) /\ s'.nx = s.nx /\ ∃ w', (∀ a, base = some a -> (storeCells ⟨τ.σ a.block, a.off, a.spot⟩ (cells.map (mp τ))).run P w = .ok () w') /\ (base = none -> w' = w /\ m = 0) /\ Rel P τ A B s'.h w' /\ Below B w w' := by
 cases base with
 | none =>
  simp only [copyTo] at h
  rw [grd_some] at h
  obtain ⟨h1, h⟩ := h
  rw [val_some] at h
  obtain ⟨rfl, rfl⟩ := h
  exact ⟨rfl, rfl, w, (fun a ha => by cases ha), fun _ => ⟨rfl, Nat.eq_of_beq_eq_true h1⟩, r, Below.refl _ _⟩
 | some a =>
  simp only [copyTo] at h
  rw [bnd_some] at h
  obtain ⟨u, s1, h1, h⟩ := h
  rw [val_some] at h
  obtain ⟨rfl, rfl⟩ := h
  obtain ⟨q1, q2, q3, w', q4, q5, q6⟩ := storeN_ok h1 r hv
  exact ⟨rfl, q3, w', (fun b hb => by cases hb; rw [q1]; exact q4), (fun q => by cases q), q5, q6⟩
theorem mp_slo (τ : Tau) (o : Option Addr) (n c : Nat) : ∃ c', mp τ (.slice o n c) = .slice (o.map fun a => ⟨τ.σ a.block, a.off, a.spot⟩) n c' := by
 cases o with
 | none => exact ⟨c, by simp [mp]⟩
 | some a => exact ⟨_, mp_sl τ a n c⟩
theorem copyA_ok {t ty : TypeId} {ts : Array TypeId} {d y : Value} {x : Nx} (h0 : ts[0]? = some t) (h : copyA P t d y s = some (x, s')) (r : Rel P τ A B s.h w) :
  ∃ u, x = .val u /\ s'.nx = s.nx /\ inA A u /\ mp τ u = u /\ ∃ w', (Builtin.copy_ ts ty #[mp τ d, mp τ y]).run P w = .ok u w' /\ Rel P τ A B s'.h w' /\ Below B w w' := by
 unfold copyA at h
 rw [opt_some] at h
 obtain ⟨e, g1, h⟩ := h
 rw [opt_some] at h
 obtain ⟨k, g2, h⟩ := h
 obtain ⟨i, i1, i2⟩ := sizeOf_some g2
 have ht := elem_some g1
 have fin : ∀ {base : Option Addr} {n cap m l : Nat} {cells : List Value} {s1 : St}, s1.h = s.h -> s1.nx = s.nx -> d = .slice base n cap -> copyTo base m cells s1 = some (x, s') -> (∀ v ∈ cells, inA A v) ->
   (Builtin.lenOf (mp τ y)).run P w = .ok l w -> Nat.min l n = m -> (Builtin.firstCells k m (mp τ y)).run P w = .ok (cells.map (mp τ)).toArray w ->
   ∃ u, x = .val u /\ s'.nx = s.nx /\ inA A u /\ mp τ u = u /\ ∃ w', (Builtin.copy_ ts ty #[mp τ d, mp τ y]).run P w = .ok u w' /\ Rel P τ A B s'.h w' /\ Below B w w' := by
  intro base n cap m l cells s1 e1 e2 hd hc hv hl hm hf
  obtain ⟨rfl, q2, w', q3, q4, q5, q6⟩ := copyTo_ok hc (by rw [e1]; exact r) hv
  obtain ⟨c', hs⟩ := mp_slo τ base n cap
  refine ⟨_, rfl, by rw [q2, e2], by simp [inA], by simp [mp], w', ?_, q5, q6⟩
  rw [hd, hs]
  unfold Builtin.copy_
  simp only [h0, List.getElem?_toArray, List.getElem?_cons_zero, List.getElem?_cons_succ, Sem.run_bind, run_under ht, Result.andThen_ok, hl, hm, run_size i1, i2, hf]
  cases base with
  | none => rw [(q4 rfl).1]; rfl
  | some a => simp only [Option.map_some, Sem.run_bind, q3 a rfl, Result.andThen_ok]; rfl
 cases d with
 | slice base n cap =>
  simp only at h
  cases y with
  | slice o l c =>
   cases o with
   | some a =>
    simp only at h
    rw [bnd_some] at h
    obtain ⟨cs, s1, h1, h⟩ := h
    obtain ⟨e1, e2, e3, e4, e5, e6, e7⟩ := loadN_ok h1 r
    refine fin e1 e2 rfl h e4 (l := l) (by rw [mp_sl]; rfl) rfl ?_
    rw [mp_sl, e6]
    exact run_cellsL (by rw [List.length_map]; exact e5) e7
   | none =>
    simp only at h
    rw [grd_some] at h
    obtain ⟨h1, h⟩ := h
    have hl0 : l = 0 := Nat.eq_of_beq_eq_true h1
    subst hl0
    have hc : copyTo none 0 [] s = some (x, s') := by
     unfold copyTo
     rw [grd_some]
     exact ⟨rfl, h⟩
    obtain ⟨rfl, q2, w', q3, q4, q5, q6⟩ := copyTo_ok hc r (fun v hv => by cases hv)
    obtain ⟨c', hs⟩ := mp_slo τ base n cap
    refine ⟨_, rfl, q2, by simp [inA], by simp [mp], w, ?_, by rw [(q4 rfl).1] at q5; exact q5, Below.refl _ _⟩
    have em : mp τ (.slice none 0 c) = .slice none 0 c := by simp [mp]
    rw [hs, em]
    have hmin : Nat.min 0 n = 0 := Nat.zero_min n
    unfold Builtin.copy_
    simp only [h0, List.getElem?_toArray, List.getElem?_cons_zero, List.getElem?_cons_succ, Sem.run_bind, run_under ht, Result.andThen_ok, Builtin.lenOf, Sem.run_pure, run_size i1, hmin, Builtin.firstCells]
    cases base with
    | none => rfl
    | some a => simp [storeCells, goInt]
  | string z =>
   simp only at h
   rw [grd_some] at h
   obtain ⟨h1, h⟩ := h
   have hk : k = 1 := Nat.eq_of_beq_eq_true h1
   subst hk
   have em : mp τ (.string z) = .string z := by simp [mp]
   have hm : ∀ z : ByteArray, (strCells z).map (mp τ) = strCells z := fun z => by
    unfold strCells
    rw [List.map_map]
    exact List.map_congr_left fun b _ => by simp [mp]
   refine fin rfl rfl rfl h (fun v hv => ?_) (l := z.size) (by rw [em]; rfl) rfl ?_
   ·unfold strCells at hv
    obtain ⟨b, _, rfl⟩ := List.mem_map.1 hv
    simp [inA]
   ·rw [em, hm]
    unfold Builtin.firstCells strCells
    simp only [Sem.run_pure]
    congr 1
    apply Array.toList_inj.1
    simp
  | _ => simp [die] at h
 | _ => simp [die] at h
theorem text_run {b : Builtin} (hb : isTextOf b = true) (pt it ty e : TypeId) (cs : Array Bool) (hp : P.underlying pt = some (.pointer e)) (hc : P.cellsOf e = 1) (g cells : Nat) (hsh : w.shape? g = some (e, cells)) (l : List UInt8) (h0 : l ≠ []) (hn : l.length <= cells) (h63 : l.length <= 9223372036854775807)
  (hcell : ∀ j x, l[j]? = some x -> w.cell? ((⟨g, 0, none⟩ : Addr).add j) = some (.int .u8 x.toNat)) :
  (builtin b #[pt, it] ty cs #[.pointer (some ⟨g, 0, none⟩), .int .i64 l.length]).run P w = .ok (.value (.string ⟨l.toArray⟩)) (w.freeze ⟨g, 0, none⟩ l.length) := by
 have hl : l.length ≠ 0 := by simpa using h0
 have hlb := Lib.run_loadBytes (P := P) w l ⟨g, 0, none⟩ .empty hcell
 have hlies := Lib.liesAt_bytes (P := P) hc (cells / P.cellsOf e) l.length (by rw [hc]; simpa using hn)
 have h63' : ¬ (9223372036854775807 : Int) < (l.length : Int) := by omega
 have hmax : IntKind.i64.max = 9223372036854775807 := rfl
 have hneg : ¬ (l.length : Int) < 0 := by omega
 cases b <;> first | (cases hb; done) | skip
 refine run_step (a := .string ⟨l.toArray⟩) (w1 := w.freeze ⟨g, 0, none⟩ l.length) ?_ rfl
 refine run_step (x := asInt (.int .i64 l.length)) (a := (l.length : Int)) (w1 := w) (by simp [asInt, asIntOf]) ?_
 simp [hmax, h63', hneg, hl, variablesAt, hsh, elemOf, run_underlying hp, hlies, hlb]
theorem strOf_ok {b : Builtin} (hb : isTextOf b = true) {cs : Array Bool} {pt it u ty : TypeId} {a : Addr} {n : Nat} {x : Nx} (hp : P.underlying pt = some (.pointer u)) (h : strOf P u a n s = some (x, s')) (r : Rel P τ A B s.h w) :
  ∃ v, x = .val v /\ s'.nx = s.nx /\ inA A v /\ mp τ v = v /\ ∃ w', (builtin b #[pt, it] ty cs #[mp τ (.pointer (some a)), .int .i64 (n : Int)]).run P w = .ok (.value v) w' /\ Rel P τ A B s'.h w' /\ Below B w w' := by
 unfold strOf at h
 rw [grd_some, Bool.and_eq_true, Bool.and_eq_true] at h
 obtain ⟨⟨⟨g1, g2⟩, g3⟩, h⟩ := h
 rw [bnd_some] at h
 obtain ⟨l, s1, h1, h⟩ := h
 rw [opt_some] at h
 obtain ⟨z, h2, h⟩ := h
 rw [bnd_some] at h
 obtain ⟨o, s2, h3, h⟩ := h
 rw [opt_some] at h
 obtain ⟨c, h4, h⟩ := h
 rw [grd_some, Bool.and_eq_true] at h
 obtain ⟨⟨g4, g5⟩, h⟩ := h
 rw [bnd_some] at h
 obtain ⟨u', s3, h5, h⟩ := h
 rw [val_some] at h
 obtain ⟨rfl, rfl⟩ := h
 obtain ⟨e1, e2, e3, e4, e5, e6, e7⟩ := loadN_ok h1 r
 obtain ⟨f1, f2, f3⟩ := geto_ok h3
 obtain ⟨ca, fr, b1, b2, b3⟩ := cellsO_some h4
 subst b1
 obtain ⟨⟨o0, i1⟩, i2, i3⟩ := seto_ok h5
 rw [e1] at f1
 obtain ⟨d1, d2, d3, o', d4, d5⟩ := r.dom _ _ f1
 cases o' <;> try exact d5.elim
 rename_i c' t' fr'
 obtain ⟨w1, ⟨sp, w2, w3⟩, w4, w5⟩ := d5
 obtain ⟨ab, ao, asp⟩ := a
 simp only at g2 e6 e7 d4 f1 w3 w4
 have ha0 : ao = 0 := Nat.eq_of_beq_eq_true g2
 subst ha0 e6
 have hcu : c.2.1 = u := Nat.eq_of_beq_eq_true g5
 rw [hcu] at w1
 obtain ⟨j1, xs, j2, j3, j4⟩ := u8_mp (τ := τ) h2
 have hn1 : n ≠ 0 := fun q => by rw [q] at g1; cases g1
 have hn2 := Nat.le_of_ble_eq_true g3
 have hlz : z.length = n := by rw [j3, List.length_map, ← e5, j2, List.length_map]
 have hsz : n <= c'.size := by
  have hc := e7 (n - 1) _ (by rw [j1]; exact List.getElem?_eq_getElem (by omega))
  unfold World.cell? at hc
  simp only [d4, Option.isSome_none, Bool.false_eq_true, if_false, Nat.zero_add] at hc
  have := (Array.getElem?_eq_some_iff.1 hc).1
  omega
 have hsh : w.shape? (τ.σ ab) = some (u, c'.size) := by
  unfold World.shape?
  simp only [d4, w1]
 have hrow := text_run (P := P) (w := w) hb pt it ty u cs hp (Nat.eq_of_beq_eq_true g4) (τ.σ ab) c'.size hsh z (fun q => by rw [q] at hlz; exact hn1 hlz.symm) (by omega) (by omega) (fun j x hj => by
  rw [j3, List.getElem?_map] at hj
  obtain ⟨m, hm, rfl⟩ := Option.map_eq_some_iff.1 hj
  have hr := j4 m (List.mem_of_getElem? hm)
  have hv := e7 j (.int .u8 m) (by rw [j1, j2, List.getElem?_map, hm]; rfl)
  rw [add0, hv]
  congr 2
  rw [UInt8.toNat_ofNat_of_lt' (by show _ < 256; omega)]
  omega)
 rw [hlz] at hrow
 have hfz : w.freeze ⟨τ.σ ab, 0, none⟩ n = putW w (τ.σ ab) (.cells c' t' (if fr'.1 == fr'.2 then (0, n) else (min fr'.1 0, max fr'.2 n))) := by
  unfold World.freeze putW
  rw [if_neg hn1]
  congr 1
  have hlt := (Array.getElem?_eq_some_iff.1 d4).1
  refine Array.ext_getElem? fun i => ?_
  rw [Array.getElem?_modify, Array.getElem?_setIfInBounds]
  by_cases e : τ.σ ab = i
  ·subst e; rw [if_pos rfl, if_pos rfl, if_pos hlt, d4]; simp
  ·rw [if_neg e, if_neg e]
 refine ⟨_, rfl, by rw [i3, f3, e2], by simp [inA], by simp [mp], w.freeze ⟨τ.σ ab, 0, none⟩ n, ?_, ?_, ?_⟩
 ·rw [mp_ptr]; exact hrow
 ·rw [hfz, i2, f2, e1]
  refine Rel.put r f1 (fun v hv => d2 v (by rw [b2] at hv; simpa using hv)) ⟨by rw [hcu]; exact w1, ⟨sp, by rw [b2]; simpa using w2, w3⟩, (fun q => by cases q), fun q => (q rfl).elim⟩
 ·rw [hfz]; exact Below.putW _ d3
end Go.Proofs.YtmdlgfnibjcgmaaGreatDoor.Rn
set_option linter.unusedSectionVars false
namespace Go.Proofs.YtmdlgfnibjcgmaaGreatDoor.Rn
open Go.RowKit
variable {P : Program} {τ : Tau} {A : Nat -> Prop} {B : Nat} {w : World} {s s' : St}
def OpR (P : Program) (τ : Tau) (A : Nat -> Prop) (B : Nat) (s : St) (w : World) (s' : St) (res : Result Next) (v : Value) : Prop :=
 ∃ τ' w', (res = .ok (.value (mp τ' v)) w' ∨ (res = .ok .skip w' /\ v = undef)) /\ Agr τ τ' s.nx s'.nx /\ Rel P τ' (Un A s.nx s'.nx) B s'.h w' /\ inA (Un A s.nx s'.nx) v /\ Below B w w'
theorem fin_ok {sem : Sem Value} {v : Value} {e : Sem Next} (h : OpS P τ A B s w s' sem v) (he : e.run P w = (do let v ← sem; pure (Next.value v) : Sem Next).run P w) : OpR P τ A B s w s' (e.run P w) v := by
 obtain ⟨τ', w', h1, h2⟩ := h
 refine ⟨τ', w', .inl ?_, h2⟩
 rw [he, Sem.run_bind, h1]; rfl
theorem of_ok {u : Value} {sem : Sem Value} {w' : World} (hn : s'.nx = s.nx) (hr : sem.run P w = .ok u w') (r : Rel P τ A B s'.h w') (hu : inA A u) (hm : mp τ u = u) (hb : Below B w w') : OpS P τ A B s w s' sem u :=
 ⟨τ, w', by rw [hr, hm], Agr.refl _ _ _, r.mono fun _ => Un.left, inA_mono (fun _ => Un.left) _ hu, hb⟩
theorem skip_ok {e : Sem Unit} {w' : World} (hn : s'.nx = s.nx) (hr : e.run P w = .ok () w') (r : Rel P τ A B s'.h w') (hb : Below B w w') {f : Sem Next} (hf : f.run P w = (do e; pure Next.skip : Sem Next).run P w) : OpR P τ A B s w s' (f.run P w) undef :=
 ⟨τ, w', .inr ⟨by rw [hf, Sem.run_bind, hr]; rfl, rfl⟩, Agr.refl _ _ _, r.mono fun _ => Un.left, inA_undef _, hb⟩
theorem lenA_ok {t ty : TypeId} {ts : Array TypeId} {cs : Array Bool} {v : Value} {x : Nx} {k : M Nx} (h0 : ts[0]? = some t) (h : lenA P t v k s = some (x, s')) (r : Rel P τ A B s.h w) (hk : k s = some (x, s') -> ∃ u, x = .val u /\ OpR P τ A B s w s' ((builtin .len ts ty cs #[mp τ v]).run P w) u) :
  ∃ u, x = .val u /\ OpR P τ A B s w s' ((builtin .len ts ty cs #[mp τ v]).run P w) u := by
 have keep : lenA P t v k = k -> ∃ u, x = .val u /\ OpR P τ A B s w s' ((builtin .len ts ty cs #[mp τ v]).run P w) u := fun e => hk (by rw [e] at h; exact h)
 match v, h, hk, keep with
 | .slice (some a) n c, h, _, _ =>
  simp only [lenA] at h
  rw [grd_some] at h
  obtain ⟨h1, h⟩ := h
  rw [val_some] at h
  obtain ⟨rfl, rfl⟩ := h
  obtain ⟨d, k1, k2⟩ := der_some h1
  cases d <;> simp [isSlD] at k2
  refine ⟨_, rfl, fin_ok (sem := Builtin.len_ ts ty #[mp τ (.slice (some a) n c)]) (OpS.pure r rfl rfl ?_ (by simp [inA])) rfl⟩
  rw [mp_sl]
  simp [Builtin.len_, h0, run_under k1, goInt, mp]
 | .map (some b), h, _, _ =>
  simp only [lenA] at h
  rw [grd_some] at h
  obtain ⟨h1, h⟩ := h
  rw [bnd_some] at h
  obtain ⟨o, s1, h2, h⟩ := h
  rw [opt_some] at h
  obtain ⟨e, h3, h⟩ := h
  rw [val_some] at h
  obtain ⟨rfl, rfl⟩ := h
  obtain ⟨f1, f2, f3⟩ := geto_ok h2
  obtain ⟨es, j1, j2⟩ := mapO_some h3
  subst j1
  obtain ⟨d1, d2, d3, d4, es', d5, d6⟩ := map_at f1 r
  obtain ⟨d, k1, k2⟩ := der_some h1
  cases d <;> simp [isMapD] at k2
  refine ⟨_, rfl, fin_ok (sem := Builtin.len_ ts ty #[mp τ (.map (some b))]) (OpS.pure r f2 f3 ?_ (by simp [inA])) rfl⟩
  rw [show mp τ (.map (some b)) = .map (some (τ.σ b)) by rw [mp]]
  have hsz : es'.size = e.1.length := by
   have := congrArg List.length d6
   rw [j2]
   simpa using this
  simp [Builtin.len_, h0, run_under k1, run_getMap d5, goInt, mp, hsz]
 | .slice none _ _, _, _, keep | .map none, _, _, keep | .pointer _, _, _, keep | .bool _, _, _, keep | .int _ _, _, _, keep | .float _ _, _, _, keep | .complex _ _ _, _, _, keep | .string _, _, _, keep | .chan _, _, _, keep | .func _ _ _, _, _, keep | .nilFunc, _, _, keep | .iface _ _, _, _, keep | .nilIface, _, _, keep | .agg _, _, _, keep | .tuple _, _, _, keep => exact keep rfl
theorem plainB_ok {b : Builtin} {ts : Array TypeId} {t : TypeId} {cs : Array Bool} {args : List Value} {x : Nx} (h : plainB P b ts t cs args s = some (x, s')) (r : Rel P τ A B s.h w) :
  ∃ u, x = .val u /\ OpR P τ A B s w s' ((builtin b ts t cs (args.map (mp τ)).toArray).run P w) u := by
 unfold plainB at h
 rw [grd_some] at h
 obtain ⟨h1, h⟩ := h
 unfold clo at h
 rw [opt_some] at h
 obtain ⟨v, h2, h⟩ := h
 rw [grd_some] at h
 obtain ⟨h3, h⟩ := h
 rw [val_some] at h
 obtain ⟨rfl, rfl⟩ := h
 have hm : args.map (mp τ) = args := by
  have : args.map (mp τ) = args.map id := List.map_congr_left fun v hv => mp_closed τ v (List.all_eq_true.1 h1 v hv)
  rw [this, List.map_id]
 rw [hm]
 unfold builtS at h2
 rw [pureRun_bind, Option.bind_eq_some_iff] at h2
 obtain ⟨n, h4, h5⟩ := h2
 have hn : n = .value v := by
  cases n <;> first | (cases h5; rfl) | (cases h5; done)
 subst hn
 refine ⟨v, rfl, τ, w, .inl ?_, Agr.refl _ _ _, r.mono fun _ => Un.left, inA_closed _ v h3, Below.refl _ _⟩
 rw [mp_closed τ v h3]
 exact pureRun_ok _ _ _ h4
theorem idx0 {l : Array TypeId} {t : TypeId} {n : Nat} (h : nth l.toList n = some t) : l[n]? = some t := by
 rw [nth_eq] at h; simpa using h
theorem row_run {b : Builtin} (hb : isRowOf b = true) (ts : Array TypeId) (t : TypeId) (cs : Array Bool) (a : Addr) (n c : Nat) (hc : c ≠ 0) : (builtin b ts t cs #[.slice (some a) n c]).run P w = .ok (.value (.pointer (some a))) w := by
 obtain ⟨k, rfl⟩ : ∃ k, c = k + 1 := ⟨c - 1, by omega⟩
 cases b <;> first | (cases hb; done) | rfl
theorem OpR.pure {res : Result Next} {v : Value} (r : Rel P τ A B s.h w) (h1 : s'.h = s.h) (h2 : s'.nx = s.nx) (hr : res = .ok (.value (mp τ v)) w) (hv : inA A v) : OpR P τ A B s w s' res v :=
 ⟨τ, w, .inl hr, Agr.refl _ _ _, by rw [h1]; exact r.mono fun n hn => .inl hn, inA_mono (fun _ => Un.left) _ hv, Below.refl _ _⟩
theorem rowA_ok {b : Builtin} (hb : isRowOf b = true) {ts : Array TypeId} {t : TypeId} {cs : Array Bool} {y : Value} {x : Nx} (h : rowA y s = some (x, s')) (r : Rel P τ A B s.h w) (hv : inA A y) :
  ∃ u, x = .val u /\ OpR P τ A B s w s' ((builtin b ts t cs #[mp τ y]).run P w) u := by
 match y, h, hv with
 | .slice (some a) n c, h, hv =>
  simp only [rowA] at h
  rw [grd_some] at h
  obtain ⟨h1, h⟩ := h
  rw [val_some] at h
  obtain ⟨rfl, rfl⟩ := h
  have hc : c ≠ 0 := fun q => by subst q; cases h1
  rw [inA] at hv
  refine ⟨_, rfl, OpR.pure r rfl rfl ?_ (by rw [inA]; exact hv)⟩
  rw [mp_sl, mp_ptr]
  exact row_run hb ts t cs _ _ _ (by omega)
 | .slice none _ _, h, _ | .map _, h, _ | .pointer _, h, _ | .bool _, h, _ | .int _ _, h, _ | .float _ _, h, _ | .complex _ _ _, h, _ | .string _, h, _ | .chan _, h, _ | .func _ _ _, h, _ | .nilFunc, h, _ | .iface _ _, h, _ | .nilIface, h, _ | .agg _, h, _ | .tuple _, h, _ =>
  simp only [rowA] at h
  rw [die_some] at h; exact h.elim
theorem built1_ok {b : Builtin} {ts : Array TypeId} {t : TypeId} {cs : Array Bool} {y : Value} {x : Nx} (h : builtA P b ts t cs [y] s = some (x, s')) (r : Rel P τ A B s.h w) (hv : inA A y) :
  ∃ u, x = .val u /\ OpR P τ A B s w s' ((builtin b ts t cs #[mp τ y]).run P w) u := by
 have plain : plainB P b ts t cs [y] s = some (x, s') -> ∃ u, x = .val u /\ OpR P τ A B s w s' ((builtin b ts t cs #[mp τ y]).run P w) u := fun h => plainB_ok h r
 have other : sel (isRowOf b) (rowA y) (plainB P b ts t cs [y]) s = some (x, s') -> ∃ u, x = .val u /\ OpR P τ A B s w s' ((builtin b ts t cs #[mp τ y]).run P w) u := by
  intro h
  rw [sel_some] at h
  rcases h with ⟨hb, h⟩ | ⟨_, h⟩
  ·exact rowA_ok hb h r hv
  ·exact plain h
 cases b with
 | len =>
  simp only [builtA] at h
  rw [opt_some] at h
  obtain ⟨t0, h0, h⟩ := h
  exact lenA_ok (idx0 h0) h r plain
 | _ => exact other h
theorem ptrElem_some {pt u : TypeId} (h1 : ptrElem P pt = some u) : P.underlying pt = some (.pointer u) := by
 unfold ptrElem at h1
 obtain ⟨d, k1, k2⟩ := Option.bind_eq_some_iff.1 h1
 cases d <;> simp at k2
 rw [k1, k2]
theorem i64Of_some {z : Value} {n : Nat} (h : i64Of? z = some n) : z = .int .i64 (n : Int) := by
 unfold i64Of? at h
 split at h
 ·cases h; rfl
 ·cases h
theorem strP_some {l : List TypeId} {a : Addr} {y : Value} {x : Nx} (h : strP P l a y s = some (x, s')) : ∃ pt it u n, l = [pt, it] /\ P.underlying pt = some (.pointer u) /\ y = .int .i64 ((n : Nat) : Int) /\ strOf P u a n s = some (x, s') := by
 match l, h with
 | [pt, it], h =>
  simp only [strP] at h
  rw [opt_some] at h
  obtain ⟨u, h1, h⟩ := h
  rw [opt_some] at h
  obtain ⟨n, h2, h⟩ := h
  exact ⟨pt, it, u, n, rfl, ptrElem_some h1, i64Of_some h2, h⟩
 | [], h => simp only [strP] at h; rw [die_some] at h; exact h.elim
 | [_], h => simp only [strP] at h; rw [die_some] at h; exact h.elim
 | _ :: _ :: _ :: _, h => simp only [strP] at h; rw [die_some] at h; exact h.elim
theorem textA_ok {b : Builtin} (hb : isTextOf b = true) {ts : Array TypeId} {t : TypeId} {cs : Array Bool} {y z : Value} {x : Nx} (h : textA P ts y z s = some (x, s')) (r : Rel P τ A B s.h w) :
  ∃ u, x = .val u /\ OpR P τ A B s w s' ((builtin b ts t cs #[mp τ y, mp τ z]).run P w) u := by
 match y, h with
 | .pointer (some a), h =>
  simp only [textA] at h
  obtain ⟨pt, it, u, n, hts, hp, hz', h5⟩ := strP_some h
  subst hz'
  have hts' : ts = #[pt, it] := Array.toList_inj.1 hts
  obtain ⟨v, e1, e2, e3, e4, w', e5, e6, e7⟩ := strOf_ok (b := b) hb (cs := cs) (it := it) (ty := t) hp h5 r
  refine ⟨v, e1, τ, w', .inl ?_, Agr.refl _ _ _, e6.mono fun _ => Un.left, inA_mono (fun _ => Un.left) _ e3, e7⟩
  rw [hts', show mp τ (.int .i64 (n : Int)) = .int .i64 (n : Int) by simp [mp], e4]
  exact e5
 | .slice _ _ _, h | .map _, h | .pointer none, h | .bool _, h | .int _ _, h | .float _ _, h | .complex _ _ _, h | .string _, h | .chan _, h | .func _ _ _, h | .nilFunc, h | .iface _ _, h | .nilIface, h | .agg _, h | .tuple _, h =>
  simp only [textA] at h
  rw [die_some] at h; exact h.elim
theorem built2_ok {b : Builtin} {ts : Array TypeId} {t : TypeId} {cs : Array Bool} {y z : Value} {x : Nx} (h : builtA P b ts t cs [y, z] s = some (x, s')) (r : Rel P τ A B s.h w) (hy : inA A y) (hz : inA A z) (hA : s.nx < s'.nx -> ¬ A s.nx) :
  ∃ u, x = .val u /\ OpR P τ A B s w s' ((builtin b ts t cs #[mp τ y, mp τ z]).run P w) u := by
 have plain : plainB P b ts t cs [y, z] s = some (x, s') -> ∃ u, x = .val u /\ OpR P τ A B s w s' ((builtin b ts t cs #[mp τ y, mp τ z]).run P w) u := fun h => plainB_ok h r
 have other : sel (isTextOf b) (textA P ts y z) (plainB P b ts t cs [y, z]) s = some (x, s') -> ∃ u, x = .val u /\ OpR P τ A B s w s' ((builtin b ts t cs #[mp τ y, mp τ z]).run P w) u := by
  intro h
  rw [sel_some] at h
  rcases h with ⟨hb, h⟩ | ⟨_, h⟩
  ·exact textA_ok hb h r
  ·exact plain h
 cases b with
 | append =>
  simp only [builtA] at h
  rw [opt_some] at h
  obtain ⟨t0, h0, h⟩ := h
  rw [opt_some] at h
  obtain ⟨t1, h1, h⟩ := h
  rw [bnd_some] at h
  obtain ⟨v, s1, h2, h⟩ := h
  rw [val_some] at h
  obtain ⟨rfl, rfl⟩ := h
  exact ⟨v, rfl, fin_ok (appendA_ok (ty := t) (idx0 h0) (idx0 h1) h2 r hy hz hA) rfl⟩
 | copy =>
  simp only [builtA] at h
  rw [opt_some] at h
  obtain ⟨t0, h0, h⟩ := h
  obtain ⟨u, e1, e2, e3, e4, w', e5, e6, e7⟩ := copyA_ok (ty := t) (idx0 h0) h r
  exact ⟨u, e1, fin_ok (of_ok e2 e5 e6 e3 e4 e7) rfl⟩
 | delete =>
  simp only [builtA] at h
  rw [opt_some] at h
  obtain ⟨t0, h0, h⟩ := h
  obtain ⟨e1, e2, w', e5, e6, e7⟩ := delA_ok (u := t) (idx0 h0) h r hy
  exact ⟨_, e1, fin_ok (of_ok e2 e5 e6 (by rw [inA_tuple]; simp) (by rw [mp_tuple]; simp) e7) rfl⟩
 | _ => exact other h
theorem builtA_ok {b : Builtin} {ts : Array TypeId} {t : TypeId} {cs : Array Bool} {args : List Value} {x : Nx} (h : builtA P b ts t cs args s = some (x, s')) (r : Rel P τ A B s.h w) (hv : ∀ v ∈ args, inA A v) (hA : s.nx < s'.nx -> ¬ A s.nx) :
  ∃ u, x = .val u /\ OpR P τ A B s w s' ((builtin b ts t cs (args.map (mp τ)).toArray).run P w) u := by
 match args, h, hv with
 | [], h, _ => exact plainB_ok h r
 | [y], h, hv => exact built1_ok h r (hv y (by simp))
 | [y, z], h, hv => exact built2_ok h r (hv y (by simp)) (hv z (by simp)) hA
 | _ :: _ :: _ :: _, h, _ => exact plainB_ok h r
end Go.Proofs.YtmdlgfnibjcgmaaGreatDoor.Rn
