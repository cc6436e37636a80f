/-
  Several texts joined: RnQ.
-/
import Derived.Test.YtmdlgfnibjcgmaaGreatDoorK33
set_option linter.unusedVariables false
set_option linter.unusedSimpArgs false
set_option linter.unusedSectionVars false
namespace Go.Proofs.YtmdlgfnibjcgmaaGreatDoor.Rn
open Go.RowKit
variable {P : Program} {τ : Tau} {A : Nat -> Prop} {B : Nat} {w : World} {s s' : St}
theorem der_some {t : TypeId} {f : TypeDesc -> Bool} (h : der P t f = true) : ∃ d, P.underlying t = some d /\ f d = true := by
 unfold der at h
 cases hu : P.underlying t with
 | none => rw [hu] at h; cases h
 | some d => rw [hu] at h; exact ⟨d, rfl, h⟩
theorem elem_some {t e : TypeId} (h : elemOf? P t = some e) : P.underlying t = some (.slice e) := by
 unfold elemOf? at h
 obtain ⟨d, h1, h2⟩ := Option.bind_eq_some_iff.1 h
 cases d <;> simp at h2
 rw [h1, h2]
theorem u8_mp {l : List Value} : ∀ {z : List UInt8}, u8s l = some z -> l.map (mp τ) = l /\ ∃ xs : List Int, l = xs.map (Value.int .u8) /\ (z = xs.map fun n => UInt8.ofNat n.toNat) /\ ∀ n ∈ xs, 0 <= n /\ n < 256 := by
 induction l with
 | nil => intro z h; simp [u8s] at h; subst h; exact ⟨rfl, [], rfl, rfl, fun n hn => by cases hn⟩
 | cons v l ih =>
  intro z h
  simp only [u8s, List.mapM_cons, Option.bind_eq_bind, Option.bind_eq_some_iff, Option.pure_def, Option.some.injEq] at h
  obtain ⟨c, h1, z', h2, rfl⟩ := h
  obtain ⟨k1, xs, k2, k3, k4⟩ := ih h2
  have hv : ∃ n : Int, v = .int .u8 n /\ c = UInt8.ofNat n.toNat /\ 0 <= n /\ n < 256 := by
   unfold u8Of at h1
   split at h1
   ·rename_i n
    unfold sel at h1
    split at h1
    ·rename_i hb
     cases h1
     have : n < 256 := by simpa using hb
     exact ⟨_, rfl, rfl, by simp, by simp; omega⟩
    ·cases h1
   ·cases h1
  obtain ⟨n, rfl, rfl, hn⟩ := hv
  refine ⟨by rw [List.map_cons, k1]; simp [mp], n :: xs, by rw [k2]; rfl, by rw [k3]; rfl, fun m hm => ?_⟩
  rcases List.mem_cons.1 hm with rfl | hm
  ·exact hn
  ·exact k4 m hm
theorem convS_ok {src dst : TypeId} {a : Addr} {n c : Nat} {x : Nx} (h : convA P src dst (.slice (some a) n c) s = some (x, s')) (r : Rel P τ A B s.h w) :
  ∃ u, x = .val u /\ OpS P τ A B s w s' (convert src dst (mp τ (.slice (some a) n c))) u := by
 have h0 : (grd ((elemOf? P src).any (der P · isU8D) && der P dst isStrD) <| bnd (loadN a n) fun l => opt (u8s l) fun z => val (.string ⟨z.toArray⟩)) s = some (x, s') := h
 rw [grd_some, Bool.and_eq_true] at h0
 obtain ⟨⟨g1, g2⟩, h0⟩ := h0
 rw [bnd_some] at h0
 obtain ⟨l, s1, h1, h0⟩ := h0
 rw [opt_some] at h0
 obtain ⟨z, h2, h3⟩ := h0
 rw [val_some] at h3
 obtain ⟨rfl, rfl⟩ := h3
 obtain ⟨e1, e2, e3, e4, e5, e6, e7⟩ := loadN_ok h1 r
 cases he : elemOf? P src with
 | none => rw [he] at g1; simp at g1
 | some e =>
  rw [he] at g1
  obtain ⟨d1, k1, k2⟩ := der_some (by simpa using g1)
  obtain ⟨d2, k3, k4⟩ := der_some g2
  have hd1 : d1 = .int .u8 := by cases d1 <;> simp [isU8D] at k2; rename_i q; cases q <;> simp at k2; rfl
  have hd2 : d2 = .string := by cases d2 <;> simp [isStrD] at k4; rfl
  subst hd1 hd2
  obtain ⟨j1, xs, j2, j3, _⟩ := u8_mp (τ := τ) h2
  refine ⟨_, rfl, OpS.pure r e1 e2 ?_ (by simp [inA])⟩
  rw [mp, e6]
  have := run_convert_bytes_arg (P := P) w src e (elem_some he) k1 (τ.σ a.block) a.off n (c + τ.x a.block) xs (by rw [← e5, j2]; simp) (fun i hi => by
   have hl : xs.length = n := by rw [← e5, j2]; simp
   refine e7 i _ ?_
   rw [j1, j2, List.getElem?_map, List.getElem?_eq_getElem (by omega), List.getD_eq_getElem?_getD, List.getElem?_eq_getElem (by omega)]
   rfl) dst k3
  rw [this]
  simp only [mp, strOfNums, j3]
theorem shape_ok {b : Nat} {ca : Array Value} {t : TypeId} {fr : Nat × Nat} (h : s.h.get b = some (.cells ca t fr)) (r : Rel P τ A B s.h w) (hx : fr.1 = 0) : w.shape? (τ.σ b) = some (t, ca.size) := by
 obtain ⟨d1, d2, d3, o', d4, d5⟩ := r.dom _ _ h
 cases o' <;> try exact d5.elim
 rename_i c' t' fr'
 obtain ⟨q1, ⟨sp, q2, q3⟩, q4, q5⟩ := d5
 rw [q4 hx, Nat.zero_mul] at q3
 have hsp : sp = [] := List.eq_nil_of_length_eq_zero q3
 subst hsp
 unfold World.shape?
 simp only [d4, q1]
 have : c'.size = ca.size := by
  have := congrArg List.length q2
  simpa using this
 rw [this]
theorem run_step {α β : Type} {x : Sem α} {f : α -> Sem β} {a : α} {w w1 : World} {r : Result β} (h1 : x.run P w = .ok a w1) (h2 : (f a).run P w1 = r) : (x >>= f).run P w = r := by
 rw [Sem.run_bind, h1, Result.andThen_ok]; exact h2
theorem convP_ok {src dst : TypeId} {a : Addr} {x : Nx} (h : convA P src dst (.pointer (some a)) s = some (x, s')) (r : Rel P τ A B s.h w) :
  ∃ u, x = .val u /\ OpS P τ A B s w s' (convert src dst (mp τ (.pointer (some a)))) u := by
 have h0 : convP P src dst a s = some (x, s') := h
 unfold convP at h0
 rw [grd_some] at h0
 obtain ⟨g1, h0⟩ := h0
 rw [bnd_some] at h0
 obtain ⟨o, s1, h1, h0⟩ := h0
 rw [opt_some] at h0
 obtain ⟨c, h2, h0⟩ := h0
 rw [grd_some, Bool.and_eq_true] at h0
 obtain ⟨⟨g2, g3⟩, h0⟩ := h0
 obtain ⟨e1, e2, e3⟩ := geto_ok h1
 obtain ⟨ca, fr, f1, f2, f3⟩ := cellsO_some h2
 subst f1
 have hsh := shape_ok e1 r (by rw [← f3]; exact Nat.eq_of_beq_eq_true g2)
 have hA := (r.dom _ _ e1).1
 have hlt : a.off < ca.size := by
  have : a.off < c.1.length := by simpa using g3
  rw [f2] at this; simpa using this
 have hcl : c.1.length = ca.size := by rw [f2]; simp
 obtain ⟨ab, ao, asp⟩ := a
 simp only [Option.isNone_iff_eq_none] at g1
 simp only at g1 e1 hsh hA hlt h0
 subst g1
 have hv : mp τ (.pointer (some ⟨ab, ao, none⟩)) = .pointer (some ⟨τ.σ ab, ao, none⟩) := mp_ptr τ _
 rw [opt_some] at h0
 obtain ⟨d, hs, h0⟩ := h0
 rw [opt_some] at h0
 obtain ⟨e, hd, h0⟩ := h0
 have to : isUpD e = true -> ∀ t, d = .pointer t -> convF P ⟨ab, ao, none⟩ t s1 = some (x, s') -> ∃ u, x = .val u /\ OpS P τ A B s w s' (convert src dst (mp τ (.pointer (some ⟨ab, ao, none⟩)))) u := by
  intro hup t hdt h7
  clear h0
  subst hdt
  have h0 := h7
  unfold convF at h0
  rw [opt_some] at h0
  obtain ⟨k, k1, h0⟩ := h0
  rw [grd_some] at h0
  obtain ⟨k2, h0⟩ := h0
  rw [val_some] at h0
  obtain ⟨rfl, rfl⟩ := h0
  obtain ⟨i, i1, i2⟩ := sizeOf_some k1
  refine ⟨_, rfl, OpS.pure r e2 e3 ?_ (by rw [inA]; exact hA)⟩
  rw [hv]
  have hk : ¬ i.size = 0 := by
   have : 0 < k := by simpa using k2
   omega
  have hnot : ¬ ca.size <= ao := by omega
  cases e <;> first
   | (cases hup; done)
   | (refine run_step (x := underlying src) (run_under hs w) ?_
      refine run_step (x := underlying dst) (run_under hd w) ?_
      refine run_step (x := underlying src) (run_under hs w) ?_
      refine run_step (x := underlying dst) (run_under hd w) ?_
      refine run_step (x := Conv.seenAt ⟨τ.σ ab, ao, none⟩) (a := ⟨τ.σ ab, ao, none⟩) (w1 := w) (by simp [Conv.seenAt, viewAt, hsh]) ?_
      refine run_step (x := cellsIn (τ.σ ab)) (a := some ca.size) (w1 := w) (by simp [cellsIn, hsh]) ?_
      refine run_step (x := sizeOf t) (run_size i1 w) ?_
      simp [hk, hnot])
 have back : isUpD d = true -> ∀ u, e = .pointer u -> convT P ⟨ab, ao, none⟩ c.2.1 c.1.length u s1 = some (x, s') -> ∃ u, x = .val u /\ OpS P τ A B s w s' (convert src dst (mp τ (.pointer (some ⟨ab, ao, none⟩)))) u := by
  intro hup u hdt h7
  clear h0
  subst hdt
  have h0 := h7
  unfold convT at h0
  rw [opt_some] at h0
  obtain ⟨k, k1, h0⟩ := h0
  rw [grd_some, Bool.and_eq_true] at h0
  obtain ⟨⟨k2, k3⟩, h0⟩ := h0
  rw [val_some] at h0
  obtain ⟨rfl, rfl⟩ := h0
  obtain ⟨i, i1, i2⟩ := sizeOf_some k1
  refine ⟨_, rfl, OpS.pure r e2 e3 ?_ (by rw [inA]; exact hA)⟩
  rw [hv]
  have hk : ¬ i.size = 0 := by
   have : 0 < k := by simpa using k2
   omega
  rw [hcl] at k3
  cases d <;> first
   | (cases hup; done)
   | (refine run_step (x := underlying src) (run_under hs w) ?_
      refine run_step (x := underlying dst) (run_under hd w) ?_
      refine run_step (x := underlying src) (run_under hs w) ?_
      refine run_step (x := underlying dst) (run_under hd w) ?_
      refine run_step (x := Conv.seenAt ⟨τ.σ ab, ao, none⟩) (a := ⟨τ.σ ab, ao, none⟩) (w1 := w) (by simp [Conv.seenAt, viewAt, hsh]) ?_
      refine run_step (x := sizeOf u) (run_size i1 w) ?_
      simp [hk, variablesAt, hsh, k3])
 cases d with
 | pointer t =>
  simp only [convD] at h0
  rw [grd_some] at h0
  exact to h0.1 t rfl h0.2
 | _ =>
  cases e with
  | pointer u =>
   simp only [convD] at h0
   rw [grd_some] at h0
   exact back h0.1 u rfl h0.2
  | _ =>
   simp only [convD] at h0
   rw [die_some] at h0; exact h0.elim
theorem mp_sl (τ : Tau) (a : Addr) (n c : Nat) : mp τ (.slice (some a) n c) = .slice (some ⟨τ.σ a.block, a.off, a.spot⟩) n (c + τ.x a.block) := by rw [mp]
theorem convA_ok {src dst : TypeId} {v : Value} {x : Nx} (h : convA P src dst v s = some (x, s')) (r : Rel P τ A B s.h w) : ∃ u, x = .val u /\ OpS P τ A B s w s' (convert src dst (mp τ v)) u := by
 have rest : (grd (closed v) <| clo P (convert src dst v)) s = some (x, s') -> ∃ u, x = .val u /\ OpS P τ A B s w s' (convert src dst (mp τ v)) u := by
  intro h1
  rw [grd_some] at h1
  rw [mp_closed τ v h1.1]
  exact clo_ok h1.2 r
 match v, h, rest with
 | .slice (some a) n c, h, _ => exact convS_ok h r
 | .pointer (some a), h, _ => exact convP_ok h r
 | .slice none _ _, h, rest | .pointer none, h, rest | .bool _, h, rest | .int _ _, h, rest | .float _ _, h, rest | .complex _ _ _, h, rest | .string _, h, rest | .map _, h, rest | .chan _, h, rest | .func _ _ _, h, rest | .nilFunc, h, rest | .iface _ _, h, rest | .nilIface, h, rest | .agg _, h, rest | .tuple _, h, rest => exact rest h
theorem fieldA_ok {t : TypeId} {v : Value} {i : Nat} {x : Nx} (h : fieldA P t v i s = some (x, s')) (r : Rel P τ A B s.h w) (hv : inA A v) : ∃ u, x = .val u /\ OpS P τ A B s w s' (Instr.fieldAt t (mp τ v) i) u := by
 match v with
 | .pointer (some a) =>
  unfold fieldA at h
  simp only at h
  rw [opt_some] at h
  obtain ⟨d, h1, h⟩ := h
  cases d with
  | struct fs =>
   simp only at h
   rw [opt_some] at h
   obtain ⟨f, h2, h⟩ := h
   rw [opt_some] at h
   obtain ⟨k, h3, h⟩ := h
   rw [grd_some] at h
   obtain ⟨h4, h⟩ := h
   rw [val_some] at h
   obtain ⟨rfl, rfl⟩ := h
   obtain ⟨j, i1, i2⟩ := sizeOf_some h3
   rw [nth_eq] at h2
   have hf : fs[i]? = some f := by simpa using h2
   have hk : ¬ j.size = 0 := by have : 0 < k := by simpa using h4
                                omega
   rw [inA] at hv
   have hadd : ∀ (a : Addr) (n : Nat), (a.add n).block = a.block := fun a n => by unfold Addr.add; split <;> rfl
   have hadd2 : (⟨τ.σ a.block, a.off, a.spot⟩ : Addr).add f.offset = ⟨τ.σ (a.add f.offset).block, (a.add f.offset).off, (a.add f.offset).spot⟩ := by
    unfold Addr.add; split <;> rfl
   refine ⟨_, rfl, OpS.pure r rfl rfl ?_ (by rw [inA, hadd]; exact hv)⟩
   rw [mp_ptr, mp_ptr]
   simp [Instr.fieldAt, run_under h1, hf, Instr.sureAddr, fieldPlace, run_size i1, hk, hadd2]
  | _ => simp [die] at h
 | .pointer none | .bool _ | .int _ _ | .float _ _ | .complex _ _ _ | .string _ | .slice _ _ _ | .map _ | .chan _ | .func _ _ _ | .nilFunc | .iface _ _ | .nilIface | .agg _ | .tuple _ => simp [fieldA, die] at h
theorem nat_some {v : Value} {n : Nat} (h : natOf? v = some n) : ∃ k, v = .int k (n : Int) := by
 unfold natOf? at h
 split at h
 ·cases h; exact ⟨_, rfl⟩
 ·cases h
theorem indexP_ok {e : TypeId} {a : Addr} {len j : Nat} {x : Nx} (h : indexP P e a len j s = some (x, s')) : ∃ i, P.info? e = some i /\ j < len /\ x = .val (.pointer (some (a.add (j * i.size)))) /\ s' = s := by
 unfold indexP at h
 rw [opt_some] at h
 obtain ⟨k, h1, h⟩ := h
 rw [grd_some] at h
 obtain ⟨h2, h⟩ := h
 rw [val_some] at h
 obtain ⟨rfl, rfl⟩ := h
 obtain ⟨i, i1, i2⟩ := sizeOf_some h1
 exact ⟨i, i1, by simpa using h2, by rw [i2], rfl⟩
theorem indexA_ok {t : TypeId} {v iv : Value} {x : Nx} (h : indexA P t v iv s = some (x, s')) (r : Rel P τ A B s.h w) (hv : inA A v) : ∃ u, x = .val u /\ OpS P τ A B s w s' (Instr.indexAt t (mp τ v) (mp τ iv)) u := by
 unfold indexA at h
 rw [opt_some] at h
 obtain ⟨j, h1, h⟩ := h
 rw [opt_some] at h
 obtain ⟨d, h2, h⟩ := h
 obtain ⟨k, rfl⟩ := nat_some h1
 have hadd : ∀ (a : Addr) (n : Nat), (a.add n).block = a.block := fun a n => by unfold Addr.add; split <;> rfl
 have hadd2 : ∀ (a : Addr) (n : Nat), (⟨τ.σ a.block, a.off, a.spot⟩ : Addr).add n = ⟨τ.σ (a.add n).block, (a.add n).off, (a.add n).spot⟩ := fun a n => by unfold Addr.add; split <;> rfl
 have hi : mp τ (.int k (j : Int)) = .int k (j : Int) := by simp [mp]
 split at h
 ·rename_i len e a
  obtain ⟨i, i1, i2, rfl, rfl⟩ := indexP_ok h
  rw [inA] at hv
  refine ⟨_, rfl, OpS.pure r rfl rfl ?_ (by rw [inA, hadd]; exact hv)⟩
  rw [hi, mp_ptr, mp_ptr, ← hadd2]
  have q : (0 : Int) <= j /\ (j : Int) < len := by omega
  simp [Instr.indexAt, asIntOf, run_under h2, Instr.sureAddr, run_size i1, q, i2]
 ·rename_i e a len cap
  obtain ⟨i, i1, i2, rfl, rfl⟩ := indexP_ok h
  rw [inA] at hv
  refine ⟨_, rfl, OpS.pure r rfl rfl ?_ (by rw [inA, hadd]; exact hv)⟩
  rw [hi, mp_sl, mp_ptr, ← hadd2]
  have q : (0 : Int) <= j /\ (j : Int) < len := by omega
  simp [Instr.indexAt, asIntOf, run_under h2, Instr.sureAddr, run_size i1, q, i2]
 ·rw [die_some] at h; exact h.elim
end Go.Proofs.YtmdlgfnibjcgmaaGreatDoor.Rn
