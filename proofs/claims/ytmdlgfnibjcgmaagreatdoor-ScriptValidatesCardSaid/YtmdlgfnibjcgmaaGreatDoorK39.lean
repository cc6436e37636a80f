/-
  Several texts joined: RnZ.
-/
import Derived.Test.YtmdlgfnibjcgmaaGreatDoorK38
set_option linter.unusedVariables false
set_option linter.unusedSimpArgs false
set_option linter.unusedSectionVars false
namespace Go.Proofs.YtmdlgfnibjcgmaaGreatDoor.Rn
open Go.RowKit
variable {P : Program} {τ : Tau} {A : Nat -> Prop} {B : Nat} {w : World} {s s' : St}
def OpA (P : Program) (τ : Tau) (A : Nat -> Prop) (B : Nat) (s : St) (w : World) (s' : St) (e : Sem Next) (x : Nx) : Prop :=
 (∃ v, x = .val v /\ OpR P τ A B s w s' (e.run P w) v) ∨ (∃ f args, x = .call f args /\ s' = s /\ (∀ v ∈ args, inA A v) /\ e.run P w = (callFunc f (args.map (mp τ)).toArray).run P w)
theorem callV_some {v : Value} {args : List Value} {x : Nx} (h : callV v args s = some (x, s')) : ∃ g first captured, v = .func (.func g) first captured /\ x = .call g (first.toList ++ (args ++ captured.toList)) /\ s' = s := by
 match v, h with
 | .func (.func g) first captured, h =>
  simp only [callV] at h
  rw [ret_some] at h
  cases h
  exact ⟨g, first, captured, rfl, rfl, rfl⟩
 | .func (.method _) _ _, h | .func (.methodOf _ _) _ _, h | .func (.via _ _ _ _) _ _, h | .func (.yield _) _ _, h => simp only [callV] at h; rw [die_some] at h; exact h.elim
 | .slice _ _ _, h | .map _, h | .pointer _, h | .bool _, h | .int _ _, h | .float _ _, h | .complex _ _ _, h | .string _, h | .chan _, h | .nilFunc, h | .iface _ _, h | .nilIface, h | .agg _, h | .tuple _, h =>
  simp only [callV] at h; rw [die_some] at h; exact h.elim
theorem callA_ok {o : Oper} {c : Call} {ρ ρ' : Operand -> Value} {x : Nx} (ho : o.op = .call c) (hρ : ∀ y ∈ c.operands.toList, ρ' y = mp τ (ρ y)) (hA : ∀ y ∈ c.operands.toList, inA A (ρ y)) (h : callA P c o.type ρ s = some (x, s')) (r : Rel P τ A B s.h w) (hn : s.nx < s'.nx -> ¬ A s.nx) :
  OpA P τ A B s w s' (execOp ρ' o) x := by
 have hargs : ∀ y ∈ c.args.toList, y ∈ c.operands.toList := fun y hy => by
  unfold Call.operands
  rw [Array.toList_append]
  exact List.mem_append_right _ hy
 have e1 : c.args.map ρ' = ((c.args.toList.map ρ).map (mp τ)).toArray := by
  apply Array.toList_inj.1
  rw [Array.toList_map, List.map_map]
  exact List.map_congr_left fun y hy => hρ y (hargs y hy)
 have a1 : ∀ v ∈ c.args.toList.map ρ, inA A v := by
  intro v hv
  obtain ⟨y, hy, rfl⟩ := List.mem_map.1 hv
  exact hA y (hargs y hy)
 unfold callA at h
 cases hc : c.callee with
 | invoke f n => rw [hc] at h; simp only at h; rw [die_some] at h; exact h.elim
 | builtin b =>
  rw [hc] at h
  simp only at h
  obtain ⟨u, k1, k2⟩ := builtA_ok h r a1 hn
  refine .inl ⟨u, k1, ?_⟩
  have : (execOp ρ' o).run P w = (builtin b c.argTypes o.type (c.args.map isConstB) ((c.args.toList.map ρ).map (mp τ)).toArray).run P w := by
   unfold execOp
   rw [ho]
   simp only [resolve, hc, Sem.run_bind, Sem.run_pure, Result.andThen_ok, invoke, e1]
   rfl
  rw [this]
  exact k2
 | value f =>
  rw [hc] at h
  simp only at h
  have hf : f ∈ c.operands.toList := by
   unfold Call.operands
   rw [hc]; simp
  have h1 := hρ f hf
  have h2 := hA f hf
  obtain ⟨g, first, captured, hv, rfl, rfl⟩ := callV_some h
  rw [hv, mp_func] at h1
  rw [hv, inA_func] at h2
  refine .inr ⟨g, _, rfl, rfl, ?_, ?_⟩
  ·intro v hv
   rcases List.mem_append.1 hv with q | q
   ·exact h2.1 v q
   ·rcases List.mem_append.1 q with q | q
    ·exact a1 v q
    ·exact h2.2 v q
  ·unfold execOp
   rw [ho]
   simp only [resolve, hc, Deferred.ofValue, h1, Sem.run_bind, Sem.run_pure, Result.andThen_ok, invoke, e1]
   congr 2
   simp
theorem pick_ok {c a b : Value} {x : Nx} (h : pickA c a b s = some (x, s')) (r : Rel P τ A B s.h w) (ha : inA A a) (hb : inA A b) :
  ∃ u, x = .val u /\ OpS P τ A B s w s' (do pure (if ← asBool (mp τ c) then mp τ a else mp τ b)) u := by
 match c, h with
 | .bool true, h =>
  simp only [pickA] at h
  rw [val_some] at h
  obtain ⟨rfl, rfl⟩ := h
  exact ⟨_, rfl, OpS.pure r rfl rfl (by simp [mp, asBool]) ha⟩
 | .bool false, h =>
  simp only [pickA] at h
  rw [val_some] at h
  obtain ⟨rfl, rfl⟩ := h
  exact ⟨_, rfl, OpS.pure r rfl rfl (by simp [mp, asBool]) hb⟩
 | .slice _ _ _, h | .map _, h | .pointer _, h | .int _ _, h | .float _ _, h | .complex _ _ _, h | .string _, h | .chan _, h | .func _ _ _, h | .nilFunc, h | .iface _ _, h | .nilIface, h | .agg _, h | .tuple _, h =>
  simp only [pickA] at h; rw [die_some] at h; exact h.elim
theorem val_ok {v : Value} {x : Nx} (h : val v s = some (x, s')) (r : Rel P τ A B s.h w) (hv : inA A v) : ∃ u, x = .val u /\ OpS P τ A B s w s' (pure (mp τ v)) u := by
 rw [val_some] at h
 obtain ⟨rfl, rfl⟩ := h
 exact ⟨v, rfl, OpS.pure r rfl rfl rfl hv⟩
theorem opA_of {e : Sem Next} {x : Nx} {sem : Sem Value} (h : ∃ u, x = .val u /\ OpS P τ A B s w s' sem u) (he : e.run P w = (do let v ← sem; pure (Next.value v) : Sem Next).run P w) : OpA P τ A B s w s' e x := by
 obtain ⟨u, h1, h2⟩ := h
 exact .inl ⟨u, h1, fin_ok h2 he⟩
theorem opA_skip {e : Sem Next} {x : Nx} {sem : Sem Unit} (h : x = .val undef /\ s'.nx = s.nx /\ ∃ w', sem.run P w = .ok () w' /\ Rel P τ A B s'.h w' /\ Below B w w') (he : e.run P w = (do sem; pure Next.skip : Sem Next).run P w) : OpA P τ A B s w s' e x := by
 obtain ⟨h1, h2, w', h3, h4, h5⟩ := h
 exact .inl ⟨undef, h1, skip_ok h2 h3 h4 h5 he⟩
theorem nil_ok {v : Value} {x : Nx} (h : nilA v s = some (x, s')) : s' = s /\ x = .val v /\ ((∃ a, v = .pointer (some a)) ∨ ∃ f a b, v = .func (.func f) a b) := by
 unfold nilA at h
 split at h
 ·rw [val_some] at h; exact ⟨h.2, h.1, .inl ⟨_, rfl⟩⟩
 ·rw [val_some] at h; exact ⟨h.2, h.1, .inr ⟨_, _, _, rfl⟩⟩
 ·rw [die_some] at h; exact h.elim
theorem exA_ok {o : Oper} {ρ ρ' : Operand -> Value} {x : Nx} (hρ : ∀ y ∈ o.op.operands.toList, ρ' y = mp τ (ρ y)) (hA : ∀ y ∈ o.op.operands.toList, inA A (ρ y)) (h : exA P o ρ s = some (x, s')) (r : Rel P τ A B s.h w) (hn : s.nx < s'.nx -> ¬ A s.nx) :
  OpA P τ A B s w s' (execOp ρ' o) x := by
 unfold exA at h
 cases hop : o.op <;> rw [hop] at h hρ hA <;> simp only [Op.operands, die_some] at h hρ hA <;> try exact h.elim
 case move y =>
  have h1 := hρ y (by simp)
  exact opA_of (val_ok h r (hA y (by simp))) (by simp [execOp, hop, h1])
 case assign y =>
  have h1 := hρ y (by simp)
  exact opA_of (val_ok h r (hA y (by simp))) (by simp [execOp, hop, h1])
 case pick c a b =>
  have h1 := hρ c (by simp)
  have h2 := hρ a (by simp)
  have h3 := hρ b (by simp)
  exact opA_of (pick_ok h r (hA a (by simp)) (hA b (by simp))) (by simp [execOp, hop, h1, h2, h3])
 case alloc t =>
  exact opA_of (alloc_ok h r hn) (by simp only [execOp, hop])
 case box t y =>
  have h1 := hρ y (by simp)
  exact opA_of (box_ok h r (hA y (by simp)) hn) (by simp only [execOp, hop, h1])
 case build t parts =>
  have k1 : ∀ p ∈ parts.toList, p.2 ∈ (parts.toList.map (·.2)).toArray.toList := fun p hp => by simp only [List.toList_toArray]; exact List.mem_map_of_mem hp
  exact opA_of (build_ok (fun p hp => hρ p.2 (k1 p hp)) (fun p hp => hA p.2 (k1 p hp)) h r) (by simp only [execOp, hop])
 case buildSlice t len parts =>
  have k1 : ∀ p ∈ parts.toList, p.2 ∈ (parts.toList.map (·.2)).toArray.toList := fun p hp => by simp only [List.toList_toArray]; exact List.mem_map_of_mem hp
  exact opA_of (buildSl_ok (fun p hp => hρ p.2 (k1 p hp)) (fun p hp => hA p.2 (k1 p hp)) h r hn) (by simp only [execOp, hop])
 case load t y =>
  have h1 := hρ y (by simp)
  rw [bnd_some] at h
  obtain ⟨u, s1, h2, h⟩ := h
  obtain ⟨g1, g2, g3, a, g4, g5⟩ := loadA_ok h2 r
  rw [val_some] at h
  obtain ⟨rfl, rfl⟩ := h
  refine opA_of ⟨u, rfl, OpS.pure (sem := Instr.loadAt t (mp τ (ρ y))) r g1 g2 ?_ g3⟩ (by simp only [execOp, hop, h1])
  rw [g4]
  simp only [Instr.loadAt, Instr.sureAddr, Sem.run_bind, Sem.run_pure, Result.andThen_ok]
  exact g5
 case store t y z =>
  have h1 := hρ y (by simp)
  have h2 := hρ z (by simp)
  exact opA_skip (storeA_ok h r (hA z (by simp))) (by simp only [execOp, hop, h1, h2])
 case nilCheck y =>
  have h1 := hρ y (by simp)
  obtain ⟨rfl, rfl, k⟩ := nil_ok h
  refine opA_of ⟨_, rfl, OpS.pure (sem := pure (mp τ (ρ y))) r rfl rfl rfl (hA y (by simp))⟩ ?_
  simp only [execOp, hop, h1]
  rcases k with ⟨a, k⟩ | ⟨f, a, b, k⟩
  ·rw [k, mp_ptr]; rfl
  ·rw [k, mp_func]; rfl
 case binOp op t y z p =>
  have h1 := hρ y (by simp)
  have h2 := hρ z (by simp)
  exact opA_of (binA_ok h r (hA y (by simp)) (hA z (by simp))) (by simp only [execOp, hop, h1, h2]; rfl)
 case unOp op t y =>
  have h1 := hρ y (by simp)
  exact opA_of (unA_ok h r) (by simp only [execOp, hop, h1])
 case convert a b y =>
  have h1 := hρ y (by simp)
  exact opA_of (convA_ok h r) (by simp only [execOp, hop, h1])
 case makeFunc fn first captured =>
  have k1 : first.map ρ' = (first.map ρ).map (mp τ) := by
   apply Array.toList_inj.1
   rw [Array.toList_map, Array.toList_map, Array.toList_map, List.map_map]
   exact List.map_congr_left fun y hy => hρ y (by simp at hy ⊢; exact .inl hy)
  have k2 : captured.map ρ' = (captured.map ρ).map (mp τ) := by
   apply Array.toList_inj.1
   rw [Array.toList_map, Array.toList_map, Array.toList_map, List.map_map]
   exact List.map_congr_left fun y hy => hρ y (by simp at hy ⊢; exact .inr hy)
  refine opA_of (val_ok h r ?_) (by simp only [execOp, hop, k1, k2, mp_func]; rfl)
  rw [inA_func]
  constructor
  ·intro v hv
   rw [Array.toList_map] at hv
   obtain ⟨y, hy, rfl⟩ := List.mem_map.1 hv
   exact hA y (by simp at hy ⊢; exact .inl hy)
  ·intro v hv
   rw [Array.toList_map] at hv
   obtain ⟨y, hy, rfl⟩ := List.mem_map.1 hv
   exact hA y (by simp at hy ⊢; exact .inr hy)
 case makeMap t rv =>
  cases rv with
  | some y => simp only at h; rw [die_some] at h; exact h.elim
  | none => exact opA_of (makeMap_ok (t := t) h r hn) (by simp only [execOp, hop, Option.map_none])
 case makeSlice t l c =>
  have h1 := hρ l (by simp)
  have h2 := hρ c (by simp)
  exact opA_of (makeSl_ok h r hn) (by simp only [execOp, hop, h1, h2])
 case slice t y lo hi mx =>
  cases mx with
  | some z => simp only at h; rw [die_some] at h; exact h.elim
  | none =>
   have h1 := hρ y (by simp)
   have h2 : lo.map ρ' = (lo.map ρ).map (mp τ) := by
    cases lo with
    | none => rfl
    | some l => simp only [Option.map_some]; rw [hρ l (by simp)]
   have h3 : hi.map ρ' = (hi.map ρ).map (mp τ) := by
    cases hi with
    | none => rfl
    | some l => simp only [Option.map_some]; rw [hρ l (by simp)]
   exact opA_of (sliceV_ok h r (hA y (by simp))) (by simp only [execOp, hop, h1, h2, h3, Option.map_none])
 case fieldAddr t y i =>
  have h1 := hρ y (by simp)
  exact opA_of (fieldA_ok h r (hA y (by simp))) (by simp only [execOp, hop, h1])
 case field t y i =>
  have h1 := hρ y (by simp)
  exact opA_of (field_ok h r (hA y (by simp))) (by simp only [execOp, hop, h1])
 case indexAddr t y i =>
  have h1 := hρ y (by simp)
  have h2 := hρ i (by simp)
  exact opA_of (indexA_ok h r (hA y (by simp))) (by simp only [execOp, hop, h1, h2])
 case index t y i =>
  have h1 := hρ y (by simp)
  have h2 := hρ i (by simp)
  exact opA_of (idxA_ok h r (hA y (by simp))) (by simp only [execOp, hop, h1, h2])
 case lookup t m k ok =>
  have h1 := hρ m (by simp)
  have h2 := hρ k (by simp)
  exact opA_of (lookA_ok h r (hA m (by simp))) (by simp only [execOp, hop, h1, h2])
 case mapUpdate t m k y =>
  have h1 := hρ m (by simp)
  have h2 := hρ k (by simp)
  have h3 := hρ y (by simp)
  exact opA_skip (updA_ok h r (hA m (by simp)) (hA y (by simp))) (by simp only [execOp, hop, h1, h2, h3])
 case range t y =>
  have h1 := hρ y (by simp)
  exact opA_of (rangeA_ok h r (hA y (by simp)) hn) (by simp only [execOp, hop, h1])
 case next y str =>
  cases str with
  | true => simp only at h; rw [die_some] at h; exact h.elim
  | false =>
   have h1 := hρ y (by simp)
   obtain ⟨k1, u, w', k2, k3, k4, k5, k6⟩ := nextA_ok (ty := o.type) h r
   refine opA_of (sem := Instr.next (mp τ (ρ y)) false o.type) ⟨u, k2, τ, w', k3, Agr.refl _ _ _, k4.mono fun _ => Un.left, inA_mono (fun _ => Un.left) _ k5, k6⟩ (by simp only [execOp, hop, h1])
 case extract y i =>
  have h1 := hρ y (by simp)
  exact opA_of (extrA_ok h r (hA y (by simp))) (by simp only [execOp, hop, h1])
 case call c => exact callA_ok hop hρ hA h r hn
end Go.Proofs.YtmdlgfnibjcgmaaGreatDoor.Rn
