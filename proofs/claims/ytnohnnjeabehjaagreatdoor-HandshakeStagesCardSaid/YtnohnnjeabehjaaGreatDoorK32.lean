/-
  Several texts joined: Rgh, HuF.
-/
import Derived.Test.YtnohnnjeabehjaaGreatDoorK26
import Derived.Maps.OwnSet
import Derived.Test.YtnohnnjeabehjaaGreatDoorK31
set_option maxHeartbeats 8000000
set_option maxRecDepth 8000
set_option linter.unusedVariables false
set_option linter.unusedSimpArgs false
namespace Go.Proofs.YtnohnnjeabehjaaGreatDoor
section
variable {P : Program} {Q : Exit -> Act -> World -> Prop} {md : Region.Mode} {S : World -> Prop} {es ts : List Nat}
def tailS (S : World -> Prop) (b : Bool) : World -> Prop := fun w => b = true ∨ S w
def goH (P : Program) (l : List Oper) (Q : Exit -> Act -> World -> Prop) (S : World -> Prop) (es ts : List Nat) : List Nat -> Act -> World -> Prop
 | [], a, w => Q .normal a w
 | i :: p, a, w => match l[i]? with
  | none => False
  | some o => if es.contains i = true then wpList P l.toArray (EffQ (tailS S (ts.contains i)) a.defers (goH P l Q S es ts p)) [o] a w else ∃ v, Reads P l.toArray S o v a /\ goH P l Q S es ts p (a.put o.dst v) w
def permOKh (md : Region.Mode) (l : List Oper) (es ts : List Nat) : List Nat -> List Nat -> Bool
 | _, [] => true
 | done, i :: p => decide (i < l.length) && !done.contains i && (match l[i]? with
   | none => false
   | some o => (depsOf md o).all (fun j => done.contains j)) &&
  (!es.contains i || p.all fun j => match l[j]? with
   | none => false
   | some o => reachU md l l.length o i) && (!ts.contains i || (p.all (fun j => ts.contains j && es.contains j) && done.all (fun j => match l[i]? with
   | none => false
   | some o => reachU md l l.length o j))) && permOKh md l es ts (done ++ [i]) p
def rghOK (md : Region.Mode) (l : List Oper) (es ts p : List Nat) : Bool := rgOK md l && (List.range l.length).all (fun i => p.contains i) && permOKh md l es ts [] p
theorem permOKh_spec {l : List Oper} : ∀ (done p : List Nat), permOKh md l es ts done p = true ->
  (∀ p1 i p2, p = p1 ++ i :: p2 -> i < l.length /\ i ∉ done ++ p1 /\ (∀ o, l[i]? = some o -> ∀ j ∈ depsOf md o, j ∈ done ++ p1) /\ (i ∈ es -> ∀ j ∈ p2, ∀ o, l[j]? = some o -> reachU md l l.length o i = true) /\ (i ∈ ts -> (∀ j ∈ p2, j ∈ ts /\ j ∈ es) /\ ∀ j ∈ done ++ p1, ∀ o, l[i]? = some o -> reachU md l l.length o j = true))
 | done, [], _, p1, i, p2, e => by cases p1 <;> cases e
 | done, x :: p, h, p1, i, p2, e => by
  unfold permOKh at h
  simp only [Bool.and_eq_true, decide_eq_true_eq, Bool.not_eq_true', List.contains_eq_mem, decide_eq_false_iff_not, Bool.or_eq_true] at h
  obtain ⟨⟨⟨⟨⟨h1, h2⟩, h3⟩, h4⟩, h6⟩, h5⟩ := h
  cases p1 with
  | nil =>
   rw [List.nil_append] at e
   injection e with e1 e2
   subst e1 e2
   refine ⟨h1, by rw [List.append_nil]; exact h2, fun o ho j hj => ?_, fun hi j hj o ho => ?_, fun hi => ?_⟩
   ·rw [ho] at h3
    simp only [List.all_eq_true, decide_eq_true_eq] at h3
    rw [List.append_nil]; exact h3 j hj
   ·rcases h4 with h4 | h4
    ·exact absurd hi h4
    ·rw [List.all_eq_true] at h4
     have := h4 j hj
     rw [ho] at this; exact this
   ·rcases h6 with h6 | ⟨h6, h7⟩
    ·exact absurd hi h6
    ·refine ⟨fun j hj => ?_, fun j hj o ho => ?_⟩
     ·have := List.all_eq_true.1 h6 j hj
      simpa using this
     ·rw [List.append_nil] at hj
      rw [ho] at h7
      exact List.all_eq_true.1 h7 j hj
  | cons y p1 =>
   rw [List.cons_append] at e
   injection e with e1 e2
   subst e1
   have := permOKh_spec (done ++ [x]) p h5 p1 i p2 e2
   rw [List.append_assoc, List.singleton_append] at this
   exact this
theorem nodup_of_permh {l : List Oper} : ∀ (done p : List Nat), permOKh md l es ts done p = true -> p.Nodup /\ ∀ i ∈ p, i ∉ done
 | done, [], _ => ⟨List.nodup_nil, fun i hi => by cases hi⟩
 | done, x :: p, h => by
  have h' := h
  unfold permOKh at h
  simp only [Bool.and_eq_true] at h
  have ih := nodup_of_permh (done ++ [x]) p h.2
  have hx := (permOKh_spec done (x :: p) h' [] x p rfl).2.1
  rw [List.append_nil] at hx
  refine ⟨List.nodup_cons.2 ⟨fun hxp => ih.2 x hxp (by simp), ih.1⟩, fun i hi => ?_⟩
  rcases List.mem_cons.1 hi with rfl | hi
  ·exact hx
  ·exact fun hd => ih.2 i hi (by simp [hd])
theorem goH_readers {l : List Oper} {a0 : Act} {w : World} : ∀ (p2 p1 : List Nat) (v : Nat -> Value) (A : Act), (p1 ++ p2).Nodup -> goH P l Q S es ts p2 A w -> Rep l (selOf p1 v) a0 A -> Seen P l S es a0 v p1 ->
  ∃ (p1' p2' : List Nat) (v' : Nat -> Value) (A' : Act), p1 ++ p2 = p1' ++ p2' /\ (p2' = [] ∨ ∃ e q, p2' = e :: q /\ e ∈ es) /\ goH P l Q S es ts p2' A' w /\ Rep l (selOf p1' v') a0 A' /\ Seen P l S es a0 v' p1' /\ (∀ j ∈ p1, v' j = v j) /\ ∃ q, p1' = p1 ++ q /\ ∀ j ∈ q, j ∉ es
 | [], p1, v, A, hn, h, hA, hs => ⟨p1, [], v, A, rfl, .inl rfl, h, hA, hs, fun _ _ => rfl, [], by simp, fun j hj => by cases hj⟩
 | i :: p2, p1, v, A, hn, h, hA, hs => by
  by_cases hi : i ∈ es
  ·exact ⟨p1, i :: p2, v, A, rfl, .inr ⟨i, p2, rfl, hi⟩, h, hA, hs, fun _ _ => rfl, [], by simp, fun j hj => by cases hj⟩
  ·have hip : i ∉ p1 := fun hp => by
    rw [List.nodup_append] at hn
    exact hn.2.2 i hp i (by simp) rfl
   unfold goH at h
   cases ho : l[i]? with
   | none => rw [ho] at h; exact h.elim
   | some o =>
    rw [ho] at h
    simp only [List.contains_eq_mem, decide_eq_true_eq, if_neg hi] at h
    obtain ⟨x, hx, hg⟩ := h
    have ev : ∀ j ∈ p1, (fun j => if j = i then x else v j) j = v j := fun j hj => if_neg (fun e => hip (by rw [← e]; exact hj))
    have hA1 : Rep l (selOf p1 (fun j => if j = i then x else v j)) a0 A := by rw [selOf_ext ev]; exact hA
    have hA2 := hA1.snoc ho
    simp only [if_true] at hA2
    have hs2 := (hs.ext ev).snoc_r hA1 ho (by simp only [if_true]; exact hx)
    obtain ⟨p1', p2', v', A', e1, e2, e3, e4, e5, e6, q, e7, e8⟩ := goH_readers p2 (p1 ++ [i]) _ _ (by simpa using hn) hg hA2 hs2
    refine ⟨p1', p2', v', A', by rw [← e1]; simp, e2, e3, e4, e5, fun j hj => by rw [e6 j (by simp [hj])]; exact ev j hj, i :: q, by rw [e7]; simp, fun j hj => ?_⟩
    rcases List.mem_cons.1 hj with rfl | hj
    ·exact hi
    ·exact e8 j hj
theorem wpAny_rgh {l : List Oper} {a0 : Act} {p : List Nat} (hok : rghOK md l es ts p = true) :
  ∀ (fuel : Nat) (listed : Array Bool) (a : Act) (w : World) (p1 p2 : List Nat) (v : Nat -> Value) (A : Act), listed.size = l.length -> (List.range l.length).countP (fun j => !listed.getD j false) <= fuel -> (S w ∨ ∀ j ∈ p1, listed.getD j false = true) ->
   (∀ j o, l[j]? = some o -> listed.getD j false = true -> ∀ k ∈ depsOf md o, listed.getD k false = true) ->
   p = p1 ++ p2 -> (p2 = [] ∨ ∃ e q, p2 = e :: q /\ e ∈ es) -> (∀ j ∈ p1, j ∈ es -> listed.getD j false = true) -> (∀ j ∈ p2, listed.getD j false = false) ->
   goH P l Q S es ts p2 A w -> Rep l (selOf p1 v) a0 A -> Seen P l S es a0 v p1 -> Rep l (fun j => if listed.getD j false = true then some (v j) else none) a0 a -> wpAny P md l.toArray Q fuel listed a w := by
 unfold rghOK at hok
 simp only [Bool.and_eq_true, List.all_eq_true, List.mem_range, List.contains_eq_mem, decide_eq_true_eq] at hok
 obtain ⟨⟨hok0, hfull⟩, hperm⟩ := hok
 obtain ⟨hdist, htop, hlook⟩ := rgOK_spec hok0
 have hns : ∀ (j : Nat) (o : Oper) cs b, l.toArray[j]? = some o -> o.op ≠ .select cs b := by
  have := hok0
  unfold rgOK at this
  rw [Bool.and_eq_true] at this
  exact Region.noSelect_spec this.1
 have hget : ∀ j, l.toArray[j]? = l[j]? := fun j => by rw [List.getElem?_toArray]
 have hnodup := (nodup_of_permh [] p hperm).1
 have hsp := permOKh_spec [] p hperm
 have hbefore : ∀ q1 i q2 o, p = q1 ++ i :: q2 -> l[i]? = some o -> ∀ j ∈ depsOf md o, j ∈ q1 := fun q1 i q2 o e ho j hj => by
  have := (hsp q1 i q2 e).2.2.1 o ho j hj
  simpa using this
 have hbehind : ∀ q1 i q2 j pp, p = q1 ++ i :: q2 -> l[j]? = some pp -> i ∈ depsOf md pp -> j ∉ q1 := fun q1 i q2 j pp e hj hi hq => by
  obtain ⟨r1, r2, rfl⟩ := List.append_of_mem hq
  have h1 := hbefore r1 j (r2 ++ i :: q2) pp (by rw [e]; simp) hj i hi
  rw [e] at hnodup
  rw [List.nodup_append] at hnodup
  exact hnodup.2.2 i (by simp [h1]) i (by simp) rfl
 have done : ∀ (listed : Array Bool) (a : Act) (w : World) (p1 p2 : List Nat) (v : Nat -> Value) (A : Act), listed.size = l.length -> Region.ready md l.toArray listed = [] -> p = p1 ++ p2 -> (∀ j ∈ p2, listed.getD j false = false) ->
   goH P l Q S es ts p2 A w -> Rep l (selOf p1 v) a0 A -> Rep l (fun j => if listed.getD j false = true then some (v j) else none) a0 a -> Q .normal a w := by
  intro listed a w p1 p2 v A hsz hr ep hp2 hg hA ha
  have hall : ∀ j, j < l.length -> listed.getD j false = true := by
   intro j
   induction j using Nat.strongRecOn with
   | _ j ih =>
    intro hj
    cases hlj : listed.getD j false with
    | true => rfl
    | false =>
     have : j ∈ Region.ready md l.toArray listed := mem_ready.2 ⟨by
      rw [Array.getD_eq_getD_getElem?, Array.getElem?_eq_getElem (by omega)] at hlj ⊢
      exact hlj, l[j], by rw [hget, List.getElem?_eq_getElem hj], fun e he hb => by
      have hlt := htop j l[j] (List.getElem?_eq_getElem hj) e.on (mem_deps.2 ⟨e, he, hb, rfl⟩)
      exact ih e.on hlt (by omega)⟩
     rw [hr] at this; cases this
  have h2 : p2 = [] := by
   cases p2 with
   | nil => rfl
   | cons x q =>
    have h1 := (hsp p1 x q ep).1
    have := hp2 x (by simp)
    rw [hall x h1] at this; cases this
  subst h2
  rw [List.append_nil] at ep
  subst ep
  have ea : a = A := by
   have et : a.tmps = A.tmps := by
    apply Array.ext_getElem?
    intro d
    refine Rep.eq hdist ha hA d fun j o hj ho => ?_
    have hjl : j < l.length := (List.getElem?_eq_some_iff.1 hj).1
    unfold selOf
    rw [if_pos (hall j hjl), if_pos (hfull j hjl)]
   have ed : a.defers = A.defers := by rw [ha.1, hA.1]
   cases a; cases A
   simp only at et ed
   subst et ed; rfl
  rw [ea]; exact hg
 intro fuel
 induction fuel with
 | zero =>
  intro listed a w p1 p2 v A hsz hcnt hS hcl ep hh hle hp2 hg hA hs ha
  have hr : Region.ready md l.toArray listed = [] := by
   cases hr : Region.ready md l.toArray listed with
   | nil => rfl
   | cons j js =>
    have hj : j ∈ Region.ready md l.toArray listed := by rw [hr]; simp
    obtain ⟨h1, o, h2, _⟩ := mem_ready.1 hj
    rw [hget] at h2
    have hjl : j < l.length := (List.getElem?_eq_some_iff.1 h2).1
    have := (List.countP_pos_iff (p := fun j => !listed.getD j false) (l := List.range l.length)).2 ⟨j, List.mem_range.2 hjl, by
     rw [Array.getD_eq_getD_getElem?, Array.getElem?_eq_getElem (by omega)] at h1 ⊢
     simpa using h1⟩
    omega
  exact ⟨hr, done listed a w p1 p2 v A hsz hr ep hp2 hg hA ha⟩
 | succ fuel ih =>
  intro listed a w p1 p2 v A hsz hcnt hS hcl ep hh hle hp2 hg hA hs ha
  refine ⟨fun hr => done listed a w p1 p2 v A hsz hr ep hp2 hg hA ha, fun i hi => ?_⟩
  obtain ⟨hun, o, ho, hdeps⟩ := mem_ready.1 hi
  have hol : l[i]? = some o := by rw [← hget]; exact ho
  have hil : i < l.length := (List.getElem?_eq_some_iff.1 hol).1
  have hun' : listed.getD i false = false := by
   rw [Array.getD_eq_getD_getElem?, Array.getElem?_eq_getElem (by omega)] at hun ⊢
   exact hun
  have hd : ∀ j ∈ depsOf md o, listed.getD j false = true := fun j hj => by
   obtain ⟨e, he, hb, rfl⟩ := mem_deps.1 hj
   exact hdeps e he hb
  have hcnt' : (List.range l.length).countP (fun j => !(listed.setIfInBounds i true).getD j false) <= fuel := by
   have hlt := countP_lt (p := fun j => !listed.getD j false) (q := fun j => !(listed.setIfInBounds i true).getD j false) (i := i) (by rw [hun']; rfl) (by rw [getD_set (by omega)]; simp) (fun j hj => by
    rw [getD_set (by omega)] at hj
    by_cases e : j = i
    ·simp [e] at hj
    ·rw [if_neg e] at hj; exact hj) (List.mem_range.2 hil)
   omega
  have hcl' : ∀ j p, l[j]? = some p -> (listed.setIfInBounds i true).getD j false = true -> ∀ k ∈ depsOf md p, (listed.setIfInBounds i true).getD k false = true := fun j p hj hlj k hk => by
   rw [getD_set (by omega)] at hlj ⊢
   split
   ·rfl
   ·by_cases e : j = i
    ·subst e
     rw [hol] at hj; cases hj
     exact hd k hk
    ·rw [if_neg e] at hlj; exact hcl j p hj hlj k hk
  -- what the slots that i looks at hold, in the act in which i stands in the order
  have hagree : ∀ q1 q2 Ar, p = q1 ++ i :: q2 -> Rep l (selOf q1 v) a0 Ar -> ∀ d ∈ o.looksAt l.toArray, a.tmps[d]? = Ar.tmps[d]? := fun q1 q2 Ar e hAr d hdl => by
   refine Rep.eq hdist ha hAr d fun j pp hj hp => ?_
   unfold selOf
   rcases hlook i j o pp d hol hj hp hdl with rfl | hji | hij
   ·have hq : i ∉ q1 := by have := (hsp q1 i q2 e).2.1; simpa using this
    rw [if_neg (by rw [hun']; simp), if_neg hq]
   ·rw [if_pos (hd j hji), if_pos (hbefore q1 i q2 o e hol j hji)]
   ·have : listed.getD j false = false := by
     cases hlj : listed.getD j false with
     | false => rfl
     | true => have := hcl j pp hj hlj i hij; rw [hun'] at this; cases this
    rw [if_neg (by rw [this]; simp), if_neg (hbehind q1 i q2 j pp e hj hij)]
  have hrep : ∀ (x : Value) (v' : Nat -> Value), v' i = x -> (∀ j, j ≠ i -> listed.getD j false = true -> v' j = v j) -> Rep l (fun j => if (listed.setIfInBounds i true).getD j false = true then some (v' j) else none) a0 (a.put o.dst x) := fun x v' hx hv' => by
   refine ha.put hol x ?_ fun j hj => ?_
   ·simp only [getD_set (show i < listed.size by omega), if_true, hx]
   ·simp only [getD_set (show i < listed.size by omega), if_neg hj]
    cases hlj : listed.getD j false with
    | false => simp
    | true => simp only [if_true, hv' j hj hlj]
  have hip : i ∈ p := hfull i hil
  rw [ep] at hip
  rcases List.mem_append.1 hip with h1 | h2
  ·-- a reader that was passed over
   have hie : i ∉ es := fun h => by have := hle i h1 h; rw [hun'] at this; cases this
   obtain ⟨q1, q2, rfl⟩ := List.append_of_mem h1
   obtain ⟨Ar, o', hAr, ho', hrd⟩ := hs q1 i q2 rfl hie
   rw [hol] at ho'; cases ho'
   have hag := hagree q1 (q2 ++ p2) Ar (by rw [ep]; simp) hAr
   have next : wpAny P md l.toArray Q fuel (listed.setIfInBounds i true) (a.put o.dst (v i)) w := by
    refine ih _ _ w (q1 ++ i :: q2) p2 v A (by simpa using hsz) hcnt' (hS.imp id fun q j hj => by rw [getD_set (by omega)]; split <;> first | rfl | exact q j hj) hcl' ep hh (fun j hj he => ?_) (fun j hj => ?_) hg hA hs (hrep (v i) v rfl fun _ _ _ => rfl)
    ·rw [getD_set (by omega)]
     split
     ·rfl
     ·exact hle j hj he
    ·rw [getD_set (by omega), if_neg, hp2 j hj]
     rintro rfl
     rw [ep, List.nodup_append] at hnodup
     exact hnodup.2.2 j (by simp) j hj rfl
   unfold Go.wpOp
   simp only [ho]
   rw [wanted_same hag]
   rcases hrd with ⟨hw, hv⟩ | ⟨hw, hv⟩
   ·simp only [hw, if_true, Oper.wp]
    left
    rw [exec_same (hns i o · · ho) hag, hv w (hS.resolve_right (fun q => by have := q i h1; rw [hun'] at this; cases this))]
    exact next
   ·simp only [hw, Bool.false_eq_true, if_false]
    rw [hv] at next
    exact next
  ·-- the next operation that changes the world
   rcases hh with rfl | ⟨e, q, rfl, hee⟩
   ·cases h2
   have hie : i = e := by
    rcases List.mem_cons.1 h2 with h | h
    ·exact h
    ·exfalso
     have hre := (hsp p1 e q ep).2.2.2.1 hee i h o hol
     have := reachU_spec hcl _ o e hd hre
     rw [hp2 e (by simp)] at this; cases this
   subst hie
   unfold goH at hg
   rw [hol] at hg
   simp only [List.contains_eq_mem, decide_eq_true_eq, if_pos hee] at hg
   have hag := hagree p1 q A ep hA
   refine eff_move ho (by rw [ha.1, hA.1]) (exec_same (hns i o · · ho) hag) (wanted_same hag) hg fun x w' hS'' hg' => ?_
   have hq1 : i ∉ p1 := by have := (hsp p1 i q ep).2.1; simpa using this
   have ev : ∀ j, j ≠ i -> (fun j => if j = i then x else v j) j = v j := fun j hj => if_neg hj
   have hA1 : Rep l (selOf p1 (fun j => if j = i then x else v j)) a0 A := by rw [selOf_ext (fun j hj => ev j (fun e => hq1 (by rw [← e]; exact hj)))]; exact hA
   have hA2 := hA1.snoc hol
   simp only [if_true] at hA2
   have hs2 := (hs.ext (v' := fun j => if j = i then x else v j) (fun j hj => ev j (fun e => hq1 (by rw [← e]; exact hj)))).snoc_e hee
   obtain ⟨p1', p2', v', A', e1, e2, e3, e4, e5, e6, q', e7, e8⟩ := goH_readers q (p1 ++ [i]) _ _ (by rw [ep] at hnodup; simpa using hnodup) hg' hA2 hs2
   have hS' : S w' ∨ ∀ j ∈ p1', (listed.setIfInBounds i true).getD j false = true := by
    rcases hS'' with hts | hS''
    ·right
     have hts' : i ∈ ts := by simpa using hts
     obtain ⟨ht1, ht2⟩ := (hsp p1 i q ep).2.2.2.2 hts'
     have hq0 : q' = [] := by
      cases q' with
      | nil => rfl
      | cons y q' =>
       have hy : y ∈ q := by
        have : p1 ++ [i] ++ q = p1 ++ [i] ++ (y :: q' ++ p2') := by rw [e1, e7, List.append_assoc]
        rw [List.append_cancel_left this]; simp
       exact absurd (ht1 y hy).2 (e8 y (by simp))
     intro j hj
     rw [e7, hq0, List.append_nil] at hj
     rw [getD_set (by omega)]
     by_cases h : j = i
     ·rw [if_pos h]
     ·rw [if_neg h]
      rcases List.mem_append.1 hj with hj | hj
      ·exact reachU_spec hcl _ o j hd (ht2 j (by simpa using hj) o hol)
      ·exact absurd (List.mem_singleton.1 hj) h
    ·exact .inl hS''
   have hlist : ∀ j, listed.getD j false = true -> j ∈ p1 := fun j hj => by
    have hjl : j < l.length := by
     refine Classical.byContradiction fun hn => ?_
     rw [Array.getD_eq_getD_getElem?, Array.getElem?_eq_none (by omega)] at hj
     cases hj
    have := hfull j hjl
    rw [ep] at this
    rcases List.mem_append.1 this with h | h
    ·exact h
    ·rw [hp2 j h] at hj; cases hj
   have ep' : p = p1' ++ p2' := by rw [ep, ← e1]; simp
   refine ih _ _ w' p1' p2' v' A' (by simpa using hsz) hcnt' hS' hcl' ep' e2 (fun j hj he => ?_) (fun j hj => ?_) e3 e4 e5 (hrep x v' ?_ fun j hj hlj => ?_)
   ·rw [getD_set (by omega)]
    by_cases h : j = i
    ·rw [if_pos h]
    ·rw [if_neg h]
     rw [e7] at hj
     rcases List.mem_append.1 hj with hj | hj
     ·rcases List.mem_append.1 hj with hj | hj
      ·exact hle j hj he
      ·exact absurd (List.mem_singleton.1 hj) h
     ·exact absurd he (e8 j hj)
   ·have hji : j ≠ i := by
     rintro rfl
     rw [ep', List.nodup_append] at hnodup
     exact hnodup.2.2 j (by rw [e7]; simp) j hj rfl
    rw [getD_set (by omega), if_neg hji]
    cases hlj : listed.getD j false with
    | false => rfl
    | true =>
     exfalso
     have h1 := hlist j hlj
     rw [ep', List.nodup_append] at hnodup
     exact hnodup.2.2 j (by rw [e7]; simp [h1]) j hj rfl
   ·rw [e6 i (by simp)]; simp
   ·rw [e6 j (by simp [hlist j hlj])]; exact ev j hj
theorem wp_region_rgh {id : Nat} {l : List Oper} {a : Act} {w : World} (S : World -> Prop) (es ts p : List Nat) (hm : P.follows .mixedOrders = true) (hok : rghOK .any l es ts p = true)
  (hS : S w.drew) (h : goH P l Q S es ts p a w.drew) : (Code.region id l.toArray true).wp P Q a w := by
 have hok' := hok
 unfold rghOK at hok'
 simp only [Bool.and_eq_true] at hok'
 have hnd := (nodup_of_permh [] p hok'.2).1
 have hA : Rep l (selOf [] (fun _ => undef)) a a := Rep.refl _ _ fun j o _ => by unfold selOf; rw [if_neg (by simp)]
 obtain ⟨p1', p2', v', A', e1, e2, e3, e4, e5, e6, q', e7, e8⟩ := goH_readers (a0 := a) p [] (fun _ => undef) a (by simpa using hnd) h hA (fun p1 r p2 e => by cases p1 <;> cases e)
 rw [List.nil_append] at e1 e7
 have hl0 : ∀ j, (Array.replicate l.toArray.size false).getD j false = false := fun j => by
  rw [Array.getD_eq_getD_getElem?, Array.getElem?_replicate]
  split <;> rfl
 refine wp_region_any hm (wpAny_rgh (a0 := a) hok l.toArray.size _ a w.drew p1' p2' v' A' (by simp) ?_ (.inl hS) (fun j o _ hj => by rw [hl0] at hj; cases hj) e1 e2 (fun j hj he => by rw [e7] at hj; exact absurd he (e8 j hj)) (fun j _ => hl0 j) e3 e4 e5 (Rep.refl _ _ fun j o _ => by rw [hl0]; simp))
 refine Nat.le_trans List.countP_le_length ?_
 simp
theorem goH_val {l : List Oper} {i : Nat} {p : List Nat} {o : Oper} {a : Act} {w : World} (v : Value) (ho : l[i]? = some o) (hi : es.contains i = false) (hw : Region.wanted o (yielded l.toArray a.tmps) = true)
  (h : ∀ w, S w -> (execOp a.eval o).run P w = .ok (.value v) w) (k : goH P l Q S es ts p (a.put o.dst v) w) : goH P l Q S es ts (i :: p) a w := by
 unfold goH; rw [ho]; simp only [hi, Bool.false_eq_true, if_false]; exact ⟨v, .inl ⟨hw, h⟩, k⟩
theorem goH_skip {l : List Oper} {i : Nat} {p : List Nat} {o : Oper} {a : Act} {w : World} (ho : l[i]? = some o) (hi : es.contains i = false) (hw : Region.wanted o (yielded l.toArray a.tmps) = false)
  (k : goH P l Q S es ts p (a.put o.dst undef) w) : goH P l Q S es ts (i :: p) a w := by
 unfold goH; rw [ho]; simp only [hi, Bool.false_eq_true, if_false]; exact ⟨undef, .inr ⟨hw, rfl⟩, k⟩
theorem goH_eff {l : List Oper} {i : Nat} {p : List Nat} {o : Oper} {a : Act} {w : World} (ho : l[i]? = some o) (hi : es.contains i = true) (h : wpList P l.toArray (EffQ (tailS S (ts.contains i)) a.defers (goH P l Q S es ts p)) [o] a w) : goH P l Q S es ts (i :: p) a w := by
 unfold goH; rw [ho]; simp only [hi, if_true]; exact h
end
open Go.RowKit Go.Joins
def tnCells : List Value -> Nat -> List Value
 | [], _ => []
 | v :: vs, i => tnL i v ++ tnCells vs (i + 1)
theorem tnL_len (i : Nat) (v : Value) : (tnL i v).length = 6 := rfl
theorem tnCells_snoc (v : Value) : ∀ (vs : List Value) (i : Nat), tnCells (vs ++ [v]) i = tnCells vs i ++ tnL (i + vs.length) v
 | [], i => by simp [tnCells]
 | x :: vs, i => by
  rw [List.cons_append, tnCells, tnCells, tnCells_snoc v vs (i + 1), List.append_assoc, List.length_cons, show i + 1 + vs.length = i + (vs.length + 1) by omega]
theorem tnCells_at : ∀ (vs : List Value) (i k j : Nat) (v u : Value), vs[k]? = some v -> (tnL (i + k) v)[j]? = some u -> (tnCells vs i)[k * 6 + j]? = some u
 | [], i, k, j, v, u, h, _ => by simp at h
 | x :: vs, i, 0, j, v, u, h, hu => by
  simp only [List.getElem?_cons_zero, Option.some.injEq] at h
  subst h
  rw [tnCells, Nat.zero_mul, Nat.zero_add, List.getElem?_append_left (by rw [tnL_len]; have := (List.getElem?_eq_some_iff.1 hu).1; rw [tnL_len] at this; exact this)]
  exact hu
 | x :: vs, i, k + 1, j, v, u, h, hu => by
  rw [List.getElem?_cons_succ] at h
  rw [tnCells, List.getElem?_append_right (by rw [tnL_len]; omega), tnL_len, show (k + 1) * 6 + j - 6 = k * 6 + j by omega]
  exact tnCells_at vs (i + 1) k j v u h (by rw [show i + 1 + k = i + (k + 1) by omega]; exact hu)
def TnRow (w : World) (base : Nat) (lv : Value) (vs : List Value) : Prop := w.ownsRow base 63 6 lv vs.length (tnCells vs 0) /\ ∀ v ∈ vs, RlV w base v
theorem TnRow.ext {w w' : World} {base : Nat} {lv : Value} {vs : List Value} (h : TnRow w base lv vs) (k : Ext w w') : TnRow w' base lv vs := ⟨own_ext h.1 k, fun v hv => (h.2 v hv).ext k⟩
theorem TnRow.range {w : World} {base g n cap : Nat} {vs : List Value} (h : TnRow w base (.slice (some ⟨g, 0, none⟩) n cap) vs) {k : Nat} {v : Value} (hk : vs[k]? = some v) : w.rangeAt g (k * 6) (tnL k v) := fun j u hj => by
 have := World.ownsRow.cells h.1 (g := g) rfl (k * 6 + j) u (tnCells_at vs 0 k j v u hk (by rw [Nat.zero_add]; exact hj))
 rw [add_off, Nat.zero_add] at this
 exact this
theorem tnL_one (i : Nat) {w : World} {base : Nat} {v : Value} (h : RlV w base v) : (tnL i v).toArray.all (·.oneCell') = true := by
 obtain ⟨g, cap, rfl, _⟩ := h
 exact tn6_one _ _ _ _ _ _ _ _
theorem infoPt : (Tryz.prog.info? 93).map (fun i => (i.zero, i.size, i.bytes)) = some (some (.pointer none), 1, 8) := by kernel_rfl
theorem keyS : Maps.Keyed Tryz.prog 9 := Maps.string_keyed Tryz.underlying9
def usrD : Nat -> DataW Unit
 | 0 => .map []
 | k + 1 => (usrD k).put (.string (usr k).data.toList) (.lit (.bool true))
theorem usrD_3 : Maps.size (usrD 3) = 3 := by decide +kernel
theorem keyOf_s (s : ByteArray) (hs : s.size <= 1000) : keyOf Tryz.prog 9 (.string s) = some (.string s.data.toList) := by
 have hm : s.size <= maxLen := by unfold maxLen; omega
 have hu := Tryz.underlying9
 simp [keyOf, mapKey, hu, hm]
theorem own_keepS {S : List Nat} {w w' : World} {base : Nat} {e : TypeId} {size : Nat} {v : Value} {n : Nat} {xs : List Value} (h : w.ownsRow base e size v n xs) (k : Keep S w w') (hn : ∀ g ∈ S, some g ≠ v.ownBlock) : w'.ownsRow base e size v n xs := by
 refine ⟨h.1, ?_⟩
 rcases h.2 with h1 | ⟨g, cap, cur, hv, h1, hg, h2⟩
 ·exact .inl h1
 ·refine .inr ⟨g, cap, cur, hv, h1, ?_, h2⟩
  rw [k.block g (Array.getElem?_eq_some_iff.1 hg).1 (fun hm => hn g hm (by rw [hv]; rfl)), hg]
theorem own_map_ne {w : World} {base : Nat} {e : TypeId} {size : Nat} {v : Value} {n : Nat} {xs : List Value} (h : w.ownsRow base e size v n xs) {kt : TypeId} {R : Value -> Option (DataW Unit × List MemPlace)} {mb m : Nat} {D : DataW Unit} (hm : w.ownsMap Tryz.prog kt R mb m D) : some mb ≠ v.ownBlock := by
 obtain ⟨es, clock, hb, _⟩ := hm
 rcases h.2 with ⟨rfl, _⟩ | ⟨g, cap, cur, rfl, _, hg, _⟩
 ·intro q; cases q
 ·intro q
  have q' : mb = g := Option.some.inj q
  subst q'
  rw [hb] at hg; cases hg
theorem own_own_ne {w : World} {base base' : Nat} {e e' : TypeId} {size size' : Nat} {v v' : Value} {n n' : Nat} {xs xs' : List Value} (h : w.ownsRow base e size v n xs) (h' : w.ownsRow base' e' size' v' n' xs') (hne : e' ≠ e) : ∀ g ∈ v'.ownBlock.toList, some g ≠ v.ownBlock := by
 intro g hg
 rw [Option.mem_toList] at hg
 rcases h'.2 with ⟨rfl, _⟩ | ⟨g', cap, cur, rfl, _, hgg, _⟩
 ·cases hg
 ·have : g' = g := Option.some.inj hg
  subst this
  have hb : Blk w g' cur.toList e' := by unfold Blk; rw [Array.toArray_toList]; exact hgg
  exact own_ne h hb hne
theorem ownsMap_keep {S : List Nat} {w w' : World} {kt : TypeId} {R : Value -> Option (DataW Unit × List MemPlace)} {mb m : Nat} {D : DataW Unit} (h : w.ownsMap Tryz.prog kt R mb m D) (k : Keep S w w') (hn : mb ∉ S) : w'.ownsMap Tryz.prog kt R mb m D := by
 have hlt := h.lt
 obtain ⟨es, clock, hb, h2⟩ := h
 exact ⟨es, clock, (k.block mb hlt hn).trans hb, h2⟩
theorem ownsMap_ext {w w' : World} {kt : TypeId} {R : Value -> Option (DataW Unit × List MemPlace)} {mb m : Nat} {D : DataW Unit} (h : w.ownsMap Tryz.prog kt R mb m D) (k : Ext w w') : w'.ownsMap Tryz.prog kt R mb m D := ownsMap_keep h (k.keep []) (by simp)
theorem Blk.ne_type {w : World} {b c : Nat} {cs ds : List Value} {T T' : TypeId} (h : Blk w b cs T) (h' : Blk w c ds T') (hne : T ≠ T') : b ≠ c := by
 rintro rfl
 unfold Blk at h h'
 rw [h] at h'
 injection h' with h'
 injection h' with _ h2
 exact hne h2
theorem Blk.ne_map {w : World} {b mb : Nat} {cs : List Value} {T : TypeId} (h : Blk w b cs T) {kt : TypeId} {R : Value -> Option (DataW Unit × List MemPlace)} {m : Nat} {D : DataW Unit} (hm : w.ownsMap Tryz.prog kt R mb m D) : b ≠ mb := by
 rintro rfl
 obtain ⟨es, clock, hb, _⟩ := hm
 unfold Blk at h
 rw [h] at hb; cases hb
theorem Blk.ne_own {w : World} {b : Nat} {cs : List Value} {T : TypeId} (h : Blk w b cs T) {base : Nat} {e : TypeId} {size : Nat} {v : Value} {n : Nat} {xs : List Value} (ho : w.ownsRow base e size v n xs) (hne : T ≠ e) : b ∉ v.ownBlock.toList := by
 intro hm
 rw [Option.mem_toList] at hm
 exact own_ne ho h hne hm.symm
theorem TnRow.keepS {S : List Nat} {w w' : World} {base : Nat} {lv : Value} {vs : List Value} (h : TnRow w base lv vs) (k : Keep S w w') (hn : ∀ g ∈ S, (∀ {size n : Nat} {v : Value} {xs : List Value}, w.ownsRow base 63 size v n xs -> some g ≠ v.ownBlock) /\ (∀ {size n : Nat} {v : Value} {xs : List Value}, w.ownsRow base 113 size v n xs -> some g ≠ v.ownBlock)) : TnRow w' base lv vs :=
 ⟨own_keepS h.1 k (fun g hg => (hn g hg).1 h.1), fun v hv => by
  obtain ⟨g, cap, e, ho⟩ := h.2 v hv
  exact ⟨g, cap, e, own_keepS ho k (fun g hg => (hn g hg).2 ho)⟩⟩
def EntB (w : World) (i p : Nat) : Prop := ∃ cs, Blk w p cs 123 /\ cs[0]? = some (.string (usr i)) /\ cs[1]? = some (.string (pwd i))
theorem EntB.ext {w w' : World} {i p : Nat} (h : EntB w i p) (k : Ext w w') : EntB w' i p := by
 obtain ⟨cs, h1, h2⟩ := h
 exact ⟨cs, h1.ext k, h2⟩
theorem EntB.keep {S : List Nat} {w w' : World} {i p : Nat} (h : EntB w i p) (k : Keep S w w') (hn : ∀ cs, Blk w p cs 123 -> p ∉ S) : EntB w' i p := by
 obtain ⟨cs, h1, h2⟩ := h
 exact ⟨cs, h1.keep k (hn cs h1), h2⟩
def ptrs (ps : List Nat) : List Value := ps.map fun p => .pointer (some ⟨p, 0, none⟩)
theorem regP_of {w : World} {base x : Nat} {lst : Value} {ps : List Nat} (hps : ps.length = 3) (hB : Blk w x [lst] 91) (hown : w.ownsRow base 93 1 lst 3 (ptrs ps)) (hE : ∀ i p, ps[i]? = some p -> EntB w i p) : RegP w x tn3 := by
 have key : ∀ (g cap : Nat), 3 <= cap -> lst = .slice (some ⟨g, 0, none⟩) 3 cap -> RegP w x tn3 := by
  rintro g cap hc rfl
  refine ⟨g, cap, fun i => ps.getD i 0, hc, Blk.cell hB rfl, fun i y hy => ?_⟩
  have hi : i < 3 := (List.getElem?_eq_some_iff.1 hy).1
  have hp : ps[i]? = some (ps.getD i 0) := by rw [List.getD_eq_getElem?_getD, List.getElem?_eq_getElem (by omega)]; rfl
  have hy' : y = (usr i, pwd i) := by
   match i, hi, hy with
   | 0, _, h => exact (Option.some.inj h).symm
   | 1, _, h => exact (Option.some.inj h).symm
   | 2, _, h => exact (Option.some.inj h).symm
  subst hy'
  obtain ⟨cs, hb, h0, h1⟩ := hE i _ hp
  refine ⟨?_, Blk.cell hb h0, Blk.cell hb h1⟩
  have hj : (ptrs ps)[i]? = some (.pointer (some ⟨ps.getD i 0, 0, none⟩)) := by unfold ptrs; rw [List.getElem?_map, hp]; rfl
  have := World.ownsRow.cells hown (g := g) rfl i _ hj
  rw [add_off, Nat.zero_add] at this
  exact this
 rcases hown.2 with ⟨_, h⟩ | ⟨g, cap, cur, rfl, _, hg, hc, hr⟩
 ·omega
 ·exact key g cap hc rfl
def TnewRel (w : World) (base x mb : Nat) (lv : Value) (vs : List Value) (k : Nat) (wr : World) : Prop :=
 ∃ (lst : Value) (ps : List Nat), ps.length = k /\ Blk wr x [lst] 91 /\ wr.ownsRow w.heap.size 93 1 lst k (ptrs ps) /\
  (∀ i p, ps[i]? = some p -> EntB wr i p) /\
  wr.ownsMap Tryz.prog 9 (plainElem Tryz.prog 4) mb k (usrD k) /\ TnRow wr base lv vs /\ Ext w wr
def TnewP (w : World) (e : Ending) (w' : World) : Prop := ∃ x : Nat, e = .returned (.tuple #[.pointer (some ⟨x, 0, none⟩), .int .i64 0]) /\ Ext w w' /\ w.heap.size <= x /\ RegP w' x tn3
theorem tnew2_any (lv : Value) (vs : List Value) (h3 : vs.length = 3) {w : World} {base : Nat} (hl : TnRow w base lv vs) (hbw : base <= w.heap.size) : Calls Tryz.prog 30 #[lv] w fun e w' => TnewP w e w' := by
 have hmm := @run_makeMap Tryz.prog
 have H3 := Lib.hid h3
 obtain ⟨g, cap, rfl⟩ : ∃ g cap, lv = .slice (some ⟨g, 0, none⟩) 3 cap := by
  have h := hl.1
  rw [h3] at h
  rcases h.2 with ⟨_, h0⟩ | ⟨g, cap, cur, hv, _⟩
  ·omega
  ·exact ⟨g, cap, hv⟩
 clear h3
 go_enter Tryz.func30, Tryz.ntmps30
 go_upto_region 4 with fail
 have hx1 := (Ext.refl w).alloc (.cells #[.slice none 0 0] 91)
 have hB := Blk.new w #[.slice none 0 0] 91
 have hl1 := hl.ext hx1
 have hxw : w.heap.size <= w.heap.size := Nat.le_refl _
 have hlt := Blk.lt hB
 generalize w.alloc (.cells #[.slice none 0 0] 91) = w1 at *
 generalize hxx : w.heap.size = x at hB hlt ⊢
 go_upto_block 0 with fail
 have hx2 := hx1.trans ((Ext.refl w1).alloc (.map #[] 0))
 have hM : (w1.alloc (.map #[] 0)).ownsMap Tryz.prog 9 (plainElem Tryz.prog 4) w1.heap.size 0 (usrD 0) := World.ownsMap_made w1 Tryz.prog 9 (plainElem Tryz.prog 4)
 have hB2 := Blk.ext hB ((Ext.refl w1).alloc (.map #[] 0))
 have hl2 := hl1.ext ((Ext.refl w1).alloc (.map #[] 0))
 clear hx1 hB hl1 hl hmm
 generalize w1.alloc (.map #[] 0) = w2 at *
 have hmx : w1.heap.size ≠ x := by omega
 have hmw : w.heap.size <= w1.heap.size := by omega
 generalize w1.heap.size = mb at *
 go_wp2_with fail
 go_loopw [22] (fun i wr => ∃ k : Nat, k <= 3 /\ i = .int .i64 k /\ TnewRel w base x mb (.slice (some ⟨g, 0, none⟩) 3 cap) vs k wr) (fun i _ => 3 - (intOf i).toNat)
 case atStart => exact ⟨0, Nat.zero_le _, rfl, .slice none 0 0, [], rfl, hB2, World.ownsRow_nil _ _ _ _, fun i p h => by simp at h, hM, hl2, hx2⟩
 case round =>
  clear hx2 hM hB2 hl2 hlt
  obtain ⟨k, hk, rfl, lst, ps, hps, hB, hown, hE, hM, hl, hx⟩ := hrel
  have HPS := Lib.hid hps
  by_cases hlt : k < 3
  ·have hlt' : (k : Int) < 3 := by omega
   have hvk : ∃ v, vs[k]? = some v := ⟨vs[k]'(by rw [H3.out]; exact hlt), List.getElem?_eq_getElem _⟩
   obtain ⟨v, hvk⟩ := hvk
   have hv := hl.2 v (List.mem_of_getElem? hvk)
   have hr := TnRow.range hl hvk
   have h1v := tnL_one k hv
   have hbz : Blk (wr.alloc (.cells tnZ.toArray 63)) wr.heap.size tnZ 63 := Blk.new wr tnZ.toArray _
   have HVK := Lib.hid hvk
   clear hvk hps
   go_upto_region 8 with (first | refine wpList_load_Tn rfl _ rfl (cs := tnL k v) rfl hr rfl ?_ | refine wpList_store_Tn rfl _ _ rfl (z := tnZ) (cs := tnL k v) rfl rfl h1v hbz rfl rfl ?_)
   have hbw2 : w.heap.size <= wr.heap.size := hx.size
   change Code.wp _ _ _ _ ((wr.alloc (.cells tnZ.toArray 63)).setRow wr.heap.size (tnL k v).toArray)
   rw [World.setRow_alloc_new]
   have hxa := (Ext.refl wr).alloc (.cells (tnL k v).toArray 63)
   have hT : Blk (wr.alloc (.cells (tnL k v).toArray 63)) wr.heap.size (tnL k v) 63 := Blk.new wr (tnL k v).toArray _
   replace hB := Blk.ext hB hxa
   replace hown := own_ext hown hxa
   replace hE := fun i p h => EntB.ext (hE i p h) hxa
   replace hM := ownsMap_ext hM hxa
   replace hl := hl.ext hxa
   replace hv := hv.ext hxa
   replace hx := hx.trans hxa
   clear hbz hr hxa
   generalize wr.alloc (.cells (tnL k v).toArray 63) = wa at *
   generalize wr.heap.size = tb at *
   have HA := Lib.hid (Blk.all hT)
   have KN := Lib.hid (nent_any k (by omega) v hv)
   go_upto_region 9 with (first | refine wpList_load_Tn rfl _ rfl (cs := tnL k v) rfl HA.out rfl ?_ | (go_at_call 51; refine KN.out.mono ?_; rintro e wb ⟨p, rfl, hxb, hpb, cs, hpB, hc0, hc1⟩))
   have hp : EntB wb k p := ⟨cs, hpB, hc0, hc1⟩
   replace hB := Blk.ext hB hxb
   replace hown := own_ext hown hxb
   replace hE := fun i p h => EntB.ext (hE i p h) hxb
   replace hM := ownsMap_ext hM hxb
   replace hl := hl.ext hxb
   replace hT := Blk.ext hT hxb
   replace hx := hx.trans hxb
   clear KN HA hv hxb hpB hc0 hc1 cs hpb
   go_upto_region 11 with fail
   have c0 := Blk.cell hB (i := 0) rfl
   have hsz : w.heap.size <= wb.heap.size := hx.size
   have hxL := (Ext.refl wb).alloc (.cells #[.pointer (some ⟨p, 0, none⟩)] 93)
   have hL := Blk.new wb #[.pointer (some ⟨p, 0, none⟩)] 93
   have HO := Lib.hid (own_ext hown hxL)
   have hszL := Lib.hid (Nat.le_trans hsz hxL.size)
   obtain ⟨i0, hi, hz0, hz1, hz2⟩ := info_parts infoPt
   go_upto_region 12 with (at_builtin; refine wpList_append_own _ rfl _ _ 89 rfl w.heap.size 93 i0 (.pointer none) 1 8 Tryz.underlying89 hi hz0 hz1 hz2 rfl (by decide) lst k (ptrs ps) rfl HO.out ⟨wb.heap.size, 0, none⟩ 1 1 [.pointer (some ⟨p, 0, none⟩)] rfl rfl (fun j u hj => by rw [add_off, Nat.zero_add]; exact hL.cell hj) (by intro u hu; rw [List.mem_singleton] at hu; subst hu; rfl) (by unfold maxLen; omega) (by omega) hszL.out ?_; intro v' we hown9 hg9 _; obtain ⟨va, vc, rfl⟩ := own_sliceX hown9; have hB9 := Blk.grown HO.out (Blk.ext hB hxL) (by decide) hg9; have c9 := Blk.cell hB9 (i := 0) rfl; have f9 := Blk.free hB9 0)
   have hL0 := own_ext hown hxL
   have hxe : Ext w we := Ext.grown (hx.trans hxL) hg9 (fun g hg => (hL0.lt g hg).1)
   have K9 := Keep.of_grown hg9
   have hE9 := fun i p h => EntB.keep (EntB.ext (hE i p h) hxL) K9 (fun _ hb => Blk.ne_own hb hL0 (by decide))
   have hp9 := EntB.keep (EntB.ext hp hxL) K9 (fun _ hb => Blk.ne_own hb hL0 (by decide))
   have hML := ownsMap_ext hM hxL
   have hM9 := ownsMap_keep hML K9 (fun hm => own_map_ne hL0 hML (Option.mem_toList.1 hm).symm)
   have hl9 := TnRow.keepS (hl.ext hxL) K9 (fun g hg => ⟨fun ho => own_own_ne ho hL0 (by decide) g hg, fun ho => own_own_ne ho hL0 (by decide) g hg⟩)
   have hT9 := Blk.grown hL0 (Blk.ext hT hxL) (by decide) hg9
   clear hT hl hM hE hp hB hown hx hML HO hszL K9 hg9 c0 c9 f9 hL hxL hL0 hsz hi hz0 hz1 hz2 i0
   have K10 : Keep [x] we (we.setCell ⟨x, 0, none⟩ (.slice va (k + 1) vc)) := (Keep.refl [x] we).setCell (.inl (by simp)) _
   have hB10 := Blk.set hB9 0 (.slice va (k + 1) vc)
   have hown10 := own_keep1 hown9 K10 hB9 (by decide)
   have hE10 := fun i p h => EntB.keep (hE9 i p h) K10 (fun _ hb => by rw [List.mem_singleton]; exact Blk.ne_type hb hB9 (by decide))
   have hp10 := EntB.keep hp9 K10 (fun _ hb => by rw [List.mem_singleton]; exact Blk.ne_type hb hB9 (by decide))
   have hM10 := ownsMap_keep hM9 K10 (by rw [List.mem_singleton]; exact hmx)
   have hl10 := TnRow.keepS hl9 K10 (fun g hg => by rw [List.mem_singleton] at hg; subst hg; exact ⟨fun ho => own_ne ho hB9 (by decide), fun ho => own_ne ho hB9 (by decide)⟩)
   have hT10 := Blk.keep hT9 K10 (by rw [List.mem_singleton]; exact Blk.ne_type hT9 hB9 (by decide))
   have hx10 := Keep.ext ((hxe.keep [x]).trans K10) (fun y hy => by rw [List.mem_singleton] at hy; subst hy; exact Nat.le_of_eq hxx)
   clear hT9 hl9 hM9 hE9 hp9 hB9 hown9 hxe K10
   generalize we.setCell ⟨x, 0, none⟩ (.slice va (k + 1) vc) = wf at hown10 hE10 hp10 hM10 hl10 hT10 hx10 hB10 ⊢
   have c10 := Blk.cell hT10 (i := 0) (v := .string (usr k)) rfl
   have KY := keyOf_s (usr k) (by rw [usr_size]; omega)
   go_wp2_with (at_mapUpdate; (refine wpList_mapUpdate_own _ rfl _ _ _ _ rfl 9 4 keyS Tryz.underlying92 _ mb k (usrD k) rfl hM10 (by unfold maxLen; omega) (.string (usr k)) (.bool true) _ rfl rfl KY _ [] (plainElem_bool Tryz.underlying4 true) ?_; intro wg hM11 hg11))
   have K11 : Keep [mb] wf wg := Keep.of_grown hg11
   have hB11 := Blk.keep hB10 K11 (by rw [List.mem_singleton]; exact fun q => hmx q.symm)
   have hown11 := own_keepS hown10 K11 (fun g hg => by rw [List.mem_singleton] at hg; subst hg; exact own_map_ne hown10 hM10)
   have hE11 := fun i p h => EntB.keep (hE10 i p h) K11 (fun _ hb => by rw [List.mem_singleton]; exact Blk.ne_map hb hM10)
   have hp11 := EntB.keep hp10 K11 (fun _ hb => by rw [List.mem_singleton]; exact Blk.ne_map hb hM10)
   have hl11 := TnRow.keepS hl10 K11 (fun g hg => by rw [List.mem_singleton] at hg; subst hg; exact ⟨fun ho => own_map_ne ho hM10, fun ho => own_map_ne ho hM10⟩)
   have hx11 := Keep.ext ((hx10.keep [mb]).trans K11) (fun y hy => by rw [List.mem_singleton] at hy; subst hy; exact hmw)
   clear hB10 hown10 hE10 hp10 hM10 hl10 hT10 hx10 K11 hg11 c10 KY
   go_roundw
   case measure => simp [intOf]; omega
   case rel =>
    refine ⟨k + 1, by omega, by go_num, _, ps ++ [p], by rw [List.length_append, HPS.out]; rfl, hB11, by unfold ptrs at *; rw [List.map_append]; exact hown11, fun i q hq => ?_, hM11, hl11, hx11⟩
    by_cases h : i < ps.length
    ·rw [List.getElem?_append_left h] at hq
     exact hE11 i q hq
    ·rw [List.getElem?_append_right (by omega)] at hq
     have hi0 : i - ps.length = 0 := by
      have := (List.getElem?_eq_some_iff.1 hq).1
      simp at this; omega
     rw [hi0] at hq
     have hik : i = k := by have := HPS.out; omega
     subst hik
     obtain rfl := Option.some.inj hq
     exact hp11
  ·obtain rfl : k = 3 := by omega
   have U3 := usrD_3
   go_wp2_with (at_len; (refine wpList_len_own _ rfl _ _ rfl 9 4 Tryz.underlying92 _ mb 3 (usrD 3) rfl hM ?_; rw [U3]))
   trace_state
   refine bodyPost_ret (res2t rfl) rfl ⟨x, rfl, hx, Nat.le_of_eq hxx, ?_⟩
   exact regP_of (HPS.out) hB hown hE
end Go.Proofs.YtnohnnjeabehjaaGreatDoor
