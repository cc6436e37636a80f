/-
  Several texts joined: Rgh.
-/
import Derived.Test.YtmdlgfnibjcgmaaGreatDoorK11
set_option linter.unusedVariables false
set_option linter.unusedSimpArgs false
namespace Go.Proofs.YtmdlgfnibjcgmaaGreatDoor
section
variable {P : Program} {Q : Exit -> Act -> World -> Prop} {md : Region.Mode} {S : World -> Prop} {es ts : List Nat}
def tailS (S : World -> Prop) (b : Bool) : World -> Prop := fun w => b = true ∨ S w
def goH (P : Program) (l : List Oper) (Q : Exit -> Act -> World -> Prop) (S : World -> Prop) (es ts : List Nat) : List Nat -> Act -> World -> Prop
 | [], a, w => Q .normal a w
 | i :: p, a, w => match l[i]? with
  | none => False
  | some o => if es.contains i = true then wpList P l.toArray (EffQ (tailS S (ts.contains i)) a.defers (goH P l Q S es ts p)) [o] a w else ∃ v, Reads P l.toArray S o v a /\ goH P l Q S es ts p (a.put o.dst v) w
def permOKh (md : Region.Mode) (l : List Oper) (es ts : List Nat) : List Nat -> List Nat -> Bool
 | _, [] => true
 | done, i :: p => decide (i < l.length) && !done.contains i && (match l[i]? with
   | none => false
   | some o => (depsOf md o).all (fun j => done.contains j)) &&
  (!es.contains i || p.all fun j => match l[j]? with
   | none => false
   | some o => reachU md l l.length o i) && (!ts.contains i || (p.all (fun j => ts.contains j && es.contains j) && done.all (fun j => match l[i]? with
   | none => false
   | some o => reachU md l l.length o j))) && permOKh md l es ts (done ++ [i]) p
def rghOK (md : Region.Mode) (l : List Oper) (es ts p : List Nat) : Bool := rgOK md l && (List.range l.length).all (fun i => p.contains i) && permOKh md l es ts [] p
theorem permOKh_spec {l : List Oper} : ∀ (done p : List Nat), permOKh md l es ts done p = true ->
  (∀ p1 i p2, p = p1 ++ i :: p2 -> i < l.length /\ i ∉ done ++ p1 /\ (∀ o, l[i]? = some o -> ∀ j ∈ depsOf md o, j ∈ done ++ p1) /\ (i ∈ es -> ∀ j ∈ p2, ∀ o, l[j]? = some o -> reachU md l l.length o i = true) /\ (i ∈ ts -> (∀ j ∈ p2, j ∈ ts /\ j ∈ es) /\ ∀ j ∈ done ++ p1, ∀ o, l[i]? = some o -> reachU md l l.length o j = true))
 | done, [], _, p1, i, p2, e => by cases p1 <;> cases e
 | done, x :: p, h, p1, i, p2, e => by
  unfold permOKh at h
  simp only [Bool.and_eq_true, decide_eq_true_eq, Bool.not_eq_true', List.contains_eq_mem, decide_eq_false_iff_not, Bool.or_eq_true] at h
  obtain ⟨⟨⟨⟨⟨h1, h2⟩, h3⟩, h4⟩, h6⟩, h5⟩ := h
  cases p1 with
  | nil =>
   rw [List.nil_append] at e
   injection e with e1 e2
   subst e1 e2
   refine ⟨h1, by rw [List.append_nil]; exact h2, fun o ho j hj => ?_, fun hi j hj o ho => ?_, fun hi => ?_⟩
   ·rw [ho] at h3
    simp only [List.all_eq_true, decide_eq_true_eq] at h3
    rw [List.append_nil]; exact h3 j hj
   ·rcases h4 with h4 | h4
    ·exact absurd hi h4
    ·rw [List.all_eq_true] at h4
     have := h4 j hj
     rw [ho] at this; exact this
   ·rcases h6 with h6 | ⟨h6, h7⟩
    ·exact absurd hi h6
    ·refine ⟨fun j hj => ?_, fun j hj o ho => ?_⟩
     ·have := List.all_eq_true.1 h6 j hj
      simpa using this
     ·rw [List.append_nil] at hj
      rw [ho] at h7
      exact List.all_eq_true.1 h7 j hj
  | cons y p1 =>
   rw [List.cons_append] at e
   injection e with e1 e2
   subst e1
   have := permOKh_spec (done ++ [x]) p h5 p1 i p2 e2
   rw [List.append_assoc, List.singleton_append] at this
   exact this
theorem nodup_of_permh {l : List Oper} : ∀ (done p : List Nat), permOKh md l es ts done p = true -> p.Nodup /\ ∀ i ∈ p, i ∉ done
 | done, [], _ => ⟨List.nodup_nil, fun i hi => by cases hi⟩
 | done, x :: p, h => by
  have h' := h
  unfold permOKh at h
  simp only [Bool.and_eq_true] at h
  have ih := nodup_of_permh (done ++ [x]) p h.2
  have hx := (permOKh_spec done (x :: p) h' [] x p rfl).2.1
  rw [List.append_nil] at hx
  refine ⟨List.nodup_cons.2 ⟨fun hxp => ih.2 x hxp (by simp), ih.1⟩, fun i hi => ?_⟩
  rcases List.mem_cons.1 hi with rfl | hi
  ·exact hx
  ·exact fun hd => ih.2 i hi (by simp [hd])
theorem goH_readers {l : List Oper} {a0 : Act} {w : World} : ∀ (p2 p1 : List Nat) (v : Nat -> Value) (A : Act), (p1 ++ p2).Nodup -> goH P l Q S es ts p2 A w -> Rep l (selOf p1 v) a0 A -> Seen P l S es a0 v p1 ->
  ∃ (p1' p2' : List Nat) (v' : Nat -> Value) (A' : Act), p1 ++ p2 = p1' ++ p2' /\ (p2' = [] ∨ ∃ e q, p2' = e :: q /\ e ∈ es) /\ goH P l Q S es ts p2' A' w /\ Rep l (selOf p1' v') a0 A' /\ Seen P l S es a0 v' p1' /\ (∀ j ∈ p1, v' j = v j) /\ ∃ q, p1' = p1 ++ q /\ ∀ j ∈ q, j ∉ es
 | [], p1, v, A, hn, h, hA, hs => ⟨p1, [], v, A, rfl, .inl rfl, h, hA, hs, fun _ _ => rfl, [], by simp, fun j hj => by cases hj⟩
 | i :: p2, p1, v, A, hn, h, hA, hs => by
  by_cases hi : i ∈ es
  ·exact ⟨p1, i :: p2, v, A, rfl, .inr ⟨i, p2, rfl, hi⟩, h, hA, hs, fun _ _ => rfl, [], by simp, fun j hj => by cases hj⟩
  ·have hip : i ∉ p1 := fun hp => by
    rw [List.nodup_append] at hn
    exact hn.2.2 i hp i (by simp) rfl
   unfold goH at h
   cases ho : l[i]? with
   | none => rw [ho] at h; exact h.elim
   | some o =>
    rw [ho] at h
    simp only [List.contains_eq_mem, decide_eq_true_eq, if_neg hi] at h
    obtain ⟨x, hx, hg⟩ := h
    have ev : ∀ j ∈ p1, (fun j => if j = i then x else v j) j = v j := fun j hj => if_neg (fun e => hip (by rw [← e]; exact hj))
    have hA1 : Rep l (selOf p1 (fun j => if j = i then x else v j)) a0 A := by rw [selOf_ext ev]; exact hA
    have hA2 := hA1.snoc ho
    simp only [if_true] at hA2
    have hs2 := (hs.ext ev).snoc_r hA1 ho (by simp only [if_true]; exact hx)
    obtain ⟨p1', p2', v', A', e1, e2, e3, e4, e5, e6, q, e7, e8⟩ := goH_readers p2 (p1 ++ [i]) _ _ (by simpa using hn) hg hA2 hs2
    refine ⟨p1', p2', v', A', by rw [← e1]; simp, e2, e3, e4, e5, fun j hj => by rw [e6 j (by simp [hj])]; exact ev j hj, i :: q, by rw [e7]; simp, fun j hj => ?_⟩
    rcases List.mem_cons.1 hj with rfl | hj
    ·exact hi
    ·exact e8 j hj
theorem wpAny_rgh {l : List Oper} {a0 : Act} {p : List Nat} (hok : rghOK md l es ts p = true) :
  ∀ (fuel : Nat) (listed : Array Bool) (a : Act) (w : World) (p1 p2 : List Nat) (v : Nat -> Value) (A : Act), listed.size = l.length -> (List.range l.length).countP (fun j => !listed.getD j false) <= fuel -> (S w ∨ ∀ j ∈ p1, listed.getD j false = true) ->
   (∀ j o, l[j]? = some o -> listed.getD j false = true -> ∀ k ∈ depsOf md o, listed.getD k false = true) ->
   p = p1 ++ p2 -> (p2 = [] ∨ ∃ e q, p2 = e :: q /\ e ∈ es) -> (∀ j ∈ p1, j ∈ es -> listed.getD j false = true) -> (∀ j ∈ p2, listed.getD j false = false) ->
   goH P l Q S es ts p2 A w -> Rep l (selOf p1 v) a0 A -> Seen P l S es a0 v p1 -> Rep l (fun j => if listed.getD j false = true then some (v j) else none) a0 a -> wpAny P md l.toArray Q fuel listed a w := by
 unfold rghOK at hok
 simp only [Bool.and_eq_true, List.all_eq_true, List.mem_range, List.contains_eq_mem, decide_eq_true_eq] at hok
 obtain ⟨⟨hok0, hfull⟩, hperm⟩ := hok
 obtain ⟨hdist, htop, hlook⟩ := rgOK_spec hok0
 have hns : ∀ (j : Nat) (o : Oper) cs b, l.toArray[j]? = some o -> o.op ≠ .select cs b := by
  have := hok0
  unfold rgOK at this
  rw [Bool.and_eq_true] at this
  exact Region.noSelect_spec this.1
 have hget : ∀ j, l.toArray[j]? = l[j]? := fun j => by rw [List.getElem?_toArray]
 have hnodup := (nodup_of_permh [] p hperm).1
 have hsp := permOKh_spec [] p hperm
 have hbefore : ∀ q1 i q2 o, p = q1 ++ i :: q2 -> l[i]? = some o -> ∀ j ∈ depsOf md o, j ∈ q1 := fun q1 i q2 o e ho j hj => by
  have := (hsp q1 i q2 e).2.2.1 o ho j hj
  simpa using this
 have hbehind : ∀ q1 i q2 j pp, p = q1 ++ i :: q2 -> l[j]? = some pp -> i ∈ depsOf md pp -> j ∉ q1 := fun q1 i q2 j pp e hj hi hq => by
  obtain ⟨r1, r2, rfl⟩ := List.append_of_mem hq
  have h1 := hbefore r1 j (r2 ++ i :: q2) pp (by rw [e]; simp) hj i hi
  rw [e] at hnodup
  rw [List.nodup_append] at hnodup
  exact hnodup.2.2 i (by simp [h1]) i (by simp) rfl
 have done : ∀ (listed : Array Bool) (a : Act) (w : World) (p1 p2 : List Nat) (v : Nat -> Value) (A : Act), listed.size = l.length -> Region.ready md l.toArray listed = [] -> p = p1 ++ p2 -> (∀ j ∈ p2, listed.getD j false = false) ->
   goH P l Q S es ts p2 A w -> Rep l (selOf p1 v) a0 A -> Rep l (fun j => if listed.getD j false = true then some (v j) else none) a0 a -> Q .normal a w := by
  intro listed a w p1 p2 v A hsz hr ep hp2 hg hA ha
  have hall : ∀ j, j < l.length -> listed.getD j false = true := by
   intro j
   induction j using Nat.strongRecOn with
   | _ j ih =>
    intro hj
    cases hlj : listed.getD j false with
    | true => rfl
    | false =>
     have : j ∈ Region.ready md l.toArray listed := mem_ready.2 ⟨by
      rw [Array.getD_eq_getD_getElem?, Array.getElem?_eq_getElem (by omega)] at hlj ⊢
      exact hlj, l[j], by rw [hget, List.getElem?_eq_getElem hj], fun e he hb => by
      have hlt := htop j l[j] (List.getElem?_eq_getElem hj) e.on (mem_deps.2 ⟨e, he, hb, rfl⟩)
      exact ih e.on hlt (by omega)⟩
     rw [hr] at this; cases this
  have h2 : p2 = [] := by
   cases p2 with
   | nil => rfl
   | cons x q =>
    have h1 := (hsp p1 x q ep).1
    have := hp2 x (by simp)
    rw [hall x h1] at this; cases this
  subst h2
  rw [List.append_nil] at ep
  subst ep
  have ea : a = A := by
   have et : a.tmps = A.tmps := by
    apply Array.ext_getElem?
    intro d
    refine Rep.eq hdist ha hA d fun j o hj ho => ?_
    have hjl : j < l.length := (List.getElem?_eq_some_iff.1 hj).1
    unfold selOf
    rw [if_pos (hall j hjl), if_pos (hfull j hjl)]
   have ed : a.defers = A.defers := by rw [ha.1, hA.1]
   cases a; cases A
   simp only at et ed
   subst et ed; rfl
  rw [ea]; exact hg
 intro fuel
 induction fuel with
 | zero =>
  intro listed a w p1 p2 v A hsz hcnt hS hcl ep hh hle hp2 hg hA hs ha
  have hr : Region.ready md l.toArray listed = [] := by
   cases hr : Region.ready md l.toArray listed with
   | nil => rfl
   | cons j js =>
    have hj : j ∈ Region.ready md l.toArray listed := by rw [hr]; simp
    obtain ⟨h1, o, h2, _⟩ := mem_ready.1 hj
    rw [hget] at h2
    have hjl : j < l.length := (List.getElem?_eq_some_iff.1 h2).1
    have := (List.countP_pos_iff (p := fun j => !listed.getD j false) (l := List.range l.length)).2 ⟨j, List.mem_range.2 hjl, by
     rw [Array.getD_eq_getD_getElem?, Array.getElem?_eq_getElem (by omega)] at h1 ⊢
     simpa using h1⟩
    omega
  exact ⟨hr, done listed a w p1 p2 v A hsz hr ep hp2 hg hA ha⟩
 | succ fuel ih =>
  intro listed a w p1 p2 v A hsz hcnt hS hcl ep hh hle hp2 hg hA hs ha
  refine ⟨fun hr => done listed a w p1 p2 v A hsz hr ep hp2 hg hA ha, fun i hi => ?_⟩
  obtain ⟨hun, o, ho, hdeps⟩ := mem_ready.1 hi
  have hol : l[i]? = some o := by rw [← hget]; exact ho
  have hil : i < l.length := (List.getElem?_eq_some_iff.1 hol).1
  have hun' : listed.getD i false = false := by
   rw [Array.getD_eq_getD_getElem?, Array.getElem?_eq_getElem (by omega)] at hun ⊢
   exact hun
  have hd : ∀ j ∈ depsOf md o, listed.getD j false = true := fun j hj => by
   obtain ⟨e, he, hb, rfl⟩ := mem_deps.1 hj
   exact hdeps e he hb
  have hcnt' : (List.range l.length).countP (fun j => !(listed.setIfInBounds i true).getD j false) <= fuel := by
   have hlt := countP_lt (p := fun j => !listed.getD j false) (q := fun j => !(listed.setIfInBounds i true).getD j false) (i := i) (by rw [hun']; rfl) (by rw [getD_set (by omega)]; simp) (fun j hj => by
    rw [getD_set (by omega)] at hj
    by_cases e : j = i
    ·simp [e] at hj
    ·rw [if_neg e] at hj; exact hj) (List.mem_range.2 hil)
   omega
  have hcl' : ∀ j p, l[j]? = some p -> (listed.setIfInBounds i true).getD j false = true -> ∀ k ∈ depsOf md p, (listed.setIfInBounds i true).getD k false = true := fun j p hj hlj k hk => by
   rw [getD_set (by omega)] at hlj ⊢
   split
   ·rfl
   ·by_cases e : j = i
    ·subst e
     rw [hol] at hj; cases hj
     exact hd k hk
    ·rw [if_neg e] at hlj; exact hcl j p hj hlj k hk
  -- what the slots that i looks at hold, in the act in which i stands in the order
  have hagree : ∀ q1 q2 Ar, p = q1 ++ i :: q2 -> Rep l (selOf q1 v) a0 Ar -> ∀ d ∈ o.looksAt l.toArray, a.tmps[d]? = Ar.tmps[d]? := fun q1 q2 Ar e hAr d hdl => by
   refine Rep.eq hdist ha hAr d fun j pp hj hp => ?_
   unfold selOf
   rcases hlook i j o pp d hol hj hp hdl with rfl | hji | hij
   ·have hq : i ∉ q1 := by have := (hsp q1 i q2 e).2.1; simpa using this
    rw [if_neg (by rw [hun']; simp), if_neg hq]
   ·rw [if_pos (hd j hji), if_pos (hbefore q1 i q2 o e hol j hji)]
   ·have : listed.getD j false = false := by
     cases hlj : listed.getD j false with
     | false => rfl
     | true => have := hcl j pp hj hlj i hij; rw [hun'] at this; cases this
    rw [if_neg (by rw [this]; simp), if_neg (hbehind q1 i q2 j pp e hj hij)]
  have hrep : ∀ (x : Value) (v' : Nat -> Value), v' i = x -> (∀ j, j ≠ i -> listed.getD j false = true -> v' j = v j) -> Rep l (fun j => if (listed.setIfInBounds i true).getD j false = true then some (v' j) else none) a0 (a.put o.dst x) := fun x v' hx hv' => by
   refine ha.put hol x ?_ fun j hj => ?_
   ·simp only [getD_set (show i < listed.size by omega), if_true, hx]
   ·simp only [getD_set (show i < listed.size by omega), if_neg hj]
    cases hlj : listed.getD j false with
    | false => simp
    | true => simp only [if_true, hv' j hj hlj]
  have hip : i ∈ p := hfull i hil
  rw [ep] at hip
  rcases List.mem_append.1 hip with h1 | h2
  ·-- a reader that was passed over
   have hie : i ∉ es := fun h => by have := hle i h1 h; rw [hun'] at this; cases this
   obtain ⟨q1, q2, rfl⟩ := List.append_of_mem h1
   obtain ⟨Ar, o', hAr, ho', hrd⟩ := hs q1 i q2 rfl hie
   rw [hol] at ho'; cases ho'
   have hag := hagree q1 (q2 ++ p2) Ar (by rw [ep]; simp) hAr
   have next : wpAny P md l.toArray Q fuel (listed.setIfInBounds i true) (a.put o.dst (v i)) w := by
    refine ih _ _ w (q1 ++ i :: q2) p2 v A (by simpa using hsz) hcnt' (hS.imp id fun q j hj => by rw [getD_set (by omega)]; split <;> first | rfl | exact q j hj) hcl' ep hh (fun j hj he => ?_) (fun j hj => ?_) hg hA hs (hrep (v i) v rfl fun _ _ _ => rfl)
    ·rw [getD_set (by omega)]
     split
     ·rfl
     ·exact hle j hj he
    ·rw [getD_set (by omega), if_neg, hp2 j hj]
     rintro rfl
     rw [ep, List.nodup_append] at hnodup
     exact hnodup.2.2 j (by simp) j hj rfl
   unfold Go.wpOp
   simp only [ho]
   rw [wanted_same hag]
   rcases hrd with ⟨hw, hv⟩ | ⟨hw, hv⟩
   ·simp only [hw, if_true, Oper.wp]
    left
    rw [exec_same (hns i o · · ho) hag, hv w (hS.resolve_right (fun q => by have := q i h1; rw [hun'] at this; cases this))]
    exact next
   ·simp only [hw, Bool.false_eq_true, if_false]
    rw [hv] at next
    exact next
  ·-- the next operation that changes the world
   rcases hh with rfl | ⟨e, q, rfl, hee⟩
   ·cases h2
   have hie : i = e := by
    rcases List.mem_cons.1 h2 with h | h
    ·exact h
    ·exfalso
     have hre := (hsp p1 e q ep).2.2.2.1 hee i h o hol
     have := reachU_spec hcl _ o e hd hre
     rw [hp2 e (by simp)] at this; cases this
   subst hie
   unfold goH at hg
   rw [hol] at hg
   simp only [List.contains_eq_mem, decide_eq_true_eq, if_pos hee] at hg
   have hag := hagree p1 q A ep hA
   refine eff_move ho (by rw [ha.1, hA.1]) (exec_same (hns i o · · ho) hag) (wanted_same hag) hg fun x w' hS'' hg' => ?_
   have hq1 : i ∉ p1 := by have := (hsp p1 i q ep).2.1; simpa using this
   have ev : ∀ j, j ≠ i -> (fun j => if j = i then x else v j) j = v j := fun j hj => if_neg hj
   have hA1 : Rep l (selOf p1 (fun j => if j = i then x else v j)) a0 A := by rw [selOf_ext (fun j hj => ev j (fun e => hq1 (by rw [← e]; exact hj)))]; exact hA
   have hA2 := hA1.snoc hol
   simp only [if_true] at hA2
   have hs2 := (hs.ext (v' := fun j => if j = i then x else v j) (fun j hj => ev j (fun e => hq1 (by rw [← e]; exact hj)))).snoc_e hee
   obtain ⟨p1', p2', v', A', e1, e2, e3, e4, e5, e6, q', e7, e8⟩ := goH_readers q (p1 ++ [i]) _ _ (by rw [ep] at hnodup; simpa using hnodup) hg' hA2 hs2
   have hS' : S w' ∨ ∀ j ∈ p1', (listed.setIfInBounds i true).getD j false = true := by
    rcases hS'' with hts | hS''
    ·right
     have hts' : i ∈ ts := by simpa using hts
     obtain ⟨ht1, ht2⟩ := (hsp p1 i q ep).2.2.2.2 hts'
     have hq0 : q' = [] := by
      cases q' with
      | nil => rfl
      | cons y q' =>
       have hy : y ∈ q := by
        have : p1 ++ [i] ++ q = p1 ++ [i] ++ (y :: q' ++ p2') := by rw [e1, e7, List.append_assoc]
        rw [List.append_cancel_left this]; simp
       exact absurd (ht1 y hy).2 (e8 y (by simp))
     intro j hj
     rw [e7, hq0, List.append_nil] at hj
     rw [getD_set (by omega)]
     by_cases h : j = i
     ·rw [if_pos h]
     ·rw [if_neg h]
      rcases List.mem_append.1 hj with hj | hj
      ·exact reachU_spec hcl _ o j hd (ht2 j (by simpa using hj) o hol)
      ·exact absurd (List.mem_singleton.1 hj) h
    ·exact .inl hS''
   have hlist : ∀ j, listed.getD j false = true -> j ∈ p1 := fun j hj => by
    have hjl : j < l.length := by
     refine Classical.byContradiction fun hn => ?_
     rw [Array.getD_eq_getD_getElem?, Array.getElem?_eq_none (by omega)] at hj
     cases hj
    have := hfull j hjl
    rw [ep] at this
    rcases List.mem_append.1 this with h | h
    ·exact h
    ·rw [hp2 j h] at hj; cases hj
   have ep' : p = p1' ++ p2' := by rw [ep, ← e1]; simp
   refine ih _ _ w' p1' p2' v' A' (by simpa using hsz) hcnt' hS' hcl' ep' e2 (fun j hj he => ?_) (fun j hj => ?_) e3 e4 e5 (hrep x v' ?_ fun j hj hlj => ?_)
   ·rw [getD_set (by omega)]
    by_cases h : j = i
    ·rw [if_pos h]
    ·rw [if_neg h]
     rw [e7] at hj
     rcases List.mem_append.1 hj with hj | hj
     ·rcases List.mem_append.1 hj with hj | hj
      ·exact hle j hj he
      ·exact absurd (List.mem_singleton.1 hj) h
     ·exact absurd he (e8 j hj)
   ·have hji : j ≠ i := by
     rintro rfl
     rw [ep', List.nodup_append] at hnodup
     exact hnodup.2.2 j (by rw [e7]; simp) j hj rfl
    rw [getD_set (by omega), if_neg hji]
    cases hlj : listed.getD j false with
    | false => rfl
    | true =>
     exfalso
     have h1 := hlist j hlj
     rw [ep', List.nodup_append] at hnodup
     exact hnodup.2.2 j (by rw [e7]; simp [h1]) j hj rfl
   ·rw [e6 i (by simp)]; simp
   ·rw [e6 j (by simp [hlist j hlj])]; exact ev j hj
theorem wp_region_rgh {id : Nat} {l : List Oper} {a : Act} {w : World} (S : World -> Prop) (es ts p : List Nat) (hm : P.follows .mixedOrders = true) (hok : rghOK .any l es ts p = true)
  (hS : S w.drew) (h : goH P l Q S es ts p a w.drew) : (Code.region id l.toArray true).wp P Q a w := by
 have hok' := hok
 unfold rghOK at hok'
 simp only [Bool.and_eq_true] at hok'
 have hnd := (nodup_of_permh [] p hok'.2).1
 have hA : Rep l (selOf [] (fun _ => undef)) a a := Rep.refl _ _ fun j o _ => by unfold selOf; rw [if_neg (by simp)]
 obtain ⟨p1', p2', v', A', e1, e2, e3, e4, e5, e6, q', e7, e8⟩ := goH_readers (a0 := a) p [] (fun _ => undef) a (by simpa using hnd) h hA (fun p1 r p2 e => by cases p1 <;> cases e)
 rw [List.nil_append] at e1 e7
 have hl0 : ∀ j, (Array.replicate l.toArray.size false).getD j false = false := fun j => by
  rw [Array.getD_eq_getD_getElem?, Array.getElem?_replicate]
  split <;> rfl
 refine wp_region_any hm (wpAny_rgh (a0 := a) hok l.toArray.size _ a w.drew p1' p2' v' A' (by simp) ?_ (.inl hS) (fun j o _ hj => by rw [hl0] at hj; cases hj) e1 e2 (fun j hj he => by rw [e7] at hj; exact absurd he (e8 j hj)) (fun j _ => hl0 j) e3 e4 e5 (Rep.refl _ _ fun j o _ => by rw [hl0]; simp))
 refine Nat.le_trans List.countP_le_length ?_
 simp
theorem goH_val {l : List Oper} {i : Nat} {p : List Nat} {o : Oper} {a : Act} {w : World} (v : Value) (ho : l[i]? = some o) (hi : es.contains i = false) (hw : Region.wanted o (yielded l.toArray a.tmps) = true)
  (h : ∀ w, S w -> (execOp a.eval o).run P w = .ok (.value v) w) (k : goH P l Q S es ts p (a.put o.dst v) w) : goH P l Q S es ts (i :: p) a w := by
 unfold goH; rw [ho]; simp only [hi, Bool.false_eq_true, if_false]; exact ⟨v, .inl ⟨hw, h⟩, k⟩
theorem goH_skip {l : List Oper} {i : Nat} {p : List Nat} {o : Oper} {a : Act} {w : World} (ho : l[i]? = some o) (hi : es.contains i = false) (hw : Region.wanted o (yielded l.toArray a.tmps) = false)
  (k : goH P l Q S es ts p (a.put o.dst undef) w) : goH P l Q S es ts (i :: p) a w := by
 unfold goH; rw [ho]; simp only [hi, Bool.false_eq_true, if_false]; exact ⟨undef, .inr ⟨hw, rfl⟩, k⟩
theorem goH_eff {l : List Oper} {i : Nat} {p : List Nat} {o : Oper} {a : Act} {w : World} (ho : l[i]? = some o) (hi : es.contains i = true) (h : wpList P l.toArray (EffQ (tailS S (ts.contains i)) a.defers (goH P l Q S es ts p)) [o] a w) : goH P l Q S es ts (i :: p) a w := by
 unfold goH; rw [ho]; simp only [hi, if_true]; exact h
end
end Go.Proofs.YtmdlgfnibjcgmaaGreatDoor
