/-
  Several texts joined: Rgu.
-/
import Derived.Test.YtmdlgfnibjcgmaaGreatDoorK09
set_option linter.unusedVariables false
set_option linter.unusedSimpArgs false
namespace Go.Proofs.YtmdlgfnibjcgmaaGreatDoor
def reachU (md : Region.Mode) (l : List Oper) : Nat -> Oper -> Nat -> Bool
 | 0, _, _ => false
 | f + 1, o, i => (depsOf md o).contains i || (depsOf md o).any fun k => match l[k]? with
  | some p => reachU md l f p i
  | none => false
theorem reachU_spec {md : Region.Mode} {l : List Oper} {listed : Array Bool} (hcl : ∀ j o, l[j]? = some o -> listed.getD j false = true -> ∀ k ∈ depsOf md o, listed.getD k false = true) :
  ∀ (f : Nat) (o : Oper) (i : Nat), (∀ k ∈ depsOf md o, listed.getD k false = true) -> reachU md l f o i = true -> listed.getD i false = true
 | 0, o, i, hd, h => by cases h
 | f + 1, o, i, hd, h => by
  unfold reachU at h
  simp only [Bool.or_eq_true, List.contains_eq_mem, decide_eq_true_eq, List.any_eq_true] at h
  rcases h with h | ⟨k, hk, h⟩
  ·exact hd i h
  ·cases hp : l[k]? with
   | none => rw [hp] at h; cases h
   | some p =>
    rw [hp] at h
    exact reachU_spec hcl f p i (hcl k p hp (hd k hk)) h
def tailOKu (md : Region.Mode) (l : List Oper) (n : Nat) : Bool :=
 (List.range l.length).all fun j => match l[j]? with
  | none => true
  | some o => if j < n then true else if j = n then (List.range n).all fun i => reachU md l (n + 1) o i
   else (depsOf md o).contains (j - 1)
section
variable {P : Program} {ops : Array Oper} {Q : Exit -> Act -> World -> Prop} {md : Region.Mode} {w0 : World}
theorem tailOKu_spec {l : List Oper} {n : Nat} (h : tailOKu md l n = true) {listed : Array Bool} (hcl : ∀ j o, l[j]? = some o -> listed.getD j false = true -> ∀ k ∈ depsOf md o, listed.getD k false = true) :
  ∀ j, n <= j -> ∀ o, l[j]? = some o -> (∀ k ∈ depsOf md o, listed.getD k false = true) -> ∀ i, i < j -> listed.getD i false = true := by
 unfold tailOKu at h
 rw [List.all_eq_true] at h
 intro j
 induction j with
 | zero => intro _ o _ _ i hi; omega
 | succ j ih =>
  intro hj o ho hd i hi
  have hjl := (List.getElem?_eq_some_iff.1 ho).1
  have h1 := h (j + 1) (List.mem_range.2 hjl)
  rw [ho] at h1
  simp only at h1
  rw [if_neg (by omega)] at h1
  by_cases hjn : j + 1 = n
  ·rw [if_pos hjn, List.all_eq_true] at h1
   have h2 := h1 i (List.mem_range.2 (by omega))
   exact reachU_spec hcl _ o i hd h2
  ·rw [if_neg hjn] at h1
   simp only [Nat.add_sub_cancel, List.contains_eq_mem, decide_eq_true_eq] at h1
   have hlj := hd j h1
   rcases Nat.lt_or_ge i j with hij | hij
   ·have hpj : l[j]? = some (l[j]'(by omega)) := List.getElem?_eq_getElem (by omega)
    exact ih (by omega) _ hpj (hcl j _ hpj hlj) i hij
   ·have : i = j := by omega
    subst this; exact hlj
theorem conv_trueu {listed : Array Bool} {j : Nat} (hj : j < listed.size) : listed.getD j true = listed.getD j false := by
 rw [Array.getD_eq_getD_getElem?, Array.getD_eq_getD_getElem?, Array.getElem?_eq_getElem hj]; rfl
theorem wpAny_tailu {l : List Oper} (hops : ops = l.toArray) {n : Nat} (ht : tailOKu md l n = true) (htop : ∀ (i : Nat) (o : Oper), l[i]? = some o -> ∀ j ∈ depsOf md o, j < i) :
  ∀ (fuel m : Nat) (listed : Array Bool) (a : Act) (w : World), n <= m -> m <= l.length -> l.length - m <= fuel -> listed.size = l.length -> (∀ j, j < l.length -> listed.getD j false = decide (j < m)) ->
   wpList P ops Q (l.drop m) a w -> wpAny P md ops Q fuel listed a w := by
 have hget : ∀ j, ops[j]? = l[j]? := fun j => by rw [hops, List.getElem?_toArray]
 intro fuel
 induction fuel with
 | zero =>
  intro m listed a w hn hm hf hsz hl hw
  have hml : m = l.length := by omega
  refine ⟨?_, by rw [hml, List.drop_length] at hw; exact hw⟩
  cases hr : Region.ready md ops listed with
  | nil => rfl
  | cons j js =>
   have hj : j ∈ Region.ready md ops listed := by rw [hr]; simp
   obtain ⟨h1, o, h2, _⟩ := mem_ready.1 hj
   rw [hget] at h2
   have hjl : j < l.length := (List.getElem?_eq_some_iff.1 h2).1
   rw [conv_trueu (by omega), hl j hjl, decide_eq_false_iff_not] at h1
   omega
 | succ fuel ih =>
  intro m listed a w hn hm hf hsz hl hw
  have hclosed : ∀ j o, l[j]? = some o -> listed.getD j false = true -> ∀ k ∈ depsOf md o, listed.getD k false = true := fun j o hj hlj k hk => by
   have hjl := (List.getElem?_eq_some_iff.1 hj).1
   rw [hl j hjl, decide_eq_true_eq] at hlj
   have := htop j o hj k hk
   rw [hl k (by omega), decide_eq_true_eq]; omega
  have ready_m : m < l.length -> m ∈ Region.ready md ops listed := fun hml => mem_ready.2 ⟨by rw [conv_trueu (by omega), hl m hml]; simp, l[m], by rw [hget, List.getElem?_eq_getElem hml], fun e he hb => by
   have hlt := htop m l[m] (List.getElem?_eq_getElem hml) e.on (mem_deps.2 ⟨e, he, hb, rfl⟩)
   rw [hl e.on (by omega), decide_eq_true_eq]; exact hlt⟩
  refine ⟨fun hr => ?_, fun i hi => ?_⟩
  ·rcases Nat.lt_or_ge m l.length with h | h
   ·have := ready_m h
    rw [hr] at this; cases this
   ·have hml : m = l.length := by omega
    rw [hml, List.drop_length] at hw; exact hw
  ·obtain ⟨h1, o, h2, h3⟩ := mem_ready.1 hi
   have hol : l[i]? = some o := by rw [← hget]; exact h2
   have hil : i < l.length := (List.getElem?_eq_some_iff.1 hol).1
   rw [conv_trueu (by omega), hl i hil, decide_eq_false_iff_not] at h1
   have hd : ∀ k ∈ depsOf md o, listed.getD k false = true := fun k hk => by
    obtain ⟨e, he, hb, rfl⟩ := mem_deps.1 hk
    exact h3 e he hb
   have him : i = m := by
    rcases Nat.lt_or_ge m i with h | h
    ·have := tailOKu_spec ht hclosed i (by omega) o hol hd m h
     rw [hl m (by omega), decide_eq_true_eq] at this; omega
    ·omega
   subst him
   have hdrop : l.drop i = o :: l.drop (i + 1) := by
    rw [List.drop_eq_getElem_cons hil]
    congr 1
    rw [List.getElem?_eq_getElem hil] at hol
    exact Option.some.inj hol
   rw [hdrop] at hw
   unfold wpList at hw
   have key : wpOp P ops Q i (fun a' w' => wpList P ops Q (l.drop (i + 1)) a' w') a w := by
    unfold wpOp
    rw [h2]
    exact hw
   refine wpOp_mono (fun a' w' h' => ih (i + 1) _ a' w' (by omega) (by omega) (by omega) (by simpa using hsz) (fun j hj => ?_) h') key
   rw [getD_set (by omega)]
   by_cases e : j = i
   ·subst e; rw [if_pos rfl]; simp
   ·rw [if_neg e, hl j hj]
    exact decide_eq_decide.2 (by omega)
def rguOK (md : Region.Mode) (l : List Oper) (n : Nat) : Bool :=
 Region.noSelect l.toArray && tailOKu md l n && decide (n <= l.length) && (List.range l.length).all fun i => match l[i]? with
  | none => true
  | some o => (depsOf md o).all (fun j => decide (j < i)) && (decide (n <= i) || (List.range n).all fun j => i == j || match l[j]? with
   | none => true
   | some p => match p.dst with
    | none => true
    | some d => o.dst != some d && (!(o.looksAt l.toArray).contains d || (depsOf md o).contains j || (depsOf md p).contains i))
theorem rguOK_spec {l : List Oper} {n : Nat} (h : rguOK md l n = true) : (∀ (j : Nat) (o : Oper) cs b, l.toArray[j]? = some o -> o.op ≠ .select cs b) /\ tailOKu md l n = true /\ n <= l.length /\ (∀ (i : Nat) (o : Oper), l[i]? = some o -> ∀ j ∈ depsOf md o, j < i) /\
  (∀ (i j : Nat) (o p : Oper) (d : Tmp), i < n -> j < n -> l[i]? = some o -> l[j]? = some p -> o.dst = some d -> p.dst = some d -> i = j) /\
  (∀ (i j : Nat) (o p : Oper) (d : Tmp), i < n -> j < n -> l[i]? = some o -> l[j]? = some p -> p.dst = some d -> d ∈ o.looksAt l.toArray -> i = j ∨ j ∈ depsOf md o ∨ i ∈ depsOf md p) := by
 unfold rguOK at h
 rw [Bool.and_eq_true, Bool.and_eq_true, Bool.and_eq_true, List.all_eq_true, decide_eq_true_eq] at h
 obtain ⟨⟨⟨hs, ht⟩, hn⟩, h⟩ := h
 have hh : ∀ (i : Nat) (o : Oper), l[i]? = some o -> (∀ j ∈ depsOf md o, j < i) /\ (i < n -> ∀ (j : Nat) (p : Oper) (d : Tmp), j < n -> l[j]? = some p -> p.dst = some d -> i = j ∨ (o.dst ≠ some d /\ (d ∉ o.looksAt l.toArray ∨ j ∈ depsOf md o ∨ i ∈ depsOf md p))) := by
  intro i o hi
  have := h i (List.mem_range.2 (List.getElem?_eq_some_iff.1 hi).1)
  rw [hi] at this
  simp only [Bool.and_eq_true, List.all_eq_true, decide_eq_true_eq, Bool.or_eq_true] at this
  refine ⟨this.1, fun hin j p d hjn hj hd => ?_⟩
  rcases this.2 with h0 | h2
  ·omega
  ·have h2 := h2 j (List.mem_range.2 hjn)
   rw [hj] at h2
   simp only [hd, Bool.or_eq_true, beq_iff_eq, Bool.and_eq_true, bne_iff_ne, Bool.not_eq_true', List.contains_eq_mem, decide_eq_true_eq, decide_eq_false_iff_not] at h2
   rcases h2 with h2 | ⟨h2, h3⟩
   ·exact .inl h2
   ·refine .inr ⟨h2, ?_⟩
    rcases h3 with (h3 | h3) | h3
    ·exact .inl h3
    ·exact .inr (.inl h3)
    ·exact .inr (.inr h3)
 refine ⟨Region.noSelect_spec hs, ht, hn, fun i o hi => (hh i o hi).1, fun i j o p d hin hjn hi hj ho hp => ?_, fun i j o p d hin hjn hi hj hp hd => ?_⟩
 ·rcases (hh i o hi).2 hin j p d hjn hj hp with e | ⟨e, _⟩
  ·exact e
  ·exact absurd ho e
 ·rcases (hh i o hi).2 hin j p d hjn hj hp with e | ⟨_, e | e⟩
  ·exact .inl e
  ·exact absurd hd e
  ·exact .inr e
theorem wpAny_rgu {l : List Oper} (hops : ops = l.toArray) {n : Nat} {a0 : Act} (hok : rguOK md l n = true) {ss : List Yld} (hl : ss.length = n) (hss : ∀ s ∈ ss, s.ok)
  (hob : ∀ (k : Nat) (o : Oper) (s : Yld), (l.take n)[k]? = some o -> ss[k]? = some s -> ∀ u w, Ext w0 w -> holdsAt ss u w (depsOf md o) -> OutOp P ops s.V o (canon u ((l.take n).take k) (ss.take k) 0 a0) w)
  (hend : ∀ u w, Ext w0 w -> holdsAt ss u w (List.range n) -> wpList P ops Q (l.drop n) (canon u (l.take n) ss 0 a0) w) :
  ∀ (fuel : Nat) (listed : Array Bool) (a : Act) (w : World), listed.size = l.length -> (List.range n).countP (fun j => !listed.getD j false) + (l.length - n) <= fuel -> Ext w0 w ->
   (∀ j, n <= j -> listed.getD j false = false) -> (∀ j o, l[j]? = some o -> listed.getD j false = true -> ∀ k ∈ depsOf md o, listed.getD k false = true) ->
   (∃ u : Nat -> Value, Rep (l.take n) (fun j => if listed.getD j false = true then some (u j) else none) a0 a /\ ∀ j s, ss[j]? = some s -> listed.getD j false = true -> s.V (u j) w) -> wpAny P md ops Q fuel listed a w := by
 obtain ⟨hns', ht, hnl, htop, hdist, hlook⟩ := rguOK_spec hok
 have hns : ∀ (j : Nat) (o : Oper) cs b, ops[j]? = some o -> o.op ≠ .select cs b := by rw [hops]; exact hns'
 have hget : ∀ j, ops[j]? = l[j]? := fun j => by rw [hops, List.getElem?_toArray]
 have htk : ∀ j, j < n -> (l.take n)[j]? = l[j]? := fun j hj => List.getElem?_take_of_lt hj
 have htk2 : ∀ j o, (l.take n)[j]? = some o -> j < n /\ l[j]? = some o := fun j o h => by
  have hj : j < n := by have := (List.getElem?_eq_some_iff.1 h).1; simp at this; omega
  exact ⟨hj, by rw [← htk j hj]; exact h⟩
 have hlen : (l.take n).length = n := by simp; omega
 have hdE : ∀ (i j : Nat) (o p : Oper) (d : Tmp), (l.take n)[i]? = some o -> (l.take n)[j]? = some p -> o.dst = some d -> p.dst = some d -> i = j := fun i j o p d hi hj => hdist i j o p d (htk2 i o hi).1 (htk2 j p hj).1 (htk2 i o hi).2 (htk2 j p hj).2
 have done : ∀ (fuel : Nat) (listed : Array Bool) (a : Act) (w : World), listed.size = l.length -> l.length - n <= fuel -> (∀ j, n <= j -> listed.getD j false = false) -> (∀ j, j < n -> listed.getD j false = true) -> Ext w0 w ->
   (∃ u : Nat -> Value, Rep (l.take n) (fun j => if listed.getD j false = true then some (u j) else none) a0 a /\ ∀ j s, ss[j]? = some s -> listed.getD j false = true -> s.V (u j) w) -> wpAny P md ops Q fuel listed a w := by
  intro fuel listed a w hsz hf hno hall hw ⟨u, hrep, hV⟩
  have hc := canon_rep (l := l.take n) (ss := ss) (by rw [hl, hlen]) u a0 n (by omega)
  rw [List.take_take, Nat.min_self, show ss.take n = ss by rw [← hl, List.take_length]] at hc
  have hat : ∀ j s, ss[j]? = some s -> s.at (u j) = u j := fun j s hs => by
   have hj : j < n := by rw [← hl]; exact (List.getElem?_eq_some_iff.1 hs).1
   exact Yld.at_eq (hss s (List.mem_of_getElem? hs)) (hV j s hs (hall j hj))
  have ea : a = canon u (l.take n) ss 0 a0 := by
   have et : a.tmps = (canon u (l.take n) ss 0 a0).tmps := by
    apply Array.ext_getElem?
    intro d
    refine Rep.eq hdE hrep hc d fun j o hj ho => ?_
    have hjl := (htk2 j o hj).1
    rw [if_pos (hall j hjl), if_pos hjl]
    have hs : ss[j]? = some (ss[j]'(by omega)) := List.getElem?_eq_getElem (by omega)
    rw [hs, Option.map_some, hat j _ hs]
   have ed : a.defers = (canon u (l.take n) ss 0 a0).defers := by rw [hrep.1, hc.1]
   generalize canon u (l.take n) ss 0 a0 = c at *
   cases a; cases c
   simp only at et ed
   subst et ed; rfl
  rw [ea]
  refine wpAny_tailu hops ht htop fuel n listed _ w (Nat.le_refl _) hnl hf hsz (fun j hj => ?_) (hend u w hw (holdsAt_all fun j hj s hs => hV j s hs (hall j (List.mem_range.1 hj))))
  rcases Nat.lt_or_ge j n with h | h
  ·rw [hall j h, decide_eq_true h]
  ·rw [hno j h, decide_eq_false (by omega)]
 intro fuel
 induction fuel with
 | zero =>
  intro listed a w hsz hcnt hw hno hcl hu
  refine done 0 listed a w hsz (by omega) hno (fun j hj => ?_) hw hu
  cases h : listed.getD j false with
  | true => rfl
  | false =>
   have := (List.countP_pos_iff (p := fun j => !listed.getD j false) (l := List.range n)).2 ⟨j, List.mem_range.2 hj, by rw [h]; rfl⟩
   omega
 | succ fuel ih =>
  intro listed a w hsz hcnt hw hno hcl hu
  by_cases hall : ∀ j, j < n -> listed.getD j false = true
  ·exact done (fuel + 1) listed a w hsz (by omega) hno hall hw hu
  refine ⟨fun hr => ?_, fun i hi => ?_⟩
  ·exfalso
   refine hall fun j => ?_
   induction j using Nat.strongRecOn with
   | _ j ihj =>
    intro hj
    cases hlj : listed.getD j false with
    | true => rfl
    | false =>
     have hjl : j < l.length := by omega
     have : j ∈ Region.ready md ops listed := mem_ready.2 ⟨by rw [conv_trueu (by omega)]; exact hlj, l[j], by rw [hget, List.getElem?_eq_getElem hjl], fun e he hb => by
      have hlt := htop j l[j] (List.getElem?_eq_getElem hjl) e.on (mem_deps.2 ⟨e, he, hb, rfl⟩)
      exact ihj e.on hlt (by omega)⟩
     rw [hr] at this; cases this
  obtain ⟨u, hrep, hV⟩ := hu
  obtain ⟨hun, o, ho, hdeps⟩ := mem_ready.1 hi
  have hol : l[i]? = some o := by rw [← hget]; exact ho
  have hil : i < l.length := (List.getElem?_eq_some_iff.1 hol).1
  have hd : ∀ j ∈ depsOf md o, listed.getD j false = true := fun j hj => by
   obtain ⟨e, he, hb, rfl⟩ := mem_deps.1 hj
   exact hdeps e he hb
  have hin : i < n := by
   rcases Nat.lt_or_ge i n with h | h
   ·exact h
   ·exact absurd (fun j hj => tailOKu_spec ht hcl i h o hol hd j (by omega)) hall
  have hun' : listed.getD i false = false := by rw [← conv_trueu (by omega)]; exact hun
  have hs : ss[i]? = some (ss[i]'(by omega)) := List.getElem?_eq_getElem (by omega)
  have hoE : (l.take n)[i]? = some o := by rw [htk i hin]; exact hol
  have h1 := hob i o _ hoE hs u w hw (holdsAt_all fun j hj s hsj => hV j s hsj (hd j hj))
  have hc := canon_rep (l := l.take n) (ss := ss) (by rw [hl, hlen]) u a0 i (by omega)
  have hagree : ∀ d ∈ o.looksAt ops, a.tmps[d]? = (canon u ((l.take n).take i) (ss.take i) 0 a0).tmps[d]? := fun d hdl => by
   refine Rep.eq hdE hrep hc d fun j p hjE hp => ?_
   obtain ⟨hjn, hj⟩ := htk2 j p hjE
   rw [hops] at hdl
   rcases hlook i j o p d hin hjn hol hj hp hdl with rfl | hji | hij
   ·rw [if_neg (by rw [hun']; simp), if_neg (by omega)]
   ·have hsj : ss[j]? = some (ss[j]'(by omega)) := List.getElem?_eq_getElem (by omega)
    rw [if_pos (hd j hji), if_pos (htop i o hol j hji), hsj, Option.map_some, Yld.at_eq (hss _ (List.getElem_mem _)) (hV j _ hsj (hd j hji))]
   ·have hlt := htop j p hj i hij
    have : listed.getD j false = false := by
     cases hlj : listed.getD j false with
     | false => rfl
     | true => have := hcl j p hj hlj i hij; rw [hun'] at this; cases this
    rw [if_neg (by rw [this]; simp), if_neg (by omega)]
  have h2 : OutOp P ops (ss[i]'(by omega)).V o a w := by
   unfold OutOp at h1 ⊢
   rw [wanted_same hagree, exec_same (hns i o · · ho) hagree]
   exact h1
  refine h2.wpOp ho fun x w' hx hv => ih _ _ _ (by simpa using hsz) ?_ (hw.trans hx) (fun j hj => ?_) (fun j p hj hlj k hk => ?_) ⟨fun j => if j = i then x else u j, ?_, fun j s hsj hlj => ?_⟩
  ·have hlt := countP_lt (p := fun j => !listed.getD j false) (q := fun j => !(listed.setIfInBounds i true).getD j false) (i := i) (by rw [hun']; rfl) (by rw [getD_set (by omega)]; simp) (fun j hj => by
    rw [getD_set (by omega)] at hj
    by_cases e : j = i
    ·simp [e] at hj
    ·rw [if_neg e] at hj; exact hj) (List.mem_range.2 hin)
   omega
  ·rw [getD_set (by omega), if_neg (by omega)]; exact hno j hj
  ·rw [getD_set (by omega)] at hlj ⊢
   split
   ·rfl
   ·by_cases e : j = i
    ·subst e
     rw [hol] at hj; cases hj
     exact hd k hk
    ·rw [if_neg e] at hlj; exact hcl j p hj hlj k hk
  ·refine hrep.put hoE x ?_ fun j hj => ?_
   ·simp only [getD_set (show i < listed.size by omega), if_true]
   ·simp only [getD_set (show i < listed.size by omega), if_neg hj]
  ·rw [getD_set (by omega)] at hlj
   by_cases e : j = i
   ·subst e
    rw [hs] at hsj; cases hsj
    simp only [if_true]; exact hv
   ·rw [if_neg e] at hlj
    simp only [if_neg e]
    exact (hss s (List.mem_of_getElem? hsj)).stay _ _ _ (hV j s hsj hlj) hx
theorem wp_region_rgu {id : Nat} {l : List Oper} {a : Act} {w : World} (n : Nat) (w0 : World) (hm : P.follows .mixedOrders = true) (hok : rguOK .any l n = true) (hw : Ext w0 w)
  (h : goV P l.toArray (fun _ a w => wpList P l.toArray Q (l.drop n) a w) .any w0 (l.take n) 0 [] (fun _ => a)) : (Code.region id l.toArray true).wp P Q a w := by
 obtain ⟨ss, h1, h2, h3, h4⟩ := goV_spec (l.take n) 0 [] _ h
 have hnl := (rguOK_spec hok).2.2.1
 have hlen : (l.take n).length = n := by simp; omega
 simp only [List.nil_append, Nat.zero_add] at h3 h4
 rw [hlen] at h4
 refine wp_region_any hm (wpAny_rgu rfl hok (by rw [h1, hlen]) h2 h3 h4 _ _ _ _ (by simp) ?_ hw.drew (fun j _ => ?_) (fun j o _ hj => ?_) ⟨fun _ => undef, ?_, fun j s _ hj => ?_⟩)
 ·have := List.countP_le_length (p := fun j => !(Array.replicate l.toArray.size false).getD j false) (l := List.range n)
  simp only [List.length_range] at this
  rw [List.size_toArray] at *
  omega
 ·rw [Array.getD_eq_getD_getElem?, Array.getElem?_replicate]
  split <;> rfl
 ·rw [Array.getD_eq_getD_getElem?, Array.getElem?_replicate] at hj
  split at hj <;> simp at hj
 ·refine Rep.refl _ _ fun j o _ => ?_
  simp only
  rw [if_neg]
  rw [Array.getD_eq_getD_getElem?, Array.getElem?_replicate]
  split <;> simp
 ·rw [Array.getD_eq_getD_getElem?, Array.getElem?_replicate] at hj
  split at hj <;> simp at hj
end
end Go.Proofs.YtmdlgfnibjcgmaaGreatDoor
