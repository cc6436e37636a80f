/-
  Drawn regions with a tail in order that make two variables: the two are not one.
-/
import Derived.Test.YtbbdcodhgbgekaaGreatDoorRgt
set_option linter.unusedSimpArgs false
set_option linter.unusedVariables false
namespace Go.Proofs.YtbbdcodhgbgekaaGreatDoor
/-- an operation that makes a variable, in every world -/
def Makes (P : Program) (o : Oper) : Prop := o.guard = none ∧ ∀ ev w, ∃ ob, (execOp ev o).run P w = .ok (.value (.pointer (some ⟨w.heap.size, 0, none⟩))) (w.alloc ob)
def ptrBelow (u : Value) (w : World) : Prop := ∃ b, u = .pointer (some ⟨b, 0, none⟩) ∧ b < w.heap.size
theorem ptrBelow.ext {u : Value} {w w' : World} (h : ptrBelow u w) (hx : Ext w w') : ptrBelow u w' := by
  obtain ⟨b, e, hb⟩ := h
  exact ⟨b, e, Nat.lt_of_lt_of_le hb hx.size⟩
/-- what is known of two operations, once listed -/
structure Two (i1 i2 : Nat) (lst : Nat → Bool) (u : Nat → Value) (w : World) : Prop where
  one : lst i1 = true → ptrBelow (u i1) w
  two : lst i2 = true → ptrBelow (u i2) w
  ne : lst i1 = true → lst i2 = true → u i1 ≠ u i2
def twoOK (l : List Oper) (n i1 i2 : Nat) (d1 d2 : Tmp) : Bool := decide ((l[i1]?).bind (·.dst) = some d1) && decide ((l[i2]?).bind (·.dst) = some d2) && decide (i1 < n) && decide (i2 < n) && !decide (i1 = i2)
section
variable {P : Program} {ops : Array Oper} {Q : Exit → Act → World → Prop} {md : Region.Mode} {w0 : World}
theorem OutOp.fresh {V : Value → World → Prop} {o : Oper} (ho : Makes P o) {a : Act} {w : World} (h : OutOp P ops V o a w) :
    OutOp P ops (fun u w' => V u w' ∧ u = .pointer (some ⟨w.heap.size, 0, none⟩) ∧ w.heap.size < w'.heap.size) o a w := by
  have hw : Region.wanted o (yielded ops a.tmps) = true := by unfold Region.wanted; rw [ho.1]
  rcases h with ⟨h1, h2⟩ | ⟨h1, _⟩
  · refine .inl ⟨h1, ?_⟩
    obtain ⟨ob, e⟩ := ho.2 a.eval w
    rw [e] at h2 ⊢
    exact ⟨h2.1, h2.2, rfl, by rw [World.size_alloc]; omega⟩
  · rw [hw] at h1; cases h1
theorem OutV.mono {w : World} {V V' : Value → World → Prop} (hv : ∀ x w', V x w' → V' x w') {r : Result Next} (h : OutV P w V r) : OutV P w V' r := by
  unfold OutV at h ⊢
  split at h
  · exact ⟨h.1, hv _ _ h.2⟩
  · exact ⟨h.1, Calls.mono h.2 fun e w'' ⟨u, e1, e2, e3⟩ => ⟨u, e1, e2, hv _ _ e3⟩⟩
  · exact ⟨h.1, Rows.mono h.2 fun u w'' ⟨e2, e3⟩ => ⟨e2, hv _ _ e3⟩⟩
  · exact h.elim
theorem wpAny_rgf {l : List Oper} {i1 i2 : Nat} (h12 : i1 ≠ i2) (hm1 : ∀ o, l[i1]? = some o → Makes P o) (hm2 : ∀ o, l[i2]? = some o → Makes P o) (hops : ops = l.toArray) {n : Nat} (hn1 : i1 < n) (hn2 : i2 < n) {a0 : Act} (hok : rgtOK md l n = true) {ss : List Yld} (hl : ss.length = n) (hss : ∀ s ∈ ss, s.ok)
    (hob : ∀ (k : Nat) (o : Oper) (s : Yld), (l.take n)[k]? = some o → ss[k]? = some s → ∀ u w, Ext w0 w → holdsAt ss u w (depsOf md o) → OutOp P ops s.V o (canon u ((l.take n).take k) (ss.take k) 0 a0) w)
    (hend : ∀ u w, u i1 ≠ u i2 → Ext w0 w → (∀ (j : Nat) (s : Yld), ss[j]? = some s → s.V (u j) w) → wpList P ops Q (l.drop n) (canon u (l.take n) ss 0 a0) w) :
    ∀ (fuel : Nat) (listed : Array Bool) (a : Act) (w : World), listed.size = l.length → (List.range n).countP (fun j => !listed.getD j false) + (l.length - n) ≤ fuel → Ext w0 w →
      (∀ j, n ≤ j → listed.getD j false = false) → (∀ j o, l[j]? = some o → listed.getD j false = true → ∀ k ∈ depsOf md o, listed.getD k false = true) →
      (∃ u : Nat → Value, Rep (l.take n) (fun j => if listed.getD j false = true then some (u j) else none) a0 a ∧ (∀ j s, ss[j]? = some s → listed.getD j false = true → s.V (u j) w) ∧ Two i1 i2 (fun j => listed.getD j false) u w) → wpAny P md ops Q fuel listed a w := by
  obtain ⟨hns', ht, hnl, htop, hdist, hlook⟩ := rgtOK_spec hok
  have hns : ∀ (j : Nat) (o : Oper) cs b, ops[j]? = some o → o.op ≠ .select cs b := by rw [hops]; exact hns'
  have hget : ∀ j, ops[j]? = l[j]? := fun j => by rw [hops, List.getElem?_toArray]
  have htk : ∀ j, j < n → (l.take n)[j]? = l[j]? := fun j hj => List.getElem?_take_of_lt hj
  have htk2 : ∀ j o, (l.take n)[j]? = some o → j < n ∧ l[j]? = some o := fun j o h => by
    have hj : j < n := by have := (List.getElem?_eq_some_iff.1 h).1; simp at this; omega
    exact ⟨hj, by rw [← htk j hj]; exact h⟩
  have hlen : (l.take n).length = n := by simp; omega
  have hdE : ∀ (i j : Nat) (o p : Oper) (d : Tmp), (l.take n)[i]? = some o → (l.take n)[j]? = some p → o.dst = some d → p.dst = some d → i = j := fun i j o p d hi hj => hdist i j o p d (htk2 i o hi).1 (htk2 j p hj).1 (htk2 i o hi).2 (htk2 j p hj).2
  have done : ∀ (fuel : Nat) (listed : Array Bool) (a : Act) (w : World), listed.size = l.length → l.length - n ≤ fuel → (∀ j, n ≤ j → listed.getD j false = false) → (∀ j, j < n → listed.getD j false = true) → Ext w0 w →
      (∃ u : Nat → Value, Rep (l.take n) (fun j => if listed.getD j false = true then some (u j) else none) a0 a ∧ (∀ j s, ss[j]? = some s → listed.getD j false = true → s.V (u j) w) ∧ Two i1 i2 (fun j => listed.getD j false) u w) → wpAny P md ops Q fuel listed a w := by
    intro fuel listed a w hsz hf hno hall hw ⟨u, hrep, hV, hT⟩
    have hc := canon_rep (l := l.take n) (ss := ss) (by rw [hl, hlen]) u a0 n (by omega)
    rw [List.take_take, Nat.min_self, show ss.take n = ss by rw [← hl, List.take_length]] at hc
    have hat : ∀ j s, ss[j]? = some s → s.at (u j) = u j := fun j s hs => by
      have hj : j < n := by rw [← hl]; exact (List.getElem?_eq_some_iff.1 hs).1
      exact Yld.at_eq (hss s (List.mem_of_getElem? hs)) (hV j s hs (hall j hj))
    have ea : a = canon u (l.take n) ss 0 a0 := by
      have et : a.tmps = (canon u (l.take n) ss 0 a0).tmps := by
        apply Array.ext_getElem?
        intro d
        refine Rep.eq hdE hrep hc d fun j o hj ho => ?_
        have hjl := (htk2 j o hj).1
        rw [if_pos (hall j hjl), if_pos hjl]
        have hs : ss[j]? = some (ss[j]'(by omega)) := List.getElem?_eq_getElem (by omega)
        rw [hs, Option.map_some, hat j _ hs]
      have ed : a.defers = (canon u (l.take n) ss 0 a0).defers := by rw [hrep.1, hc.1]
      generalize canon u (l.take n) ss 0 a0 = c at *
      cases a; cases c
      simp only at et ed
      subst et ed; rfl
    rw [ea]
    refine wpAny_tail hops ht htop fuel n listed _ w (Nat.le_refl _) hnl hf hsz (fun j hj => ?_) (hend u w (hT.ne (hall i1 hn1) (hall i2 hn2)) hw (fun j s hs => hV j s hs (hall j (by rw [← hl]; exact (List.getElem?_eq_some_iff.1 hs).1))))
    rcases Nat.lt_or_ge j n with h | h
    · rw [hall j h, decide_eq_true h]
    · rw [hno j h, decide_eq_false (by omega)]
  intro fuel
  induction fuel with
  | zero =>
    intro listed a w hsz hcnt hw hno hcl hu
    refine done 0 listed a w hsz (by omega) hno (fun j hj => ?_) hw hu
    cases h : listed.getD j false with
    | true => rfl
    | false =>
      have := (List.countP_pos_iff (p := fun j => !listed.getD j false) (l := List.range n)).2 ⟨j, List.mem_range.2 hj, by rw [h]; rfl⟩
      omega
  | succ fuel ih =>
    intro listed a w hsz hcnt hw hno hcl hu
    by_cases hall : ∀ j, j < n → listed.getD j false = true
    · exact done (fuel + 1) listed a w hsz (by omega) hno hall hw hu
    refine ⟨fun hr => ?_, fun i hi => ?_⟩
    · exfalso
      refine hall fun j => ?_
      induction j using Nat.strongRecOn with
      | _ j ihj =>
        intro hj
        cases hlj : listed.getD j false with
        | true => rfl
        | false =>
          have hjl : j < l.length := by omega
          have : j ∈ Region.ready md ops listed := mem_ready.2 ⟨by rw [conv_true (by omega)]; exact hlj, l[j], by rw [hget, List.getElem?_eq_getElem hjl], fun e he hb => by
            have hlt := htop j l[j] (List.getElem?_eq_getElem hjl) e.on (mem_deps.2 ⟨e, he, hb, rfl⟩)
            exact ihj e.on hlt (by omega)⟩
          rw [hr] at this; cases this
    obtain ⟨u, hrep, hV, hT⟩ := hu
    obtain ⟨hun, o, ho, hdeps⟩ := mem_ready.1 hi
    have hol : l[i]? = some o := by rw [← hget]; exact ho
    have hil : i < l.length := (List.getElem?_eq_some_iff.1 hol).1
    have hd : ∀ j ∈ depsOf md o, listed.getD j false = true := fun j hj => by
      obtain ⟨e, he, hb, rfl⟩ := mem_deps.1 hj
      exact hdeps e he hb
    have hin : i < n := by
      rcases Nat.lt_or_ge i n with h | h
      · exact h
      · exact absurd (fun j hj => tailOK_spec ht hcl i h o hol hd j (by omega)) hall
    have hun' : listed.getD i false = false := by rw [← conv_true (by omega)]; exact hun
    have hs : ss[i]? = some (ss[i]'(by omega)) := List.getElem?_eq_getElem (by omega)
    have hoE : (l.take n)[i]? = some o := by rw [htk i hin]; exact hol
    have h1 := hob i o _ hoE hs u w hw (holdsAt_all fun j hj s hsj => hV j s hsj (hd j hj))
    have hc := canon_rep (l := l.take n) (ss := ss) (by rw [hl, hlen]) u a0 i (by omega)
    have hagree : ∀ d ∈ o.looksAt ops, a.tmps[d]? = (canon u ((l.take n).take i) (ss.take i) 0 a0).tmps[d]? := fun d hdl => by
      refine Rep.eq hdE hrep hc d fun j p hjE hp => ?_
      obtain ⟨hjn, hj⟩ := htk2 j p hjE
      rw [hops] at hdl
      rcases hlook i j o p d hin hjn hol hj hp hdl with rfl | hji | hij
      · rw [if_neg (by rw [hun']; simp), if_neg (by omega)]
      · have hsj : ss[j]? = some (ss[j]'(by omega)) := List.getElem?_eq_getElem (by omega)
        rw [if_pos (hd j hji), if_pos (htop i o hol j hji), hsj, Option.map_some, Yld.at_eq (hss _ (List.getElem_mem _)) (hV j _ hsj (hd j hji))]
      · have hlt := htop j p hj i hij
        have : listed.getD j false = false := by
          cases hlj : listed.getD j false with
          | false => rfl
          | true => have := hcl j p hj hlj i hij; rw [hun'] at this; cases this
        rw [if_neg (by rw [this]; simp), if_neg (by omega)]
    have h2 : OutOp P ops (ss[i]'(by omega)).V o a w := by
      unfold OutOp at h1 ⊢
      rw [wanted_same hagree, exec_same (hns i o · · ho) hagree]
      exact h1
    have h3 : OutOp P ops (fun x w' => (ss[i]'(by omega)).V x w' ∧ (i = i1 ∨ i = i2 → x = .pointer (some ⟨w.heap.size, 0, none⟩) ∧ w.heap.size < w'.heap.size)) o a w := by
      by_cases hi12 : i = i1 ∨ i = i2
      · have hmk : Makes P o := by
          rcases hi12 with e | e
          · exact hm1 o (by rw [← e]; exact hol)
          · exact hm2 o (by rw [← e]; exact hol)
        have hf := h2.fresh hmk
        unfold OutOp at hf ⊢
        rcases hf with ⟨g1, g2⟩ | ⟨g1, g2⟩
        · exact .inl ⟨g1, g2.mono fun x w' h => ⟨h.1, fun _ => h.2⟩⟩
        · exact .inr ⟨g1, g2.1, fun _ => g2.2⟩
      · unfold OutOp at h2 ⊢
        rcases h2 with ⟨g1, g2⟩ | ⟨g1, g2⟩
        · exact .inl ⟨g1, g2.mono fun x w' h => ⟨h, fun e => absurd e hi12⟩⟩
        · exact .inr ⟨g1, g2, fun e => absurd e hi12⟩
    refine h3.wpOp ho fun x w' hx hv' => ?_
    obtain ⟨hv, hfr⟩ := hv'
    refine ih _ _ _ (by simpa using hsz) ?_ (hw.trans hx) (fun j hj => ?_) (fun j p hj hlj k hk => ?_) ⟨fun j => if j = i then x else u j, ?_, fun j s hsj hlj => ?_, ?_⟩
    · have hlt := countP_lt (p := fun j => !listed.getD j false) (q := fun j => !(listed.setIfInBounds i true).getD j false) (i := i) (by rw [hun']; rfl) (by rw [getD_set (by omega)]; simp) (fun j hj => by
        rw [getD_set (by omega)] at hj
        by_cases e : j = i
        · simp [e] at hj
        · rw [if_neg e] at hj; exact hj) (List.mem_range.2 hin)
      omega
    · rw [getD_set (by omega), if_neg (by omega)]; exact hno j hj
    · rw [getD_set (by omega)] at hlj ⊢
      split
      · rfl
      · by_cases e : j = i
        · subst e
          rw [hol] at hj; cases hj
          exact hd k hk
        · rw [if_neg e] at hlj; exact hcl j p hj hlj k hk
    · refine hrep.put hoE x ?_ fun j hj => ?_
      · simp only [getD_set (show i < listed.size by omega), if_true]
      · simp only [getD_set (show i < listed.size by omega), if_neg hj]
    · rw [getD_set (by omega)] at hlj
      by_cases e : j = i
      · subst e
        rw [hs] at hsj; cases hsj
        simp only [if_true]; exact hv
      · rw [if_neg e] at hlj
        simp only [if_neg e]
        exact (hss s (List.mem_of_getElem? hsj)).stay _ _ _ (hV j s hsj hlj) hx
    · have gset : ∀ j, j ≠ i → (listed.setIfInBounds i true).getD j false = listed.getD j false := fun j hj => by rw [getD_set (by omega), if_neg hj]
      by_cases e1 : i = i1
      · obtain ⟨hx1, hx2⟩ := hfr (.inl e1)
        subst e1
        have e2 : i2 ≠ i := fun h => h12 h.symm
        refine ⟨fun _ => ?_, fun h => ?_, fun _ h => ?_⟩
        · simp only [if_true]; exact ⟨_, hx1, hx2⟩
        · simp only [if_neg e2, gset i2 e2] at h ⊢
          exact (hT.two h).ext hx
        · simp only [if_neg e2, gset i2 e2, if_true] at h ⊢
          obtain ⟨b, eb, hb⟩ := hT.two h
          rw [hx1, eb]
          intro hc
          have : w.heap.size = b := by injection hc with h1; injection h1 with h2; injection h2
          omega
      · by_cases e2 : i = i2
        · obtain ⟨hx1, hx2⟩ := hfr (.inr e2)
          subst e2
          have e1 : i1 ≠ i := fun h => e1 h.symm
          refine ⟨fun h => ?_, fun _ => ?_, fun h _ => ?_⟩
          · simp only [if_neg e1, gset i1 e1] at h ⊢
            exact (hT.one h).ext hx
          · simp only [if_true]; exact ⟨_, hx1, hx2⟩
          · simp only [if_neg e1, gset i1 e1, if_true] at h ⊢
            obtain ⟨b, eb, hb⟩ := hT.one h
            rw [hx1, eb]
            intro hc
            have : b = w.heap.size := by injection hc with h1; injection h1 with h2; injection h2
            omega
        · have f1 : i1 ≠ i := fun h => e1 h.symm
          have f2 : i2 ≠ i := fun h => e2 h.symm
          refine ⟨fun h => ?_, fun h => ?_, fun h h' => ?_⟩
          · simp only [if_neg f1, gset i1 f1] at h ⊢; exact (hT.one h).ext hx
          · simp only [if_neg f2, gset i2 f2] at h ⊢; exact (hT.two h).ext hx
          · simp only [if_neg f1, gset i1 f1, if_neg f2, gset i2 f2] at h h' ⊢; exact hT.ne h h'

theorem wp_region_rgf {id : Nat} {l : List Oper} {a : Act} {w : World} (n i1 i2 d1 d2 : Nat) (w0 : World) (h12 : twoOK l n i1 i2 d1 d2 = true) (hm1 : ∀ o, l[i1]? = some o → Makes P o) (hm2 : ∀ o, l[i2]? = some o → Makes P o) (hs1 : d1 < a.tmps.size) (hs2 : d2 < a.tmps.size) (hm : P.follows .mixedOrders = true) (hok : rgtOK .any l n = true) (hw : Ext w0 w)
    (h : goV P l.toArray (fun _ a w => a.tmps[d1]? ≠ a.tmps[d2]? → wpList P l.toArray Q (l.drop n) a w) .any w0 (l.take n) 0 [] (fun _ => a)) : (Code.region id l.toArray true).wp P Q a w := by
  obtain ⟨ss, h1, h2, h3, h4⟩ := goV_spec (l.take n) 0 [] _ h
  have hnl := (rgtOK_spec hok).2.2.1
  have hlen : (l.take n).length = n := by simp; omega
  simp only [List.nil_append, Nat.zero_add] at h3 h4
  rw [hlen] at h4
  unfold twoOK at h12
  simp only [Bool.and_eq_true, decide_eq_true_eq, Bool.not_eq_true', decide_eq_false_iff_not] at h12
  obtain ⟨⟨⟨⟨hd1, hd2⟩, hn1⟩, hn2⟩, h12⟩ := h12
  obtain ⟨-, -, -, -, hdist, -⟩ := rgtOK_spec hok
  have hat : ∀ (u : Nat → Value) (w' : World), (∀ (j : Nat) (s : Yld), ss[j]? = some s → s.V (u j) w') → ∀ (i d : Nat), i < n → (l[i]?).bind (·.dst) = some d → d < a.tmps.size → (canon u (l.take n) ss 0 a).tmps[d]? = some (u i) := by
    intro u w' hV i d hin hid hsz
    have hc := canon_rep (l := l.take n) (ss := ss) (by rw [h1]) u a n (by omega)
    rw [List.take_take, Nat.min_self, show ss.take n = ss by rw [← hlen, ← h1, List.take_length]] at hc
    obtain ⟨o, ho, hod⟩ := Option.bind_eq_some_iff.1 hid
    have hoE : (l.take n)[i]? = some o := by rw [List.getElem?_take_of_lt hin]; exact ho
    have hs : ss[i]? = some (ss[i]'(by omega)) := List.getElem?_eq_getElem (by omega)
    rcases hc.2.2 d with ⟨j, p, v, k1, k2, k3, k4⟩ | ⟨k1, k2⟩
    · have hjn : j < n := by have := (List.getElem?_eq_some_iff.1 k1).1; simp at this; omega
      have hpl : l[j]? = some p := by rw [List.getElem?_take_of_lt hjn] at k1; exact k1
      have hji : j = i := hdist j i p o d hjn hin hpl ho k2 hod
      subst hji
      simp only at k3
      rw [if_pos hjn, hs, Option.map_some, Yld.at_eq (h2 _ (List.getElem_mem _)) (hV j _ hs)] at k3
      cases k3
      rw [k4, if_pos hsz]
    · have := k1 i o hoE hod
      simp only at this
      rw [if_pos hin, hs] at this; cases this
  refine wp_region_any hm (wpAny_rgf h12 hm1 hm2 rfl hn1 hn2 hok (by rw [h1, hlen]) h2 h3 (fun u w' hne hx hV => h4 u w' hx (holdsAt_all fun j _ s hs => hV j s hs) (by rw [hat u w' hV i1 d1 hn1 hd1 hs1, hat u w' hV i2 d2 hn2 hd2 hs2]; intro e; exact hne (Option.some.inj e))) _ _ _ _ (by simp) ?_ hw.drew (fun j _ => ?_) (fun j o _ hj => ?_) ⟨fun _ => undef, ?_, fun j s _ hj => ?_, ⟨fun h => ?_, fun h => ?_, fun h _ => ?_⟩⟩)
  · have := List.countP_le_length (p := fun j => !(Array.replicate l.toArray.size false).getD j false) (l := List.range n)
    simp only [List.length_range] at this
    rw [List.size_toArray] at *
    omega
  · rw [Array.getD_eq_getD_getElem?, Array.getElem?_replicate]
    split <;> rfl
  · rw [Array.getD_eq_getD_getElem?, Array.getElem?_replicate] at hj
    split at hj <;> simp at hj
  · refine Rep.refl _ _ fun j o _ => ?_
    simp only
    rw [if_neg]
    rw [Array.getD_eq_getD_getElem?, Array.getElem?_replicate]
    split <;> simp
  · rw [Array.getD_eq_getD_getElem?, Array.getElem?_replicate] at hj
    split at hj <;> simp at hj
  · rw [Array.getD_eq_getD_getElem?, Array.getElem?_replicate] at h
    split at h <;> simp at h
  · rw [Array.getD_eq_getD_getElem?, Array.getElem?_replicate] at h
    split at h <;> simp at h
  · rw [Array.getD_eq_getD_getElem?, Array.getElem?_replicate] at h
    split at h <;> simp at h
end
end Go.Proofs.YtbbdcodhgbgekaaGreatDoor
