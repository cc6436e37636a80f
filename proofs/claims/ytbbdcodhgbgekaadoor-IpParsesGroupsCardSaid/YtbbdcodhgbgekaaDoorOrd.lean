/-
  A region that draws its order and has few orders: each order is walked as a plain list of operations.
-/
import Derived.Orders
import Derived.Tactics
import Derived.KernelRfl
import Derived.ProofKit
set_option linter.unusedVariables false
namespace Go.Proofs.YtbbdcodhgbgekaaDoor

/-- every order in which the operations may come up -/
def orders (md : Region.Mode) (ops : Array Oper) : Nat → Array Bool → List (List Nat)
  | 0, _ => [[]]
  | f + 1, listed =>
    match Region.ready md ops listed with
    | [] => [[]]
    | r => r.flatMap fun i => (orders md ops f (listed.setIfInBounds i true)).map (i :: ·)
theorem lin_mem (md : Region.Mode) (ops : Array Oper) : ∀ (f t : Nat) (listed : Array Bool), Region.linearise.go md ops f t listed [] ∈ orders md ops f listed
  | 0, t, listed => by simp [Region.linearise.go, orders]
  | f + 1, t, listed => by
    simp only [Region.linearise.go, orders]
    change (match (Region.ready md ops listed)[t % (Region.ready md ops listed).length]? with
      | some i => Region.linearise.go md ops f (t / (Region.ready md ops listed).length) (listed.setIfInBounds i true) [i]
      | none => [].reverse) ∈ _
    cases hr : Region.ready md ops listed with
    | nil => simp
    | cons x xs =>
      have hlt : t % (x :: xs).length < (x :: xs).length := Nat.mod_lt _ (by simp)
      rw [List.getElem?_eq_getElem hlt]
      simp only []
      rw [linearise_go_acc, List.reverse_singleton, List.singleton_append]
      rw [List.mem_flatMap]
      exact ⟨_, List.getElem_mem hlt, List.mem_map.2 ⟨_, lin_mem md ops f _ _, rfl⟩⟩
theorem wpOps_list {P : Program} {ops : Array Oper} {Q : Exit → Act → World → Prop} : ∀ (o : List Nat) (l : List Oper), o.map (ops[·]?) = l.map some → ∀ a w, wpList P ops Q l a w → wpOps P ops Q o a w
  | [], [], _, a, w, h => by simpa [wpOps, wpList] using h
  | [], _ :: _, h, _, _, _ => by simp at h
  | _ :: _, [], h, _, _, _ => by simp at h
  | i :: o, x :: l, h, a, w, hw => by
    simp only [List.map_cons, List.cons.injEq] at h
    have ih : ∀ a w, wpList P ops Q l a w → wpOps P ops Q o a w := wpOps_list o l h.2
    rw [wpOps_cons]
    refine wpOp_mono ih ?_
    unfold wpOp
    rw [h.1]
    simp only []
    unfold wpList at hw
    exact hw
/-- the law: 'os' are the orders, 'ls' the operations in them -/
theorem wp_region_orders {P : Program} {id : Nat} {l : List Oper} {Q : Exit → Act → World → Prop} {a : Act} {w : World} (hm : P.follows .mixedOrders = true) (os : List (List Nat))
    (hos : orders .any l.toArray l.toArray.size (Array.replicate l.toArray.size false) = os)
    (h : ∀ o ∈ os, ∃ x : List Oper, o.map (l.toArray[·]?) = x.map some ∧ wpList P l.toArray Q x a w.drew) : (Code.region id l.toArray true).wp P Q a w := by
  refine wp_region_draw fun t => ?_
  simp only [Region.schedule, hm, Bool.true_or, if_true]
  have := lin_mem .any l.toArray l.toArray.size t (Array.replicate l.toArray.size false)
  rw [hos] at this
  obtain ⟨x, hx, hw⟩ := h _ this
  exact wpOps_list _ _ hx _ _ hw
/-- two orders: as written, and with operations n and n + 1 turned -/
theorem wp_region_swap {P : Program} {id : Nat} {l : List Oper} {Q : Exit → Act → World → Prop} {a : Act} {w : World} (n : Nat) (hm : P.follows .mixedOrders = true)
    (hos : orders .any l.toArray l.toArray.size (Array.replicate l.toArray.size false) = [List.range l.toArray.size, List.range n ++ [n + 1, n] ++ List.range' (n + 2) (l.toArray.size - (n + 2))])
    (h1 : (List.range l.toArray.size).map (l.toArray[·]?) = l.map some)
    (h2 : (List.range n ++ [n + 1, n] ++ List.range' (n + 2) (l.toArray.size - (n + 2))).map (l.toArray[·]?) = (l.take n ++ ((l.drop (n + 1)).take 1 ++ ((l.drop n).take 1 ++ l.drop (n + 2)))).map some)
    (k1 : wpList P l.toArray Q l a w.drew) (k2 : wpList P l.toArray Q (l.take n ++ ((l.drop (n + 1)).take 1 ++ ((l.drop n).take 1 ++ l.drop (n + 2)))) a w.drew) : (Code.region id l.toArray true).wp P Q a w := by
  refine wp_region_orders hm _ hos fun o ho => ?_
  rcases List.mem_cons.1 ho with rfl | ho
  · exact ⟨_, h1, k1⟩
  · rcases List.mem_cons.1 ho with rfl | ho
    · exact ⟨_, h2, k2⟩
    · cases ho
end Go.Proofs.YtbbdcodhgbgekaaDoor
