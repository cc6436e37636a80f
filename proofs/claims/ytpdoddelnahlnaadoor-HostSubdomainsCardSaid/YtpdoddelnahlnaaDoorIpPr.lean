/-
  Contract of the reference's Parse.
-/
import Derived.Test.YtpdoddelnahlnaaDoorIpP
import Derived.Test.YtpdoddelnahlnaaDoorIpH
import Derived.Test.YtpdoddelnahlnaaDoorIpRt
import Derived.Test.YtpdoddelnahlnaaDoorIpVb
import Derived.Maps.AppendAt
set_option linter.unusedSimpArgs false
set_option linter.unusedVariables false
namespace Go.Proofs.YtpdoddelnahlnaaDoor
open Go.RowKit Go.Joins

theorem at_iff {s : ByteArray} {j : Nat} : s.data.toList[j]? = some 58 ↔ j < s.size ∧ B s j = 58 := by
  rw [size_list]
  constructor
  · intro h
    have hl := (List.getElem?_eq_some_iff.1 h).1
    refine ⟨hl, ?_⟩
    unfold B
    rw [List.getD_eq_getElem?_getD, h]; rfl
  · rintro ⟨h1, h2⟩
    unfold B at h2
    rw [List.getD_eq_getElem?_getD, List.getElem?_eq_getElem h1, Option.getD_some] at h2
    rw [List.getElem?_eq_getElem h1]
    congr 1
    exact UInt8.toNat_inj.1 (by show _ = 58; omega)
theorem cutAt_hit {s : ByteArray} {k : Nat} (hk : k + 1 < s.size) (h0 : B s k = 58) (h1 : B s (k + 1) = 58) (hn : ∀ j, j < k → ¬ (B s j = 58 ∧ B s (j + 1) = 58)) : cutAt s = k :=
  index_at ⟨at_iff.2 ⟨by omega, h0⟩, at_iff.2 ⟨hk, h1⟩⟩ fun j hj h => hn j hj ⟨(at_iff.1 h.1).2, (at_iff.1 h.2).2⟩
theorem cutAt_miss {s : ByteArray} {k : Nat} (hk : ¬ k + 1 < s.size) (hn : ∀ j, j < k → ¬ (B s j = 58 ∧ B s (j + 1) = 58)) : cutAt s = -1 :=
  index_no fun j h => by
    have h1 := at_iff.1 h.1
    have h2 := at_iff.1 h.2
    exact hn j (by omega) ⟨h1.2, h2.2⟩
theorem parseA_none {s : ByteArray} (h : parse4 s = none) : parseA s = if cutAt s < 0 then (match parseG s true with
        | some l => v6 l
        | none => (zadr, false)) else (match parseG (s.extract 0 (cutAt s).toNat) false, parseG (s.extract ((cutAt s).toNat + 2) s.size) true with
        | some l, some m => if 7 < l.length + m.length then (zadr, false) else v6 (l ++ List.replicate (8 - (l.length + m.length)) 0 ++ m)
        | _, _ => (zadr, false)) := by unfold parseA; rw [h]; rfl
theorem parseA_four {s : ByteArray} (h : (parse4 s).isSome = true) : parseA s = ((p4A s).1, true) := by
  unfold parseA p4A
  cases hp : parse4 s with
  | none => rw [hp] at h; cases h
  | some b => rfl

theorem wpList_append_nil0 {P : Program} {w : World} {ops : Array Oper} {rest : List Oper} {o : Oper} {a : Act} {Q : Exit → Act → World → Prop} (hgd : o.guard = none) (s x : Operand) (t : TypeId)
    (ho : o.op = .call { callee := .builtin .append, args := #[s, x], argTypes := #[t, t] }) (e : TypeId) (i : TypeInfo) (ht : P.underlying t = some (.slice e)) (hi : P.info? e = some i) (g n cap : Nat) (hn : n ≤ cap)
    (hs : a.eval s = .slice (some ⟨g, 0, none⟩) n cap) (k : Nat) (hk : k = 0) (hx : a.eval x = .slice none k 0) (h : wpList P ops Q rest (a.put o.dst (.slice (some ⟨g, 0, none⟩) n cap)) w) : wpList P ops Q (o :: rest) a w := by
  subst hk
  exact wpList_append_nil hgd s x t ho e i ht hi g n cap hn hs hx h
def slen : Value → Nat
  | .slice _ n _ => n
  | _ => 0
end Go.Proofs.YtpdoddelnahlnaaDoor
