/-
  Loads and '==' of addresses in drawn regions.
-/
import Derived.Test.YtpdoddelnahlnaaDoorRg
import Derived.Test.YtpdoddelnahlnaaDoorIpEq
import Derived.Test.YtpdoddelnahlnaaDoorIpO
set_option linter.unusedSimpArgs false
set_option linter.unusedVariables false
namespace Go.Proofs.YtpdoddelnahlnaaDoor
open Go.RowKit
section
variable {ops : Array Oper} {Q : Exit → Act → World → Prop} {md : Region.Mode} {w0 : World}
theorem goV_loadA {o : Oper} {rest : List Oper} {i : Nat} {plan : List Yld} {A : (Nat → Value) → Act} (hw : ∀ u, Region.wanted o (yielded ops (A u).tmps) = true) (x : Operand) (ho : o.op = .load 37 x)
    {b : Nat} {a : Adr} (ha : okA a) (hb : ∀ w, Ext w0 w → Blk w b (ac a).toList 37) (hx : ∀ u, (A u).eval x = .pointer (some ⟨b, 0, none⟩))
    (k : goV Tryd.prog ops Q md w0 rest (i + 1) (plan ++ [.val (.agg (ac a))]) (fun u => (A u).put o.dst (.agg (ac a)))) : goV Tryd.prog ops Q md w0 (o :: rest) i plan A :=
  goV_val _ hw (fun u w hx' _ => by
    have e := load_A ha (hb w hx')
    unfold execOp
    rw [ho]
    simp only [hx, Sem.run_bind, e, Result.andThen_ok, Sem.run_pure]) k
theorem goV_eqA {o : Oper} {rest : List Oper} {i : Nat} {plan : List Yld} {A : (Nat → Value) → Act} (hw : ∀ u, Region.wanted o (yielded ops (A u).tmps) = true) (x y : Operand) {t : TypeId} (ho : o.op = .binOp .eql 37 x y t)
    {a b : Adr} (ha : okA a) (hb : okA b) (h : a = b) (hx : ∀ u, (A u).eval x = .agg (ac a)) (hy : ∀ u, (A u).eval y = .agg (ac b))
    (k : goV Tryd.prog ops Q md w0 rest (i + 1) (plan ++ [.val (.bool true)]) (fun u => (A u).put o.dst (.bool true))) : goV Tryd.prog ops Q md w0 (o :: rest) i plan A :=
  goV_val _ hw (fun u w _ _ => exec_eqA x y ho ha hb h (hx u) (hy u) w) k
end
end Go.Proofs.YtpdoddelnahlnaaDoor
