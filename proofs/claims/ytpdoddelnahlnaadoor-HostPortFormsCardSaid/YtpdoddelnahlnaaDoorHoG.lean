/-
  Contracts of the generators Mod, Addr, Port, Host, Target.
-/
import Derived.Test.YtpdoddelnahlnaaDoorHoRt
set_option linter.unusedSimpArgs false
set_option linter.unusedVariables false
namespace Go.Proofs.YtpdoddelnahlnaaDoor
open Go.RowKit
def modI (v n : Int) : Int := wrap64 ((IntKind.u64.wrap v).tmod (IntKind.u64.wrap n))
theorem mod_any (v : Int) (n : Int) (w : World) (hn : IntKind.u64.wrap n ≠ 0) : Calls Tryd.prog 11 #[.int .i64 v, .int .i64 n] w fun e w' => e = .returned (.int .i64 (modI v n)) ∧ Ext w w' := by
  go_enter Tryd.func11, Tryd.ntmps11
  go_wp2
  all_goals go_ret
  all_goals exact ⟨rfl, Ext.refl _⟩
theorem modI_bd (v : Int) {n : Int} (h0 : 0 < n) (h1 : n ≤ 9223372036854775807) : 0 ≤ modI v n ∧ modI v n < n := by
  unfold modI
  have e : IntKind.u64.wrap n = n := by rw [IntKind.wrap_u64]; omega
  rw [e]
  exact cut_bd v n h0 h1
theorem u64_ne {n : Int} (h0 : 0 < n) (h1 : n ≤ 9223372036854775807) : IntKind.u64.wrap n ≠ 0 := by
  rw [IntKind.wrap_u64]; omega
theorem Calls.pick {P : Program} {f : FuncId} {args : Array Value} {w : World} {R : Ending → World → Prop} (h : Calls P f args w R) {R' : Ending → World → Prop} (hr : ∀ e w', R e w' → R' e w') : Calls P f args w R' := h.mono hr
/-- some valid target comes back -/
def GenT (w : World) (e : Ending) (w' : World) : Prop := ∃ t, okT t ∧ validT t = true ∧ e = .returned (tv t) ∧ Ext w w'
end Go.Proofs.YtpdoddelnahlnaaDoor
