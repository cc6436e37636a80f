/-
  Contract of the reference's Format.
-/
import Derived.Test.YtpdoddelnahlnaaDoorIpR
import Derived.Test.YtpdoddelnahlnaaDoorIpRt
set_option linter.unusedSimpArgs false
set_option linter.unusedVariables false
namespace Go.Proofs.YtpdoddelnahlnaaDoor
open Go.RowKit

def LC (F M : Int) (i : Nat) (pr : List UInt8) : Prop := (i = 0 ∧ pr = []) ∨ (0 < i ∧ ∃ l c, pr = l ++ [c] ∧ (c = 58 ↔ (i : Int) = F + M))
theorem hexT_snoc (n : Nat) : ∃ l c, hexT n = l ++ [c] ∧ c ≠ 58 := by
  by_cases h : n < 16
  · exact ⟨[], hexc n, by rw [hexT_small h]; rfl, (hexc_chr ⟨n, h⟩).2.1⟩
  · exact ⟨hexT (n / 16), hexc (n % 16), by rw [hexT_big h], (hexc_chr ⟨n % 16, by omega⟩).2.1⟩
theorem LC_hex {F M : Int} {i : Nat} (pr : List UInt8) (n : Nat) (h : ((i + 1 : Nat) : Int) ≠ F + M) : LC F M (i + 1) (pr ++ hexT n) := by
  obtain ⟨l, c, e, hc⟩ := hexT_snoc n
  exact .inr ⟨by omega, pr ++ l, c, by rw [e, List.append_assoc], ⟨fun h' => absurd h' hc, fun h' => absurd h' h⟩⟩
set_option maxRecDepth 8000 in
set_option maxHeartbeats 4000000 in
theorem format_bad (a : Adr) (ha : okA a) (hv : validA a = false) (w : World) :
    Calls Tryd.prog 35 #[av a] w fun e w' => e = .returned (.string (txt (fmtA a))) ∧ Ext w w' := by
  have hfm : fmtA a = [] := by unfold fmtA; rw [hv]; rfl
  have HFM := Lib.hid hfm; clear hfm
  have hcall := fun w => valid_any a ha w
  rw [hv] at hcall
  have HC := Lib.hid hcall; clear hcall
  unfold av
  go_enter Tryd.func35, Tryd.ntmps35
  go_upto_region 1 with fail
  have hx := (Ext.refl w).alloc (.cells (ac a) 37)
  have hb := ABox.new ha w
  generalize hwq : w.alloc (.cells (ac a) 37) = w0 at *
  clear hwq
  go_wp2_with (first | refine wpList_load_A rfl _ rfl ha hb.blk rfl ?_ | (go_at_call 36; refine (HC.out _).mono ?_; rintro e w1 ⟨rfl, hx1⟩; refine Hid.out ?_))
  refine Lib.hid ?_
  go_wp2_with fail
  go_ret
  exact ⟨by rw [HFM.out]; rfl, hx.trans hx1⟩
theorem formatA_any (a : Adr) (ha : okA a) (w : World) (htabs : Tabs w) :
    Calls Tryd.prog 35 #[av a] w fun e w' => e = .returned (.string (txt (fmtA a))) ∧ Ext w w' := by
  cases hv : validA a with
  | false => exact format_bad a ha hv w
  | true => exact format_any a ha hv w htabs
end Go.Proofs.YtpdoddelnahlnaaDoor
