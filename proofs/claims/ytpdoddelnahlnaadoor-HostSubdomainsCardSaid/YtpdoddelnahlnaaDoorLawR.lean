/-
  From a contract 'returns true and changes nothing that was there' to the row of a law that lists the library's tables.
-/
import Derived.Test.YtpdoddelnahlnaaDoorLaw
import Derived.Deep.DeepHandedRow
import Derived.Lib.LaidTab
import Derived.Test.YtpdoddelnahlnaaDoorIpFm
import Derived.Test.YtpdoddelnahlnaaDoorIpQ
namespace Go.Proofs.YtpdoddelnahlnaaDoor
open Go.ChangeShapes Go.WideShapes Go.ChangeAt Go.RowKit

theorem law_liftedR {C : Checked} {os : Os} {H : Type} {enc : TypeId × Value → H} (own : ownKnob C.prog.godebug = none) (hl : laidOutB C.prog = true) (started : os.Started)
    {f : FuncId} {fn : Func} (s : ChangeSpec) (so : OpenSpec) (hso : ∃ c, so = { OpenSpec.ofChange s with cond := c }) {F : Stop.Interp} {laid : List (String × DataW Unit)} (noInit : C.prog.inits.idxOf? f = none) (hfn : C.prog.funcs[f]? = some fn)
    (hsv : s.vars = []) (tb : TypeId) (hres : fn.resultTypes = #[tb]) (htb : C.prog.underlying tb = some .bool)
    (hread : fn.params.toList.all (fun t => C.prog.readableRec t && decide (t < C.prog.types.size)) = true)
    (n : Nat) (hn : fn.params.size = n)
    (hspec : ∀ ds : List (DataW H), ds.length = n → s.fn H ds = { results := [.lit (.bool true)], args := ds })
    (witness : ∃ (w : World) (tape : Tape) (i : Input), w.os = os ∧ (w.forCall tape i).Shaped C.prog ∧ i.vars = [] ∧ Input.okWide C.prog (w.forCall tape i) .any w.heap.size f i ∧
      so.preRow enc C.prog fn [] false laid (w.forCall tape i).memory i.args ∧ (({} : Assume)).holds C.prog (lone (Frame.enter C.prog f i.args .normal) [] (w.forCall tape i)))
    (contract : ∀ (W : World) (base : Nat) (args : List Value) (ds : List (DataW H)) (ps : List MemPlace),
      (∀ (j : Nat) t v, fn.params[j]? = some t → args[j]? = some v → Value.okWide C.prog W .any base t v) →
      DataW.TrodAll enc C.prog W 0 (fun _ => true) true fn.params.toList args ds ps →
      (DataW.weightsEach C.prog fn.params.toList ds).all (· ≤ reachBytes) = true →
      (∀ k, so.cond = some k → k H (ds ++ []) = true) →
      laidMetH C.prog laid W → W.ShapedOpen C.prog →
      Calls C.prog f args.toArray W fun e W' => e = .returned (.bool true) ∧ Below W.heap.size W W') :
    ReturnsInHanded {} C os f .any (so.preRow enc C.prog fn [] false laid) ((so.at F).post enc C.prog fn false true false false) := by
  obtain ⟨c, rfl⟩ := hso
  refine returnsInHanded_of_row own started noInit hfn witness ?_
  intro W base args ds gs before hval hW _ hcond hsz hL hsh _
  have hW' := hW
  obtain ⟨p, q, hA, hV, rfl, hfz, hnd⟩ := hW
  have hV2 : DataW.TrodVars enc C.prog W (fun _ => true) s.vars gs q := hV
  rw [hsv] at hV2
  obtain ⟨rfl, rfl⟩ := trodVars_none hV2
  have hlen : ∀ (ts : List TypeId) (vs : List Value) (ds : List (DataW H)) (ps : List MemPlace), DataW.TrodAll enc C.prog W 0 (fun _ => true) true ts vs ds ps → ds.length = ts.length := by
    intro ts
    induction ts with
    | nil => intro vs ds ps h; obtain ⟨_, rfl, _⟩ := trodAll_nil h; rfl
    | cons t ts ih => intro vs ds ps h; obtain ⟨v, vs', d, ds', p, q, rfl, rfl, rfl, h1, h2⟩ := trodAll_cons h; simp [ih _ _ _ h2]
  have hl2 := hlen _ _ _ _ hA
  have hsp := hspec ds (by rw [hl2]; simpa using hn)
  have hsz' : (DataW.weightsEach C.prog fn.params.toList ds).all (· ≤ reachBytes) = true := by
    have e : ∀ k, DataSpec.varTypes C.prog (({ OpenSpec.ofChange s with cond := k } : OpenSpec).bare.plain) = [] := fun k => by
      unfold DataSpec.varTypes; show s.vars.filterMap _ = []; rw [hsv]; rfl
    rw [e] at hsz
    simpa using hsz
  have hc := contract W base args.toList ds p (fun j t v h1 h2 => hval j t v h1 (by simpa using h2)) hA hsz' (fun k hk => hcond k hk) hL hsh
  rw [Array.toArray_toList] at hc
  refine hc.mono fun e W' ⟨he, bel⟩ => ?_
  subst he
  have hW2 : DataW.Whole enc C.prog fn.params.toList s.vars false W args.toList ds [] (p ++ []) := hW'
  refine ⟨_, rfl, ds, [], _, [], p, [], hW', ?_, ?_, ?_, bel.frame _, fun h => by cases h⟩
  · rw [List.append_nil]
    show DataW.TrodAll enc C.prog W' W.heap.size (fun _ => false) false fn.resultTypes.toList _ (s.fn H ds).results _
    rw [hsp, hres]; exact trodAll_mk1 (shut_bool htb _)
  · rw [List.append_nil]
    show DataW.TrodAll enc C.prog W' 0 _ true fn.params.toList _ (s.fn H ds).args _
    rw [hsp]; exact trodAll_carry hl bel _ _ _ _ hread hA
  · rw [List.append_nil]
    show DataW.TrodVars enc C.prog W' _ s.vars (s.fn H ds).vars _
    rw [hsp, hsv]; rfl
end Go.Proofs.YtpdoddelnahlnaaDoor
