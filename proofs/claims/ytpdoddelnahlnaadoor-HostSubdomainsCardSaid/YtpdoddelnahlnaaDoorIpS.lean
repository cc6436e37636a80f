/-
  Contract of the reference's Split.
-/
import Derived.Test.YtpdoddelnahlnaaDoorProg
import Derived.Test.YtpdoddelnahlnaaDoorHeap
import Derived.Test.YtpdoddelnahlnaaDoorIpSpec
import Derived.Handy
import Derived.Laws.AppendOwn
import Derived.Laws.OwnMore
import Derived.WalkSmall
set_option linter.unusedSimpArgs false
set_option linter.unusedVariables false
namespace Go.Proofs.YtpdoddelnahlnaaDoor
open Go.RowKit

theorem splitc_at (c : UInt8) (l : List UInt8) (f k : Nat) (hf : f ≤ k) (hk : k < l.length) (hn : ∀ j, f ≤ j → j < k → l.getD j 0 ≠ c) (hc : l.getD k 0 = c) :
    splitc c (l.drop f) = (l.drop f).take (k - f) :: splitc c (l.drop (k + 1)) := by
  have e : l.drop f = (l.drop f).take (k - f) ++ c :: l.drop (k + 1) := by
    rw [List.getD_eq_getElem?_getD, List.getElem?_eq_getElem hk, Option.getD_some] at hc
    rw [← hc, ← List.drop_eq_getElem_cons hk]
    have : l.drop k = (l.drop f).drop (k - f) := by rw [List.drop_drop]; congr 1; omega
    rw [this, List.take_append_drop]
  conv => lhs; rw [e]
  refine splitc_hit _ fun x hx e => ?_
  obtain ⟨j, hj, e2⟩ := List.mem_iff_getElem.1 hx
  rw [List.getElem_take, List.getElem_drop] at e2
  simp at hj
  refine hn (f + j) (by omega) (by omega) ?_
  rw [List.getD_eq_getElem?_getD, List.getElem?_eq_getElem (by omega), Option.getD_some, e2, e]
theorem splitc_end (c : UInt8) (l : List UInt8) (f : Nat) (hn : ∀ j, f ≤ j → j < l.length → l.getD j 0 ≠ c) : splitc c (l.drop f) = [l.drop f] := by
  refine splitc_none fun x hx e => ?_
  obtain ⟨j, hj, e2⟩ := List.mem_iff_getElem.1 hx
  rw [List.getElem_drop] at e2
  simp at hj
  refine hn (f + j) (by omega) (by omega) ?_
  rw [List.getD_eq_getElem?_getD, List.getElem?_eq_getElem (by omega), Option.getD_some, e2, e]
theorem B_is {s : ByteArray} {k : Nat} {c : UInt8} : B s k = (c.toNat : Int) ↔ s.data.toList.getD k 0 = c := by
  unfold B
  constructor
  · intro h; exact UInt8.toNat_inj.1 (by omega)
  · intro h; rw [h]
theorem infoS : (Tryd.prog.info? 9).map (fun i => (i.zero, i.size, i.bytes)) = some (some (.string ByteArray.empty), 1, 16) := by kernel_rfl

set_option maxRecDepth 4000 in
set_option maxHeartbeats 1000000 in
theorem rSplit_any (s : ByteArray) (c : UInt8) (w : World) (hs : s.size < 4294967281) :
    Calls Tryd.prog 23 #[.string s, .int .u8 c.toNat] w fun e w' => ∃ v, e = .returned v ∧ w'.ownsRow w.heap.size 9 1 v (parts c s).length ((parts c s).map Value.string) ∧ Ext w w' := by
  obtain ⟨i0, hi, hz0, hz1, hz2⟩ := info_parts infoS
  have HI := Lib.hid hi; have HZ0 := Lib.hid hz0; have HZ1 := Lib.hid hz1; have HZ2 := Lib.hid hz2
  clear hi hz0 hz1 hz2
  go_enter Tryd.func23, Tryd.ntmps23
  go_wp2_with fail
  go_loopw [5, 6, 7] (fun v f i wr => ∃ (k m : Nat) (ps : List ByteArray), k ≤ s.size ∧ m ≤ k ∧ ps.length ≤ m ∧ i = .int .i64 k ∧ f = .int .i64 m ∧ wr.ownsRow w.heap.size 9 1 v ps.length (ps.map Value.string) ∧ Ext w wr ∧
    parts c s = ps ++ parts c (s.extract m s.size) ∧ ∀ j, m ≤ j → j < k → B s j ≠ (c.toNat : Int)) (fun _ _ i _ => s.size - (intOf i).toNat)
  case atStart => exact ⟨0, 0, [], Nat.zero_le _, Nat.le_refl _, Nat.le_refl _, rfl, rfl, World.ownsRow_nil _ _ _ _, Ext.refl _, by rw [List.nil_append]; congr 1; exact BA_ext (by rw [data_extract, List.drop_zero, List.take_of_length_le (by rw [size_list]; exact Nat.le_refl _)]), fun j h1 h2 => by omega⟩
  case round =>
    obtain ⟨k, m, ps, hk, hm, hpl, rfl, rfl, hown, hx, hp, hn⟩ := hrel
    have hsz := hx.size
    have Hp := Lib.hid hp; have Hn := Lib.hid hn; clear hp hn
    have hml : (m : Int) ≤ s.size := by omega
    by_cases hlt : k < s.size
    · have hlt' : (k : Int) < s.size := by omega
      by_cases he : B s k = (c.toNat : Int)
      · have he' : (B s k == (c.toNat : Int)) = true := by rw [beq_iff_eq]; exact he
        have HE := Lib.hid he; clear he
        have Hx := Lib.hid hx; clear hx
        go_wp2_with (at_builtin; refine wpList_append_own _ rfl _ _ 45 rfl w.heap.size 9 i0 (.string ByteArray.empty) 1 16 Tryd.underlying45 HI.out HZ0.out HZ1.out HZ2.out rfl (by decide) _ _ _ rfl (hown.alloc _) ⟨wr.heap.size, 0, none⟩ 1 1 [.string (s.extract m k)] rfl rfl ?c1 ?c2 ?c3 ?c4 ?c5 ?_)
        first
          | (case c1 =>
              intro j u hj
              have B1 := Blk.new wr #[Value.string (s.extract m k)] 9
              have e1 : (⟨wr.heap.size, 0, none⟩ : Addr).add j = ⟨wr.heap.size, j, none⟩ := by unfold Addr.add; split <;> simp_all
              rw [e1]
              exact B1.cell hj)
          | skip
        case c2 => simp [Value.oneCell']
        case c3 => unfold maxLen; omega
        case c4 => omega
        case c5 => first | omega | (rw [World.size_alloc]; omega) | (simp; omega)
        intro v' w1 hown' hgrow _
        have Ho' := Lib.hid hown'; clear hown'
        have Hg := Lib.hid hgrow; clear hgrow
        have hlt2 := hown.lt
        have Hl := Lib.hid hlt2; clear hlt2
        have Ho := Lib.hid hown; clear hown
        go_wp2_with fail
        go_roundw
        case rel =>
          refine ⟨k + 1, k + 1, ps ++ [s.extract m k], by omega, by omega, by simp; omega, by go_num, by go_num, ?_, ?_, ?_, fun j h1 h2 => by omega⟩
          · rw [List.length_append, List.map_append]; exact Ho'.out
          · exact Ext.grown (Hx.out.alloc _) Hg.out (fun g hg => (Hl.out g hg).1)
          · rw [Hp.out, List.append_assoc]; congr 1
            have hl := size_list s
            have := splitc_at c s.data.toList m k hm (by omega) (fun j h1 h2 e => Hn.out j h1 h2 (B_is.2 e)) (B_is.1 HE.out)
            unfold parts
            rw [data_extract, data_extract, List.take_of_length_le (by omega), this]
            simp only [List.map_cons, List.singleton_append]
            congr 1
            exact BA_ext (by rw [data_extract, List.drop_take])
        case measure => simp [intOf]; omega
      · have he' : (B s k == (c.toNat : Int)) = false := by rw [beq_eq_false_iff_ne]; exact he
        have HE := Lib.hid he; clear he
        have Hx := Lib.hid hx; clear hx
        have Ho := Lib.hid hown; clear hown
        go_wp2_with fail
        go_roundw
        case rel => exact ⟨k + 1, m, ps, by omega, by omega, hpl, by go_num, rfl, Ho.out, Hx.out, Hp.out, fun j h1 h2 => by
          by_cases h : j = k
          · subst h; exact HE.out
          · exact Hn.out j h1 (by omega)⟩
        case measure => simp [intOf]; omega
    · obtain rfl : k = s.size := by omega
      have hlt' : ¬ ((s.size : Nat) : Int) < s.size := by omega
      have Hx := Lib.hid hx; clear hx
      go_wp2_with (at_builtin; refine wpList_append_own _ rfl _ _ 45 rfl w.heap.size 9 i0 (.string ByteArray.empty) 1 16 Tryd.underlying45 HI.out HZ0.out HZ1.out HZ2.out rfl (by decide) _ _ _ rfl (hown.alloc _) ⟨wr.heap.size, 0, none⟩ 1 1 [.string (s.extract m s.size)] rfl rfl ?c1 ?c2 ?c3 ?c4 ?c5 ?_)
      first
        | (case c1 =>
            intro j u hj
            have B1 := Blk.new wr #[Value.string (s.extract m s.size)] 9
            have e1 : (⟨wr.heap.size, 0, none⟩ : Addr).add j = ⟨wr.heap.size, j, none⟩ := by unfold Addr.add; split <;> simp_all
            rw [e1]
            exact B1.cell hj)
        | skip
      case c2 => simp [Value.oneCell']
      case c3 => unfold maxLen; omega
      case c4 => omega
      case c5 => first | omega | (rw [World.size_alloc]; omega) | (simp; omega)
      intro v' w1 hown' hgrow _
      have Ho' := Lib.hid hown'; clear hown'
      have Hg := Lib.hid hgrow; clear hgrow
      have hlt2 := hown.lt
      have Hl := Lib.hid hlt2; clear hlt2
      have Ho := Lib.hid hown; clear hown
      go_wp2_with fail
      go_ret
      have e : parts c s = ps ++ [s.extract m s.size] := by
        rw [Hp.out]; congr 1
        have hl := size_list s
        have := splitc_end c s.data.toList m (fun j h1 h2 e => Hn.out j h1 (by omega) (B_is.2 e))
        unfold parts
        rw [data_extract, List.take_of_length_le (by omega), this]
        simp only [List.map_cons, List.map_nil]
        congr 1
        exact BA_ext (by rw [data_extract, List.take_of_length_le (by omega)])
      refine ⟨_, rfl, ?_, Ext.grown (Hx.out.alloc _) Hg.out (fun g hg => (Hl.out g hg).1)⟩
      rw [e, List.length_append, List.map_append]; exact Ho'.out
end Go.Proofs.YtpdoddelnahlnaaDoor
