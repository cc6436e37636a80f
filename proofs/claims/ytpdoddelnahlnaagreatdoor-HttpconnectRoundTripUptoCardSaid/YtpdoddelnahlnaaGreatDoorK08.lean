/-
  Several texts joined: HbE.
-/
import Derived.Test.YtpdoddelnahlnaaGreatDoorK07
import Derived.Test.YtpdoddelnahlnaaGreatDoorK04
/-
  Contract of basicauth.EncodeBase64.
-/
set_option linter.unusedSimpArgs false
set_option linter.unusedVariables false
namespace Go.Proofs.YtpdoddelnahlnaaGreatDoor
open Go.RowKit Go.Joins
def strLen : Value → Nat
  | .string z => z.size
  | _ => 0
theorem or_v {v x : Int} (h0 : 0 ≤ v) (h1 : v < 65536) (x0 : 0 ≤ x) (x1 : x < 256) : bits BinOp.or IntKind.i64 (v * 256) x = v * 256 + x :=
  bits_join .i64 24 (by decide) (fun n a b => IntWalk.i64_in _ (by omega)) 8 _ _ (by omega) (by omega) (by omega) x0 x1 (by omega)
theorem and_63 {v : Int} (h0 : 0 ≤ v) (h1 : v < 16777216) : bits BinOp.and IntKind.i64 v 63 = v % 64 := by
  have := bits_mask .i64 24 (by decide) (fun n a b => IntWalk.i64_in _ (by omega)) 6 (by decide) v h0 (by omega)
  simpa using this
theorem alpha_at : ∀ r : Fin 64, B ⟨#[65, 66, 67, 68, 69, 70, 71, 72, 73, 74, 75, 76, 77, 78, 79, 80, 81, 82, 83, 84, 85, 86, 87, 88, 89, 90, 97, 98, 99, 100, 101, 102, 103, 104, 105, 106, 107, 108, 109, 110, 111, 112, 113, 114, 115, 116, 117, 118, 119, 120, 121, 122, 48, 49, 50, 51, 52, 53, 54, 55, 56, 57, 43, 47]⟩ r.1 = ((alpha.getD r.1 0).toNat : Int) := by decide
set_option maxRecDepth 4000 in
set_option maxHeartbeats 4000000 in
theorem enc_any (s : ByteArray) (hs : s.size ≤ 17592186044416) (w : World) : Calls Tryz.prog 87 #[.string s] w fun e w' => e = .returned (.string (encB s)) ∧ Ext w w' := by
  obtain ⟨i0, hi, hz0, hz1, hz2⟩ := info_parts info8
  have HI := Lib.hid hi; have HZ0 := Lib.hid hz0; have HZ1 := Lib.hid hz1; have HZ2 := Lib.hid hz2
  clear hi hz0 hz1 hz2
  go_enter Tryz.func87, Tryz.ntmps87
  go_wp2_with fail
  go_loopw [0, 3] (fun zs v wr => ∃ (z : ByteArray) (out : List UInt8), z.size ≤ s.size ∧ zs = .string z ∧ wr.ownsRow w.heap.size 5 1 v out.length (bcells out) ∧ Ext w wr ∧ out.length ≤ (s.size - z.size) * 4 ∧ encL s.data.toList = out ++ encL z.data.toList) (fun zs _ _ => strLen zs)
  case atStart => exact ⟨s, [], Nat.le_refl _, rfl, World.ownsRow_nil _ _ _ _, Ext.refl _, Nat.zero_le _, rfl⟩
  case round =>
    obtain ⟨z, out, hz, rfl, hown, hx, hol, hr⟩ := hrel
    have HR := Lib.hid hr; clear hr
    obtain ⟨va, vc, rfl⟩ := own_sliceX hown
    by_cases h0 : (z.size : Int) < 1
    · have hown2 := hown
      have hcv := own_str (P := Tryz.prog) hown2 Tryz.underlying22 Tryz.underlying5 Tryz.underlying9
      have E : Hid (encB s = txt out) := Lib.hid (by
        have e : z.data.toList = [] := List.eq_nil_of_length_eq_zero (by rw [← size_list]; omega)
        unfold encB; rw [HR.out, e]; show txt (out ++ []) = _; rw [List.append_nil])
      have HOW := Lib.hid hown; clear hown hown2
      have h0' : ¬ (0 : Int) < z.size := by omega
      clear h0
      go_wp2_with fail
      go_ret
      exact ⟨by rw [E.out]; rfl, hx⟩
    · obtain ⟨n, hn⟩ : ∃ n : Nat, n = min z.size 3 := ⟨_, rfl⟩
      have hn0 : n ≤ z.size := by omega
      have hn3 : n ≤ 3 := by omega
      have hn1 : 1 ≤ n := by omega
      have hmin : min (z.size : Int) 3 = n := by omega
      have HST := Lib.hid (encB_step (z := z) (n := n) (by omega) hn)
      have h0' : (0 : Int) < z.size := by omega
      have HOW := Lib.hid hown
      clear h0 hn hown
      go_wp2_with fail
      go_loop [5, 14] (fun v c => ∃ k : Nat, k ≤ 3 ∧ c = .int .i64 k ∧ v = .int .i64 (vacc z n k)) (fun _ c => 3 - (intOf c).toNat)
      case atStart => exact ⟨0, Nat.zero_le _, rfl, rfl⟩
      case round =>
        obtain ⟨k, hk, rfl, rfl⟩ := hrel
        have hvb := vacc_bd z n k
        have bk := B_bd z k
        by_cases hk3 : k < 3
        · have hk3' : (k : Int) < 3 := by omega
          have hpw : (256 : Int) ^ k ≤ 65536 := by
            have : k = 0 ∨ k = 1 ∨ k = 2 := by omega
            rcases this with h | h | h <;> subst h <;> decide
          have v0 := hvb.1
          have v1 : vacc z n k < 65536 := by omega
          clear hvb hpw
          by_cases hkn : k < n
          · have hkn' : (k : Int) < n := by omega
            have hkz : (k : Int) < z.size := by omega
            have E1 : Hid (vacc z n (k + 1) = vacc z n k * 256 + B z k) := Lib.hid (by rw [vacc, if_pos hkn])
            have hor := or_v v0 v1 bk.1 bk.2
            generalize vacc z n k = V at *
            go_wp2_with fail
            go_round
            case rel => exact ⟨k + 1, by omega, by go_num, by rw [E1.out]⟩
            case measure => simp [intOf]; omega
          · have hkn' : ¬ (k : Int) < n := by omega
            have E1 : Hid (vacc z n (k + 1) = vacc z n k * 256) := Lib.hid (by rw [vacc, if_neg hkn]; omega)
            generalize vacc z n k = V at *
            go_wp2_with fail
            go_round
            case rel => exact ⟨k + 1, by omega, by go_num, by rw [E1.out]⟩
            case measure => simp [intOf]; omega
        · obtain rfl : k = 3 := by omega
          have v0 := hvb.1
          have v1 : vacc z n 3 < 16777216 := by have := hvb.2; rw [show (256 : Int) ^ 3 = 16777216 by decide] at this; exact this
          clear hvb hk3 hk
          generalize vacc z n 3 = V at *
          go_wp2_with fail
          go_loopw [3, 29] (fun v c wr => ∃ i : Nat, i ≤ 4 ∧ c = .int .i64 i ∧ wr.ownsRow w.heap.size 5 1 v (out ++ qto V n i).length (bcells (out ++ qto V n i)) ∧ Ext w wr) (fun _ c _ => 4 - (intOf c).toNat)
          case atStart => exact ⟨0, Nat.zero_le _, rfl, by rw [qto, List.append_nil]; exact HOW.out, hx⟩
          clear HOW hx
          case round =>
            obtain ⟨i, hi, rfl, hown, hx⟩ := hrel
            obtain ⟨vb, vd, rfl⟩ := own_sliceX hown
            have hlq : (out ++ qto V n i).length ≤ out.length + 4 := by rw [List.length_append, qto_len]; omega
            have hsz := hx.size
            by_cases hi4 : i = 4
            · have HF : Hid (encL s.data.toList = (out ++ qto V n i) ++ encL (z.extract n z.size).data.toList) := Lib.hid (by rw [hi4, List.append_assoc, ← HST.out]; exact HR.out)
              have hez : (z.extract n z.size).size = z.size - n := by rw [ByteArray.size_extract]; omega
              have hi4' : ¬ (i : Int) < 4 := by omega
              have HOW := Lib.hid hown
              clear hown hi4
              generalize out ++ qto V n i = out2 at *
              go_wp2_with fail
              go_roundw
              case rel => exact ⟨_, out2, by rw [hez]; omega, rfl, HOW.out, hx, by rw [hez]; omega, HF.out⟩
              case measure => simp [strLen, hez]; omega
            · have hi4' : (i : Int) < 4 := by omega
              by_cases hin : i ≤ n
              · have hin' : (i : Int) ≤ n := by omega
                obtain ⟨r, hr⟩ : ∃ r : Nat, V / 2 ^ (6 * (3 - i)) % 64 = r := ⟨(V / 2 ^ (6 * (3 - i)) % 64).toNat, by omega⟩
                have hr64 : r < 64 := by omega
                have HQ : Hid (out ++ qto V n (i + 1) = (out ++ qto V n i) ++ [alpha.getD r 0]) := Lib.hid (by rw [qto, if_pos hin, hr, List.append_assoc]; rfl)
                have hat := alpha_at ⟨r, hr64⟩
                simp only at hat
                have hrr : (r : Int) < 64 := by omega
                generalize alpha.getD r 0 = ch at *
                generalize out ++ qto V n i = out2 at *
                have hi03 : i = 0 ∨ i = 1 ∨ i = 2 ∨ i = 3 := by omega
                rcases hi03 with h | h | h | h
                · subst h
                  have hd0 : 0 ≤ (V / 262144) := by omega
                  have hd1 : (V / 262144) < 16777216 := by omega
                  have hand := and_63 hd0 hd1
                  rw [show (V / 262144) % 64 = (r : Int) from (by simpa using hr)] at hand
                  clear hr hd0 hd1
                  go_wp2_with (at_builtin; refine wpList_append_own _ rfl _ _ 22 rfl w.heap.size 5 i0 (.int .u8 0) 1 1 Tryz.underlying22 HI.out HZ0.out HZ1.out HZ2.out rfl (by decide) _ _ _ rfl (hown.alloc _) ⟨wr.heap.size, 0, none⟩ 1 1 [(.int .u8 ch.toNat)] rfl rfl ?c1 ?c2 ?c3 ?c4 ?c5 ?_)
                  first
                    | (case c1 =>
                        intro j u hj
                        have B1 := Blk.new wr #[(.int .u8 ch.toNat)] 5
                        have e1 : (⟨wr.heap.size, 0, none⟩ : Addr).add j = ⟨wr.heap.size, j, none⟩ := by unfold Addr.add; split <;> simp_all
                        rw [e1]
                        exact B1.cell hj)
                    | skip
                  case c2 => simp [Value.oneCell']
                  case c3 => unfold maxLen; omega
                  case c4 => omega
                  case c5 => first | omega | (rw [World.size_alloc]; omega)
                  intro v' w7 hown' hgrow _
                  have hlv := hown.lt
                  have hx7 : Ext w w7 := Ext.grown (hx.alloc _) hgrow (fun g hg => (hlv g hg).1)
                  obtain ⟨ve, vf, rfl⟩ := own_sliceX hown'
                  have HO7 : Hid (w7.ownsRow w.heap.size 5 1 (.slice ve (out2.length + 1) vf) (out2 ++ [(ch : UInt8)]).length (bcells (out2 ++ [(ch : UInt8)]))) := Lib.hid (by rw [List.length_append, bcells_app]; exact hown')
                  clear hown' hown hgrow hx
                  go_wp2_with fail
                  go_roundw
                  case rel => exact ⟨1, by omega, by go_num, by rw [HQ.out]; exact HO7.out, hx7⟩
                  case measure => simp [intOf]
                · subst h
                  have hd0 : 0 ≤ (V / 4096) := by omega
                  have hd1 : (V / 4096) < 16777216 := by omega
                  have hand := and_63 hd0 hd1
                  rw [show (V / 4096) % 64 = (r : Int) from (by simpa using hr)] at hand
                  clear hr hd0 hd1
                  go_wp2_with (at_builtin; refine wpList_append_own _ rfl _ _ 22 rfl w.heap.size 5 i0 (.int .u8 0) 1 1 Tryz.underlying22 HI.out HZ0.out HZ1.out HZ2.out rfl (by decide) _ _ _ rfl (hown.alloc _) ⟨wr.heap.size, 0, none⟩ 1 1 [(.int .u8 ch.toNat)] rfl rfl ?c1 ?c2 ?c3 ?c4 ?c5 ?_)
                  first
                    | (case c1 =>
                        intro j u hj
                        have B1 := Blk.new wr #[(.int .u8 ch.toNat)] 5
                        have e1 : (⟨wr.heap.size, 0, none⟩ : Addr).add j = ⟨wr.heap.size, j, none⟩ := by unfold Addr.add; split <;> simp_all
                        rw [e1]
                        exact B1.cell hj)
                    | skip
                  case c2 => simp [Value.oneCell']
                  case c3 => unfold maxLen; omega
                  case c4 => omega
                  case c5 => first | omega | (rw [World.size_alloc]; omega)
                  intro v' w7 hown' hgrow _
                  have hlv := hown.lt
                  have hx7 : Ext w w7 := Ext.grown (hx.alloc _) hgrow (fun g hg => (hlv g hg).1)
                  obtain ⟨ve, vf, rfl⟩ := own_sliceX hown'
                  have HO7 : Hid (w7.ownsRow w.heap.size 5 1 (.slice ve (out2.length + 1) vf) (out2 ++ [(ch : UInt8)]).length (bcells (out2 ++ [(ch : UInt8)]))) := Lib.hid (by rw [List.length_append, bcells_app]; exact hown')
                  clear hown' hown hgrow hx
                  go_wp2_with fail
                  go_roundw
                  case rel => exact ⟨2, by omega, by go_num, by rw [HQ.out]; exact HO7.out, hx7⟩
                  case measure => simp [intOf]
                · subst h
                  have hd0 : 0 ≤ (V / 64) := by omega
                  have hd1 : (V / 64) < 16777216 := by omega
                  have hand := and_63 hd0 hd1
                  rw [show (V / 64) % 64 = (r : Int) from (by simpa using hr)] at hand
                  clear hr hd0 hd1
                  go_wp2_with (at_builtin; refine wpList_append_own _ rfl _ _ 22 rfl w.heap.size 5 i0 (.int .u8 0) 1 1 Tryz.underlying22 HI.out HZ0.out HZ1.out HZ2.out rfl (by decide) _ _ _ rfl (hown.alloc _) ⟨wr.heap.size, 0, none⟩ 1 1 [(.int .u8 ch.toNat)] rfl rfl ?c1 ?c2 ?c3 ?c4 ?c5 ?_)
                  first
                    | (case c1 =>
                        intro j u hj
                        have B1 := Blk.new wr #[(.int .u8 ch.toNat)] 5
                        have e1 : (⟨wr.heap.size, 0, none⟩ : Addr).add j = ⟨wr.heap.size, j, none⟩ := by unfold Addr.add; split <;> simp_all
                        rw [e1]
                        exact B1.cell hj)
                    | skip
                  case c2 => simp [Value.oneCell']
                  case c3 => unfold maxLen; omega
                  case c4 => omega
                  case c5 => first | omega | (rw [World.size_alloc]; omega)
                  intro v' w7 hown' hgrow _
                  have hlv := hown.lt
                  have hx7 : Ext w w7 := Ext.grown (hx.alloc _) hgrow (fun g hg => (hlv g hg).1)
                  obtain ⟨ve, vf, rfl⟩ := own_sliceX hown'
                  have HO7 : Hid (w7.ownsRow w.heap.size 5 1 (.slice ve (out2.length + 1) vf) (out2 ++ [(ch : UInt8)]).length (bcells (out2 ++ [(ch : UInt8)]))) := Lib.hid (by rw [List.length_append, bcells_app]; exact hown')
                  clear hown' hown hgrow hx
                  go_wp2_with fail
                  go_roundw
                  case rel => exact ⟨3, by omega, by go_num, by rw [HQ.out]; exact HO7.out, hx7⟩
                  case measure => simp [intOf]
                · subst h
                  have hd0 : 0 ≤ V := by omega
                  have hd1 : V < 16777216 := by omega
                  have hand := and_63 hd0 hd1
                  rw [show V % 64 = (r : Int) from (by simpa using hr)] at hand
                  clear hr hd0 hd1
                  go_wp2_with (at_builtin; refine wpList_append_own _ rfl _ _ 22 rfl w.heap.size 5 i0 (.int .u8 0) 1 1 Tryz.underlying22 HI.out HZ0.out HZ1.out HZ2.out rfl (by decide) _ _ _ rfl (hown.alloc _) ⟨wr.heap.size, 0, none⟩ 1 1 [(.int .u8 ch.toNat)] rfl rfl ?c1 ?c2 ?c3 ?c4 ?c5 ?_)
                  first
                    | (case c1 =>
                        intro j u hj
                        have B1 := Blk.new wr #[(.int .u8 ch.toNat)] 5
                        have e1 : (⟨wr.heap.size, 0, none⟩ : Addr).add j = ⟨wr.heap.size, j, none⟩ := by unfold Addr.add; split <;> simp_all
                        rw [e1]
                        exact B1.cell hj)
                    | skip
                  case c2 => simp [Value.oneCell']
                  case c3 => unfold maxLen; omega
                  case c4 => omega
                  case c5 => first | omega | (rw [World.size_alloc]; omega)
                  intro v' w7 hown' hgrow _
                  have hlv := hown.lt
                  have hx7 : Ext w w7 := Ext.grown (hx.alloc _) hgrow (fun g hg => (hlv g hg).1)
                  obtain ⟨ve, vf, rfl⟩ := own_sliceX hown'
                  have HO7 : Hid (w7.ownsRow w.heap.size 5 1 (.slice ve (out2.length + 1) vf) (out2 ++ [(ch : UInt8)]).length (bcells (out2 ++ [(ch : UInt8)]))) := Lib.hid (by rw [List.length_append, bcells_app]; exact hown')
                  clear hown' hown hgrow hx
                  go_wp2_with fail
                  go_roundw
                  case rel => exact ⟨4, by omega, by go_num, by rw [HQ.out]; exact HO7.out, hx7⟩
                  case measure => simp [intOf]
              · have hin' : ¬ (i : Int) ≤ n := by omega
                have HQ : Hid (out ++ qto V n (i + 1) = (out ++ qto V n i) ++ [61]) := Lib.hid (by rw [qto, if_neg hin, List.append_assoc])
                generalize out ++ qto V n i = out2 at *
                go_wp2_with (at_builtin; refine wpList_append_own _ rfl _ _ 22 rfl w.heap.size 5 i0 (.int .u8 0) 1 1 Tryz.underlying22 HI.out HZ0.out HZ1.out HZ2.out rfl (by decide) _ _ _ rfl (hown.alloc _) ⟨wr.heap.size, 0, none⟩ 1 1 [(.int .u8 61)] rfl rfl ?c1 ?c2 ?c3 ?c4 ?c5 ?_)
                first
                  | (case c1 =>
                      intro j u hj
                      have B1 := Blk.new wr #[(.int .u8 61)] 5
                      have e1 : (⟨wr.heap.size, 0, none⟩ : Addr).add j = ⟨wr.heap.size, j, none⟩ := by unfold Addr.add; split <;> simp_all
                      rw [e1]
                      exact B1.cell hj)
                  | skip
                case c2 => simp [Value.oneCell']
                case c3 => unfold maxLen; omega
                case c4 => omega
                case c5 => first | omega | (rw [World.size_alloc]; omega)
                intro v' w7 hown' hgrow _
                have hlv := hown.lt
                have hx7 : Ext w w7 := Ext.grown (hx.alloc _) hgrow (fun g hg => (hlv g hg).1)
                obtain ⟨ve, vf, rfl⟩ := own_sliceX hown'
                have HO7 : Hid (w7.ownsRow w.heap.size 5 1 (.slice ve (out2.length + 1) vf) (out2 ++ [(61 : UInt8)]).length (bcells (out2 ++ [(61 : UInt8)]))) := Lib.hid (by rw [List.length_append, bcells_app]; exact hown')
                clear hown' hown hgrow hx
                go_wp2_with fail
                go_roundw
                case rel => exact ⟨i + 1, by omega, by go_num, by rw [HQ.out]; exact HO7.out, hx7⟩
                case measure => simp [intOf]; omega
end Go.Proofs.YtpdoddelnahlnaaGreatDoor
