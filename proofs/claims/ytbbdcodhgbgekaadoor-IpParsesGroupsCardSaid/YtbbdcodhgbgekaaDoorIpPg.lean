/-
  IpParsesGroups.
-/
import Derived.Test.YtbbdcodhgbgekaaDoorIpPe
import Derived.Test.YtbbdcodhgbgekaaDoorIpOh
import Derived.Test.YtbbdcodhgbgekaaDoorIpCmp
import Derived.Deep.CutRange
import Derived.Deep.CutBlock
set_option linter.unusedSimpArgs false
set_option linter.unusedVariables false
namespace Go.Proofs.YtbbdcodhgbgekaaDoor
open Go.RowKit

theorem GrpsIn.ext {w w' : World} {v : Value} {gs : List Int} (h : GrpsIn w v gs) (k : Ext w w') : GrpsIn w' v gs := by
  obtain ⟨a, cap, e, h1, h2, h3⟩ := h
  refine ⟨a, cap, e, h1, h2, fun hp => ?_⟩
  obtain ⟨b, off, e1, e2, e3⟩ := h3 hp
  exact ⟨b, off, e1, Nat.lt_of_lt_of_le e2 k.size, fun j x hj => by rw [k.cell (show (⟨b, off + j, none⟩ : Addr).block < _ from e2)]; exact e3 j x hj⟩
theorem u16_wrap (n : Int) : IntKind.u16.wrap n = n % 65536 := by simp [IntKind.wrap, IntKind.bits, IntKind.signed]
theorem and_u16_15 {x : Int} (h0 : 0 ≤ x) (h1 : x < 65536) : bits BinOp.and IntKind.u16 x 15 = x % 16 := by
  have := bits_mask .u16 16 (by decide) (fun n a b => by rw [u16_wrap]; omega) 4 (by decide) x h0 (by omega)
  simpa using this
theorem and_u16_255 {x : Int} (h0 : 0 ≤ x) (h1 : x < 65536) : bits BinOp.and IntKind.u16 x 255 = x % 256 := by
  have := bits_mask .u16 16 (by decide) (fun n a b => by rw [u16_wrap]; omega) 8 (by decide) x h0 (by omega)
  simpa using this

def hexU (n : Nat) : UInt8 := if n < 10 then UInt8.ofNat (48 + n) else UInt8.ofNat (55 + n)
theorem hexU_piece : ∀ r : Fin 16, (⟨#[48, 49, 50, 51, 52, 53, 54, 55, 56, 57, 65, 66, 67, 68, 69, 70]⟩ : ByteArray).extract r.1 (r.1 + 1) = txt [hexU r.1] := by decide
set_option maxRecDepth 8000 in
set_option maxHeartbeats 4000000 in
theorem IpParsesGroups_walk (v : Value) (gs : List Int) (at_ : Int) (four upper : Bool) (_ : (Lit.int .i64 at_).wf = true)
    (w : World) (henv : Env w) (htabs : Tabs w) (hv : GrpsIn w v gs) (hn : gs.length ≤ 140737488351232) :
    Calls Tryd.prog 6 #[v, .int .i64 at_, .bool four, .bool upper] w fun e w' => e = .returned (.bool true) ∧ Ext w w' := by
  have hv0 := hv
  obtain ⟨a, cap, rfl, hcap, h16, -⟩ := hv
  have HV := Lib.hid hv0; have H16 := Lib.hid h16
  clear hv0 h16
  go_enter Tryd.func6, Tryd.ntmps6
  go_upto_block 0 with (go_at_call 22; refine (mod_any at_ 11 _ (by decide)).mono ?_; rintro e w1 ⟨rfl, hx1⟩)
  obtain ⟨n, hN⟩ : ∃ n : Nat, min (gs.length : Int) 9 = n := ⟨(min (gs.length : Int) 9).toNat, by omega⟩
  have hn9 : n ≤ 9 := by omega
  have hnl : n ≤ gs.length := by omega
  generalize min (gs.length : Int) 9 = N at *
  subst hN
  generalize modI at_ 11 = K at *
  go_cut [9] from 19 (fun s wc => ∃ t : ByteArray, s = .string t ∧ t.size ≤ 300 ∧ Ext w wc)
  case first =>
    go_wp2_with fail
    go_loopw [9, 12] (fun s i wr => ∃ (t : ByteArray) (k : Nat), s = .string t ∧ i = .int .i64 k ∧ k ≤ n ∧ t.size ≤ 20 * k ∧ Ext w wr) (fun _ i _ => 9 - (intOf i).toNat)
    case atStart => exact ⟨_, 0, rfl, rfl, Nat.zero_le _, Nat.le_refl _, hx1⟩
    case round =>
      obtain ⟨t, k, rfl, rfl, hk, ht, hx⟩ := hrel
      by_cases hlt : k < n
      · have hlt' : (k : Int) < n := by omega
        obtain ⟨a', cap', e1, _, _, hcell⟩ := HV.out.ext hx
        cases e1
        obtain ⟨b, off, rfl, hb, hcell⟩ := hcell (by omega)
        obtain ⟨x, hxk⟩ : ∃ x, gs[k]? = some x := ⟨gs[k]'(by omega), List.getElem?_eq_getElem _⟩
        have hck := hcell k x hxk
        have hxb := H16.out x (List.mem_of_getElem? hxk)
        have HX := Lib.hid hxk
        have HB := Lib.hid hb
        have HCELL := Lib.hid hcell
        clear hxk hcell hb
        have y2 : ¬ 9223372036854775807 < t.size + 2 := by omega
        have y1 : ¬ 9223372036854775807 < t.size + 1 := by omega
        have hklen : (k : Int) < gs.length := by omega
        go_upto_if 31 with fail
        go_cut [9] from 24 to 119 (fun s wc => ∃ t' : ByteArray, s = .string t' ∧ t'.size ≤ 20 * k + 2 ∧ wc = wr)
        case first =>
          cases hkK : ((k : Int) == K) with
          | true =>
            go_wp2_with fail
            go_meet
            exact ⟨_, rfl, by rw [size_app]; show t.size + 2 ≤ _; omega, rfl⟩
          | false =>
            by_cases h0 : (0 : Int) < k
            · go_wp2_with fail
              go_meet
              exact ⟨_, rfl, by rw [size_app]; show t.size + 1 ≤ _; omega, rfl⟩
            · go_wp2_with fail
              go_meet
              exact ⟨_, rfl, by omega, rfl⟩
        case rest =>
          obtain ⟨t', rfl, ht', rfl⟩ := hcut
          go_upto_region 12 with fail
          go_cut [54] from 24 to 119 (fun c wc' => ∃ br : Bool, c = .bool br ∧ (br = true → k + 1 < n) ∧ wc' = wc)
          case first =>
            cases four with
            | false =>
              go_wp2_with fail
              go_meet
              exact ⟨false, rfl, fun h => (by cases h), rfl⟩
            | true =>
              by_cases hk2 : (k : Int) = (n : Int) - 2
              · have hk2b : ((k : Int) == (n : Int) - 2) = true := by rw [beq_iff_eq]; exact hk2
                have hkn : k + 1 < n := by omega
                have HKN := Lib.hid hkn
                clear hk2 hkn
                cases hK1 : (K != (n : Int) - 1) with
                | false =>
                  go_wp2_with fail
                  go_meet
                  exact ⟨false, rfl, fun h => (by cases h), rfl⟩
                | true =>
                  go_wp2_with fail
                  go_meet
                  exact ⟨true, rfl, fun _ => HKN.out, rfl⟩
              · have hk2b : ((k : Int) == (n : Int) - 2) = false := by rw [beq_eq_false_iff_ne]; exact hk2
                clear hk2
                go_wp2_with fail
                go_meet
                exact ⟨false, rfl, fun h => (by cases h), rfl⟩
          case rest =>
            obtain ⟨br, rfl, hbr, rfl⟩ := hcut
            cases br with
            | true =>
              have hk1 := hbr rfl
              clear hbr
              have hk1l : ((k : Int) + 1) < gs.length := by omega
              have hk1m : ((k + 1 : Nat) : Int) < gs.length := by omega
              obtain ⟨z, hzk⟩ : ∃ z, gs[k + 1]? = some z := ⟨gs[k + 1]'(by omega), List.getElem?_eq_getElem _⟩
              have hckz := HCELL.out (k + 1) z hzk
              have hzb := H16.out z (List.mem_of_getElem? hzk)
              clear hzk hck
              obtain ⟨n0, e0⟩ : ∃ n0 : Nat, x / 256 = n0 := ⟨(x / 256).toNat, by omega⟩
              obtain ⟨n1, e1⟩ : ∃ n1 : Nat, x % 256 = n1 := ⟨(x % 256).toNat, by omega⟩
              obtain ⟨n2, e2⟩ : ∃ n2 : Nat, z / 256 = n2 := ⟨(z / 256).toNat, by omega⟩
              obtain ⟨n3, e3⟩ : ∃ n3 : Nat, z % 256 = n3 := ⟨(z % 256).toNat, by omega⟩
              have f1 : bits BinOp.and IntKind.u16 x 255 = n1 := by rw [and_u16_255 hxb.1 hxb.2, e1]
              have f3 : bits BinOp.and IntKind.u16 z 255 = n3 := by rw [and_u16_255 hzb.1 hzb.2, e3]
              have hn0 : n0 < 256 := by omega
              have hn1 : n1 < 256 := by omega
              have hn2 : n2 < 256 := by omega
              have hn3 : n3 < 256 := by omega
              have H0 := Lib.hid (fdec_any n0 (by omega))
              have H1 := Lib.hid (fdec_any n1 (by omega))
              have H2 := Lib.hid (fdec_any n2 (by omega))
              have H3 := Lib.hid (fdec_any n3 (by omega))
              have hsz : ∀ n, n < 256 → (txt (Lib.decDigits n)).size ≤ 3 := fun n hn => by
                rw [txt_size]; exact dd_len 2 n (by omega)
              have z0 := hsz n0 hn0
              have z1 := hsz n1 hn1
              have z2 := hsz n2 hn2
              have z3 := hsz n3 hn3
              have w0 : IntKind.i64.wrap (n0 : Int) = n0 := IntWalk.i64_in _ (by omega)
              have w1' : IntKind.i64.wrap (n1 : Int) = n1 := IntWalk.i64_in _ (by omega)
              have w2 : IntKind.i64.wrap (n2 : Int) = n2 := IntWalk.i64_in _ (by omega)
              have w3 : IntKind.i64.wrap (n3 : Int) = n3 := IntWalk.i64_in _ (by omega)
              clear hsz e1 e3 hxb hzb
              generalize txt (Lib.decDigits n0) = s0 at *
              generalize txt (Lib.decDigits n1) = s1 at *
              generalize txt (Lib.decDigits n2) = s2 at *
              generalize txt (Lib.decDigits n3) = s3 at *
              have q1 : ¬ 9223372036854775807 < s0.size + 1 := by omega
              have q2 : ¬ 9223372036854775807 < s0.size + 1 + s1.size := by omega
              have q3 : ¬ 9223372036854775807 < s0.size + 1 + s1.size + 1 := by omega
              have q4 : ¬ 9223372036854775807 < s0.size + 1 + s1.size + 1 + s2.size := by omega
              have q5 : ¬ 9223372036854775807 < s0.size + 1 + s1.size + 1 + s2.size + 1 := by omega
              have q6 : ¬ 9223372036854775807 < s0.size + 1 + s1.size + 1 + s2.size + 1 + s3.size := by omega
              have q7 : ¬ 9223372036854775807 < t'.size + (s0.size + 1 + s1.size + 1 + s2.size + 1 + s3.size) := by omega
              have hzc : ∀ w', Ext wc w' → w'.cell? ⟨b, off + (k + 1), none⟩ = some (.int .u16 z) := fun w' h => by
                rw [h.cell (show b < _ from HB.out)]; exact hckz
              have hk64 : IntKind.i64.wrap ((k : Int) + 1) = (k : Int) + 1 := IntWalk.i64_in _ (by omega)
              go_wp2_with fail
              refine wp_region_rg wc (by kernel_rfl) (by kernel_rfl) (Ext.refl _) ?_
              apply goV_val _ (by intro u; rfl)
              · (intro u w hSw hF; go_simp; try with_reducible rfl)
              try simp only [Act.put, List.setIfInBounds_toArray, List.set_cons_zero, List.set_cons_succ]
              apply goV_val _ (by intro u; rfl)
              · (intro u w hSw hF; go_simp; try with_reducible rfl)
              try simp only [Act.put, List.setIfInBounds_toArray, List.set_cons_zero, List.set_cons_succ]
              apply goV_val _ (by intro u; rfl)
              · (intro u w hSw hF; go_simp; try with_reducible rfl)
              try simp only [Act.put, List.setIfInBounds_toArray, List.set_cons_zero, List.set_cons_succ]
              apply goV_val _ (by intro u; rfl)
              · (intro u w hSw hF; go_simp; try with_reducible rfl)
              try simp only [Act.put, List.setIfInBounds_toArray, List.set_cons_zero, List.set_cons_succ]
              apply goV_call (by intro u; rfl) (fun w hw => H0.out w)
              · (intro u w hSw hF; go_simp; try with_reducible rfl)
              try simp only [Act.put, List.setIfInBounds_toArray, List.set_cons_zero, List.set_cons_succ]
              apply goV_val _ (by intro u; rfl)
              · (intro u w hSw hF; go_simp; try with_reducible rfl)
              try simp only [Act.put, List.setIfInBounds_toArray, List.set_cons_zero, List.set_cons_succ]
              apply goV_val _ (by intro u; rfl)
              · (intro u w hSw hF; go_simp; try with_reducible rfl)
              try simp only [Act.put, List.setIfInBounds_toArray, List.set_cons_zero, List.set_cons_succ]
              apply goV_val _ (by intro u; rfl)
              · (intro u w hSw hF; go_simp; try with_reducible rfl)
              try simp only [Act.put, List.setIfInBounds_toArray, List.set_cons_zero, List.set_cons_succ]
              apply goV_val _ (by intro u; rfl)
              · (intro u w hSw hF; go_simp; try with_reducible rfl)
              try simp only [Act.put, List.setIfInBounds_toArray, List.set_cons_zero, List.set_cons_succ]
              apply goV_call (by intro u; rfl) (fun w hw => H1.out w)
              · (intro u w hSw hF; go_simp; try with_reducible rfl)
              try simp only [Act.put, List.setIfInBounds_toArray, List.set_cons_zero, List.set_cons_succ]
              apply goV_val _ (by intro u; rfl)
              · (intro u w hSw hF; go_simp; try with_reducible rfl)
              try simp only [Act.put, List.setIfInBounds_toArray, List.set_cons_zero, List.set_cons_succ]
              apply goV_val _ (by intro u; rfl)
              · (intro u w hSw hF; go_simp; try with_reducible rfl)
              try simp only [Act.put, List.setIfInBounds_toArray, List.set_cons_zero, List.set_cons_succ]
              apply goV_val _ (by intro u; rfl)
              · (intro u w hSw hF; go_simp; try with_reducible rfl)
              try simp only [Act.put, List.setIfInBounds_toArray, List.set_cons_zero, List.set_cons_succ]
              apply goV_val _ (by intro u; rfl)
              · (intro u w hSw hF; go_simp; try with_reducible rfl)
              try simp only [Act.put, List.setIfInBounds_toArray, List.set_cons_zero, List.set_cons_succ]
              apply goV_val _ (by intro u; rfl)
              · (intro u w hSw hF; go_simp; try with_reducible rfl)
              try simp only [Act.put, List.setIfInBounds_toArray, List.set_cons_zero, List.set_cons_succ]
              apply goV_val (.pointer (some ⟨b, off + (k + 1), none⟩)) (by intro u; rfl)
              · (intro u w hSw hF; go_simp; first | done | with_reducible rfl | (intro h; exfalso; omega))
              try simp only [Act.put, List.setIfInBounds_toArray, List.set_cons_zero, List.set_cons_succ]
              apply goV_val (.int .u16 z) (by intro u; rfl)
              · (intro u w hSw hF; have c0 := hzc w hSw; go_simp)
              try simp only [Act.put, List.setIfInBounds_toArray, List.set_cons_zero, List.set_cons_succ]
              apply goV_val _ (by intro u; rfl)
              · (intro u w hSw hF; go_simp; try with_reducible rfl)
              try simp only [Act.put, List.setIfInBounds_toArray, List.set_cons_zero, List.set_cons_succ]
              apply goV_val _ (by intro u; rfl)
              · (intro u w hSw hF; go_simp; try with_reducible rfl)
              try simp only [Act.put, List.setIfInBounds_toArray, List.set_cons_zero, List.set_cons_succ]
              apply goV_call (by intro u; rfl) (fun w hw => H2.out w)
              · (intro u w hSw hF; go_simp; try with_reducible rfl)
              try simp only [Act.put, List.setIfInBounds_toArray, List.set_cons_zero, List.set_cons_succ]
              apply goV_val _ (by intro u; rfl)
              · (intro u w hSw hF; go_simp; try with_reducible rfl)
              try simp only [Act.put, List.setIfInBounds_toArray, List.set_cons_zero, List.set_cons_succ]
              apply goV_val _ (by intro u; rfl)
              · (intro u w hSw hF; go_simp; try with_reducible rfl)
              try simp only [Act.put, List.setIfInBounds_toArray, List.set_cons_zero, List.set_cons_succ]
              apply goV_val _ (by intro u; rfl)
              · (intro u w hSw hF; go_simp; try with_reducible rfl)
              try simp only [Act.put, List.setIfInBounds_toArray, List.set_cons_zero, List.set_cons_succ]
              apply goV_val _ (by intro u; rfl)
              · (intro u w hSw hF; go_simp; try with_reducible rfl)
              try simp only [Act.put, List.setIfInBounds_toArray, List.set_cons_zero, List.set_cons_succ]
              apply goV_val _ (by intro u; rfl)
              · (intro u w hSw hF; go_simp; try with_reducible rfl)
              try simp only [Act.put, List.setIfInBounds_toArray, List.set_cons_zero, List.set_cons_succ]
              apply goV_val (.pointer (some ⟨b, off + (k + 1), none⟩)) (by intro u; rfl)
              · (intro u w hSw hF; go_simp; first | done | with_reducible rfl | (intro h; exfalso; omega))
              try simp only [Act.put, List.setIfInBounds_toArray, List.set_cons_zero, List.set_cons_succ]
              apply goV_val (.int .u16 z) (by intro u; rfl)
              · (intro u w hSw hF; have c0 := hzc w hSw; go_simp)
              try simp only [Act.put, List.setIfInBounds_toArray, List.set_cons_zero, List.set_cons_succ]
              apply goV_val _ (by intro u; rfl)
              · (intro u w hSw hF; go_simp; try with_reducible rfl)
              try simp only [Act.put, List.setIfInBounds_toArray, List.set_cons_zero, List.set_cons_succ]
              apply goV_val _ (by intro u; rfl)
              · (intro u w hSw hF; go_simp; try with_reducible rfl)
              try simp only [Act.put, List.setIfInBounds_toArray, List.set_cons_zero, List.set_cons_succ]
              apply goV_call (by intro u; rfl) (fun w hw => H3.out w)
              · (intro u w hSw hF; go_simp; try with_reducible rfl)
              try simp only [Act.put, List.setIfInBounds_toArray, List.set_cons_zero, List.set_cons_succ]
              apply goV_val _ (by intro u; rfl)
              · (intro u w hSw hF; go_simp; try with_reducible rfl)
              try simp only [Act.put, List.setIfInBounds_toArray, List.set_cons_zero, List.set_cons_succ]
              apply goV_val _ (by intro u; rfl)
              · (intro u w hSw hF; go_simp; try with_reducible rfl)
              try simp only [Act.put, List.setIfInBounds_toArray, List.set_cons_zero, List.set_cons_succ]
              apply goV_val _ (by intro u; rfl)
              · (intro u w hSw hF; go_simp; try with_reducible rfl)
              try simp only [Act.put, List.setIfInBounds_toArray, List.set_cons_zero, List.set_cons_succ]
              intro u w2 hx2 _
              go_wp2_with fail
              go_meet
              exact ⟨_, rfl, by simp only [size_app]; show _ + (_ + 1 + _ + 1 + _ + 1 + _) ≤ _; omega, hx.trans hx2⟩
            | false =>
              clear hbr hck y1 y2 hklen HCELL HB HX ht
              go_wp2_with fail
              go_loopw [9, 14] (fun s sh wr => ∃ (t : ByteArray) (j : Nat), s = .string t ∧ j ≤ 4 ∧ sh = .int .i64 (12 - 4 * (j : Int)) ∧ t.size ≤ 20 * k + 2 + j ∧ Ext w wr) (fun _ sh _ => (intOf sh + 4).toNat)
              case atStart => exact ⟨t', 0, rfl, by omega, rfl, by omega, hx⟩
              case round =>
                obtain ⟨t, j, rfl, hj, rfl, ht, hx⟩ := hrel
                by_cases hj4 : j < 4
                · have key : ∀ q : Int, 0 ≤ q → q < 65536 → ∃ v : Nat, v < 16 ∧ bits BinOp.and IntKind.u16 q 15 = (v : Int) := fun q h0 h1 => ⟨(q % 16).toNat, by omega, by rw [and_u16_15 h0 h1]; omega⟩
                  have y1 : ¬ 9223372036854775807 < t.size + 1 := by omega
                  rcases (by omega : j = 0 ∨ j = 1 ∨ j = 2 ∨ j = 3) with rfl | rfl | rfl | rfl
                  · obtain ⟨v, hv, hb⟩ := key (x / 4096) (by omega) (by omega)
                    have hv16 : (v : Int) < 16 := by omega
                    have e9 : IntKind.u16.wrap ((v : Int) + 1) = (v : Int) + 1 := by rw [u16_wrap]; omega
                    have p1 := hexU_piece ⟨v, hv⟩
                    have p2 := hex_piece ⟨v, hv⟩
                    simp only at p1 p2
                    have c1 : (txt [hexU v]).size = 1 := txt_size _
                    have c2 : (txt [hexc v]).size = 1 := txt_size _
                    generalize hexU v = cu at *
                    generalize hexc v = cl at *
                    clear key
                    cases upper with
                    | true =>
                      go_wp2_with fail
                      go_roundw
                      case rel => exact ⟨t ++ txt [cu], 1, rfl, by omega, by go_num, by rw [size_app, c1]; omega, hx⟩
                      case measure => simp [intOf]
                    | false =>
                      go_wp2_with fail
                      go_roundw
                      case rel => exact ⟨t ++ txt [cl], 1, rfl, by omega, by go_num, by rw [size_app, c2]; omega, hx⟩
                      case measure => simp [intOf]
                  · obtain ⟨v, hv, hb⟩ := key (x / 256) (by omega) (by omega)
                    have hv16 : (v : Int) < 16 := by omega
                    have e9 : IntKind.u16.wrap ((v : Int) + 1) = (v : Int) + 1 := by rw [u16_wrap]; omega
                    have p1 := hexU_piece ⟨v, hv⟩
                    have p2 := hex_piece ⟨v, hv⟩
                    simp only at p1 p2
                    have c1 : (txt [hexU v]).size = 1 := txt_size _
                    have c2 : (txt [hexc v]).size = 1 := txt_size _
                    generalize hexU v = cu at *
                    generalize hexc v = cl at *
                    clear key
                    cases upper with
                    | true =>
                      go_wp2_with fail
                      go_roundw
                      case rel => exact ⟨t ++ txt [cu], 2, rfl, by omega, by go_num, by rw [size_app, c1]; omega, hx⟩
                      case measure => simp [intOf]
                    | false =>
                      go_wp2_with fail
                      go_roundw
                      case rel => exact ⟨t ++ txt [cl], 2, rfl, by omega, by go_num, by rw [size_app, c2]; omega, hx⟩
                      case measure => simp [intOf]
                  · obtain ⟨v, hv, hb⟩ := key (x / 16) (by omega) (by omega)
                    have hv16 : (v : Int) < 16 := by omega
                    have e9 : IntKind.u16.wrap ((v : Int) + 1) = (v : Int) + 1 := by rw [u16_wrap]; omega
                    have p1 := hexU_piece ⟨v, hv⟩
                    have p2 := hex_piece ⟨v, hv⟩
                    simp only at p1 p2
                    have c1 : (txt [hexU v]).size = 1 := txt_size _
                    have c2 : (txt [hexc v]).size = 1 := txt_size _
                    generalize hexU v = cu at *
                    generalize hexc v = cl at *
                    clear key
                    cases upper with
                    | true =>
                      go_wp2_with fail
                      go_roundw
                      case rel => exact ⟨t ++ txt [cu], 3, rfl, by omega, by go_num, by rw [size_app, c1]; omega, hx⟩
                      case measure => simp [intOf]
                    | false =>
                      go_wp2_with fail
                      go_roundw
                      case rel => exact ⟨t ++ txt [cl], 3, rfl, by omega, by go_num, by rw [size_app, c2]; omega, hx⟩
                      case measure => simp [intOf]
                  · obtain ⟨v, hv, hb⟩ := key x (by omega) (by omega)
                    have hv16 : (v : Int) < 16 := by omega
                    have e9 : IntKind.u16.wrap ((v : Int) + 1) = (v : Int) + 1 := by rw [u16_wrap]; omega
                    have p1 := hexU_piece ⟨v, hv⟩
                    have p2 := hex_piece ⟨v, hv⟩
                    simp only at p1 p2
                    have c1 : (txt [hexU v]).size = 1 := txt_size _
                    have c2 : (txt [hexc v]).size = 1 := txt_size _
                    generalize hexU v = cu at *
                    generalize hexc v = cl at *
                    clear key
                    cases upper with
                    | true =>
                      go_wp2_with fail
                      go_roundw
                      case rel => exact ⟨t ++ txt [cu], 4, rfl, by omega, by go_num, by rw [size_app, c1]; omega, hx⟩
                      case measure => simp [intOf]
                    | false =>
                      go_wp2_with fail
                      go_roundw
                      case rel => exact ⟨t ++ txt [cl], 4, rfl, by omega, by go_num, by rw [size_app, c2]; omega, hx⟩
                      case measure => simp [intOf]
                · obtain rfl : j = 4 := by omega
                  go_wp2_with fail
                  go_roundw
                  case rel => exact ⟨t, k + 1, rfl, by go_num, by omega, by omega, hx⟩
                  case measure => simp [intOf]; omega
      · have hlt' : ¬ (k : Int) < n := by omega
        go_wp2_with fail
        go_meet
        exact ⟨t, rfl, by omega, hx⟩
  case rest =>
    obtain ⟨t, rfl, ht, hx⟩ := hcut
    clear hx1 hnl hn9
    have y2 : ¬ 9223372036854775807 < t.size + 2 := by omega
    go_upto_region 20 with fail
    go_cut [126] from 19 (fun c wc' => ∃ br : Bool, c = .bool br ∧ wc' = wc)
    case first =>
      cases hk1 : decide ((n : Int) ≤ K) with
      | false =>
        go_wp2_with fail
        go_meet
        exact ⟨false, rfl, rfl⟩
      | true =>
        cases hk2 : decide (K < 10) with
        | false =>
          go_wp2_with fail
          go_meet
          exact ⟨false, rfl, rfl⟩
        | true =>
          go_wp2_with fail
          go_meet
          exact ⟨true, rfl, rfl⟩
    case rest =>
      obtain ⟨br, rfl, rfl⟩ := hcut
      go_upto_if 126 with fail
      go_cut [9] from 19 (fun s wc' => ∃ t' : ByteArray, s = .string t' ∧ t'.size ≤ 302 ∧ wc' = wc)
      case first =>
        cases br with
        | false =>
          go_wp2_with fail
          go_meet
          exact ⟨t, rfl, by omega, rfl⟩
        | true =>
          go_wp2_with fail
          go_meet
          exact ⟨_, rfl, by rw [size_app]; show t.size + 2 ≤ _; omega, rfl⟩
      case rest =>
        obtain ⟨s, rfl, hs, rfl⟩ := hcut
        have Q1 := Lib.hid (fun w' (h : Ext w w') => parse_any s w' (henv.ext h) (by omega))
        have Q2 := Lib.hid (fun w' => rparse_any s w' (by omega))
        have hok := okA_parse s
        generalize (parseA s).1 = P at *
        generalize (parseA s).2 = ps at *
        clear hs ht y2
        go_wp2_with (go_at_call 19; refine (Q1.out _ hx).mono ?_; rintro e wp ⟨rfl, hxp⟩; refine Hid.out ?_)
        refine Lib.hid ?_
        have hxx1 := hx.trans hxp
        clear hxp
        have hbf := Blk.new wp (ac zadr) 24
        go_upto_region 23 with (refine wpList_store_A rfl _ _ rfl okA_zadr hok hbf rfl rfl ?_)
        change Code.wp _ _ _ _ ((wp.alloc (.cells (ac zadr) 24)).setRow wp.heap.size (ac P))
        rw [World.setRow_alloc_new]
        have hB1 := Blk.new wp (ac P) 24
        have hx2 := hxx1.alloc (.cells (ac P) 24)
        have hnx := (Ext.refl wp).alloc (.cells (ac P) 24)
        clear hbf
        generalize wp.alloc (.cells (ac P) 24) = w2 at *
        generalize wp.heap.size = b1 at *
        clear hnx hxx1
        go_wp2_with (go_at_call 20; refine (Q2.out _).mono ?_; rintro e w3 ⟨rfl, hx3⟩; refine Hid.out ?_)
        refine Lib.hid ?_
        have hB1_3 := hB1.ext hx3
        have hx33 := hx2.trans hx3
        clear hx3 hx2 hB1
        have hbf := Blk.new w3 (ac zadr) 24
        go_upto_region 24 with (refine wpList_store_A rfl _ _ rfl okA_zadr hok hbf rfl rfl ?_)
        change Code.wp _ _ _ _ ((w3.alloc (.cells (ac zadr) 24)).setRow w3.heap.size (ac P))
        rw [World.setRow_alloc_new]
        have hB2 := Blk.new w3 (ac P) 24
        have hxa := hx33.alloc (.cells (ac P) 24)
        have hnx := (Ext.refl w3).alloc (.cells (ac P) 24)
        clear hbf
        generalize w3.alloc (.cells (ac P) 24) = wa at *
        generalize w3.heap.size = b2 at *
        have g1 : ∀ w', Ext wa w' → Blk w' b1 (ac P).toList 24 := fun w' h => (hB1_3.ext hnx).ext h
        have g2 : ∀ w', Ext wa w' → Blk w' b2 (ac P).toList 24 := fun w' h => hB2.ext h
        have c1 := fun (w' : World) (h : Ext wa w') => awake_any w' (henv.ext (hxa.trans h)) (htabs.ext (hxa.trans h))
        clear hnx hB1_3 hB2 Q1 Q2 hx33
        refine wp_region_rgs ?_
        apply goV_call (by intro u; rfl) c1
        · (intro u w hSw hF; go_simp; try with_reducible rfl)
        try simp only [Act.put, List.setIfInBounds_toArray, List.set_cons_zero, List.set_cons_succ]
        apply goV_val _ (by intro u; rfl)
        · (intro u w hSw hF; go_simp; try with_reducible rfl)
        try simp only [Act.put, List.setIfInBounds_toArray, List.set_cons_zero, List.set_cons_succ]
        apply goV_loadA (by intro u; rfl) _ rfl hok g1 (by intro u; rfl)
        try simp only [Act.put, List.setIfInBounds_toArray, List.set_cons_zero, List.set_cons_succ]
        apply goV_loadA (by intro u; rfl) _ rfl hok g2 (by intro u; rfl)
        try simp only [Act.put, List.setIfInBounds_toArray, List.set_cons_zero, List.set_cons_succ]
        apply goV_eqA (by intro u; rfl) _ _ rfl hok hok rfl (by intro u; rfl) (by intro u; rfl)
        try simp only [Act.put, List.setIfInBounds_toArray, List.set_cons_zero, List.set_cons_succ]
        apply goV_val _ (by intro u; rfl)
        · (intro u w hSw hF; go_simp; try with_reducible rfl)
        try simp only [Act.put, List.setIfInBounds_toArray, List.set_cons_zero, List.set_cons_succ]
        apply goV_val _ (by intro u; rfl)
        · (intro u w hSw hF; go_simp; try with_reducible rfl)
        try simp only [Act.put, List.setIfInBounds_toArray, List.set_cons_zero, List.set_cons_succ]
        apply goV_val _ (by intro u; rfl)
        · (intro u w hSw hF; go_simp; try with_reducible rfl)
        try simp only [Act.put, List.setIfInBounds_toArray, List.set_cons_zero, List.set_cons_succ]
        apply goV_val _ (by intro u; rfl)
        · (intro u w hSw hF; go_simp; try with_reducible rfl)
        try simp only [Act.put, List.setIfInBounds_toArray, List.set_cons_zero, List.set_cons_succ]
        apply goV_val _ (by intro u; rfl)
        · (intro u w hSw hF; go_simp; try with_reducible rfl)
        try simp only [Act.put, List.setIfInBounds_toArray, List.set_cons_zero, List.set_cons_succ]
        apply goV_val _ (by intro u; rfl)
        · (intro u w hSw hF; go_simp; try with_reducible rfl)
        try simp only [Act.put, List.setIfInBounds_toArray, List.set_cons_zero, List.set_cons_succ]
        apply goV_val _ (by intro u; rfl)
        · (intro u w hSw hF; go_simp; try with_reducible rfl)
        try simp only [Act.put, List.setIfInBounds_toArray, List.set_cons_zero, List.set_cons_succ]
        intro u w5 hx5 _
        go_wp2
        go_ret
        exact ⟨rfl, hxa.trans hx5⟩
end Go.Proofs.YtbbdcodhgbgekaaDoor
