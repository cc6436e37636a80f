/-
  Several texts joined: IpPr.
-/
import Derived.Maps.AppendAt
import Derived.Test.YtpdoddelnahlnaaGreatDoorK27
import Derived.Test.YtpdoddelnahlnaaGreatDoorK25
import Derived.Test.YtpdoddelnahlnaaGreatDoorK21
import Derived.Test.YtpdoddelnahlnaaGreatDoorK26
/-
  Contract of the reference's Parse.
-/
set_option linter.unusedSimpArgs false
set_option linter.unusedVariables false
namespace Go.Proofs.YtpdoddelnahlnaaGreatDoor
open Go.RowKit Go.Joins

theorem at_iff {s : ByteArray} {j : Nat} : s.data.toList[j]? = some 58 ↔ j < s.size ∧ B s j = 58 := by
  rw [size_list]
  constructor
  · intro h
    have hl := (List.getElem?_eq_some_iff.1 h).1
    refine ⟨hl, ?_⟩
    unfold B
    rw [List.getD_eq_getElem?_getD, h]; rfl
  · rintro ⟨h1, h2⟩
    unfold B at h2
    rw [List.getD_eq_getElem?_getD, List.getElem?_eq_getElem h1, Option.getD_some] at h2
    rw [List.getElem?_eq_getElem h1]
    congr 1
    exact UInt8.toNat_inj.1 (by show _ = 58; omega)
theorem cutAt_hit {s : ByteArray} {k : Nat} (hk : k + 1 < s.size) (h0 : B s k = 58) (h1 : B s (k + 1) = 58) (hn : ∀ j, j < k → ¬ (B s j = 58 ∧ B s (j + 1) = 58)) : cutAt s = k :=
  index_at ⟨at_iff.2 ⟨by omega, h0⟩, at_iff.2 ⟨hk, h1⟩⟩ fun j hj h => hn j hj ⟨(at_iff.1 h.1).2, (at_iff.1 h.2).2⟩
theorem cutAt_miss {s : ByteArray} {k : Nat} (hk : ¬ k + 1 < s.size) (hn : ∀ j, j < k → ¬ (B s j = 58 ∧ B s (j + 1) = 58)) : cutAt s = -1 :=
  index_no fun j h => by
    have h1 := at_iff.1 h.1
    have h2 := at_iff.1 h.2
    exact hn j (by omega) ⟨h1.2, h2.2⟩
theorem parseA_none {s : ByteArray} (h : parse4 s = none) : parseA s = if cutAt s < 0 then (match parseG s true with
        | some l => v6 l
        | none => (zadr, false)) else (match parseG (s.extract 0 (cutAt s).toNat) false, parseG (s.extract ((cutAt s).toNat + 2) s.size) true with
        | some l, some m => if 7 < l.length + m.length then (zadr, false) else v6 (l ++ List.replicate (8 - (l.length + m.length)) 0 ++ m)
        | _, _ => (zadr, false)) := by unfold parseA; rw [h]; rfl
theorem parseA_four {s : ByteArray} (h : (parse4 s).isSome = true) : parseA s = ((p4A s).1, true) := by
  unfold parseA p4A
  cases hp : parse4 s with
  | none => rw [hp] at h; cases h
  | some b => rfl

theorem wpList_append_nil0 {P : Program} {w : World} {ops : Array Oper} {rest : List Oper} {o : Oper} {a : Act} {Q : Exit → Act → World → Prop} (hgd : o.guard = none) (s x : Operand) (t : TypeId)
    (ho : o.op = .call { callee := .builtin .append, args := #[s, x], argTypes := #[t, t] }) (e : TypeId) (i : TypeInfo) (ht : P.underlying t = some (.slice e)) (hi : P.info? e = some i) (g n cap : Nat) (hn : n ≤ cap)
    (hs : a.eval s = .slice (some ⟨g, 0, none⟩) n cap) (k : Nat) (hk : k = 0) (hx : a.eval x = .slice none k 0) (h : wpList P ops Q rest (a.put o.dst (.slice (some ⟨g, 0, none⟩) n cap)) w) : wpList P ops Q (o :: rest) a w := by
  subst hk
  exact wpList_append_nil hgd s x t ho e i ht hi g n cap hn hs hx h
def slen : Value → Nat
  | .slice _ n _ => n
  | _ => 0
set_option maxRecDepth 4000 in
set_option maxHeartbeats 4000000 in
theorem rparse_any (s : ByteArray) (w : World) (hs : s.size < 4294967281) :
    Calls Tryz.prog 60 #[.string s] w fun e w' => e = .returned (.tuple #[av (parseA s).1, .bool (parseA s).2]) ∧ Ext w w' := by
  obtain ⟨i0, hi, hz0, hz1, hz2⟩ := info_parts infoU
  have HI := Lib.hid hi; have HZ0 := Lib.hid hz0; have HZ1 := Lib.hid hz1; have HZ2 := Lib.hid hz2
  clear hi hz0 hz1 hz2
  have HC := Lib.hid (fun w => rparse4_any s w hs)
  have hok := okA_p4A s
  have H42 := Lib.hid (p4A_snd s)
  go_enter Tryz.func60, Tryz.ntmps60
  go_upto_region 1 with fail
  rw [← ac_zadr]
  have hx := (Ext.refl w).alloc (.cells (ac zadr) 30)
  have hr := Blk.new w (ac zadr) 30
  generalize hw2 : w.alloc (.cells (ac zadr) 30) = w2 at *
  clear hw2
  go_wp2_with (go_at_call 61; refine (HC.out _).mono ?_; rintro e w4 ⟨rfl, hx4⟩; refine Hid.out ?_)
  refine Lib.hid ?_
  have hr4 := hr.ext hx4
  have hx44 := hx.trans hx4
  clear hr hx hx4
  have hbf := Blk.new w4 (ac zadr) 30
  go_upto_region 2 with (refine wpList_store_A rfl _ _ rfl okA_zadr hok hbf rfl rfl ?_)
  change Code.wp _ _ _ _ ((w4.alloc (.cells (ac zadr) 30)).setRow w4.heap.size (ac (p4A s).1))
  rw [World.setRow_alloc_new]
  have hQ := Blk.new w4 (ac (p4A s).1) 30
  have hx5 := hx44.alloc (.cells (ac (p4A s).1) 30)
  have hnx := (Ext.refl w4).alloc (.cells (ac (p4A s).1) 30)
  clear hbf
  generalize w4.alloc (.cells (ac (p4A s).1) 30) = w5 at *
  generalize w4.heap.size = q at *
  have hr5 := hr4.ext hnx
  clear hnx hr4
  cases hp4 : (p4A s).2 with
  | true =>
    rw [H42.out] at hp4
    have E := Lib.hid (parseA_four hp4)
    have hp5 : (p4A s).2 = true := by rw [H42.out]; exact hp4
    have HP5 := Lib.hid hp5; clear hp4 hp5
    generalize (p4A s).1 = P at *
    go_wp2_with (first | refine wpList_load_A rfl _ rfl hok hQ rfl ?_ | refine wpList_store_A rfl _ _ rfl okA_zadr hok hr5 rfl rfl ?_)
    refine bodyPost_ret (res_A2 rfl rfl hok (hr5.row _)) rfl ⟨by rw [E.out]; rfl, hx5.setRow (Nat.le_refl _) _⟩
  | false =>
    have hp0 : parse4 s = none := by
      rw [H42.out] at hp4
      cases h : parse4 s with
      | none => rfl
      | some b => rw [h] at hp4; cases hp4
    have PN := Lib.hid (parseA_none hp0)
    have HP5 := Lib.hid hp4; clear hp4 hp0 hQ hok HC H42
    have hs' := hs
    generalize (p4A s).1 = P at *
    go_wp2_with fail
    go_loopw [6, 7] (fun t c wr => ∃ k : Nat, c = .int .i64 k ∧ t = .int .i64 (-1) ∧ (k ≤ s.size) ∧ Blk wr w.heap.size (ac zadr).toList 30 ∧ Ext w wr ∧ Hid (∀ j, j < k → ¬ (B s j = 58 ∧ B s (j + 1) = 58))) (fun _ c _ => s.size - (intOf c).toNat)
    case atStart => exact ⟨0, rfl, rfl, by omega, hr5, hx5, Lib.hid (fun j h => by omega)⟩
    case round =>
      obtain ⟨k, rfl, rfl, hk, hr, hx, hn⟩ := hrel
      by_cases hlt : k + 1 < s.size
      · have hlt' : (k : Int) + 1 < s.size := by omega
        have hk1 : (k : Int) < s.size := by omega
        by_cases h0 : B s k = 58
        · have h0b : (B s k == 58) = true := by rw [beq_iff_eq]; exact h0
          by_cases h1 : B s (k + 1) = 58
          · have h1b : (B s (k + 1) == 58) = true := by rw [beq_iff_eq]; exact h1
            have hcut := cutAt_hit hlt h0 h1 hn.out
            have hp := PN.out
            rw [hcut, if_neg (by omega), Int.toNat_natCast] at hp
            have PN2 := Lib.hid hp
            have HG1 := Lib.hid (fun w => rparseG_any (s.extract 0 k) false w (by have := extract_le s 0 k; omega))
            have HG2 := Lib.hid (fun w => rparseG_any (s.extract (k + 2) s.size) true w (by have := extract_le s (k + 2) s.size; omega))
            clear hp hcut h0 h1
            go_wp2_with (go_at_call 92; refine (HG1.out _).mono ?_; rintro e w7 ⟨v7, rfl, hv7, hx7⟩; refine Hid.out ?_)
            refine Lib.hid ?_
            go_wp2_with (go_at_call 92; refine (HG2.out _).mono ?_; rintro e w8 ⟨v8, rfl, hv8, hx8⟩; refine Hid.out ?_)
            refine Lib.hid ?_
            have hr8 := (hr.ext hx7).ext hx8
            have hx88 := (hx.trans hx7).trans hx8
            have hrw7 : wr.heap.size ≤ w7.heap.size := hx7.size
            have hrw : w.heap.size < wr.heap.size := hr.lt
            cases hp1 : parseG (s.extract 0 k) false with
            | none =>
              have E : Hid (parseA s = (zadr, false)) := Lib.hid (by rw [PN2.out, hp1])
              clear hp1
              go_wp2_with (refine wpList_store_A rfl _ _ rfl okA_zadr okA_zadr hr8 rfl rfl ?_)
              refine bodyPost_ret (res_A2 rfl rfl okA_zadr (hr8.row _)) rfl ⟨by rw [E.out]; rfl, hx88.setRow (Nat.le_refl _) _⟩
            | some l =>
              cases hp2 : parseG (s.extract (k + 2) s.size) true with
              | none =>
                have E : Hid (parseA s = (zadr, false)) := Lib.hid (by rw [PN2.out, hp1, hp2])
                clear hp1 hp2
                go_wp2_with (refine wpList_store_A rfl _ _ rfl okA_zadr okA_zadr hr8 rfl rfl ?_)
                refine bodyPost_ret (res_A2 rfl rfl okA_zadr (hr8.row _)) rfl ⟨by rw [E.out]; rfl, hx88.setRow (Nat.le_refl _) _⟩
              | some m =>
                have hlo := parseG_ok hp1
                have hmo := parseG_ok hp2
                have ho7 := hv7 l hp1
                have ho8 := hv8 m hp2
                have hlt7 := ho7.lt
                have hlt8 := ho8.lt
                obtain ⟨a1, c1, rfl, hc1, hf1⟩ := own_slice ho7
                obtain ⟨a2, c2, rfl, hc2, hf2⟩ := own_slice ho8
                have ho7' := ownsRow_keep ho7 (hx8.keep []) (by simp)
                have hE : parseA s = if 7 < l.length + m.length then (zadr, false) else v6 (l ++ List.replicate (8 - (l.length + m.length)) 0 ++ m) := by rw [PN2.out, hp1, hp2]
                have hl1 : (l.length : Int) ≤ 4294967400 := by have := hlo.2; have := extract_le s 0 k; omega
                have hm1 : (m.length : Int) ≤ 4294967400 := by have := hmo.2; have := extract_le s (k + 2) s.size; omega
                clear hv7 hv8 hp1 hp2 ho7 HG1 HG2 PN2 PN
                by_cases h7 : 7 < l.length + m.length
                · rw [if_pos h7] at hE
                  have E := Lib.hid hE; clear hE
                  have h7d : decide ((7 : Int) < l.length + m.length) = true := decide_eq_true (by omega)
                  have h7e : (7 : Int) < l.length + m.length := by omega
                  go_wp2_with (refine wpList_store_A rfl _ _ rfl okA_zadr okA_zadr hr8 rfl rfl ?_)
                  refine bodyPost_ret (res_A2 rfl rfl okA_zadr (hr8.row _)) rfl ⟨by rw [E.out]; rfl, hx88.setRow (Nat.le_refl _) _⟩
                · rw [if_neg h7] at hE
                  have E := Lib.hid hE; clear hE
                  have h7d : decide ((7 : Int) < l.length + m.length) = false := decide_eq_false (by omega)
                  have h7e : ¬ (7 : Int) < l.length + m.length := by omega
                  have Ho7 := Lib.hid ho7'; have Ho8 := Lib.hid ho8
                  have HLT7 := Lib.hid hlt7; have HLT8 := Lib.hid hlt8
                  have HLO := Lib.hid hlo; have HMO := Lib.hid hmo
                  have HF2 := Lib.hid hf2
                  clear ho7' ho8 hlt7 hlt8 hlo hmo hf1 hf2 hn HP5
                  obtain ⟨bb, hbb⟩ : ∃ b, wr.heap.size = b := ⟨_, rfl⟩
                  rw [hbb] at Ho7 HLT7 hrw hrw7
                  clear hbb
                  have hw8 : w.heap.size ≤ w8.heap.size := hx88.size
                  have hw78 : w7.heap.size ≤ w8.heap.size := hx8.size
                  have hMC : ∀ g, a2 = some ⟨g, 0, none⟩ → g < w8.heap.size ∧ (Value.slice a1 l.length c1).ownBlock ≠ some g ∧ ∀ j u, (m.map (Value.int .u16))[j]? = some u → w8.cell? ⟨g, j, none⟩ = some u := fun g hg => by
                    subst hg
                    have hb := HLT8.out g rfl
                    refine ⟨hb.2, fun h => ?_, fun j u hj => ?_⟩
                    · have := (HLT7.out g h).2; omega
                    · have h1 := Ho8.out.cells (g := g) rfl j u hj
                      rw [show (⟨g, 0, none⟩ : Addr).add j = ⟨g, j, none⟩ from by unfold Addr.add; split <;> simp_all] at h1
                      exact h1
                  have HMC := Lib.hid hMC; clear hMC
                  have hjl : l.length + 0 + m.length ≤ 8 := by omega
                  obtain ⟨N8, hN8⟩ : ∃ N, w8.heap.size = N := ⟨_, rfl⟩
                  rw [hN8] at HMC
                  have hn8 : N8 ≤ w8.heap.size := by omega
                  have hbN : bb ≤ N8 := by omega
                  have hwN : w.heap.size < bb := by omega
                  clear hN8 hw78 hw8 hrw7 hrw Ho8 HLT8 HLT7 hlt hlt' hk hk1 h0b h1b hr
                  go_wp2_with fail
                  go_loopw [10] (fun v wr => ∃ j : Nat, l.length + j + m.length ≤ 8 ∧ wr.ownsRow bb 82 1 v (l.length + j) ((l ++ List.replicate j 0).map (Value.int .u16)) ∧ Blk wr w.heap.size (ac zadr).toList 30 ∧ Ext w wr ∧ N8 ≤ wr.heap.size ∧ Hid (∀ g, a2 = some ⟨g, 0, none⟩ → g < N8 ∧ v.ownBlock ≠ some g ∧ ∀ j u, (m.map (Value.int .u16))[j]? = some u → wr.cell? ⟨g, j, none⟩ = some u)) (fun v _ => 8 - slen v)
                  case atStart => exact ⟨0, hjl, by rw [List.replicate_zero, List.append_nil]; exact Ho7.out, hr8, hx88, hn8, HMC⟩
                  case round =>
                    obtain ⟨j, hj, hown, hr, hx, hn8, hmc⟩ := hrel
                    have hlv := hown.lt
                    have hown0 := hown
                    obtain ⟨va, vc, rfl, hvc, hvf⟩ := own_slice hown0
                    by_cases hlt : l.length + j + m.length < 8
                    · have hlt' : (((l.length + j : Nat) : Int) + (m.length : Int)) < 8 := by omega
                      go_wp2_with (at_builtin; refine wpList_append_own_at _ rfl _ _ 91 rfl bb 82 i0 (.int .u16 0) 1 2 Tryz.underlying91 HI.out HZ0.out HZ1.out HZ2.out rfl (by decide) _ _ _ rfl (hown.alloc _) ⟨wr.heap.size, 0, none⟩ 1 1 [.int .u16 0] rfl rfl ?c1 ?c2 ?c3 ?c4 ?c5 ?_)
                      case c1 =>
                        intro j u hj
                        have B1 := Blk.new wr #[Value.int .u16 0] 82
                        have e1 : (⟨wr.heap.size, 0, none⟩ : Addr).add j = ⟨wr.heap.size, j, none⟩ := by unfold Addr.add; split <;> simp_all
                        rw [e1]
                        exact B1.cell hj
                      case c2 => simp [Value.oneCell']
                      case c3 => unfold maxLen; omega
                      case c4 => omega
                      case c5 => rw [World.size_alloc]; omega
                      intro v' w10 hown' hgrow _ hob
                      have hg10 : Ext w w10 := Ext.grown (hx.alloc _) hgrow (fun g hg => by have := (hlv g hg).1; omega)
                      have hr10 : Blk w10 w.heap.size (ac zadr).toList 30 := (hr.alloc _).keep (Keep.of_grown hgrow) (fun hm => by
                        cases ho : (Value.slice va (l.length + j) vc).ownBlock with
                        | none => rw [ho] at hm; simp at hm
                        | some g => rw [ho] at hm; simp at hm; have := (hlv g ho).1; omega)
                      have hn10 : N8 ≤ w10.heap.size := by have := hgrow.size; rw [World.size_alloc] at this; omega
                      have HMC2 : Hid (∀ g, a2 = some ⟨g, 0, none⟩ → g < N8 ∧ v'.ownBlock ≠ some g ∧ ∀ j u, (m.map (Value.int .u16))[j]? = some u → w10.cell? ⟨g, j, none⟩ = some u) := Lib.hid (fun g hg => by
                        obtain ⟨q1, q2, q3⟩ := hmc.out g hg
                        refine ⟨q1, fun h => ?_, fun i u hi => ?_⟩
                        · rcases hob with h' | h'
                          · rw [h'] at h; exact q2 h
                          · rw [h'] at h; have h3 := Option.some.inj h; first | omega | (rw [World.size_alloc] at h3; omega)
                        · rw [(Keep.of_grown hgrow).cell (p := ⟨g, i, none⟩) (show g < (wr.alloc _).heap.size by rw [World.size_alloc]; omega) (fun hm => by
                            cases ho : (Value.slice va (l.length + j) vc).ownBlock with
                            | none => rw [ho] at hm; simp at hm
                            | some g' => rw [ho] at hm; simp at hm; exact q2 (by rw [ho, ← hm])), ((Ext.refl wr).alloc _).cell (show g < wr.heap.size by omega)]
                          exact q3 i u hi)
                      have ho3 : w10.ownsRow bb 82 1 v' (l.length + (j + 1)) ((l ++ List.replicate (j + 1) 0).map (Value.int .u16)) := by
                        rw [List.replicate_succ', List.map_append, List.map_append, List.map_replicate]; exact hown'
                      obtain ⟨vb, vd, rfl, hvd, hvg⟩ := own_slice ho3
                      have HO3 := Lib.hid ho3
                      clear hown' hgrow hob hown hmc ho3 hvf hvg
                      go_wp2_with fail
                      go_roundw
                      case rel => exact ⟨j + 1, by omega, HO3.out, hr10, hg10, hn10, HMC2⟩
                      case measure => simp [slen]; omega
                    · have hlt' : ¬ (((l.length + j : Nat) : Int) + (m.length : Int)) < 8 := by omega
                      have hj8 : j = 8 - (l.length + m.length) := by omega
                      have h16 : ok16 (l ++ List.replicate j 0) := fun x hx => by
                        rcases List.mem_append.1 hx with hx | hx
                        · exact HLO.out.1 x hx
                        · have := List.eq_of_mem_replicate hx; omega
                      have h16m : ok16 (l ++ List.replicate j 0 ++ m) := fun x hx => by
                        rcases List.mem_append.1 hx with hx | hx
                        · exact h16 x hx
                        · exact HMO.out.1 x hx
                      have E2 : Hid (parseA s = v6 (l ++ List.replicate j 0 ++ m)) := Lib.hid (by rw [E.out, ← hj8])
                      have hjq : j ≤ 8 := by omega
                      clear hj8
                      rcases HF2.out with ⟨h0, rfl, rfl⟩ | ⟨g2, rfl⟩
                      · have hm0 : m = [] := List.eq_nil_of_length_eq_zero h0
                        obtain ⟨g3, rfl⟩ : ∃ g, va = some ⟨g, 0, none⟩ := by
                          rcases hvf with ⟨h0, _, _⟩ | h0
                          · omega
                          · exact h0
                        have hown2 : wr.ownsRow bb 82 1 (.slice (some ⟨g3, 0, none⟩) (l.length + j) vc) (l ++ List.replicate j 0 ++ m).length ((l ++ List.replicate j 0 ++ m).map (Value.int .u16)) := by
                          rw [hm0, List.append_nil, List.length_append, List.length_replicate]; exact hown
                        have HGR := Lib.hid (grps_own hown2 h16m)
                        have HV6 := Lib.hid (fun w h => rV6_any (.slice (some ⟨g3, 0, none⟩) (l.length + j) vc) (l ++ List.replicate j 0 ++ m) w h (by simp; omega))
                        have hA := okA_v6 h16m
                        have H0 := Lib.hid h0
                        clear hown hown2 hmc h16m h16 Ho7 hm0 h0
                        generalize l ++ List.replicate j 0 ++ m = gs at *
                        go_wp2_with (first | (at_builtin; refine wpList_append_nil0 rfl _ _ 91 rfl 82 i0 Tryz.underlying91 HI.out g3 (l.length + j) vc hvc rfl m.length H0.out rfl ?_) | (go_at_call 93; refine (HV6.out _ HGR.out).mono ?_; rintro e w11 ⟨rfl, hx11⟩; have hr11 := hr.ext hx11; have hxx := hx.trans hx11) | refine wpList_store_A rfl _ _ rfl okA_zadr hA hr11 rfl rfl ?_)
                        refine bodyPost_ret (res_A2 rfl rfl hA (hr11.row _)) rfl ⟨by rw [E2.out]; rfl, hxx.setRow (Nat.le_refl _) _⟩
                      · have Hcells2 : Hid (∀ j u, (m.map (Value.int .u16))[j]? = some u → wr.cell? ((⟨g2, 0, none⟩ : Addr).add j) = some u) := Lib.hid (fun j u hj => by
                          rw [show (⟨g2, 0, none⟩ : Addr).add j = ⟨g2, j, none⟩ from by unfold Addr.add; split <;> simp_all]
                          exact (hmc.out g2 rfl).2.2 j u hj)
                        have hA := okA_v6 h16m
                        have H16M := Lib.hid h16m
                        clear h16 h16m
                        go_wp2_with (at_builtin; refine wpList_append_own_at _ rfl _ _ 91 rfl bb 82 i0 (.int .u16 0) 1 2 Tryz.underlying91 HI.out HZ0.out HZ1.out HZ2.out rfl (by decide) _ _ _ rfl hown ⟨g2, 0, none⟩ m.length c2 (m.map (Value.int .u16)) rfl ?d1 Hcells2.out ?d2 ?d3 ?d4 ?d5 ?_)
                        case d2 => first | (intro u hu; obtain ⟨x, _, rfl⟩ := List.mem_map.1 hu; rfl) | (intro u hu; rfl)
                        case d3 => unfold maxLen; omega
                        case d4 => omega
                        case d5 => omega
                        intro v'' w11 hown'' hgrow2 _ _
                        refine Hid.out ?_
                        obtain ⟨a5, c5, rfl, hc5, hf5⟩ := own_slice hown''
                        have ho3 : w11.ownsRow bb 82 1 (.slice a5 (l.length + j + m.length) c5) (l ++ List.replicate j 0 ++ m).length ((l ++ List.replicate j 0 ++ m).map (Value.int .u16)) := by
                          rw [List.length_append, List.length_append, List.length_replicate, List.map_append, List.map_append, List.map_replicate]; first | exact hown'' | (rw [List.append_assoc]; exact hown'')
                        have HGR := Lib.hid (grps_own ho3 H16M.out)
                        have HV6 := Lib.hid (fun w h => rV6_any (.slice a5 (l.length + j + m.length) c5) (l ++ List.replicate j 0 ++ m) w h (by simp; omega))
                        have hg11 : Ext w w11 := Ext.grown hx hgrow2 (fun g hg => by have := (hlv g hg).1; omega)
                        have hr11 : Blk w11 w.heap.size (ac zadr).toList 30 := hr.keep (Keep.of_grown hgrow2) (fun hm => by
                          cases ho : (Value.slice va (l.length + j) vc).ownBlock with
                          | none => rw [ho] at hm; simp at hm
                          | some g => rw [ho] at hm; simp at hm; have := (hlv g ho).1; omega)
                        clear hown hown'' ho3 hmc H16M hgrow2
                        generalize l ++ List.replicate j 0 ++ m = gs at *
                        refine Lib.hid ?_
                        go_wp2_with (first | (go_at_call 93; refine (HV6.out _ HGR.out).mono ?_; rintro e w12 ⟨rfl, hx12⟩; have hr12 := hr11.ext hx12; have hxx := hg11.trans hx12) | refine wpList_store_A rfl _ _ rfl okA_zadr hA hr12 rfl rfl ?_)
                        refine bodyPost_ret (res_A2 rfl rfl hA (hr12.row _)) rfl ⟨by rw [E2.out]; rfl, hxx.setRow (Nat.le_refl _) _⟩
          · have h1b : (B s (k + 1) == 58) = false := by rw [beq_eq_false_iff_ne]; exact h1
            have HN : Hid (∀ j, j < k + 1 → ¬ (B s j = 58 ∧ B s (j + 1) = 58)) := Lib.hid (fun j hj => by
              rcases Nat.lt_or_ge j k with h | h
              · exact hn.out j h
              · obtain rfl : j = k := by omega
                exact fun h => h1 h.2)
            clear h0 h1
            go_wp2_with fail
            go_roundw
            case rel => exact ⟨k + 1, by go_num, rfl, by omega, hr, hx, HN⟩
            case measure => simp [intOf]; omega
        · have h0b : (B s k == 58) = false := by rw [beq_eq_false_iff_ne]; exact h0
          have HN : Hid (∀ j, j < k + 1 → ¬ (B s j = 58 ∧ B s (j + 1) = 58)) := Lib.hid (fun j hj => by
            rcases Nat.lt_or_ge j k with h | h
            · exact hn.out j h
            · obtain rfl : j = k := by omega
              exact fun h => h0 h.1)
          clear h0
          go_wp2_with fail
          go_roundw
          case rel => exact ⟨k + 1, by go_num, rfl, by omega, hr, hx, HN⟩
          case measure => simp [intOf]; omega
      · have hlt' : ¬ (k : Int) + 1 < s.size := by omega
        have hcut := cutAt_miss hlt hn.out
        have hp := PN.out
        rw [hcut, if_pos (by decide)] at hp
        have PN2 := Lib.hid hp
        have HG1 := Lib.hid (fun w => rparseG_any s true w hs)
        clear hp hcut
        go_wp2_with (go_at_call 92; refine (HG1.out _).mono ?_; rintro e w7 ⟨v7, rfl, hv7, hx7⟩; refine Hid.out ?_)
        refine Lib.hid ?_
        have hr7 := hr.ext hx7
        have hxx7 := hx.trans hx7
        cases hpgs : parseG s true with
        | none =>
          have E : Hid (parseA s = (zadr, false)) := Lib.hid (by rw [PN2.out, hpgs])
          clear hpgs
          go_wp2_with (refine wpList_store_A rfl _ _ rfl okA_zadr okA_zadr hr7 rfl rfl ?_)
          refine bodyPost_ret (res_A2 rfl rfl okA_zadr (hr7.row _)) rfl ⟨by rw [E.out]; rfl, hxx7.setRow (Nat.le_refl _) _⟩
        | some l =>
          have hlo := parseG_ok hpgs
          have E : Hid (parseA s = v6 l) := Lib.hid (by rw [PN2.out, hpgs])
          have hgr := grps_own (hv7 l hpgs) hlo.1
          have hA := okA_v6 hlo.1
          have HGR := Lib.hid hgr; clear hgr hv7 hpgs
          have HV6 := Lib.hid (fun w h => rV6_any v7 l w h (by omega))
          go_wp2_with (first | (go_at_call 93; refine (HV6.out _ HGR.out).mono ?_; rintro e w9 ⟨rfl, hx9⟩; have hr9 := hr7.ext hx9; have hx99 := hxx7.trans hx9) | refine wpList_store_A rfl _ _ rfl okA_zadr hA hr9 rfl rfl ?_)
          refine bodyPost_ret (res_A2 rfl rfl hA (hr9.row _)) rfl ⟨by rw [E.out]; rfl, hx99.setRow (Nat.le_refl _) _⟩
end Go.Proofs.YtpdoddelnahlnaaGreatDoor
