/-
  Several texts joined: IpPr, HoP.
-/
import Derived.Maps.AppendAt
import Derived.Test.YtnohnnjeabehjaaGreatDoorK17
import Derived.Test.YtnohnnjeabehjaaGreatDoorK08
import Derived.Test.YtnohnnjeabehjaaGreatDoorK05
import Derived.Test.YtnohnnjeabehjaaGreatDoorK15
set_option maxHeartbeats 4000000
set_option maxRecDepth 8000
set_option linter.unusedVariables false
set_option linter.unusedSimpArgs false
namespace Go.Proofs.YtnohnnjeabehjaaGreatDoor
open Go.RowKit Go.Joins
theorem at_iff {s : ByteArray} {j : Nat} : s.data.toList[j]? = some 58 ↔ j < s.size /\ B s j = 58 := by
 rw [size_list]
 constructor
 ·intro h
  have hl := (List.getElem?_eq_some_iff.1 h).1
  refine ⟨hl, ?_⟩
  unfold B
  rw [List.getD_eq_getElem?_getD, h]; rfl
 ·rintro ⟨h1, h2⟩
  unfold B at h2
  rw [List.getD_eq_getElem?_getD, List.getElem?_eq_getElem h1, Option.getD_some] at h2
  rw [List.getElem?_eq_getElem h1]
  congr 1
  exact UInt8.toNat_inj.1 (by show _ = 58; omega)
theorem cutAt_hit {s : ByteArray} {k : Nat} (hk : k + 1 < s.size) (h0 : B s k = 58) (h1 : B s (k + 1) = 58) (hn : ∀ j, j < k -> ¬ (B s j = 58 /\ B s (j + 1) = 58)) : cutAt s = k :=
 index_at ⟨at_iff.2 ⟨by omega, h0⟩, at_iff.2 ⟨hk, h1⟩⟩ fun j hj h => hn j hj ⟨(at_iff.1 h.1).2, (at_iff.1 h.2).2⟩
theorem cutAt_miss {s : ByteArray} {k : Nat} (hk : ¬ k + 1 < s.size) (hn : ∀ j, j < k -> ¬ (B s j = 58 /\ B s (j + 1) = 58)) : cutAt s = -1 :=
 index_no fun j h => by
  have h1 := at_iff.1 h.1
  have h2 := at_iff.1 h.2
  exact hn j (by omega) ⟨h1.2, h2.2⟩
theorem parseA_none {s : ByteArray} (h : parse4 s = none) : parseA s = if cutAt s < 0 then (match parseG s true with
    | some l => v6 l
    | none => (zadr, false)) else (match parseG (s.extract 0 (cutAt s).toNat) false, parseG (s.extract ((cutAt s).toNat + 2) s.size) true with
    | some l, some m => if 7 < l.length + m.length then (zadr, false) else v6 (l ++ List.replicate (8 - (l.length + m.length)) 0 ++ m)
    | _, _ => (zadr, false)) := by unfold parseA; rw [h]; rfl
theorem parseA_four {s : ByteArray} (h : (parse4 s).isSome = true) : parseA s = ((p4A s).1, true) := by
 unfold parseA p4A
 cases hp : parse4 s with
 | none => rw [hp] at h; cases h
 | some b => rfl
theorem wpList_append_nil0 {P : Program} {w : World} {ops : Array Oper} {rest : List Oper} {o : Oper} {a : Act} {Q : Exit -> Act -> World -> Prop} (hgd : o.guard = none) (s x : Operand) (t : TypeId)
  (ho : o.op = .call { callee := .builtin .append, args := #[s, x], argTypes := #[t, t] }) (e : TypeId) (i : TypeInfo) (ht : P.underlying t = some (.slice e)) (hi : P.info? e = some i) (g n cap : Nat) (hn : n <= cap)
  (hs : a.eval s = .slice (some ⟨g, 0, none⟩) n cap) (k : Nat) (hk : k = 0) (hx : a.eval x = .slice none k 0) (h : wpList P ops Q rest (a.put o.dst (.slice (some ⟨g, 0, none⟩) n cap)) w) : wpList P ops Q (o :: rest) a w := by
 subst hk
 exact wpList_append_nil hgd s x t ho e i ht hi g n cap hn hs hx h
def slen : Value -> Nat
 | .slice _ n _ => n
 | _ => 0
theorem rparse_any (s : ByteArray) (w : World) (hs : s.size < 4294967281) :
  Calls Tryz.prog 203 #[.string s] w fun e w' => e = .returned (.tuple #[av (parseA s).1, .bool (parseA s).2]) /\ Ext w w' := by
 obtain ⟨i0, hi, hz0, hz1, hz2⟩ := info_parts infoU
 have HI := Lib.hid hi; have HZ0 := Lib.hid hz0; have HZ1 := Lib.hid hz1; have HZ2 := Lib.hid hz2
 clear hi hz0 hz1 hz2
 have HC := Lib.hid (fun w => rparse4_any s w hs)
 have hok := okA_p4A s
 have H42 := Lib.hid (p4A_snd s)
 go_enter Tryz.func203, Tryz.ntmps203
 go_upto_region 1 with fail
 rw [← ac_zadr]
 have hx := (Ext.refl w).alloc (.cells (ac zadr) 41)
 have hr := Blk.new w (ac zadr) 41
 generalize hw2 : w.alloc (.cells (ac zadr) 41) = w2 at *
 clear hw2
 go_wp2_with (go_at_call 204; refine (HC.out _).mono ?_; rintro e w4 ⟨rfl, hx4⟩; refine Hid.out ?_)
 refine Lib.hid ?_
 have hr4 := hr.ext hx4
 have hx44 := hx.trans hx4
 clear hr hx hx4
 have hbf := Blk.new w4 (ac zadr) 41
 go_upto_region 2 with (refine wpList_store_A rfl _ _ rfl okA_zadr hok hbf rfl rfl ?_)
 change Code.wp _ _ _ _ ((w4.alloc (.cells (ac zadr) 41)).setRow w4.heap.size (ac (p4A s).1))
 rw [World.setRow_alloc_new]
 have hQ := Blk.new w4 (ac (p4A s).1) 41
 have hx5 := hx44.alloc (.cells (ac (p4A s).1) 41)
 have hnx := (Ext.refl w4).alloc (.cells (ac (p4A s).1) 41)
 clear hbf
 generalize w4.alloc (.cells (ac (p4A s).1) 41) = w5 at *
 generalize w4.heap.size = q at *
 have hr5 := hr4.ext hnx
 clear hnx hr4
 cases hp4 : (p4A s).2 with
 | true =>
  rw [H42.out] at hp4
  have E := Lib.hid (parseA_four hp4)
  have hp5 : (p4A s).2 = true := by rw [H42.out]; exact hp4
  have HP5 := Lib.hid hp5; clear hp4 hp5
  generalize (p4A s).1 = P at *
  go_wp2_with (first | refine wpList_load_A rfl _ rfl hok hQ rfl ?_ | refine wpList_store_A rfl _ _ rfl okA_zadr hok hr5 rfl rfl ?_)
  refine bodyPost_ret (res_A2 rfl rfl hok (hr5.row _)) rfl ⟨by rw [E.out]; rfl, hx5.setRow (Nat.le_refl _) _⟩
 | false =>
  have hp0 : parse4 s = none := by
   rw [H42.out] at hp4
   cases h : parse4 s with
   | none => rfl
   | some b => rw [h] at hp4; cases hp4
  have PN := Lib.hid (parseA_none hp0)
  have HP5 := Lib.hid hp4; clear hp4 hp0 hQ hok HC H42
  have hs' := hs
  generalize (p4A s).1 = P at *
  go_wp2_with fail
  go_loopw [6, 7] (fun t c wr => ∃ k : Nat, c = .int .i64 k /\ t = .int .i64 (-1) /\ (k <= s.size) /\ Blk wr w.heap.size (ac zadr).toList 41 /\ Ext w wr /\ Hid (∀ j, j < k -> ¬ (B s j = 58 /\ B s (j + 1) = 58))) (fun _ c _ => s.size - (intOf c).toNat)
  case atStart => exact ⟨0, rfl, rfl, by omega, hr5, hx5, Lib.hid (fun j h => by omega)⟩
  case round =>
   obtain ⟨k, rfl, rfl, hk, hr, hx, hn⟩ := hrel
   by_cases hlt : k + 1 < s.size
   ·have hlt' : (k : Int) + 1 < s.size := by omega
    have hk1 : (k : Int) < s.size := by omega
    by_cases h0 : B s k = 58
    ·have h0b : (B s k == 58) = true := by rw [beq_iff_eq]; exact h0
     by_cases h1 : B s (k + 1) = 58
     ·have h1b : (B s (k + 1) == 58) = true := by rw [beq_iff_eq]; exact h1
      have hcut := cutAt_hit hlt h0 h1 hn.out
      have hp := PN.out
      rw [hcut, if_neg (by omega), Int.toNat_natCast] at hp
      have PN2 := Lib.hid hp
      have HG1 := Lib.hid (fun w => rparseG_any (s.extract 0 k) false w (by have := extract_le s 0 k; omega))
      have HG2 := Lib.hid (fun w => rparseG_any (s.extract (k + 2) s.size) true w (by have := extract_le s (k + 2) s.size; omega))
      clear hp hcut h0 h1
      go_wp2_with (go_at_call 222; refine (HG1.out _).mono ?_; rintro e w7 ⟨v7, rfl, hv7, hx7⟩; refine Hid.out ?_)
      refine Lib.hid ?_
      go_wp2_with (go_at_call 222; refine (HG2.out _).mono ?_; rintro e w8 ⟨v8, rfl, hv8, hx8⟩; refine Hid.out ?_)
      refine Lib.hid ?_
      have hr8 := (hr.ext hx7).ext hx8
      have hx88 := (hx.trans hx7).trans hx8
      have hrw7 : wr.heap.size <= w7.heap.size := hx7.size
      have hrw : w.heap.size < wr.heap.size := hr.lt
      cases hp1 : parseG (s.extract 0 k) false with
      | none =>
       have E : Hid (parseA s = (zadr, false)) := Lib.hid (by rw [PN2.out, hp1])
       clear hp1
       go_wp2_with (refine wpList_store_A rfl _ _ rfl okA_zadr okA_zadr hr8 rfl rfl ?_)
       refine bodyPost_ret (res_A2 rfl rfl okA_zadr (hr8.row _)) rfl ⟨by rw [E.out]; rfl, hx88.setRow (Nat.le_refl _) _⟩
      | some l =>
       cases hp2 : parseG (s.extract (k + 2) s.size) true with
       | none =>
        have E : Hid (parseA s = (zadr, false)) := Lib.hid (by rw [PN2.out, hp1, hp2])
        clear hp1 hp2
        go_wp2_with (refine wpList_store_A rfl _ _ rfl okA_zadr okA_zadr hr8 rfl rfl ?_)
        refine bodyPost_ret (res_A2 rfl rfl okA_zadr (hr8.row _)) rfl ⟨by rw [E.out]; rfl, hx88.setRow (Nat.le_refl _) _⟩
       | some m =>
        have hlo := parseG_ok hp1
        have hmo := parseG_ok hp2
        have ho7 := hv7 l hp1
        have ho8 := hv8 m hp2
        have hlt7 := ho7.lt
        have hlt8 := ho8.lt
        obtain ⟨a1, c1, rfl, hc1, hf1⟩ := own_slice ho7
        obtain ⟨a2, c2, rfl, hc2, hf2⟩ := own_slice ho8
        have ho7' := ownsRow_keep ho7 (hx8.keep []) (by simp)
        have hE : parseA s = if 7 < l.length + m.length then (zadr, false) else v6 (l ++ List.replicate (8 - (l.length + m.length)) 0 ++ m) := by rw [PN2.out, hp1, hp2]
        have hl1 : (l.length : Int) <= 4294967400 := by have := hlo.2; have := extract_le s 0 k; omega
        have hm1 : (m.length : Int) <= 4294967400 := by have := hmo.2; have := extract_le s (k + 2) s.size; omega
        clear hv7 hv8 hp1 hp2 ho7 HG1 HG2 PN2 PN
        by_cases h7 : 7 < l.length + m.length
        ·rw [if_pos h7] at hE
         have E := Lib.hid hE; clear hE
         have h7d : decide ((7 : Int) < l.length + m.length) = true := decide_eq_true (by omega)
         have h7e : (7 : Int) < l.length + m.length := by omega
         go_wp2_with (refine wpList_store_A rfl _ _ rfl okA_zadr okA_zadr hr8 rfl rfl ?_)
         refine bodyPost_ret (res_A2 rfl rfl okA_zadr (hr8.row _)) rfl ⟨by rw [E.out]; rfl, hx88.setRow (Nat.le_refl _) _⟩
        ·rw [if_neg h7] at hE
         have E := Lib.hid hE; clear hE
         have h7d : decide ((7 : Int) < l.length + m.length) = false := decide_eq_false (by omega)
         have h7e : ¬ (7 : Int) < l.length + m.length := by omega
         have Ho7 := Lib.hid ho7'; have Ho8 := Lib.hid ho8
         have HLT7 := Lib.hid hlt7; have HLT8 := Lib.hid hlt8
         have HLO := Lib.hid hlo; have HMO := Lib.hid hmo
         have HF2 := Lib.hid hf2
         clear ho7' ho8 hlt7 hlt8 hlo hmo hf1 hf2 hn HP5
         obtain ⟨bb, hbb⟩ : ∃ b, wr.heap.size = b := ⟨_, rfl⟩
         rw [hbb] at Ho7 HLT7 hrw hrw7
         clear hbb
         have hw8 : w.heap.size <= w8.heap.size := hx88.size
         have hw78 : w7.heap.size <= w8.heap.size := hx8.size
         have hMC : ∀ g, a2 = some ⟨g, 0, none⟩ -> g < w8.heap.size /\ (Value.slice a1 l.length c1).ownBlock ≠ some g /\ ∀ j u, (m.map (Value.int .u16))[j]? = some u -> w8.cell? ⟨g, j, none⟩ = some u := fun g hg => by
          subst hg
          have hb := HLT8.out g rfl
          refine ⟨hb.2, fun h => ?_, fun j u hj => ?_⟩
          ·have := (HLT7.out g h).2; omega
          ·have h1 := Ho8.out.cells (g := g) rfl j u hj
           rw [show (⟨g, 0, none⟩ : Addr).add j = ⟨g, j, none⟩ from by unfold Addr.add; split <;> simp_all] at h1
           exact h1
         have HMC := Lib.hid hMC; clear hMC
         have hjl : l.length + 0 + m.length <= 8 := by omega
         obtain ⟨N8, hN8⟩ : ∃ N, w8.heap.size = N := ⟨_, rfl⟩
         rw [hN8] at HMC
         have hn8 : N8 <= w8.heap.size := by omega
         have hbN : bb <= N8 := by omega
         have hwN : w.heap.size < bb := by omega
         clear hN8 hw78 hw8 hrw7 hrw Ho8 HLT8 HLT7 hlt hlt' hk hk1 h0b h1b hr
         go_wp2_with fail
         go_loopw [10] (fun v wr => ∃ j : Nat, l.length + j + m.length <= 8 /\ wr.ownsRow bb 239 1 v (l.length + j) ((l ++ List.replicate j 0).map (Value.int .u16)) /\ Blk wr w.heap.size (ac zadr).toList 41 /\ Ext w wr /\ N8 <= wr.heap.size /\ Hid (∀ g, a2 = some ⟨g, 0, none⟩ -> g < N8 /\ v.ownBlock ≠ some g /\ ∀ j u, (m.map (Value.int .u16))[j]? = some u -> wr.cell? ⟨g, j, none⟩ = some u)) (fun v _ => 8 - slen v)
         case atStart => exact ⟨0, hjl, by rw [List.replicate_zero, List.append_nil]; exact Ho7.out, hr8, hx88, hn8, HMC⟩
         case round =>
          obtain ⟨j, hj, hown, hr, hx, hn8, hmc⟩ := hrel
          have hlv := hown.lt
          have hown0 := hown
          obtain ⟨va, vc, rfl, hvc, hvf⟩ := own_slice hown0
          by_cases hlt : l.length + j + m.length < 8
          ·have hlt' : (((l.length + j : Nat) : Int) + (m.length : Int)) < 8 := by omega
           go_wp2_with (at_builtin; refine wpList_append_own_at _ rfl _ _ 233 rfl bb 239 i0 (.int .u16 0) 1 2 Tryz.underlying233 HI.out HZ0.out HZ1.out HZ2.out rfl (by decide) _ _ _ rfl (hown.alloc _) ⟨wr.heap.size, 0, none⟩ 1 1 [.int .u16 0] rfl rfl ?c1 ?c2 ?c3 ?c4 ?c5 ?_)
           case c1 =>
            intro j u hj
            have B1 := Blk.new wr #[Value.int .u16 0] 239
            have e1 : (⟨wr.heap.size, 0, none⟩ : Addr).add j = ⟨wr.heap.size, j, none⟩ := by unfold Addr.add; split <;> simp_all
            rw [e1]
            exact B1.cell hj
           case c2 => simp [Value.oneCell']
           case c3 => unfold maxLen; omega
           case c4 => omega
           case c5 => rw [World.size_alloc]; omega
           intro v' w10 hown' hgrow _ hob
           have hg10 : Ext w w10 := Ext.grown (hx.alloc _) hgrow (fun g hg => by have := (hlv g hg).1; omega)
           have hr10 : Blk w10 w.heap.size (ac zadr).toList 41 := (hr.alloc _).keep (Keep.of_grown hgrow) (fun hm => by
            cases ho : (Value.slice va (l.length + j) vc).ownBlock with
            | none => rw [ho] at hm; simp at hm
            | some g => rw [ho] at hm; simp at hm; have := (hlv g ho).1; omega)
           have hn10 : N8 <= w10.heap.size := by have := hgrow.size; rw [World.size_alloc] at this; omega
           have HMC2 : Hid (∀ g, a2 = some ⟨g, 0, none⟩ -> g < N8 /\ v'.ownBlock ≠ some g /\ ∀ j u, (m.map (Value.int .u16))[j]? = some u -> w10.cell? ⟨g, j, none⟩ = some u) := Lib.hid (fun g hg => by
            obtain ⟨q1, q2, q3⟩ := hmc.out g hg
            refine ⟨q1, fun h => ?_, fun i u hi => ?_⟩
            ·rcases hob with h' | h'
             ·rw [h'] at h; exact q2 h
             ·rw [h'] at h; have h3 := Option.some.inj h; first | omega | (rw [World.size_alloc] at h3; omega)
            ·rw [(Keep.of_grown hgrow).cell (p := ⟨g, i, none⟩) (show g < (wr.alloc _).heap.size by rw [World.size_alloc]; omega) (fun hm => by
              cases ho : (Value.slice va (l.length + j) vc).ownBlock with
              | none => rw [ho] at hm; simp at hm
              | some g' => rw [ho] at hm; simp at hm; exact q2 (by rw [ho, ← hm])), ((Ext.refl wr).alloc _).cell (show g < wr.heap.size by omega)]
             exact q3 i u hi)
           have ho3 : w10.ownsRow bb 239 1 v' (l.length + (j + 1)) ((l ++ List.replicate (j + 1) 0).map (Value.int .u16)) := by
            rw [List.replicate_succ', List.map_append, List.map_append, List.map_replicate]; exact hown'
           obtain ⟨vb, vd, rfl, hvd, hvg⟩ := own_slice ho3
           have HO3 := Lib.hid ho3
           clear hown' hgrow hob hown hmc ho3 hvf hvg
           go_wp2_with fail
           go_roundw
           case rel => exact ⟨j + 1, by omega, HO3.out, hr10, hg10, hn10, HMC2⟩
           case measure => simp [slen]; omega
          ·have hlt' : ¬ (((l.length + j : Nat) : Int) + (m.length : Int)) < 8 := by omega
           have hj8 : j = 8 - (l.length + m.length) := by omega
           have h16 : ok16 (l ++ List.replicate j 0) := fun x hx => by
            rcases List.mem_append.1 hx with hx | hx
            ·exact HLO.out.1 x hx
            ·have := List.eq_of_mem_replicate hx; omega
           have h16m : ok16 (l ++ List.replicate j 0 ++ m) := fun x hx => by
            rcases List.mem_append.1 hx with hx | hx
            ·exact h16 x hx
            ·exact HMO.out.1 x hx
           have E2 : Hid (parseA s = v6 (l ++ List.replicate j 0 ++ m)) := Lib.hid (by rw [E.out, ← hj8])
           have hjq : j <= 8 := by omega
           clear hj8
           rcases HF2.out with ⟨h0, rfl, rfl⟩ | ⟨g2, rfl⟩
           ·have hm0 : m = [] := List.eq_nil_of_length_eq_zero h0
            obtain ⟨g3, rfl⟩ : ∃ g, va = some ⟨g, 0, none⟩ := by
             rcases hvf with ⟨h0, _, _⟩ | h0
             ·omega
             ·exact h0
            have hown2 : wr.ownsRow bb 239 1 (.slice (some ⟨g3, 0, none⟩) (l.length + j) vc) (l ++ List.replicate j 0 ++ m).length ((l ++ List.replicate j 0 ++ m).map (Value.int .u16)) := by
             rw [hm0, List.append_nil, List.length_append, List.length_replicate]; exact hown
            have HGR := Lib.hid (grps_own hown2 h16m)
            have HV6 := Lib.hid (fun w h => rV6_any (.slice (some ⟨g3, 0, none⟩) (l.length + j) vc) (l ++ List.replicate j 0 ++ m) w h (by simp; omega))
            have hA := okA_v6 h16m
            have H0 := Lib.hid h0
            clear hown hown2 hmc h16m h16 Ho7 hm0 h0
            generalize l ++ List.replicate j 0 ++ m = gs at *
            go_wp2_with (first | (at_builtin; refine wpList_append_nil0 rfl _ _ 233 rfl 239 i0 Tryz.underlying233 HI.out g3 (l.length + j) vc hvc rfl m.length H0.out rfl ?_) | (go_at_call 223; refine (HV6.out _ HGR.out).mono ?_; rintro e w11 ⟨rfl, hx11⟩; have hr11 := hr.ext hx11; have hxx := hx.trans hx11) | refine wpList_store_A rfl _ _ rfl okA_zadr hA hr11 rfl rfl ?_)
            refine bodyPost_ret (res_A2 rfl rfl hA (hr11.row _)) rfl ⟨by rw [E2.out]; rfl, hxx.setRow (Nat.le_refl _) _⟩
           ·have Hcells2 : Hid (∀ j u, (m.map (Value.int .u16))[j]? = some u -> wr.cell? ((⟨g2, 0, none⟩ : Addr).add j) = some u) := Lib.hid (fun j u hj => by
             rw [show (⟨g2, 0, none⟩ : Addr).add j = ⟨g2, j, none⟩ from by unfold Addr.add; split <;> simp_all]
             exact (hmc.out g2 rfl).2.2 j u hj)
            have hA := okA_v6 h16m
            have H16M := Lib.hid h16m
            clear h16 h16m
            go_wp2_with (at_builtin; refine wpList_append_own_at _ rfl _ _ 233 rfl bb 239 i0 (.int .u16 0) 1 2 Tryz.underlying233 HI.out HZ0.out HZ1.out HZ2.out rfl (by decide) _ _ _ rfl hown ⟨g2, 0, none⟩ m.length c2 (m.map (Value.int .u16)) rfl ?d1 Hcells2.out ?d2 ?d3 ?d4 ?d5 ?_)
            case d2 => first | (intro u hu; obtain ⟨x, _, rfl⟩ := List.mem_map.1 hu; rfl) | (intro u hu; rfl)
            case d3 => unfold maxLen; omega
            case d4 => omega
            case d5 => omega
            intro v'' w11 hown'' hgrow2 _ _
            refine Hid.out ?_
            obtain ⟨a5, c5, rfl, hc5, hf5⟩ := own_slice hown''
            have ho3 : w11.ownsRow bb 239 1 (.slice a5 (l.length + j + m.length) c5) (l ++ List.replicate j 0 ++ m).length ((l ++ List.replicate j 0 ++ m).map (Value.int .u16)) := by
             rw [List.length_append, List.length_append, List.length_replicate, List.map_append, List.map_append, List.map_replicate]; first | exact hown'' | (rw [List.append_assoc]; exact hown'')
            have HGR := Lib.hid (grps_own ho3 H16M.out)
            have HV6 := Lib.hid (fun w h => rV6_any (.slice a5 (l.length + j + m.length) c5) (l ++ List.replicate j 0 ++ m) w h (by simp; omega))
            have hg11 : Ext w w11 := Ext.grown hx hgrow2 (fun g hg => by have := (hlv g hg).1; omega)
            have hr11 : Blk w11 w.heap.size (ac zadr).toList 41 := hr.keep (Keep.of_grown hgrow2) (fun hm => by
             cases ho : (Value.slice va (l.length + j) vc).ownBlock with
             | none => rw [ho] at hm; simp at hm
             | some g => rw [ho] at hm; simp at hm; have := (hlv g ho).1; omega)
            clear hown hown'' ho3 hmc H16M hgrow2
            generalize l ++ List.replicate j 0 ++ m = gs at *
            refine Lib.hid ?_
            go_wp2_with (first | (go_at_call 223; refine (HV6.out _ HGR.out).mono ?_; rintro e w12 ⟨rfl, hx12⟩; have hr12 := hr11.ext hx12; have hxx := hg11.trans hx12) | refine wpList_store_A rfl _ _ rfl okA_zadr hA hr12 rfl rfl ?_)
            refine bodyPost_ret (res_A2 rfl rfl hA (hr12.row _)) rfl ⟨by rw [E2.out]; rfl, hxx.setRow (Nat.le_refl _) _⟩
     ·have h1b : (B s (k + 1) == 58) = false := by rw [beq_eq_false_iff_ne]; exact h1
      have HN : Hid (∀ j, j < k + 1 -> ¬ (B s j = 58 /\ B s (j + 1) = 58)) := Lib.hid (fun j hj => by
       rcases Nat.lt_or_ge j k with h | h
       ·exact hn.out j h
       ·obtain rfl : j = k := by omega
        exact fun h => h1 h.2)
      clear h0 h1
      go_wp2_with fail
      go_roundw
      case rel => exact ⟨k + 1, by go_num, rfl, by omega, hr, hx, HN⟩
      case measure => simp [intOf]; omega
    ·have h0b : (B s k == 58) = false := by rw [beq_eq_false_iff_ne]; exact h0
     have HN : Hid (∀ j, j < k + 1 -> ¬ (B s j = 58 /\ B s (j + 1) = 58)) := Lib.hid (fun j hj => by
      rcases Nat.lt_or_ge j k with h | h
      ·exact hn.out j h
      ·obtain rfl : j = k := by omega
       exact fun h => h0 h.1)
     clear h0
     go_wp2_with fail
     go_roundw
     case rel => exact ⟨k + 1, by go_num, rfl, by omega, hr, hx, HN⟩
     case measure => simp [intOf]; omega
   ·have hlt' : ¬ (k : Int) + 1 < s.size := by omega
    have hcut := cutAt_miss hlt hn.out
    have hp := PN.out
    rw [hcut, if_pos (by decide)] at hp
    have PN2 := Lib.hid hp
    have HG1 := Lib.hid (fun w => rparseG_any s true w hs)
    clear hp hcut
    go_wp2_with (go_at_call 222; refine (HG1.out _).mono ?_; rintro e w7 ⟨v7, rfl, hv7, hx7⟩; refine Hid.out ?_)
    refine Lib.hid ?_
    have hr7 := hr.ext hx7
    have hxx7 := hx.trans hx7
    cases hpgs : parseG s true with
    | none =>
     have E : Hid (parseA s = (zadr, false)) := Lib.hid (by rw [PN2.out, hpgs])
     clear hpgs
     go_wp2_with (refine wpList_store_A rfl _ _ rfl okA_zadr okA_zadr hr7 rfl rfl ?_)
     refine bodyPost_ret (res_A2 rfl rfl okA_zadr (hr7.row _)) rfl ⟨by rw [E.out]; rfl, hxx7.setRow (Nat.le_refl _) _⟩
    | some l =>
     have hlo := parseG_ok hpgs
     have E : Hid (parseA s = v6 l) := Lib.hid (by rw [PN2.out, hpgs])
     have hgr := grps_own (hv7 l hpgs) hlo.1
     have hA := okA_v6 hlo.1
     have HGR := Lib.hid hgr; clear hgr hv7 hpgs
     have HV6 := Lib.hid (fun w h => rV6_any v7 l w h (by omega))
     go_wp2_with (first | (go_at_call 223; refine (HV6.out _ HGR.out).mono ?_; rintro e w9 ⟨rfl, hx9⟩; have hr9 := hr7.ext hx9; have hx99 := hxx7.trans hx9) | refine wpList_store_A rfl _ _ rfl okA_zadr hA hr9 rfl rfl ?_)
     refine bodyPost_ret (res_A2 rfl rfl hA (hr9.row _)) rfl ⟨by rw [E.out]; rfl, hx99.setRow (Nat.le_refl _) _⟩
open Go.RowKit
def hostT (h : ByteArray) (p : Int) : Tgt × Bool :=
 if 2 <= h.size /\ B h 0 = 91 /\ B h (h.size - 1) = 93 then
  if ((parseA (h.extract 1 (h.size - 1))).2 && (parseA (h.extract 1 (h.size - 1))).1.1) = true then ((⟨#[]⟩, (parseA (h.extract 1 (h.size - 1))).1, p), true) else (ztgt, false)
 else if (p4A h).2 = true then ((⟨#[]⟩, (p4A h).1, p), true)
 else if (nameP h).2 = true then (((nameP h).1, zadr, p), true) else (ztgt, false)
def tgtP (s : ByteArray) : Tgt × Bool :=
 if Lib.lastIndexByte s 58 < 0 then (ztgt, false)
 else if (portP (s.extract ((Lib.lastIndexByte s 58).toNat + 1) s.size)).2 = false then (ztgt, false)
 else hostT (s.extract 0 (Lib.lastIndexByte s 58).toNat) (portP (s.extract ((Lib.lastIndexByte s 58).toNat + 1) s.size)).1
theorem okA_parse' (s : ByteArray) : okA (parseA s).1 := by
 cases h : (parse4 s).isSome with
 | true => rw [parseA_four h]; exact okA_p4A s
 | false =>
  have h0 : parse4 s = none := by
   cases h1 : parse4 s with
   | none => rfl
   | some b => rw [h1] at h; cases h
  rw [parseA_none h0]
  split
  ·cases hp : parseG s true with
   | none => exact okA_zadr
   | some l => exact okA_v6 (parseG_ok hp).1
  ·cases hp1 : parseG (s.extract 0 (cutAt s).toNat) false with
   | none => exact okA_zadr
   | some l =>
    cases hp2 : parseG (s.extract ((cutAt s).toNat + 2) s.size) true with
    | none => exact okA_zadr
    | some m =>
     simp only
     split
     ·exact okA_zadr
     ·exact okA_v6 (by
       have a1 := (parseG_ok hp1).1
       have a2 := (parseG_ok hp2).1
       intro x hx
       rcases List.mem_append.1 hx with hx | hx
       ·rcases List.mem_append.1 hx with hx | hx
        ·exact a1 x hx
        ·have := List.eq_of_mem_replicate hx; omega
       ·exact a2 x hx)
theorem portP_bd (s : ByteArray) : 0 <= (portP s).1 /\ (portP s).1 <= 65535 := by
 unfold portP numP
 (repeat' split) <;> simp only <;> omega
theorem nameP_size (s : ByteArray) : (nameP s).1.size <= s.size := by
 unfold nameP
 split
 ·exact hostS_size s
 ·exact Nat.zero_le _
theorem p4A_some {h : ByteArray} (q : (p4A h).2 = true) : parseA h = p4A h /\ (p4A h).1.1 = false := by
 unfold p4A at *
 cases e : parse4 h with
 | none => rw [e] at q; cases q
 | some b =>
  have := parseA_four (s := h) (by rw [e]; rfl)
  rw [this]; unfold p4A; rw [e]; exact ⟨rfl, rfl⟩
theorem v6_fam {l : List Int} (h : (v6 l).2 = true) : (v6 l).1.1 = true := by
 unfold v6 at *
 split
 ·rfl
 ·rename_i q; rw [if_neg q] at h; cases h
theorem p4A_none {h : ByteArray} (q : (p4A h).2 = false) (k : (parseA h).2 = true) : (parseA h).1.1 = true := by
 have e : parse4 h = none := by
  cases e : parse4 h with
  | none => rfl
  | some b => unfold p4A at q; rw [e] at q; cases q
 rw [parseA_none e] at *
 split at k
 ·rename_i hc
  rw [if_pos hc]
  cases hp : parseG h true with
  | none => rw [hp] at k; cases k
  | some l => rw [hp] at k; exact v6_fam k
 ·rename_i hc
  rw [if_neg hc]
  cases hp1 : parseG (h.extract 0 (cutAt h).toNat) false with
  | none => rw [hp1] at k; cases k
  | some l =>
   cases hp2 : parseG (h.extract ((cutAt h).toNat + 2) h.size) true with
   | none => rw [hp1, hp2] at k; cases k
   | some m =>
    rw [hp1, hp2] at k
    simp only at k ⊢
    split at k
    ·cases k
    ·rename_i q; rw [if_neg q]; exact v6_fam k
theorem okT_hostT (h : ByteArray) {p : Int} (hz : h.size <= maxLen) (hp : 0 <= p /\ p <= 65535) : okT (hostT h p).1 := by
 have hi : i64ok p := by unfold i64ok; omega
 unfold hostT
 split
 ·split
  ·exact ⟨okA_parse' _, hi, Nat.zero_le _⟩
  ·exact okT_ztgt
 ·split
  ·exact ⟨okA_p4A _, hi, Nat.zero_le _⟩
  ·split
   ·exact ⟨okA_zadr, hi, Nat.le_trans (nameP_size h) hz⟩
   ·exact okT_ztgt
theorem okT_tgtP (s : ByteArray) (hz : s.size <= maxLen) : okT (tgtP s).1 := by
 unfold tgtP
 split
 ·exact okT_ztgt
 ·split
  ·exact okT_ztgt
  ·exact okT_hostT _ (Nat.le_trans (extract_le _ _ _) hz) (portP_bd _)
theorem build_T1 {a : Adr} (ha : okA a) (p : Int) (w : World) : (Instr.build 43 #[(1, .agg (ac a)), (2, .int .i64 p)]).run Tryz.prog w = .ok (.agg (tc (⟨#[]⟩, a, p))) w := by
 obtain ⟨f, l⟩ := a
 match l, ha.1 with
 | [a0, a1, a2, a3, a4, a5, a6, a7, a8, a9, a10, a11, a12, a13, a14, a15], _ => exact run_build w 43 _ _ (by kernel_rfl)
theorem exec_buildT1 {o : Oper} {f : Act} {x y : Operand} (ho : o.op = .build 43 #[(1, x), (2, y)]) {a : Adr} (ha : okA a) {p : Int} (hx : f.eval x = .agg (ac a)) (hy : f.eval y = .int .i64 p) (w : World) :
  (execOp f.eval o).run Tryz.prog w = .ok (.value (.agg (tc (⟨#[]⟩, a, p)))) w := by
 unfold execOp
 rw [ho]
 have e := build_T1 ha p w
 simp only [List.map_toArray, List.map_cons, List.map_nil, hx, hy, Sem.run_bind, e, Result.andThen_ok, Sem.run_pure]
theorem wpList_build_T1 {ops : Array Oper} {rest : List Oper} {o : Oper} {f : Act} {w : World} {Q : Exit -> Act -> World -> Prop} (hgd : o.guard = none) (x y : Operand) (ho : o.op = .build 43 #[(1, x), (2, y)]) {a : Adr} (ha : okA a) {p : Int}
  (hx : f.eval x = .agg (ac a)) (hy : f.eval y = .int .i64 p) (h : wpList Tryz.prog ops Q rest (f.put o.dst (.agg (tc (⟨#[]⟩, a, p)))) w) : wpList Tryz.prog ops Q (o :: rest) f w :=
 wpList_plain hgd fun _ hK => by
  unfold Oper.wp
  rw [exec_buildT1 ho ha hx hy w]
  exact hK _ _ h
theorem lastIdx_get (s : ByteArray) : (Lib.lastIndexByte s 58 = -1) ∨ ∃ i : Nat, i < s.size /\ Lib.lastIndexByte s 58 = i := by
 rcases Lib.lastIndexByte_spec s 58 with h | ⟨i, h1, h2, _⟩
 ·exact .inl h.1
 ·exact .inr ⟨i, h1, h2⟩
theorem ptarget_any (s : ByteArray) (w : World) (henv : Env w) (hs : s.size < 4294967281) : Calls Tryz.prog 176 #[.string s] w fun e w' => e = .returned (.tuple #[tv (tgtP s).1, .bool (tgtP s).2]) /\ Ext w w' := by
 have KL := Lib.hid (Tryz.strings_LastIndexByte s 58 (by omega))
 go_enter Tryz.func176, Tryz.ntmps176
 go_upto_region 1 with fail
 rw [← tc_zero]
 have hx := (Ext.refl w).alloc (.cells (tc ztgt) 43)
 have hr := Blk.new w (tc ztgt) 43
 generalize w.alloc (.cells (tc ztgt) 43) = w0 at *
 have hwb : w.heap.size <= w.heap.size := Nat.le_refl _
 rcases lastIdx_get s with hl | ⟨i, hi, hl⟩
 ·have R : Hid (tgtP s = (ztgt, false)) := Lib.hid (by unfold tgtP; rw [hl]; rfl)
  rw [hl] at KL
  clear hl
  go_wp2_with (first | (go_at_call 196; refine (KL.out _).mono ?_; rintro e w3 ⟨rfl, rfl⟩) | refine wpList_store_T rfl _ _ rfl okT_ztgt okT_ztgt hr rfl rfl ?_)
  refine bodyPost_ret (res_T2 rfl rfl okT_ztgt (hr.row _)) rfl ⟨by rw [R.out]; rfl, hx.setRow hwb _⟩
 have RS : tgtP s = if (portP (s.extract (i + 1) s.size)).2 = false then (ztgt, false) else hostT (s.extract 0 i) (portP (s.extract (i + 1) s.size)).1 := by
  unfold tgtP
  rw [hl, if_neg (by omega), show ((i : Nat) : Int).toNat = i from rfl]
 rw [hl] at KL
 clear hl
 have KQ := Lib.hid (pport_any (s.extract (i + 1) s.size) (Nat.le_trans (extract_le _ _ _) (by unfold maxLen; omega)))
 have hpb := portP_bd (s.extract (i + 1) s.size)
 have hhz := extract_le s 0 i
 have hi1 : (i : Int) + 1 <= s.size := by omega
 have hi2 : (i : Int) <= s.size := by omega
 cases hpo : (portP (s.extract (i + 1) s.size)).2
 ·rw [hpo] at KQ
  have R : Hid (tgtP s = (ztgt, false)) := Lib.hid (by rw [RS, hpo]; rfl)
  clear RS hpo hpb
  generalize (portP (s.extract (i + 1) s.size)).1 = p at *
  go_wp2_with (first | (go_at_call 196; refine (KL.out _).mono ?_; rintro e w3 ⟨rfl, rfl⟩) | (go_at_call 197; refine (KQ.out _).mono ?_; rintro e w4 ⟨rfl, rfl⟩) | refine wpList_store_T rfl _ _ rfl okT_ztgt okT_ztgt hr rfl rfl ?_)
  refine bodyPost_ret (res_T2 rfl rfl okT_ztgt (hr.row _)) rfl ⟨by rw [R.out]; rfl, hx.setRow hwb _⟩
 rw [hpo] at KQ
 have R0 := Lib.hid (show tgtP s = hostT (s.extract 0 i) (portP (s.extract (i + 1) s.size)).1 by rw [RS, hpo]; rfl)
 clear RS hpo
 generalize (portP (s.extract (i + 1) s.size)).1 = p at *
 go_upto_region 8 with (first | (go_at_call 196; refine (KL.out _).mono ?_; rintro e w3 ⟨rfl, rfl⟩) | (go_at_call 197; refine (KQ.out _).mono ?_; rintro e w4 ⟨rfl, rfl⟩))
 clear KL KQ
 generalize s.extract 0 i = h at *
 have hz : h.size < 4294967281 := by omega
 have b0 := B_bd h 0
 have b1 := B_bd h (h.size - 1)
 have hj : ((h.size : Int) - 1).toNat = h.size - 1 := by omega
 have KP := Lib.hid (fun w he => parse_any h w he hz)
 clear hi hi1 hi2 hhz hs
 by_cases c1 : (h.size : Int) < 2
 ·have HB : Hid (¬ (2 <= h.size /\ B h 0 = 91 /\ B h (h.size - 1) = 93)) := Lib.hid (by omega)
  have R0 : Hid (tgtP s = if 2 <= h.size /\ B h 0 = 91 /\ B h (h.size - 1) = 93 then (if ((parseA (h.extract 1 (h.size - 1))).2 && (parseA (h.extract 1 (h.size - 1))).1.1) = true then ((⟨#[]⟩, (parseA (h.extract 1 (h.size - 1))).1, p), true) else (ztgt, false)) else if (p4A h).2 = true then ((⟨#[]⟩, (p4A h).1, p), true) else if (nameP h).2 = true then (((nameP h).1, zadr, p), true) else (ztgt, false)) := Lib.hid R0.out
  go_upto_region 13 with fail
  clear c1 b0 b1 hj
  go_wp2_with (first | (go_at_call 198; refine (KP.out _ (henv.ext hx)).mono ?_; rintro e w4 ⟨rfl, hx4⟩; refine Hid.out ?_))
  refine Lib.hid ?_
  have hxx4 := hx.trans hx4
  have hr4 := hr.ext hx4
  clear hx hx4 hr KP
  have hbf := Blk.new w4 (ac zadr) 41
  go_upto_region 14 with (refine wpList_store_A rfl _ _ rfl okA_zadr (okA_parse' h) hbf rfl rfl ?_)
  change Code.wp _ _ _ _ ((w4.alloc (.cells (ac zadr) 41)).setRow w4.heap.size (ac (parseA h).1))
  rw [World.setRow_alloc_new]
  have hA5 := Blk.new w4 (ac (parseA h).1) 41
  have hx5 := hxx4.alloc (.cells (ac (parseA h).1) 41)
  have hnx := (Ext.refl w4).alloc (.cells (ac (parseA h).1) 41)
  clear hbf
  generalize w4.alloc (.cells (ac (parseA h).1) 41) = w5 at *
  generalize w4.heap.size = b5 at *
  have hr5 := hr4.ext hnx
  have hP := okA_parse' h
  have c0 : w5.cell? ⟨b5, 0, none⟩ = some (.bool (parseA h).1.1) := hA5.cell (i := 0) rfl
  clear hnx hr4 hxx4
  cases q4 : (p4A h).2
  ·have RN : Hid (tgtP s = if (nameP h).2 = true then (((nameP h).1, zadr, p), true) else (ztgt, false)) := Lib.hid (by rw [R0.out, if_neg HB.out, q4, if_neg (by simp)])
   have hpa := p4A_none q4
   have henv5 := henv.ext hx5
   have KN := Lib.hid (pname_any h w5 henv5 (by unfold maxLen; omega))
   have hnz : (nameP h).1.size <= maxLen := Nat.le_trans (nameP_size h) (by unfold maxLen; omega)
   have hi64 : i64ok p := by unfold i64ok; omega
   clear R0 HB q4 hA5
   generalize (parseA h).1.1 = fam at *
   generalize (parseA h).2 = ok at *
   have hokT : okT ((nameP h).1, zadr, p) := ⟨okA_zadr, hi64, hnz⟩
   clear hnz hi64
   generalize (nameP h).1 = nm at *
   generalize (nameP h).2 = nok at *
   cases ok
   ·clear hpa c0
    go_wp2_with (first | (go_at_call 131; refine KN.out.mono ?_; rintro e w6 ⟨rfl, hx6⟩; refine Hid.out ?_))
    refine Lib.hid ?_
    have hr6 := hr5.ext hx6
    have hxx6 := hx5.trans hx6
    cases nok
    ·have R : Hid (tgtP s = (ztgt, false)) := Lib.hid (by rw [RN.out]; rfl)
     go_wp2_with (first | refine wpList_store_T rfl _ _ rfl okT_ztgt okT_ztgt hr6 rfl rfl ?_)
     refine bodyPost_ret (res_T2 rfl rfl okT_ztgt ((hr6).row _)) rfl ⟨by rw [R.out]; rfl, (hxx6).setRow hwb _⟩
    ·have R : Hid (tgtP s = ((nm, zadr, p), true)) := Lib.hid (by rw [RN.out]; rfl)
     go_wp2_with (first | refine wpList_store_T rfl _ _ rfl okT_ztgt hokT hr6 rfl rfl ?_)
     refine bodyPost_ret (res_T2 rfl rfl hokT (hr6.row _)) rfl ⟨by rw [R.out]; rfl, hxx6.setRow hwb _⟩
   ·have hfam := hpa rfl
    subst hfam
    clear hpa
    go_wp2_with (first | (go_at_call 131; refine KN.out.mono ?_; rintro e w6 ⟨rfl, hx6⟩; refine Hid.out ?_))
    refine Lib.hid ?_
    have hr6 := hr5.ext hx6
    have hxx6 := hx5.trans hx6
    cases nok
    ·have R : Hid (tgtP s = (ztgt, false)) := Lib.hid (by rw [RN.out]; rfl)
     go_wp2_with (first | refine wpList_store_T rfl _ _ rfl okT_ztgt okT_ztgt hr6 rfl rfl ?_)
     refine bodyPost_ret (res_T2 rfl rfl okT_ztgt ((hr6).row _)) rfl ⟨by rw [R.out]; rfl, (hxx6).setRow hwb _⟩
    ·have R : Hid (tgtP s = ((nm, zadr, p), true)) := Lib.hid (by rw [RN.out]; rfl)
     go_wp2_with (first | refine wpList_store_T rfl _ _ rfl okT_ztgt hokT hr6 rfl rfl ?_)
     refine bodyPost_ret (res_T2 rfl rfl hokT (hr6.row _)) rfl ⟨by rw [R.out]; rfl, hxx6.setRow hwb _⟩
  ·have hpp := p4A_some q4
   have R : Hid (tgtP s = ((⟨#[]⟩, (parseA h).1, p), true)) := Lib.hid (by rw [R0.out, if_neg HB.out, q4, if_pos rfl, hpp.1])
   have hok : (parseA h).2 = true := by rw [hpp.1]; exact q4
   have hfam : (parseA h).1.1 = false := by rw [hpp.1]; exact hpp.2
   have hokT : okT (⟨#[]⟩, (parseA h).1, p) := ⟨hP, by unfold i64ok; simp only; omega, Nat.zero_le _⟩
   rw [hfam] at c0
   generalize hok2 : (parseA h).2 = ok at *
   subst hok
   clear hok2 hpp R0 HB q4 hfam
   generalize (parseA h).1 = P at *
   go_wp2_with (first | refine wpList_load_A rfl _ rfl hP hA5 rfl ?_ | refine wpList_build_T1 rfl _ _ rfl hP rfl rfl ?_ | refine wpList_store_T rfl _ _ rfl okT_ztgt hokT hr5 rfl rfl ?_)
   refine bodyPost_ret (res_T2 rfl rfl hokT (hr5.row _)) rfl ⟨by rw [R.out]; rfl, hx5.setRow hwb _⟩
 have c1' : (2 : Int) <= h.size := by omega
 clear c1
 by_cases c2 : B h 0 = 91
 ·have c2' : (B h 0 == 91) = true := by rw [beq_iff_eq]; exact c2
  by_cases c3 : B h (h.size - 1) = 93
  ·have c3' : (B h (h.size - 1) == 93) = true := by rw [beq_iff_eq]; exact c3
   have R1 : Hid (tgtP s = if ((parseA (h.extract 1 (h.size - 1))).2 && (parseA (h.extract 1 (h.size - 1))).1.1) = true then ((⟨#[]⟩, (parseA (h.extract 1 (h.size - 1))).1, p), true) else (ztgt, false)) := Lib.hid (by rw [R0.out]; unfold hostT; rw [if_pos ⟨by omega, c2, c3⟩])
   clear c2 c3 R0 KP
   have hj1 : (1 : Int) <= (h.size : Int) - 1 := by omega
   have hj2 : (h.size : Int) - 1 <= h.size := by omega
   have hez := extract_le h 1 (h.size - 1)
   have KP := Lib.hid (fun w he => parse_any (h.extract 1 (h.size - 1)) w he (by omega))
   have hA := okA_parse' (h.extract 1 (h.size - 1))
   generalize (parseA (h.extract 1 (h.size - 1))).1 = P at *
   generalize (parseA (h.extract 1 (h.size - 1))).2 = ok at *
   go_wp2_with (first | (go_at_call 198; refine (KP.out _ (henv.ext hx)).mono ?_; rintro e w4 ⟨rfl, hx4⟩; refine Hid.out ?_))
   refine Lib.hid ?_
   have hxx4 := hx.trans hx4
   have hr4 := hr.ext hx4
   clear hx hx4 hr KP
   have hbf := Blk.new w4 (ac zadr) 41
   go_upto_region 10 with (refine wpList_store_A rfl _ _ rfl okA_zadr hA hbf rfl rfl ?_)
   change Code.wp _ _ _ _ ((w4.alloc (.cells (ac zadr) 41)).setRow w4.heap.size (ac P))
   rw [World.setRow_alloc_new]
   have hA5 := Blk.new w4 (ac P) 41
   have hx5 := hxx4.alloc (.cells (ac P) 41)
   have hnx := (Ext.refl w4).alloc (.cells (ac P) 41)
   clear hbf
   generalize w4.alloc (.cells (ac P) 41) = w5 at *
   generalize w4.heap.size = b5 at *
   have hr5 := hr4.ext hnx
   have c0 : w5.cell? ⟨b5, 0, none⟩ = some (.bool P.1) := hA5.cell (i := 0) rfl
   clear hnx hr4 hxx4
   have R2 : Hid (tgtP s = if (ok && P.1) = true then ((⟨#[]⟩, P, p), true) else (ztgt, false)) := R1
   clear R1
   cases ok
   ·have R : Hid (tgtP s = (ztgt, false)) := Lib.hid (by rw [R2.out]; rfl)
    clear R2
    go_wp2_with (first | refine wpList_store_T rfl _ _ rfl okT_ztgt okT_ztgt hr5 rfl rfl ?_)
    refine bodyPost_ret (res_T2 rfl rfl okT_ztgt ((hr5).row _)) rfl ⟨by rw [R.out]; rfl, (hx5).setRow hwb _⟩
   ·cases hf : P.1
    ·have R : Hid (tgtP s = (ztgt, false)) := Lib.hid (by rw [R2.out, hf]; rfl)
     rw [hf] at c0
     clear R2 hf
     go_wp2_with (first | refine wpList_store_T rfl _ _ rfl okT_ztgt okT_ztgt hr5 rfl rfl ?_)
     refine bodyPost_ret (res_T2 rfl rfl okT_ztgt ((hr5).row _)) rfl ⟨by rw [R.out]; rfl, (hx5).setRow hwb _⟩
    ·have R : Hid (tgtP s = ((⟨#[]⟩, P, p), true)) := Lib.hid (by rw [R2.out, hf]; rfl)
     rw [hf] at c0
     clear R2 hf
     have hokT : okT (⟨#[]⟩, P, p) := ⟨hA, by unfold i64ok; simp only; omega, Nat.zero_le _⟩
     go_wp2_with (first | refine wpList_load_A rfl _ rfl hA hA5 rfl ?_ | refine wpList_build_T1 rfl _ _ rfl hA rfl rfl ?_ | refine wpList_store_T rfl _ _ rfl okT_ztgt hokT hr5 rfl rfl ?_)
     refine bodyPost_ret (res_T2 rfl rfl hokT (hr5.row _)) rfl ⟨by rw [R.out]; rfl, hx5.setRow hwb _⟩
  ·have HB : Hid (¬ (2 <= h.size /\ B h 0 = 91 /\ B h (h.size - 1) = 93)) := Lib.hid (by omega)
   have R0 : Hid (tgtP s = if 2 <= h.size /\ B h 0 = 91 /\ B h (h.size - 1) = 93 then (if ((parseA (h.extract 1 (h.size - 1))).2 && (parseA (h.extract 1 (h.size - 1))).1.1) = true then ((⟨#[]⟩, (parseA (h.extract 1 (h.size - 1))).1, p), true) else (ztgt, false)) else if (p4A h).2 = true then ((⟨#[]⟩, (p4A h).1, p), true) else if (nameP h).2 = true then (((nameP h).1, zadr, p), true) else (ztgt, false)) := Lib.hid R0.out
   have c3' : (B h (h.size - 1) == 93) = false := by rw [beq_eq_false_iff_ne]; exact c3
   clear c2 c3
   go_upto_region 13 with fail
   clear c1' c2' c3' b0 b1 hj
   go_wp2_with (first | (go_at_call 198; refine (KP.out _ (henv.ext hx)).mono ?_; rintro e w4 ⟨rfl, hx4⟩; refine Hid.out ?_))
   refine Lib.hid ?_
   have hxx4 := hx.trans hx4
   have hr4 := hr.ext hx4
   clear hx hx4 hr KP
   have hbf := Blk.new w4 (ac zadr) 41
   go_upto_region 14 with (refine wpList_store_A rfl _ _ rfl okA_zadr (okA_parse' h) hbf rfl rfl ?_)
   change Code.wp _ _ _ _ ((w4.alloc (.cells (ac zadr) 41)).setRow w4.heap.size (ac (parseA h).1))
   rw [World.setRow_alloc_new]
   have hA5 := Blk.new w4 (ac (parseA h).1) 41
   have hx5 := hxx4.alloc (.cells (ac (parseA h).1) 41)
   have hnx := (Ext.refl w4).alloc (.cells (ac (parseA h).1) 41)
   clear hbf
   generalize w4.alloc (.cells (ac (parseA h).1) 41) = w5 at *
   generalize w4.heap.size = b5 at *
   have hr5 := hr4.ext hnx
   have hP := okA_parse' h
   have c0 : w5.cell? ⟨b5, 0, none⟩ = some (.bool (parseA h).1.1) := hA5.cell (i := 0) rfl
   clear hnx hr4 hxx4
   cases q4 : (p4A h).2
   ·have RN : Hid (tgtP s = if (nameP h).2 = true then (((nameP h).1, zadr, p), true) else (ztgt, false)) := Lib.hid (by rw [R0.out, if_neg HB.out, q4, if_neg (by simp)])
    have hpa := p4A_none q4
    have henv5 := henv.ext hx5
    have KN := Lib.hid (pname_any h w5 henv5 (by unfold maxLen; omega))
    have hnz : (nameP h).1.size <= maxLen := Nat.le_trans (nameP_size h) (by unfold maxLen; omega)
    have hi64 : i64ok p := by unfold i64ok; omega
    clear R0 HB q4 hA5
    generalize (parseA h).1.1 = fam at *
    generalize (parseA h).2 = ok at *
    have hokT : okT ((nameP h).1, zadr, p) := ⟨okA_zadr, hi64, hnz⟩
    clear hnz hi64
    generalize (nameP h).1 = nm at *
    generalize (nameP h).2 = nok at *
    cases ok
    ·clear hpa c0
     go_wp2_with (first | (go_at_call 131; refine KN.out.mono ?_; rintro e w6 ⟨rfl, hx6⟩; refine Hid.out ?_))
     refine Lib.hid ?_
     have hr6 := hr5.ext hx6
     have hxx6 := hx5.trans hx6
     cases nok
     ·have R : Hid (tgtP s = (ztgt, false)) := Lib.hid (by rw [RN.out]; rfl)
      go_wp2_with (first | refine wpList_store_T rfl _ _ rfl okT_ztgt okT_ztgt hr6 rfl rfl ?_)
      refine bodyPost_ret (res_T2 rfl rfl okT_ztgt ((hr6).row _)) rfl ⟨by rw [R.out]; rfl, (hxx6).setRow hwb _⟩
     ·have R : Hid (tgtP s = ((nm, zadr, p), true)) := Lib.hid (by rw [RN.out]; rfl)
      go_wp2_with (first | refine wpList_store_T rfl _ _ rfl okT_ztgt hokT hr6 rfl rfl ?_)
      refine bodyPost_ret (res_T2 rfl rfl hokT (hr6.row _)) rfl ⟨by rw [R.out]; rfl, hxx6.setRow hwb _⟩
    ·have hfam := hpa rfl
     subst hfam
     clear hpa
     go_wp2_with (first | (go_at_call 131; refine KN.out.mono ?_; rintro e w6 ⟨rfl, hx6⟩; refine Hid.out ?_))
     refine Lib.hid ?_
     have hr6 := hr5.ext hx6
     have hxx6 := hx5.trans hx6
     cases nok
     ·have R : Hid (tgtP s = (ztgt, false)) := Lib.hid (by rw [RN.out]; rfl)
      go_wp2_with (first | refine wpList_store_T rfl _ _ rfl okT_ztgt okT_ztgt hr6 rfl rfl ?_)
      refine bodyPost_ret (res_T2 rfl rfl okT_ztgt ((hr6).row _)) rfl ⟨by rw [R.out]; rfl, (hxx6).setRow hwb _⟩
     ·have R : Hid (tgtP s = ((nm, zadr, p), true)) := Lib.hid (by rw [RN.out]; rfl)
      go_wp2_with (first | refine wpList_store_T rfl _ _ rfl okT_ztgt hokT hr6 rfl rfl ?_)
      refine bodyPost_ret (res_T2 rfl rfl hokT (hr6.row _)) rfl ⟨by rw [R.out]; rfl, hxx6.setRow hwb _⟩
   ·have hpp := p4A_some q4
    have R : Hid (tgtP s = ((⟨#[]⟩, (parseA h).1, p), true)) := Lib.hid (by rw [R0.out, if_neg HB.out, q4, if_pos rfl, hpp.1])
    have hok : (parseA h).2 = true := by rw [hpp.1]; exact q4
    have hfam : (parseA h).1.1 = false := by rw [hpp.1]; exact hpp.2
    have hokT : okT (⟨#[]⟩, (parseA h).1, p) := ⟨hP, by unfold i64ok; simp only; omega, Nat.zero_le _⟩
    rw [hfam] at c0
    generalize hok2 : (parseA h).2 = ok at *
    subst hok
    clear hok2 hpp R0 HB q4 hfam
    generalize (parseA h).1 = P at *
    go_wp2_with (first | refine wpList_load_A rfl _ rfl hP hA5 rfl ?_ | refine wpList_build_T1 rfl _ _ rfl hP rfl rfl ?_ | refine wpList_store_T rfl _ _ rfl okT_ztgt hokT hr5 rfl rfl ?_)
    refine bodyPost_ret (res_T2 rfl rfl hokT (hr5.row _)) rfl ⟨by rw [R.out]; rfl, hx5.setRow hwb _⟩
 ·have HB : Hid (¬ (2 <= h.size /\ B h 0 = 91 /\ B h (h.size - 1) = 93)) := Lib.hid (by omega)
  have R0 : Hid (tgtP s = if 2 <= h.size /\ B h 0 = 91 /\ B h (h.size - 1) = 93 then (if ((parseA (h.extract 1 (h.size - 1))).2 && (parseA (h.extract 1 (h.size - 1))).1.1) = true then ((⟨#[]⟩, (parseA (h.extract 1 (h.size - 1))).1, p), true) else (ztgt, false)) else if (p4A h).2 = true then ((⟨#[]⟩, (p4A h).1, p), true) else if (nameP h).2 = true then (((nameP h).1, zadr, p), true) else (ztgt, false)) := Lib.hid R0.out
  have c2' : (B h 0 == 91) = false := by rw [beq_eq_false_iff_ne]; exact c2
  clear c2
  go_upto_region 13 with fail
  clear c1' c2' b0 b1 hj
  go_wp2_with (first | (go_at_call 198; refine (KP.out _ (henv.ext hx)).mono ?_; rintro e w4 ⟨rfl, hx4⟩; refine Hid.out ?_))
  refine Lib.hid ?_
  have hxx4 := hx.trans hx4
  have hr4 := hr.ext hx4
  clear hx hx4 hr KP
  have hbf := Blk.new w4 (ac zadr) 41
  go_upto_region 14 with (refine wpList_store_A rfl _ _ rfl okA_zadr (okA_parse' h) hbf rfl rfl ?_)
  change Code.wp _ _ _ _ ((w4.alloc (.cells (ac zadr) 41)).setRow w4.heap.size (ac (parseA h).1))
  rw [World.setRow_alloc_new]
  have hA5 := Blk.new w4 (ac (parseA h).1) 41
  have hx5 := hxx4.alloc (.cells (ac (parseA h).1) 41)
  have hnx := (Ext.refl w4).alloc (.cells (ac (parseA h).1) 41)
  clear hbf
  generalize w4.alloc (.cells (ac (parseA h).1) 41) = w5 at *
  generalize w4.heap.size = b5 at *
  have hr5 := hr4.ext hnx
  have hP := okA_parse' h
  have c0 : w5.cell? ⟨b5, 0, none⟩ = some (.bool (parseA h).1.1) := hA5.cell (i := 0) rfl
  clear hnx hr4 hxx4
  cases q4 : (p4A h).2
  ·have RN : Hid (tgtP s = if (nameP h).2 = true then (((nameP h).1, zadr, p), true) else (ztgt, false)) := Lib.hid (by rw [R0.out, if_neg HB.out, q4, if_neg (by simp)])
   have hpa := p4A_none q4
   have henv5 := henv.ext hx5
   have KN := Lib.hid (pname_any h w5 henv5 (by unfold maxLen; omega))
   have hnz : (nameP h).1.size <= maxLen := Nat.le_trans (nameP_size h) (by unfold maxLen; omega)
   have hi64 : i64ok p := by unfold i64ok; omega
   clear R0 HB q4 hA5
   generalize (parseA h).1.1 = fam at *
   generalize (parseA h).2 = ok at *
   have hokT : okT ((nameP h).1, zadr, p) := ⟨okA_zadr, hi64, hnz⟩
   clear hnz hi64
   generalize (nameP h).1 = nm at *
   generalize (nameP h).2 = nok at *
   cases ok
   ·clear hpa c0
    go_wp2_with (first | (go_at_call 131; refine KN.out.mono ?_; rintro e w6 ⟨rfl, hx6⟩; refine Hid.out ?_))
    refine Lib.hid ?_
    have hr6 := hr5.ext hx6
    have hxx6 := hx5.trans hx6
    cases nok
    ·have R : Hid (tgtP s = (ztgt, false)) := Lib.hid (by rw [RN.out]; rfl)
     go_wp2_with (first | refine wpList_store_T rfl _ _ rfl okT_ztgt okT_ztgt hr6 rfl rfl ?_)
     refine bodyPost_ret (res_T2 rfl rfl okT_ztgt ((hr6).row _)) rfl ⟨by rw [R.out]; rfl, (hxx6).setRow hwb _⟩
    ·have R : Hid (tgtP s = ((nm, zadr, p), true)) := Lib.hid (by rw [RN.out]; rfl)
     go_wp2_with (first | refine wpList_store_T rfl _ _ rfl okT_ztgt hokT hr6 rfl rfl ?_)
     refine bodyPost_ret (res_T2 rfl rfl hokT (hr6.row _)) rfl ⟨by rw [R.out]; rfl, hxx6.setRow hwb _⟩
   ·have hfam := hpa rfl
    subst hfam
    clear hpa
    go_wp2_with (first | (go_at_call 131; refine KN.out.mono ?_; rintro e w6 ⟨rfl, hx6⟩; refine Hid.out ?_))
    refine Lib.hid ?_
    have hr6 := hr5.ext hx6
    have hxx6 := hx5.trans hx6
    cases nok
    ·have R : Hid (tgtP s = (ztgt, false)) := Lib.hid (by rw [RN.out]; rfl)
     go_wp2_with (first | refine wpList_store_T rfl _ _ rfl okT_ztgt okT_ztgt hr6 rfl rfl ?_)
     refine bodyPost_ret (res_T2 rfl rfl okT_ztgt ((hr6).row _)) rfl ⟨by rw [R.out]; rfl, (hxx6).setRow hwb _⟩
    ·have R : Hid (tgtP s = ((nm, zadr, p), true)) := Lib.hid (by rw [RN.out]; rfl)
     go_wp2_with (first | refine wpList_store_T rfl _ _ rfl okT_ztgt hokT hr6 rfl rfl ?_)
     refine bodyPost_ret (res_T2 rfl rfl hokT (hr6.row _)) rfl ⟨by rw [R.out]; rfl, hxx6.setRow hwb _⟩
  ·have hpp := p4A_some q4
   have R : Hid (tgtP s = ((⟨#[]⟩, (parseA h).1, p), true)) := Lib.hid (by rw [R0.out, if_neg HB.out, q4, if_pos rfl, hpp.1])
   have hok : (parseA h).2 = true := by rw [hpp.1]; exact q4
   have hfam : (parseA h).1.1 = false := by rw [hpp.1]; exact hpp.2
   have hokT : okT (⟨#[]⟩, (parseA h).1, p) := ⟨hP, by unfold i64ok; simp only; omega, Nat.zero_le _⟩
   rw [hfam] at c0
   generalize hok2 : (parseA h).2 = ok at *
   subst hok
   clear hok2 hpp R0 HB q4 hfam
   generalize (parseA h).1 = P at *
   go_wp2_with (first | refine wpList_load_A rfl _ rfl hP hA5 rfl ?_ | refine wpList_build_T1 rfl _ _ rfl hP rfl rfl ?_ | refine wpList_store_T rfl _ _ rfl okT_ztgt hokT hr5 rfl rfl ?_)
   refine bodyPost_ret (res_T2 rfl rfl hokT (hr5.row _)) rfl ⟨by rw [R.out]; rfl, hx5.setRow hwb _⟩
end Go.Proofs.YtnohnnjeabehjaaGreatDoor
