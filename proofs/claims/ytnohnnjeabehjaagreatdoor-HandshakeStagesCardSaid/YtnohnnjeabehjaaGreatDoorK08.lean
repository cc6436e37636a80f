/-
  Several texts joined: IpP, IpVb, CiP, IpB, CiSpec.
-/
import Derived.Test.YtnohnnjeabehjaaGreatDoorK07
import Derived.Test.YtnohnnjeabehjaaGreatDoorK05
import Derived.Test.YtnohnnjeabehjaaGreatDoorK04
import Derived.DeepKeys2
import Derived.Laws.BitsLemmas
import Derived.Lib.Bytealg
import Derived.Lib.BytesEntry
set_option maxHeartbeats 4000000
set_option maxRecDepth 4000
set_option linter.unusedVariables false
set_option linter.unusedSimpArgs false
namespace Go.Proofs.YtnohnnjeabehjaaGreatDoor
open Go.RowKit Go.Joins
theorem groups_ok {last : Bool} : ∀ {ps : List ByteArray} {l : List Int}, groups last ps = some l -> ok16 l /\ l.length <= ps.length + 1
 | [], l, h => by rw [groups] at h; cases h; exact ⟨fun x hx => (by cases hx), by simp⟩
 | x :: xs, l, h => by
  rw [groups] at h
  cases hb : (if last = true /\ xs = [] then parse4 x else none) with
  | some b =>
   rw [hb] at h
   have hp : parse4 x = some b := by
    split at hb
    ·exact hb
    ·cases hb
   rw [parse4_eq] at hp
   split at hp
   ·rename_i h1
    cases hp
    cases h
    have hbd : ∀ i, 0 <= ((parts 46 x).map dec).getD i 0 /\ ((parts 46 x).map dec).getD i 0 < 256 := by
     intro i
     rw [List.getD_eq_getElem?_getD, List.getElem?_map]
     cases hi : (parts 46 x)[i]? with
     | none => simp
     | some y =>
      have h2 := h1.2
      unfold okDec at h2; rw [List.all_eq_true] at h2
      have h3 := h2 y (List.mem_of_getElem? hi)
      have h4 := dec_bd y
      simp at h3 ⊢; omega
    refine ⟨fun y hy => ?_, by simp⟩
    have b0 := hbd 0; have b1 := hbd 1; have b2 := hbd 2; have b3 := hbd 3
    simp only [List.mem_cons, List.not_mem_nil, or_false] at hy
    rcases hy with rfl | rfl <;> omega
   ·cases hp
  | none =>
   rw [hb] at h
   simp only at h
   by_cases hg : hexg x < 0
   ·rw [if_pos hg] at h; cases h
   ·rw [if_neg hg] at h
    cases hr : groups last xs with
    | none => rw [hr] at h; cases h
    | some r =>
     rw [hr] at h; cases h
     obtain ⟨h1, h2⟩ := groups_ok hr
     have := hexg_bd x
     refine ⟨fun y hy => ?_, by simp; omega⟩
     rcases List.mem_cons.1 hy with rfl | hy
     ·omega
     ·exact h1 y hy
theorem parseG_ok {s : ByteArray} {last : Bool} {l : List Int} (h : parseG s last = some l) : ok16 l /\ l.length <= s.size + 2 := by
 unfold parseG at h
 split at h
 ·cases h; exact ⟨fun x hx => (by cases hx), by simp⟩
 ·have h3 := groups_ok h
  have := @parts_le 58 s
  exact ⟨h3.1, by omega⟩
theorem grps_own {w : World} {B : Nat} {v : Value} {l : List Int} (h : w.ownsRow B 239 1 v l.length (l.map (Value.int .u16))) (hl : ok16 l) : Grps w v l := by
 have h' := h
 obtain ⟨_, h4⟩ := h'
 rcases h4 with ⟨rfl, hn⟩ | ⟨g, cap, cur, rfl, _, _, hc, _⟩
 ·exact ⟨none, 0, by rw [hn], by omega, hl, fun h8 => by omega⟩
 ·refine ⟨some ⟨g, 0, none⟩, cap, rfl, hc, hl, fun _ => ⟨g, 0, rfl, (h.lt g rfl).2, fun j x hj => ?_⟩⟩
  have := h.cells (g := g) rfl j (.int .u16 x) (by simp [hj])
  rw [show (⟨g, 0, none⟩ : Addr).add j = ⟨g, j, none⟩ from by unfold Addr.add; split <;> simp_all] at this
  rw [Nat.zero_add]; exact this
theorem own_slice {w : World} {B : Nat} {e : TypeId} {v : Value} {n : Nat} {xs : List Value} (h : w.ownsRow B e 1 v n xs) : ∃ a cap, v = .slice a n cap /\ n <= cap /\ (n = 0 /\ a = none /\ cap = 0 ∨ ∃ g, a = some ⟨g, 0, none⟩) := by
 obtain ⟨_, h4⟩ := h
 rcases h4 with ⟨rfl, hn⟩ | ⟨g, cap, cur, rfl, _, _, hc, _⟩
 ·exact ⟨none, 0, by rw [hn], by omega, .inl ⟨hn, rfl, rfl⟩⟩
 ·exact ⟨_, cap, rfl, hc, .inr ⟨g, rfl⟩⟩
def cutH (s : ByteArray) : ByteArray := if 0 <= cutAt s then s.extract 0 (cutAt s).toNat else s
def cutT (s : ByteArray) : ByteArray := if 0 <= cutAt s then s.extract ((cutAt s).toNat + 2) s.size else ⟨#[]⟩
theorem cut_any (s : ByteArray) (w : World) (he : Env w) (hs : s.size < 4294967281) :
  Calls Tryz.prog 175 #[.string s, .string ⟨#[58, 58]⟩] w fun e w' => e = .returned (.tuple #[.string (cutH s), .string (cutT s), .bool (decide (0 <= cutAt s))]) /\ Ext w w' := by
 obtain ⟨m, hm⟩ := he
 refine (Tryz.strings_Cut s ⟨#[58, 58]⟩ m w hs hm).mono fun e w' ⟨h1, n, h2⟩ => ?_
 subst h1 h2
 refine ⟨?_, (Ext.refl w).drewN n⟩
 have e0 : Lib.index s.data.toList (⟨#[58, 58]⟩ : ByteArray).data.toList = cutAt s := rfl
 have hl := size_list s
 unfold Lib.cut cutH cutT
 rw [e0]
 by_cases h : 0 <= cutAt s
 ·simp only [h, if_true, decide_true]
  have e1 : (⟨(s.data.toList.take (cutAt s).toNat).toArray⟩ : ByteArray) = s.extract 0 (cutAt s).toNat := BA_ext (by rw [data_extract]; simp)
  have e2 : (⟨(s.data.toList.drop ((cutAt s).toNat + 2)).toArray⟩ : ByteArray) = s.extract ((cutAt s).toNat + 2) s.size := BA_ext (by rw [data_extract, List.take_of_length_le (by omega)])
  rw [e1]
  show Ending.returned (.tuple #[_, .string ⟨(s.data.toList.drop ((cutAt s).toNat + 2)).toArray⟩, _]) = _
  rw [e2]
 ·simp only [h, if_false, decide_false]
theorem append_nil_run {P : Program} {w : World} (t ty e : TypeId) (i : TypeInfo) (ht : P.underlying t = some (.slice e)) (hi : P.info? e = some i) (g n cap : Nat) (hn : n <= cap) :
  (Builtin.append_ #[t, t] ty #[.slice (some ⟨g, 0, none⟩) n cap, .slice none 0 0]).run P w = .ok (.slice (some ⟨g, 0, none⟩) n cap) w := by
 simp [Builtin.append_, run_underlying ht, sizeOf, typeInfo, hi, Builtin.lenOf, hn, Builtin.firstCells, storeCells]
theorem wpList_append_nil {P : Program} {w : World} {ops : Array Oper} {rest : List Oper} {o : Oper} {a : Act} {Q : Exit -> Act -> World -> Prop} (hgd : o.guard = none) (s x : Operand) (t : TypeId)
  (ho : o.op = .call { callee := .builtin .append, args := #[s, x], argTypes := #[t, t] }) (e : TypeId) (i : TypeInfo) (ht : P.underlying t = some (.slice e)) (hi : P.info? e = some i) (g n cap : Nat) (hn : n <= cap)
  (hs : a.eval s = .slice (some ⟨g, 0, none⟩) n cap) (hx : a.eval x = .slice none 0 0) (h : wpList P ops Q rest (a.put o.dst (.slice (some ⟨g, 0, none⟩) n cap)) w) : wpList P ops Q (o :: rest) a w := by
 refine wpList_plain hgd fun _ hK => ?_
 unfold Oper.wp execOp
 simp only [ho, resolve, invoke, builtin, Sem.run_bind, Sem.run_pure, Result.andThen_ok, List.map_toArray, List.map_cons, List.map_nil, hs, hx, append_nil_run t _ e i ht hi g n cap hn]
 exact hK _ _ h
theorem okA_v6 {gs : List Int} (h : ok16 gs) : okA (v6 gs).1 := by
 by_cases hl : gs.length = 8
 ·rw [v6_ok hl]; exact okA_adr6 h hl (Nat.le_refl _)
 ·rw [v6_no hl]; exact okA_zadr
theorem parse_any (s : ByteArray) (w : World) (henv : Env w) (hs : s.size < 4294967281) :
  Calls Tryz.prog 198 #[.string s] w fun e w' => e = .returned (.tuple #[av (parseA s).1, .bool (parseA s).2]) /\ Ext w w' := by
 obtain ⟨i0, hi, hz0, hz1, hz2⟩ := info_parts infoU
 have HI := Lib.hid hi; have HZ0 := Lib.hid hz0; have HZ1 := Lib.hid hz1; have HZ2 := Lib.hid hz2
 clear hi hz0 hz1 hz2
 have hcall := fun w he => parse4_any s w he hs
 go_enter Tryz.func198, Tryz.ntmps198
 go_upto_region 1 with fail
 rw [← ac_zadr]
 have hx := (Ext.refl w).alloc (.cells (ac zadr) 41)
 have hr := Blk.new w (ac zadr) 41
 generalize hw2 : w.alloc (.cells (ac zadr) 41) = w2 at *
 clear hw2
 have HC := Lib.hid hcall; clear hcall
 go_wp2_with (first | (go_at_call 215; refine (HC.out _ (henv.ext hx)).mono ?_; rintro e w4 ⟨l4, hl4, hl4b, rfl, hl4e, hx4⟩; refine Hid.out ?_))
 refine Lib.hid ?_
 have hr4 := hr.ext hx4
 have hx44 := hx.trans hx4
 clear hr hx hx4
 have hb5 := Blk.new w4 (c4 [0, 0, 0, 0]) 230
 go_upto_region 2 with (refine wpList_store_4 rfl _ _ rfl (l0 := [0, 0, 0, 0]) rfl hl4 hb5 rfl rfl ?_)
 change Code.wp _ _ _ _ ((w4.alloc (.cells (c4 [0, 0, 0, 0]) 230)).setRow w4.heap.size (c4 l4))
 rw [World.setRow_alloc_new]
 have hb6 := Blk.new w4 (c4 l4) 230
 have hx6 := hx44.alloc (.cells (c4 l4) 230)
 have hr6 := hr4.ext ((Ext.refl w4).alloc (.cells (c4 l4) 230))
 clear hb5 hr4 hx44
 generalize w4.alloc (.cells (c4 l4) 230) = w6 at *
 generalize w4.heap.size = n6 at *
 rcases hp4 : parse4 s with _ | b
 ·have hq : (parse4 s).isSome = false := by rw [hp4]; rfl
  have hpa : parseA s = if cutAt s < 0 then (match parseG s true with
    | some l => v6 l
    | none => (zadr, false)) else (match parseG (s.extract 0 (cutAt s).toNat) false, parseG (s.extract ((cutAt s).toNat + 2) s.size) true with
    | some l, some m => if 7 < l.length + m.length then (zadr, false) else v6 (l ++ List.replicate (8 - (l.length + m.length)) 0 ++ m)
    | _, _ => (zadr, false)) := by unfold parseA; rw [hp4]; rfl
  have HPA := Lib.hid hpa; clear hpa hp4
  have hcut := cut_any s w6 (henv.ext hx6) hs
  by_cases hc : cutAt s < 0
  ·have h1 : cutH s = s := by unfold cutH; rw [if_neg (by omega)]
   have h2 : decide (0 <= cutAt s) = false := decide_eq_false (by omega)
   rw [h1, h2] at hcut
   have HCUT := Lib.hid hcut; clear hcut
   have hp := HPA.out
   rw [if_pos hc] at hp
   have HPA2 := Lib.hid hp; clear hp HPA h1 h2 hc
   have hpg := fun w he => parseG_any s true w he hs
   have HPG := Lib.hid hpg; clear hpg
   go_wp2_with (first | (go_at_call 175; refine HCUT.out.mono ?_; rintro e w7 ⟨rfl, hx7⟩; have hx77 := hx6.trans hx7; have hr7 := hr6.ext hx7) | (go_at_call 217; refine (HPG.out _ (henv.ext hx77)).mono ?_; rintro e w8 ⟨v8, rfl, hv8, hx8⟩; have hx88 := hx77.trans hx8; have hr8 := hr7.ext hx8; refine Hid.out ?_))
   refine Lib.hid ?_
   cases hpgs : parseG s true with
   | none =>
    have E : Hid (parseA s = (zadr, false)) := Lib.hid (by rw [HPA2.out, hpgs])
    clear hpgs
    go_wp2_with (refine wpList_store_A rfl _ _ rfl okA_zadr okA_zadr hr8 rfl rfl ?_)
    refine bodyPost_ret (res_A2 rfl rfl okA_zadr (hr8.row _)) rfl ⟨by rw [E.out]; rfl, hx88.setRow (Nat.le_refl _) _⟩
   | some l =>
    have hlo := parseG_ok hpgs
    have E : Hid (parseA s = v6 l) := Lib.hid (by rw [HPA2.out, hpgs])
    have hgr := grps_own (hv8 l hpgs) hlo.1
    have hA := okA_v6 hlo.1
    have HGR := Lib.hid hgr; clear hgr hv8 hpgs
    have hV6 := fun w h => V6_any v8 l w h (by omega)
    have HV6 := Lib.hid hV6; clear hV6
    go_wp2_with (first | (go_at_call 218; refine (HV6.out _ HGR.out).mono ?_; rintro e w9 ⟨rfl, hx9⟩; have hr9 := hr8.ext hx9; have hx99 := hx88.trans hx9) | refine wpList_store_A rfl _ _ rfl okA_zadr hA hr9 rfl rfl ?_)
    refine bodyPost_ret (res_A2 rfl rfl hA (hr9.row _)) rfl ⟨by rw [E.out]; rfl, hx99.setRow (Nat.le_refl _) _⟩
  ·have h1 : cutH s = s.extract 0 (cutAt s).toNat := by unfold cutH; rw [if_pos (by omega)]
   have h3 : cutT s = s.extract ((cutAt s).toNat + 2) s.size := by unfold cutT; rw [if_pos (by omega)]
   have h2 : decide (0 <= cutAt s) = true := decide_eq_true (by omega)
   rw [h2] at hcut
   have hp := HPA.out
   rw [if_neg hc, ← h1, ← h3] at hp
   have hH : (cutH s).size <= s.size := by rw [h1]; exact extract_le _ _ _
   have hT : (cutT s).size <= s.size := by rw [h3]; exact extract_le _ _ _
   have HPA2 := Lib.hid hp; clear hp HPA h1 h2 h3 hc
   generalize cutH s = sh at *
   generalize cutT s = st at *
   have HCUT := Lib.hid hcut; clear hcut
   have hpg := fun w he => parseG_any sh false w he (by omega)
   have HPG := Lib.hid hpg; clear hpg
   have hpg := fun w he => parseG_any st true w he (by omega)
   have HPG2 := Lib.hid hpg; clear hpg
   go_wp2_with (first | (go_at_call 175; refine HCUT.out.mono ?_; rintro e w7 ⟨rfl, hx7⟩; have hx77 := hx6.trans hx7; have hr7 := hr6.ext hx7) | (go_at_call 217; refine (HPG.out _ (henv.ext hx77)).mono ?_; rintro e w8 ⟨v8, rfl, hv8, hx8⟩; have hx88 := hx77.trans hx8; have hr8 := hr7.ext hx8; refine Hid.out ?_))
   refine Lib.hid ?_
   go_wp2_with (go_at_call 217; refine (HPG2.out _ (henv.ext hx88)).mono ?_; rintro e w9 ⟨v9, rfl, hv9, hx9⟩; have hx99 := hx88.trans hx9; have hr9 := hr8.ext hx9; refine Hid.out ?_)
   refine Lib.hid ?_
   cases hp1 : parseG sh false with
   | none =>
    have E : Hid (parseA s = (zadr, false)) := Lib.hid (by rw [HPA2.out, hp1])
    clear hp1
    go_wp2_with (refine wpList_store_A rfl _ _ rfl okA_zadr okA_zadr hr9 rfl rfl ?_)
    refine bodyPost_ret (res_A2 rfl rfl okA_zadr (hr9.row _)) rfl ⟨by rw [E.out]; rfl, hx99.setRow (Nat.le_refl _) _⟩
   | some l =>
    cases hp2 : parseG st true with
    | none =>
     have E : Hid (parseA s = (zadr, false)) := Lib.hid (by rw [HPA2.out, hp1, hp2])
     clear hp1 hp2
     go_wp2_with (refine wpList_store_A rfl _ _ rfl okA_zadr okA_zadr hr9 rfl rfl ?_)
     refine bodyPost_ret (res_A2 rfl rfl okA_zadr (hr9.row _)) rfl ⟨by rw [E.out]; rfl, hx99.setRow (Nat.le_refl _) _⟩
    | some m =>
     have hlo := parseG_ok hp1
     have hmo := parseG_ok hp2
     have ho8 := hv8 l hp1
     have ho9 := hv9 m hp2
     have hlt8 := ho8.lt
     have hlt9 := ho9.lt
     obtain ⟨a1, c1, rfl, hc1, hf1⟩ := own_slice ho8
     obtain ⟨a2, c2, rfl, hc2, hf2⟩ := own_slice ho9
     have ho8' := ownsRow_keep ho8 (hx9.keep []) (by simp)
     have hE : parseA s = if 7 < l.length + m.length then (zadr, false) else v6 (l ++ List.replicate (8 - (l.length + m.length)) 0 ++ m) := by rw [HPA2.out, hp1, hp2]
     clear hv8 hv9 hp1 hp2 ho8
     have hl1 : (l.length : Int) <= 4294967400 := by omega
     have hm1 : (m.length : Int) <= 4294967400 := by omega
     by_cases h7 : 7 < l.length + m.length
     ·rw [if_pos h7] at hE
      have E := Lib.hid hE; clear hE
      have h7d : decide ((8 : Int) <= l.length + m.length) = true := decide_eq_true (by omega)
      have h7e : (8 : Int) <= l.length + m.length := by omega
      go_wp2_with (refine wpList_store_A rfl _ _ rfl okA_zadr okA_zadr hr9 rfl rfl ?_)
      refine bodyPost_ret (res_A2 rfl rfl okA_zadr (hr9.row _)) rfl ⟨by rw [E.out]; rfl, hx99.setRow (Nat.le_refl _) _⟩
     ·rw [if_neg h7] at hE
      have E := Lib.hid hE; clear hE
      have h7d : decide ((8 : Int) <= l.length + m.length) = false := decide_eq_false (by omega)
      have h7e : ¬ (8 : Int) <= l.length + m.length := by omega
      obtain ⟨z, hz⟩ : ∃ z : Nat, z = 8 - (l.length + m.length) := ⟨_, rfl⟩
      have hz8 : (8 : Int) - l.length - m.length = (z : Int) := by omega
      have HZ8 := Lib.hid hz8; clear hz8
      have hzp : 0 < z := by omega
      have hzl : z <= 8 := by omega
      have hzq : l.length + z <= 8 := by omega
      have hzm : l.length + z + m.length <= 8 := by omega
      have HZ := Lib.hid hz; clear hz
      have hsz8 := hx8.size
      have hsz7 := hx77.size
      have HF1 := Lib.hid hf1; have HF2 := Lib.hid hf2; clear hf1 hf2
      have Ho8 := Lib.hid ho8'; have Ho9 := Lib.hid ho9; clear ho8' ho9
      have hsz9 := hx9.size
      go_wp2_with (at_builtin; refine wpList_append_made _ rfl _ _ 233 3 rfl w7.heap.size 239 i0 (.int .u16 0) 2 Tryz.underlying233 Tryz.underlying3 HI.out HZ0.out HZ1.out HZ2.out rfl rfl _ _ _ rfl Ho8.out z (congrArg (Value.int .i64) HZ8.out) hzp ?c1 ?c2 ?c3 ?c4 ?c5 ?_)
      case c1 => omega
      case c2 => omega
      case c3 => unfold maxLen; omega
      case c4 => omega
      case c5 => omega
      intro v' w10 hown' hgrow hne
      refine Hid.out ?_
      have hg10 : Ext w w10 := Ext.grown hx99 hgrow (fun g hg => by have := (hlt8 g hg).1; have := hx77.size; omega)
      have hr10 : Blk w10 w.heap.size (ac zadr).toList 41 := hr9.keep (Keep.of_grown hgrow) (fun hm => by
       have h8 : ∀ g, (Value.slice a1 l.length c1).ownBlock = some g -> w.heap.size < g := fun g hg => by
        have := (hlt8 g hg).1; have := hr7.lt; omega
       cases ho : (Value.slice a1 l.length c1).ownBlock with
       | none => rw [ho] at hm; simp at hm
       | some g => rw [ho] at hm; simp at hm; have := h8 g ho; omega)
      obtain ⟨a3, c3, rfl, hc3, hf3⟩ := own_slice hown'
      obtain ⟨g3, rfl⟩ : ∃ g, a3 = some ⟨g, 0, none⟩ := by
       rcases hf3 with ⟨h0, _, _⟩ | h0
       ·omega
       ·exact h0
      have hB := Lib.hid (show w7.heap.size <= w10.heap.size by have := hgrow.size; omega)
      rcases HF2.out with ⟨h0, rfl, rfl⟩ | ⟨g2, rfl⟩
      ·obtain rfl : m = [] := List.eq_nil_of_length_eq_zero h0
       refine Lib.hid ?_
       have ho3 : w10.ownsRow w7.heap.size 239 1 (.slice (some ⟨g3, 0, none⟩) (l.length + z) c3) (l ++ List.replicate z 0).length ((l ++ List.replicate z 0).map (Value.int .u16)) := by
        rw [List.length_append, List.length_replicate, List.map_append, List.map_replicate]; exact hown'
       have h16 : ok16 (l ++ List.replicate z 0) := fun x hx => by
        rcases List.mem_append.1 hx with hx | hx
        ·exact hlo.1 x hx
        ·have := List.eq_of_mem_replicate hx; omega
       have hgr := grps_own ho3 h16
       have E2 : Hid (parseA s = v6 (l ++ List.replicate z 0)) := Lib.hid (by rw [E.out, ← HZ.out, List.append_nil])
       have hV6 := fun w h => V6_any (.slice (some ⟨g3, 0, none⟩) (l.length + z) c3) (l ++ List.replicate z 0) w h (by simp; omega)
       have HGR := Lib.hid hgr; have HV6 := Lib.hid hV6; have HO3 := Lib.hid ho3; clear hgr hV6 hown' ho3
       have hA := okA_v6 h16
       go_wp2_with (first | (at_builtin; refine wpList_append_nil rfl _ _ 233 rfl 239 i0 Tryz.underlying233 HI.out g3 (l.length + z) c3 hc3 rfl rfl ?_) | (go_at_call 218; refine (HV6.out _ HGR.out).mono ?_; rintro e w11 ⟨rfl, hx11⟩; have hr11 := hr10.ext hx11; have hxx := hg10.trans hx11) | refine wpList_store_A rfl _ _ rfl okA_zadr hA hr11 rfl rfl ?_)
       refine bodyPost_ret (res_A2 rfl rfl hA (hr11.row _)) rfl ⟨by rw [E2.out]; rfl, hxx.setRow (Nat.le_refl _) _⟩
      ·refine Lib.hid ?_
       have hcells2 : ∀ j u, (m.map (Value.int .u16))[j]? = some u -> w10.cell? ((⟨g2, 0, none⟩ : Addr).add j) = some u := fun j u hj => by
        have h1 := Ho9.out.cells (g := g2) rfl j u hj
        have hb := hlt9 g2 rfl
        rw [show (⟨g2, 0, none⟩ : Addr).add j = ⟨g2, j, none⟩ from by unfold Addr.add; split <;> simp_all] at h1 ⊢
        rw [(Keep.of_grown hgrow).cell (p := ⟨g2, j, none⟩) hb.2 (fun hm => by
         cases ho : (Value.slice a1 l.length c1).ownBlock with
         | none => rw [ho] at hm; simp at hm
         | some g => rw [ho] at hm; simp at hm; have := (hlt8 g ho).2; omega)]
        exact h1
       have Hcells2 := Lib.hid hcells2; clear hcells2
       have hl3 := hown'.lt
       have hzz : l.length + z <= 8 := by omega
       go_wp2_with (at_builtin; refine wpList_append_own _ rfl _ _ 233 rfl w7.heap.size 239 i0 (.int .u16 0) 1 2 Tryz.underlying233 HI.out HZ0.out HZ1.out HZ2.out rfl (by decide) _ _ _ rfl hown' ⟨g2, 0, none⟩ m.length c2 (m.map (Value.int .u16)) rfl ?d1 Hcells2.out ?d2 ?d3 ?d4 hB.out ?_)
       case d1 => simp
       case d2 => intro u hu; obtain ⟨x, _, rfl⟩ := List.mem_map.1 hu; rfl
       case d3 => unfold maxLen; omega
       case d4 => omega
       intro v'' w11 hown'' hgrow2 _
       refine Hid.out ?_
       obtain ⟨a5, c5, rfl, hc5, hf5⟩ := own_slice hown''
       have ho3 : w11.ownsRow w7.heap.size 239 1 (.slice a5 (l.length + z + m.length) c5) (l ++ List.replicate z 0 ++ m).length ((l ++ List.replicate z 0 ++ m).map (Value.int .u16)) := by
        rw [List.length_append, List.length_append, List.length_replicate, List.map_append, List.map_append, List.map_replicate, List.append_assoc]; exact hown''
       have h16 : ok16 (l ++ List.replicate z 0 ++ m) := fun x hx => by
        rcases List.mem_append.1 hx with hx | hx
        ·rcases List.mem_append.1 hx with hx | hx
         ·exact hlo.1 x hx
         ·have := List.eq_of_mem_replicate hx; omega
        ·exact hmo.1 x hx
       have hgr := grps_own ho3 h16
       have E2 : Hid (parseA s = v6 (l ++ List.replicate z 0 ++ m)) := Lib.hid (by rw [E.out, ← HZ.out])
       have hV6 := fun w h => V6_any (.slice a5 (l.length + z + m.length) c5) (l ++ List.replicate z 0 ++ m) w h (by simp; omega)
       have hg11 : Ext w w11 := Ext.grown hg10 hgrow2 (fun g hg => by have := (hl3 g hg).1; have := hx77.size; omega)
       have hr11 : Blk w11 w.heap.size (ac zadr).toList 41 := hr10.keep (Keep.of_grown hgrow2) (fun hm => by
        cases ho : (Value.slice (some ⟨g3, 0, none⟩) (l.length + z) c3).ownBlock with
        | none => rw [ho] at hm; simp at hm
        | some g => rw [ho] at hm; simp at hm; have := (hl3 g ho).1; have := hr7.lt; omega)
       have HGR := Lib.hid hgr; have HV6 := Lib.hid hV6; clear hgr hV6 hown'' ho3 hown'
       have hA := okA_v6 h16
       clear h16
       generalize l ++ List.replicate z 0 ++ m = gs at *
       refine Lib.hid ?_
       go_wp2_with (first | (go_at_call 218; refine (HV6.out _ HGR.out).mono ?_; rintro e w12 ⟨rfl, hx12⟩; have hr12 := hr11.ext hx12; have hxx := hg11.trans hx12) | refine wpList_store_A rfl _ _ rfl okA_zadr hA hr12 rfl rfl ?_)
       refine bodyPost_ret (res_A2 rfl rfl hA (hr12.row _)) rfl ⟨by rw [E2.out]; rfl, hxx.setRow (Nat.le_refl _) _⟩
 ·obtain rfl := hl4e b hp4
  have hq : (parse4 s).isSome = true := by rw [hp4]; rfl
  have hpa : parseA s = (v4 (b.getD 0 0) (b.getD 1 0) (b.getD 2 0) (b.getD 3 0), true) := by unfold parseA; rw [hp4]
  have HPA := Lib.hid hpa; clear hpa hp4
  obtain ⟨y0, y1, y2, y3, rfl⟩ : ∃ y0 y1 y2 y3, b = [y0, y1, y2, y3] := by
   match b, hl4 with
   | [a, b, c, d], _ => exact ⟨a, b, c, d, rfl⟩
  have b0 := hl4b y0 (by simp)
  have b1 := hl4b y1 (by simp)
  have b2 := hl4b y2 (by simp)
  have b3 := hl4b y3 (by simp)
  have d0 : w6.cell? ⟨n6, 0, none⟩ = some (.int .u8 y0) := hb6.cell rfl
  have d1 : w6.cell? ⟨n6, 1, none⟩ = some (.int .u8 y1) := hb6.cell rfl
  have d2 : w6.cell? ⟨n6, 2, none⟩ = some (.int .u8 y2) := hb6.cell rfl
  have d3 : w6.cell? ⟨n6, 3, none⟩ = some (.int .u8 y3) := hb6.cell rfl
  go_wp2_with (first | (go_at_call 216; refine (ipV4_any b0 b1 b2 b3 _).mono ?_; rintro e w8 ⟨rfl, hx8⟩; have hr8 := hr6.ext hx8; have hx9 := hx6.trans hx8) | refine wpList_store_A rfl _ _ rfl okA_zadr (okA_v4 b0 b1 b2 b3) hr8 rfl rfl ?_)
  refine bodyPost_ret (res_A2 rfl rfl (okA_v4 b0 b1 b2 b3) (hr8.row _)) rfl ⟨by rw [HPA.out]; rfl, hx9.setRow (Nat.le_refl _) _⟩
open Go.RowKit
theorem Blk.setCells {b : Nat} {t : TypeId} : ∀ (vs : List Value) (o : Nat) (w : World) (cs : List Value), o + vs.length <= cs.length -> Blk w b cs t -> Blk (w.setCells b o vs) b (cs.take o ++ vs ++ cs.drop (o + vs.length)) t
 | [], o, w, cs, _, h => by
  rw [World.setCells, List.append_nil, List.length_nil, Nat.add_zero, List.take_append_drop]; exact h
 | v :: r, o, w, cs, hl, h => by
  have h1 := h.set o v
  have h2 := Blk.setCells r (o + 1) _ _ (by rw [List.length_set]; simp at hl; omega) h1
  rw [World.setCells]
  have ho : o < cs.length := by simp at hl; omega
  have e1 : (cs.set o v).take (o + 1) = cs.take o ++ [v] := by
   rw [List.take_add_one, List.take_set_of_le (Nat.le_refl _), List.getElem?_set, if_pos rfl, if_pos ho]; rfl
  have e2 : (cs.set o v).drop (o + 1 + r.length) = cs.drop (o + (v :: r).length) := by
   rw [List.drop_set_of_lt (by omega), List.length_cons, show o + 1 + r.length = o + (r.length + 1) by omega]
  rw [e1, e2, List.append_assoc, List.append_assoc] at h2
  rw [List.append_assoc]
  exact h2
theorem Ext.setCells {a : World} {b : Nat} (hb : a.heap.size <= b) : ∀ (vs : List Value) (o : Nat) (w : World), Ext a w -> Ext a (w.setCells b o vs)
 | [], _, _, h => h
 | v :: r, o, w, h => Ext.setCells hb r (o + 1) _ (h.setCell hb v)
theorem heap_setCells (b c : Nat) : ∀ (vs : List Value) (hne : c ≠ b) (o : Nat) {w : World}, (w.setCells b o vs).heap[c]? = w.heap[c]?
 | [], _, _, _ => rfl
 | v :: r, hne, o, w => by rw [World.setCells, heap_setCells b c r hne (o + 1), Below.heap_setCell _ _ _ _ hne]
theorem tail6_len {l : List Int} (hg : ∀ i, grp l i < 65536) (f m : Int) : ∀ k i, (tail6 l f m k i).length <= 5 * k
 | 0, _ => by simp [tail6]
 | k + 1, i => by
  rw [tail6]
  have h1 := hexT_len (n := (grp l i).toNat) (by have := hg i; omega)
  split
  ·simp
  ·split
   ·have := tail6_len hg f m k (i + m.toNat)
    simp only [List.length_append, List.length_cons, List.length_nil]; omega
   ·have := tail6_len hg f m k (i + 1)
    simp only [List.length_append]
    split <;> simp only [List.length_cons, List.length_nil] <;> omega
theorem fmtA_len {a : Adr} (ha : okA a) : (fmtA a).length <= 45 := by
 unfold fmtA
 split
 ·simp
 ·split
  ·exact tail6_len (fun i => (grp_bd ha i).2) _ _ _ _
  ·have h : ∀ j, (Lib.decDigits (a.2.getD j 0).toNat).length <= 3 := fun j => dd_len 2 _ (by have := X_bd ha j; unfold X at this; omega)
   have h0 := h 0; have h1 := h 1; have h2 := h 2; have h3 := h 3
   unfold fmt4
   simp only [List.length_append, List.length_cons, List.length_nil]; omega
theorem ac_set {a : Adr} (j : Nat) (z : Int) : (ac a).toList.set (1 + j) (.int .u8 z) = (ac (a.1, a.2.set j z)).toList := by
 unfold ac
 rw [Nat.add_comm 1 j]
 simp only [List.set_cons_succ, List.map_set]
end Go.Proofs.YtnohnnjeabehjaaGreatDoor
namespace Go.Proofs.YtnohnnjeabehjaaGreatDoor.Cx
open Go.RowKit
abbrev Pfx := Adr × Int
def i64ok (z : Int) : Prop := -9223372036854775808 <= z /\ z <= 9223372036854775807
def okP (p : Pfx) : Prop := okA p.1 /\ i64ok p.2
def pc (p : Pfx) : Array Value := ((ac p.1).toList ++ [Value.int .i64 p.2]).toArray
abbrev pv (p : Pfx) : Value := .agg (pc p)
def zpfx : Pfx := (zadr, 0)
theorem okP_zpfx : okP zpfx := ⟨okA_zadr, by unfold i64ok zpfx; omega⟩
theorem ac_len {a : Adr} (ha : okA a) : (ac a).toList.length = 17 := by rw [Array.length_toList, ac_size ha]
theorem pc_size {p : Pfx} (hp : okP p) : (pc p).size = 18 := by
 unfold pc; rw [List.size_toArray, List.length_append, ac_len hp.1]; rfl
theorem pc_list (p : Pfx) : (pc p).toList = (ac p.1).toList ++ [Value.int .i64 p.2] := rfl
theorem pc_one (p : Pfx) : (pc p).all (·.oneCell') = true := by
 rw [Array.all_eq_true_iff_forall_mem]
 intro v hv
 rw [← Array.mem_toList_iff, pc_list, List.mem_append] at hv
 rcases hv with hv | hv
 ·exact Array.all_eq_true_iff_forall_mem.1 (ac_one p.1) v (by simpa using hv)
 ·simp at hv; subst hv; rfl
theorem pc_zero : pc zpfx = #[.bool false, .int .u8 0, .int .u8 0, .int .u8 0, .int .u8 0, .int .u8 0, .int .u8 0, .int .u8 0, .int .u8 0, .int .u8 0, .int .u8 0, .int .u8 0, .int .u8 0, .int .u8 0, .int .u8 0, .int .u8 0, .int .u8 0, .int .i64 0] := rfl
theorem info_P : (Tryz.prog.info? 111).map (·.size) = some 18 := by kernel_rfl
abbrev PBlk (w : World) (b : Nat) (p : Pfx) : Prop := Blk w b (pc p).toList 111
theorem PBlk.fam {w : World} {b : Nat} {p : Pfx} (h : PBlk w b p) : w.cell? ⟨b, 0, none⟩ = some (.bool p.1.1) := h.cell rfl
theorem PBlk.bits {w : World} {b : Nat} {p : Pfx} (hp : okP p) (h : PBlk w b p) : w.cell? ⟨b, 17, none⟩ = some (.int .i64 p.2) := h.cell (by
 rw [pc_list, List.getElem?_append_right (by rw [ac_len hp.1]; omega), ac_len hp.1]; rfl)
theorem PBlk.range {w : World} {b : Nat} {p : Pfx} (h : PBlk w b p) : w.rangeAt b 0 (ac p.1).toList := fun j v hj => by
 rw [Nat.zero_add]
 refine h.cell ?_
 rw [pc_list, List.getElem?_append_left (List.getElem?_eq_some_iff.1 hj).1]; exact hj
theorem loadV_P {w : World} {b : Nat} {p : Pfx} (hp : okP p) (h : PBlk w b p) : (loadVar 111 ⟨b, 0, none⟩).run Tryz.prog w = .ok (.agg (pc p)) w := by
 have := run_loadVar_mid (P := Tryz.prog) w b 0 111 (pc p).toList _ (fun j v hj => by rw [Nat.zero_add]; exact h.cell hj) Tryz.underlying111 rfl (by rw [info_P, Array.length_toList, pc_size hp])
 simpa using this
theorem load_PA {w : World} {b : Nat} {p : Pfx} (hp : okP p) (h : PBlk w b p) : (Instr.loadAt 41 (.pointer (some ⟨b, 0, none⟩))).run Tryz.prog w = .ok (.agg (ac p.1)) w := by
 have := run_loadAt_mid (P := Tryz.prog) w b 0 41 (ac p.1).toList _ h.range Tryz.underlying41 rfl (by rw [info_A, ac_len hp.1])
 simpa using this
theorem wpList_store_P {ops : Array Oper} {rest : List Oper} {o : Oper} {f : Act} {w : World} {Q : Exit -> Act -> World -> Prop} (hgd : o.guard = none) (x y : Operand) (ho : o.op = .store 111 x y)
  {c : Nat} {p0 p : Pfx} (h0 : okP p0) (hp : okP p) (hb : PBlk w c p0) (hx : f.eval x = .pointer (some ⟨c, 0, none⟩)) (hy : f.eval y = .agg (pc p)) (h : wpList Tryz.prog ops Q rest (f.put o.dst undef) (w.setRow c (pc p))) : wpList Tryz.prog ops Q (o :: rest) f w :=
 wpList_plain hgd fun _ hK => wp_store_row 111 x y ho c (pc p) hx hy 111 (pc p0) hb (by rw [info_P, pc_size hp]) (by rw [pc_size hp, pc_size h0]) (pc_one p) (hK _ _ h)
theorem wpList_load_P {ops : Array Oper} {rest : List Oper} {o : Oper} {f : Act} {w : World} {Q : Exit -> Act -> World -> Prop} (hgd : o.guard = none) (x : Operand) (ho : o.op = .load 111 x)
  {b : Nat} {p : Pfx} (hp : okP p) (hb : PBlk w b p) (hx : f.eval x = .pointer (some ⟨b, 0, none⟩)) (h : wpList Tryz.prog ops Q rest (f.put o.dst (.agg (pc p))) w) : wpList Tryz.prog ops Q (o :: rest) f w :=
 wpList_load_mid hgd 111 x ho b 0 hx (pc p).toList _ (fun j v hj => by rw [Nat.zero_add]; exact hb.cell hj) Tryz.underlying111 rfl (by rw [info_P, Array.length_toList, pc_size hp]) h
theorem wpList_load_PA {ops : Array Oper} {rest : List Oper} {o : Oper} {f : Act} {w : World} {Q : Exit -> Act -> World -> Prop} (hgd : o.guard = none) (x : Operand) (ho : o.op = .load 41 x)
  {b : Nat} {p : Pfx} (hp : okP p) (hb : PBlk w b p) (hx : f.eval x = .pointer (some ⟨b, 0, none⟩)) (h : wpList Tryz.prog ops Q rest (f.put o.dst (.agg (ac p.1))) w) : wpList Tryz.prog ops Q (o :: rest) f w :=
 wpList_load_mid hgd 41 x ho b 0 hx (ac p.1).toList _ hb.range Tryz.underlying41 rfl (by rw [info_A, ac_len hp.1]) h
theorem res_P2 {fn : Func} {t u : Tmp} (h : fn.results = #[.cell t 111, .tmp u]) {tmps : Array Value} {c : Nat} (hq : tmps.getD t undef = .pointer (some ⟨c, 0, none⟩)) {w : World} {p : Pfx} (hp : okP p) (hb : PBlk w c p) :
  (results fn tmps).run Tryz.prog w = .ok (.tuple #[.agg (pc p), tmps.getD u undef]) w := by
 have := loadV_P hp hb
 have hq' : tmps[t]?.getD undef = .pointer (some ⟨c, 0, none⟩) := by simpa using hq
 simp [results, h, hq', this, Sem.run_bind, asAddr]
theorem ac_inj {a b : Adr} (h : (ac a).toList = (ac b).toList) : a = b := by
 obtain ⟨f, l⟩ := a
 obtain ⟨g, m⟩ := b
 have h' : Value.bool f :: l.map (Value.int .u8) = Value.bool g :: m.map (Value.int .u8) := h
 injection h' with h1 h2
 have e : l = m := (List.map_inj_right (fun x y h => by cases h; rfl)).1 h2
 cases h1
 rw [e]
theorem equal_of_keys {t : TypeId} {k m : Nat} (hk : Tryz.prog.keyTypeAt k t = true) (hm : Tryz.prog.tiled m t = true) {cx cy : Array Value} {D : Nat} (hfx : (Value.agg cx).formed Tryz.prog t = true) (hfy : (Value.agg cy).formed Tryz.prog t = true)
  (hx : (Tryz.prog.keyLits D t cx.toList).isSome = true) (hy : (Tryz.prog.keyLits D t cy.toList).isSome = true) (d : Nat) (W : World) : ∃ r : Bool, (Op.equalIn (d + k) t (.agg cx) (.agg cy)).run Tryz.prog W = .ok r W /\ (r = true ↔ cx.toList = cy.toList) := by
 obtain ⟨lx, hlx⟩ := Option.isSome_iff_exists.1 hx
 obtain ⟨ly, hly⟩ := Option.isSome_iff_exists.1 hy
 obtain ⟨r, hr, hi⟩ := run_equalIn_deep (P := Tryz.prog) d k t hk W D D (.agg cx) (.agg cy) lx ly hfx hfy hlx hly
 refine ⟨r, hr, fun h => ?_, fun h => hi.2 ?_⟩
 ·rw [cells_of_lits m t hm D _ lx hlx, cells_of_lits m t hm D _ ly hly, hi.1 h]
 ·rw [h, hly] at hlx
  exact (Option.some.inj hlx).symm
theorem bool_of {r : Bool} {p : Prop} [Decidable p] (h : r = true ↔ p) : r = decide p := by
 by_cases hp : p
 ·rw [decide_eq_true hp]; exact h.2 hp
 ·rw [decide_eq_false hp]
  cases r with
  | false => rfl
  | true => exact absurd (h.1 rfl) hp
theorem tiled24 : Tryz.prog.tiled 3 41 = true := by kernel_rfl
theorem equal_Ad {a b : Adr} (ha : okA a) (hb : okA b) (W : World) : (Op.equal 41 (.agg (ac a)) (.agg (ac b))).run Tryz.prog W = .ok (decide (a = b)) W := by
 obtain ⟨r, hr, hi⟩ := equal_of_keys (t := 41) (k := 3) (m := 3) key24 tiled24 (formed_A ha) (formed_A hb) (D := 4) (keyLits_A ha) (keyLits_A hb) 9997 W
 rw [bool_of (p := a = b) (hi.trans ⟨ac_inj, fun h => by rw [h]⟩)] at hr
 exact hr
theorem keyLits_i64 (d : Nat) {z : Int} (h : i64ok z) : Tryz.prog.keyLits (d + 1) 3 [.int .i64 z] = some [.int .i64 z] := by
 have hw : (Lit.int .i64 z).wf = true := by
  unfold i64ok at h
  simp only [Lit.wf, Bool.and_eq_true, decide_eq_true_eq, IntKind.min, IntKind.max, IntKind.bits, IntKind.signed]
  simp
  omega
 simp only [Program.keyLits, Tryz.underlying3, hw, and_self, if_true]
theorem cells_int : Tryz.prog.cellsOf 3 = 1 := by kernel_rfl
theorem key26 : Tryz.prog.keyTypeAt 4 111 = true := by kernel_rfl
theorem tiled26 : Tryz.prog.tiled 4 111 = true := by kernel_rfl
theorem exec_eqAd {o : Oper} {f : Act} (x y : Operand) {t : TypeId} (ho : o.op = .binOp .eql 41 x y t) {a b : Adr} (ha : okA a) (hb : okA b) (hx : f.eval x = .agg (ac a)) (hy : f.eval y = .agg (ac b)) (w : World) :
  (execOp f.eval o).run Tryz.prog w = .ok (.value (.bool (decide (a = b)))) w := by
 unfold execOp
 rw [ho]
 have e := equal_Ad ha hb w
 have e1 : (eqGuard .eql 41 x y (.agg (ac a)) (.agg (ac b))).run Tryz.prog w = .ok () w := by
  simp [eqGuard, noGuard_A, Sem.run_bind]
 have e2 : (binOp .eql 41 (.agg (ac a)) (.agg (ac b))).run Tryz.prog w = .ok (.bool (decide (a = b))) w := by
  simp only [binOp, Sem.run_bind, e, Result.andThen_ok, Sem.run_pure]
 simp only [hx, hy, Sem.run_bind, e1, e2, Result.andThen_ok, Sem.run_pure]
section
variable {ops : Array Oper} {Q : Exit -> Act -> World -> Prop} {md : Region.Mode} {w0 : World} {o : Oper} {rest : List Oper} {i : Nat} {plan : List Yld} {A : (Nat -> Value) -> Act}
theorem goV_loadPA (hw : ∀ u, Region.wanted o (yielded ops (A u).tmps) = true) (x : Operand) (ho : o.op = .load 41 x)
  {b : Nat} {p : Pfx} (hp : okP p) (hb : ∀ w, Ext w0 w -> PBlk w b p) (hx : ∀ u, (A u).eval x = .pointer (some ⟨b, 0, none⟩))
  (k : goV Tryz.prog ops Q md w0 rest (i + 1) (plan ++ [.val (.agg (ac p.1))]) (fun u => (A u).put o.dst (.agg (ac p.1)))) : goV Tryz.prog ops Q md w0 (o :: rest) i plan A :=
 goV_val _ hw (fun u w hx' _ => by
  have e := load_PA hp (hb w hx')
  unfold execOp
  rw [ho]
  simp only [hx, Sem.run_bind, e, Result.andThen_ok, Sem.run_pure]) k
theorem goV_eqAd (hw : ∀ u, Region.wanted o (yielded ops (A u).tmps) = true) (x y : Operand) {t : TypeId} (ho : o.op = .binOp .eql 41 x y t)
  {a b : Adr} (ha : okA a) (hb : okA b) {r : Bool} (h : decide (a = b) = r) (hx : ∀ u, (A u).eval x = .agg (ac a)) (hy : ∀ u, (A u).eval y = .agg (ac b))
  (k : goV Tryz.prog ops Q md w0 rest (i + 1) (plan ++ [.val (.bool r)]) (fun u => (A u).put o.dst (.bool r))) : goV Tryz.prog ops Q md w0 (o :: rest) i plan A :=
 goV_val _ hw (fun u w _ _ => by rw [← h]; exact exec_eqAd x y ho ha hb (hx u) (hy u) w) k
end
end Go.Proofs.YtnohnnjeabehjaaGreatDoor.Cx
namespace Go.Proofs.YtnohnnjeabehjaaGreatDoor
open Go.RowKit
theorem bitLen_pos (a : Adr) : bitLen a <= 128 /\ 32 <= bitLen a := by unfold bitLen; split <;> omega
end Go.Proofs.YtnohnnjeabehjaaGreatDoor
namespace Go.Proofs.YtnohnnjeabehjaaGreatDoor.Cx
open Go.RowKit
def maskB (x : Int) (k : Nat) : Int := x / 2 ^ (8 - k) * 2 ^ (8 - k)
def bt (x : Int) (j : Nat) : Int := x / 2 ^ (7 - j) % 2
def keepN (bits : Int) (i : Nat) : Nat := (max 0 (min (bits - 8 * (i : Int)) 8)).toNat
theorem keepN_le (bits : Int) (i : Nat) : keepN bits i <= 8 := by unfold keepN; omega
theorem fin_mask : ∀ (x : Fin 256) (k : Fin 9), 0 <= maskB (x.1 : Int) k.1 /\ maskB (x.1 : Int) k.1 < 256 /\ (∀ j : Fin 8, bt (maskB (x.1 : Int) k.1) j.1 = if j.1 < k.1 then bt (x.1 : Int) j.1 else 0) := by decide +kernel
theorem fin_sum : ∀ x : Fin 256, (x.1 : Int) = bt (x.1 : Int) 0 * 128 + bt (x.1 : Int) 1 * 64 + bt (x.1 : Int) 2 * 32 + bt (x.1 : Int) 3 * 16 + bt (x.1 : Int) 4 * 8 + bt (x.1 : Int) 5 * 4 + bt (x.1 : Int) 6 * 2 + bt (x.1 : Int) 7 := by decide +kernel
theorem fin_and : ∀ (x : Fin 256) (k : Fin 9), bits BinOp.and IntKind.u8 (x.1 : Int) (IntKind.u8.wrap (255 * 2 ^ (8 - k.1))) = maskB (x.1 : Int) k.1 := by decide +kernel
theorem nat8 {x : Int} (h : 0 <= x /\ x < 256) : ∃ n : Fin 256, x = (n.1 : Int) := ⟨⟨x.toNat, by omega⟩, by simp; omega⟩
theorem mask_bd {x : Int} (h : 0 <= x /\ x < 256) {k : Nat} (hk : k <= 8) : 0 <= maskB x k /\ maskB x k < 256 := by
 obtain ⟨n, rfl⟩ := nat8 h
 have := fin_mask n ⟨k, by omega⟩
 exact ⟨this.1, this.2.1⟩
theorem and_mask {x : Int} (h : 0 <= x /\ x < 256) {k : Nat} (hk : k <= 8) : bits BinOp.and IntKind.u8 x (IntKind.u8.wrap (255 * 2 ^ (8 - k))) = maskB x k := by
 obtain ⟨n, rfl⟩ := nat8 h
 exact fin_and n ⟨k, by omega⟩
theorem bt_ext {x y : Int} (hx : 0 <= x /\ x < 256) (hy : 0 <= y /\ y < 256) (h : ∀ j, j < 8 -> bt x j = bt y j) : x = y := by
 obtain ⟨n, rfl⟩ := nat8 hx
 obtain ⟨m, rfl⟩ := nat8 hy
 rw [fin_sum n, fin_sum m, h 0 (by decide), h 1 (by decide), h 2 (by decide), h 3 (by decide), h 4 (by decide), h 5 (by decide), h 6 (by decide), h 7 (by decide)]
def truncA (a : Adr) (bits : Int) : Adr := (a.1, (List.range 16).map fun i => maskB (X a i) (keepN bits i))
theorem X_trunc (a : Adr) (bits : Int) {i : Nat} (hi : i < 16) : X (truncA a bits) i = maskB (X a i) (keepN bits i) := by
 show ((List.range 16).map fun i => maskB (X a i) (keepN bits i)).getD i 0 = _
 rw [List.getD_eq_getElem?_getD, List.getElem?_map, List.getElem?_range hi]; rfl
theorem okA_trunc {a : Adr} (ha : okA a) (bits : Int) : okA (truncA a bits) := by
 refine ⟨by simp [truncA], fun x hx => ?_⟩
 obtain ⟨i, _, rfl⟩ := List.mem_map.1 hx
 exact mask_bd (X_bd ha i) (keepN_le _ _)
theorem adr_ext {a b : Adr} (ha : okA a) (hb : okA b) (h1 : a.1 = b.1) (h : ∀ i, i < 16 -> ∀ j, j < 8 -> bt (X a i) j = bt (X b i) j) : a = b := by
 refine Prod.ext h1 ?_
 apply List.ext_getElem?
 intro i
 rcases Nat.lt_or_ge i 16 with hi | hi
 ·have e := bt_ext (X_bd ha i) (X_bd hb i) (h i hi)
  unfold X at e
  rw [List.getD_eq_getElem?_getD, List.getD_eq_getElem?_getD, List.getElem?_eq_getElem (by rw [ha.1]; exact hi), List.getElem?_eq_getElem (by rw [hb.1]; exact hi)] at e
  rw [List.getElem?_eq_getElem (by rw [ha.1]; exact hi), List.getElem?_eq_getElem (by rw [hb.1]; exact hi)]
  exact congrArg some e
 ·rw [List.getElem?_eq_none (by rw [ha.1]; exact hi), List.getElem?_eq_none (by rw [hb.1]; exact hi)]
def validP (p : Pfx) : Bool := validA p.1 && decide (0 <= p.2) && decide (p.2 <= bitLen p.1) && decide (truncA p.1 p.2 = p.1)
def prefixOf (a : Adr) (bits : Int) : Pfx × Bool := if validA a = true /\ 0 <= bits /\ bits <= bitLen a then ((truncA a bits, bits), true) else (zpfx, false)
end Go.Proofs.YtnohnnjeabehjaaGreatDoor.Cx
