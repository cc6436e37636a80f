/-
  Several texts joined: IpP.
-/
import Derived.Test.YtpdoddelnahlnaaGreatDoorK23
import Derived.Test.YtpdoddelnahlnaaGreatDoorK24
/-
  Contract of ip.Parse.
-/
set_option linter.unusedSimpArgs false
set_option linter.unusedVariables false
namespace Go.Proofs.YtpdoddelnahlnaaGreatDoor
open Go.RowKit Go.Joins

theorem groups_ok {last : Bool} : ∀ {ps : List ByteArray} {l : List Int}, groups last ps = some l → ok16 l ∧ l.length ≤ ps.length + 1
  | [], l, h => by rw [groups] at h; cases h; exact ⟨fun x hx => (by cases hx), by simp⟩
  | x :: xs, l, h => by
    rw [groups] at h
    cases hb : (if last = true ∧ xs = [] then parse4 x else none) with
    | some b =>
      rw [hb] at h
      have hp : parse4 x = some b := by
        split at hb
        · exact hb
        · cases hb
      rw [parse4_eq] at hp
      split at hp
      · rename_i h1
        cases hp
        cases h
        have hbd : ∀ i, 0 ≤ ((parts 46 x).map dec).getD i 0 ∧ ((parts 46 x).map dec).getD i 0 < 256 := by
          intro i
          rw [List.getD_eq_getElem?_getD, List.getElem?_map]
          cases hi : (parts 46 x)[i]? with
          | none => simp
          | some y =>
            have h2 := h1.2
            unfold okDec at h2; rw [List.all_eq_true] at h2
            have h3 := h2 y (List.mem_of_getElem? hi)
            have h4 := dec_bd y
            simp at h3 ⊢; omega
        refine ⟨fun y hy => ?_, by simp⟩
        have b0 := hbd 0; have b1 := hbd 1; have b2 := hbd 2; have b3 := hbd 3
        simp only [List.mem_cons, List.not_mem_nil, or_false] at hy
        rcases hy with rfl | rfl <;> omega
      · cases hp
    | none =>
      rw [hb] at h
      simp only at h
      by_cases hg : hexg x < 0
      · rw [if_pos hg] at h; cases h
      · rw [if_neg hg] at h
        cases hr : groups last xs with
        | none => rw [hr] at h; cases h
        | some r =>
          rw [hr] at h; cases h
          obtain ⟨h1, h2⟩ := groups_ok hr
          have := hexg_bd x
          refine ⟨fun y hy => ?_, by simp; omega⟩
          rcases List.mem_cons.1 hy with rfl | hy
          · omega
          · exact h1 y hy
theorem parseG_ok {s : ByteArray} {last : Bool} {l : List Int} (h : parseG s last = some l) : ok16 l ∧ l.length ≤ s.size + 2 := by
  unfold parseG at h
  split at h
  · cases h; exact ⟨fun x hx => (by cases hx), by simp⟩
  · have h3 := groups_ok h
    have := @parts_le 58 s
    exact ⟨h3.1, by omega⟩
theorem grps_own {w : World} {B : Nat} {v : Value} {l : List Int} (h : w.ownsRow B 82 1 v l.length (l.map (Value.int .u16))) (hl : ok16 l) : Grps w v l := by
  have h' := h
  obtain ⟨_, h4⟩ := h'
  rcases h4 with ⟨rfl, hn⟩ | ⟨g, cap, cur, rfl, _, _, hc, _⟩
  · exact ⟨none, 0, by rw [hn], by omega, hl, fun h8 => by omega⟩
  · refine ⟨some ⟨g, 0, none⟩, cap, rfl, hc, hl, fun _ => ⟨g, 0, rfl, (h.lt g rfl).2, fun j x hj => ?_⟩⟩
    have := h.cells (g := g) rfl j (.int .u16 x) (by simp [hj])
    rw [show (⟨g, 0, none⟩ : Addr).add j = ⟨g, j, none⟩ from by unfold Addr.add; split <;> simp_all] at this
    rw [Nat.zero_add]; exact this
theorem own_slice {w : World} {B : Nat} {e : TypeId} {v : Value} {n : Nat} {xs : List Value} (h : w.ownsRow B e 1 v n xs) : ∃ a cap, v = .slice a n cap ∧ n ≤ cap ∧ (n = 0 ∧ a = none ∧ cap = 0 ∨ ∃ g, a = some ⟨g, 0, none⟩) := by
  obtain ⟨_, h4⟩ := h
  rcases h4 with ⟨rfl, hn⟩ | ⟨g, cap, cur, rfl, _, _, hc, _⟩
  · exact ⟨none, 0, by rw [hn], by omega, .inl ⟨hn, rfl, rfl⟩⟩
  · exact ⟨_, cap, rfl, hc, .inr ⟨g, rfl⟩⟩
def cutH (s : ByteArray) : ByteArray := if 0 ≤ cutAt s then s.extract 0 (cutAt s).toNat else s
def cutT (s : ByteArray) : ByteArray := if 0 ≤ cutAt s then s.extract ((cutAt s).toNat + 2) s.size else ⟨#[]⟩
theorem cut_any (s : ByteArray) (w : World) (he : Env w) (hs : s.size < 4294967281) :
    Calls Tryz.prog 79 #[.string s, .string ⟨#[58, 58]⟩] w fun e w' => e = .returned (.tuple #[.string (cutH s), .string (cutT s), .bool (decide (0 ≤ cutAt s))]) ∧ Ext w w' := by
  obtain ⟨m, hm⟩ := he
  refine (Tryz.strings_Cut s ⟨#[58, 58]⟩ m w hs hm).mono fun e w' ⟨h1, n, h2⟩ => ?_
  subst h1 h2
  refine ⟨?_, (Ext.refl w).drewN n⟩
  have e0 : Lib.index s.data.toList (⟨#[58, 58]⟩ : ByteArray).data.toList = cutAt s := rfl
  have hl := size_list s
  unfold Lib.cut cutH cutT
  rw [e0]
  by_cases h : 0 ≤ cutAt s
  · simp only [h, if_true, decide_true]
    have e1 : (⟨(s.data.toList.take (cutAt s).toNat).toArray⟩ : ByteArray) = s.extract 0 (cutAt s).toNat := BA_ext (by rw [data_extract]; simp)
    have e2 : (⟨(s.data.toList.drop ((cutAt s).toNat + 2)).toArray⟩ : ByteArray) = s.extract ((cutAt s).toNat + 2) s.size := BA_ext (by rw [data_extract, List.take_of_length_le (by omega)])
    rw [e1]
    show Ending.returned (.tuple #[_, .string ⟨(s.data.toList.drop ((cutAt s).toNat + 2)).toArray⟩, _]) = _
    rw [e2]
  · simp only [h, if_false, decide_false]
theorem append_nil_run {P : Program} {w : World} (t ty e : TypeId) (i : TypeInfo) (ht : P.underlying t = some (.slice e)) (hi : P.info? e = some i) (g n cap : Nat) (hn : n ≤ cap) :
    (Builtin.append_ #[t, t] ty #[.slice (some ⟨g, 0, none⟩) n cap, .slice none 0 0]).run P w = .ok (.slice (some ⟨g, 0, none⟩) n cap) w := by
  simp [Builtin.append_, run_underlying ht, sizeOf, typeInfo, hi, Builtin.lenOf, hn, Builtin.firstCells, storeCells]
theorem wpList_append_nil {P : Program} {w : World} {ops : Array Oper} {rest : List Oper} {o : Oper} {a : Act} {Q : Exit → Act → World → Prop} (hgd : o.guard = none) (s x : Operand) (t : TypeId)
    (ho : o.op = .call { callee := .builtin .append, args := #[s, x], argTypes := #[t, t] }) (e : TypeId) (i : TypeInfo) (ht : P.underlying t = some (.slice e)) (hi : P.info? e = some i) (g n cap : Nat) (hn : n ≤ cap)
    (hs : a.eval s = .slice (some ⟨g, 0, none⟩) n cap) (hx : a.eval x = .slice none 0 0) (h : wpList P ops Q rest (a.put o.dst (.slice (some ⟨g, 0, none⟩) n cap)) w) : wpList P ops Q (o :: rest) a w := by
  refine wpList_plain hgd fun _ hK => ?_
  unfold Oper.wp execOp
  simp only [ho, resolve, invoke, builtin, Sem.run_bind, Sem.run_pure, Result.andThen_ok, List.map_toArray, List.map_cons, List.map_nil, hs, hx, append_nil_run t _ e i ht hi g n cap hn]
  exact hK _ _ h
theorem okA_v6 {gs : List Int} (h : ok16 gs) : okA (v6 gs).1 := by
  by_cases hl : gs.length = 8
  · rw [v6_ok hl]; exact okA_adr6 h hl (Nat.le_refl _)
  · rw [v6_no hl]; exact okA_zadr

set_option maxRecDepth 4000 in
set_option maxHeartbeats 4000000 in
theorem parse_any (s : ByteArray) (w : World) (henv : Env w) (hs : s.size < 4294967281) :
    Calls Tryz.prog 48 #[.string s] w fun e w' => e = .returned (.tuple #[av (parseA s).1, .bool (parseA s).2]) ∧ Ext w w' := by
  obtain ⟨i0, hi, hz0, hz1, hz2⟩ := info_parts infoU
  have HI := Lib.hid hi; have HZ0 := Lib.hid hz0; have HZ1 := Lib.hid hz1; have HZ2 := Lib.hid hz2
  clear hi hz0 hz1 hz2
  have hcall := fun w he => parse4_any s w he hs
  go_enter Tryz.func48, Tryz.ntmps48
  go_upto_region 1 with fail
  rw [← ac_zadr]
  have hx := (Ext.refl w).alloc (.cells (ac zadr) 30)
  have hr := Blk.new w (ac zadr) 30
  generalize hw2 : w.alloc (.cells (ac zadr) 30) = w2 at *
  clear hw2
  have HC := Lib.hid hcall; clear hcall
  go_wp2_with (first | (go_at_call 77; refine (HC.out _ (henv.ext hx)).mono ?_; rintro e w4 ⟨l4, hl4, hl4b, rfl, hl4e, hx4⟩; refine Hid.out ?_))
  refine Lib.hid ?_
  have hr4 := hr.ext hx4
  have hx44 := hx.trans hx4
  clear hr hx hx4
  have hb5 := Blk.new w4 (c4 [0, 0, 0, 0]) 86
  go_upto_region 2 with (refine wpList_store_4 rfl _ _ rfl (l0 := [0, 0, 0, 0]) rfl hl4 hb5 rfl rfl ?_)
  change Code.wp _ _ _ _ ((w4.alloc (.cells (c4 [0, 0, 0, 0]) 86)).setRow w4.heap.size (c4 l4))
  rw [World.setRow_alloc_new]
  have hb6 := Blk.new w4 (c4 l4) 86
  have hx6 := hx44.alloc (.cells (c4 l4) 86)
  have hr6 := hr4.ext ((Ext.refl w4).alloc (.cells (c4 l4) 86))
  clear hb5 hr4 hx44
  generalize w4.alloc (.cells (c4 l4) 86) = w6 at *
  generalize w4.heap.size = n6 at *
  rcases hp4 : parse4 s with _ | b
  · have hq : (parse4 s).isSome = false := by rw [hp4]; rfl
    have hpa : parseA s = if cutAt s < 0 then (match parseG s true with
        | some l => v6 l
        | none => (zadr, false)) else (match parseG (s.extract 0 (cutAt s).toNat) false, parseG (s.extract ((cutAt s).toNat + 2) s.size) true with
        | some l, some m => if 7 < l.length + m.length then (zadr, false) else v6 (l ++ List.replicate (8 - (l.length + m.length)) 0 ++ m)
        | _, _ => (zadr, false)) := by unfold parseA; rw [hp4]; rfl
    have HPA := Lib.hid hpa; clear hpa hp4
    have hcut := cut_any s w6 (henv.ext hx6) hs
    by_cases hc : cutAt s < 0
    · have h1 : cutH s = s := by unfold cutH; rw [if_neg (by omega)]
      have h2 : decide (0 ≤ cutAt s) = false := decide_eq_false (by omega)
      rw [h1, h2] at hcut
      have HCUT := Lib.hid hcut; clear hcut
      have hp := HPA.out
      rw [if_pos hc] at hp
      have HPA2 := Lib.hid hp; clear hp HPA h1 h2 hc
      have hpg := fun w he => parseG_any s true w he hs
      have HPG := Lib.hid hpg; clear hpg
      go_wp2_with (first | (go_at_call 79; refine HCUT.out.mono ?_; rintro e w7 ⟨rfl, hx7⟩; have hx77 := hx6.trans hx7; have hr7 := hr6.ext hx7) | (go_at_call 80; refine (HPG.out _ (henv.ext hx77)).mono ?_; rintro e w8 ⟨v8, rfl, hv8, hx8⟩; have hx88 := hx77.trans hx8; have hr8 := hr7.ext hx8; refine Hid.out ?_))
      refine Lib.hid ?_
      cases hpgs : parseG s true with
      | none =>
        have E : Hid (parseA s = (zadr, false)) := Lib.hid (by rw [HPA2.out, hpgs])
        clear hpgs
        go_wp2_with (refine wpList_store_A rfl _ _ rfl okA_zadr okA_zadr hr8 rfl rfl ?_)
        refine bodyPost_ret (res_A2 rfl rfl okA_zadr (hr8.row _)) rfl ⟨by rw [E.out]; rfl, hx88.setRow (Nat.le_refl _) _⟩
      | some l =>
        have hlo := parseG_ok hpgs
        have E : Hid (parseA s = v6 l) := Lib.hid (by rw [HPA2.out, hpgs])
        have hgr := grps_own (hv8 l hpgs) hlo.1
        have hA := okA_v6 hlo.1
        have HGR := Lib.hid hgr; clear hgr hv8 hpgs
        have hV6 := fun w h => V6_any v8 l w h (by omega)
        have HV6 := Lib.hid hV6; clear hV6
        go_wp2_with (first | (go_at_call 81; refine (HV6.out _ HGR.out).mono ?_; rintro e w9 ⟨rfl, hx9⟩; have hr9 := hr8.ext hx9; have hx99 := hx88.trans hx9) | refine wpList_store_A rfl _ _ rfl okA_zadr hA hr9 rfl rfl ?_)
        refine bodyPost_ret (res_A2 rfl rfl hA (hr9.row _)) rfl ⟨by rw [E.out]; rfl, hx99.setRow (Nat.le_refl _) _⟩
    · have h1 : cutH s = s.extract 0 (cutAt s).toNat := by unfold cutH; rw [if_pos (by omega)]
      have h3 : cutT s = s.extract ((cutAt s).toNat + 2) s.size := by unfold cutT; rw [if_pos (by omega)]
      have h2 : decide (0 ≤ cutAt s) = true := decide_eq_true (by omega)
      rw [h2] at hcut
      have hp := HPA.out
      rw [if_neg hc, ← h1, ← h3] at hp
      have hH : (cutH s).size ≤ s.size := by rw [h1]; exact extract_le _ _ _
      have hT : (cutT s).size ≤ s.size := by rw [h3]; exact extract_le _ _ _
      have HPA2 := Lib.hid hp; clear hp HPA h1 h2 h3 hc
      generalize cutH s = sh at *
      generalize cutT s = st at *
      have HCUT := Lib.hid hcut; clear hcut
      have hpg := fun w he => parseG_any sh false w he (by omega)
      have HPG := Lib.hid hpg; clear hpg
      have hpg := fun w he => parseG_any st true w he (by omega)
      have HPG2 := Lib.hid hpg; clear hpg
      go_wp2_with (first | (go_at_call 79; refine HCUT.out.mono ?_; rintro e w7 ⟨rfl, hx7⟩; have hx77 := hx6.trans hx7; have hr7 := hr6.ext hx7) | (go_at_call 80; refine (HPG.out _ (henv.ext hx77)).mono ?_; rintro e w8 ⟨v8, rfl, hv8, hx8⟩; have hx88 := hx77.trans hx8; have hr8 := hr7.ext hx8; refine Hid.out ?_))
      refine Lib.hid ?_
      go_wp2_with (go_at_call 80; refine (HPG2.out _ (henv.ext hx88)).mono ?_; rintro e w9 ⟨v9, rfl, hv9, hx9⟩; have hx99 := hx88.trans hx9; have hr9 := hr8.ext hx9; refine Hid.out ?_)
      refine Lib.hid ?_
      cases hp1 : parseG sh false with
      | none =>
        have E : Hid (parseA s = (zadr, false)) := Lib.hid (by rw [HPA2.out, hp1])
        clear hp1
        go_wp2_with (refine wpList_store_A rfl _ _ rfl okA_zadr okA_zadr hr9 rfl rfl ?_)
        refine bodyPost_ret (res_A2 rfl rfl okA_zadr (hr9.row _)) rfl ⟨by rw [E.out]; rfl, hx99.setRow (Nat.le_refl _) _⟩
      | some l =>
        cases hp2 : parseG st true with
        | none =>
          have E : Hid (parseA s = (zadr, false)) := Lib.hid (by rw [HPA2.out, hp1, hp2])
          clear hp1 hp2
          go_wp2_with (refine wpList_store_A rfl _ _ rfl okA_zadr okA_zadr hr9 rfl rfl ?_)
          refine bodyPost_ret (res_A2 rfl rfl okA_zadr (hr9.row _)) rfl ⟨by rw [E.out]; rfl, hx99.setRow (Nat.le_refl _) _⟩
        | some m =>
          have hlo := parseG_ok hp1
          have hmo := parseG_ok hp2
          have ho8 := hv8 l hp1
          have ho9 := hv9 m hp2
          have hlt8 := ho8.lt
          have hlt9 := ho9.lt
          obtain ⟨a1, c1, rfl, hc1, hf1⟩ := own_slice ho8
          obtain ⟨a2, c2, rfl, hc2, hf2⟩ := own_slice ho9
          have ho8' := ownsRow_keep ho8 (hx9.keep []) (by simp)
          have hE : parseA s = if 7 < l.length + m.length then (zadr, false) else v6 (l ++ List.replicate (8 - (l.length + m.length)) 0 ++ m) := by rw [HPA2.out, hp1, hp2]
          clear hv8 hv9 hp1 hp2 ho8
          have hl1 : (l.length : Int) ≤ 4294967400 := by omega
          have hm1 : (m.length : Int) ≤ 4294967400 := by omega
          by_cases h7 : 7 < l.length + m.length
          · rw [if_pos h7] at hE
            have E := Lib.hid hE; clear hE
            have h7d : decide ((8 : Int) ≤ l.length + m.length) = true := decide_eq_true (by omega)
            have h7e : (8 : Int) ≤ l.length + m.length := by omega
            go_wp2_with (refine wpList_store_A rfl _ _ rfl okA_zadr okA_zadr hr9 rfl rfl ?_)
            refine bodyPost_ret (res_A2 rfl rfl okA_zadr (hr9.row _)) rfl ⟨by rw [E.out]; rfl, hx99.setRow (Nat.le_refl _) _⟩
          · rw [if_neg h7] at hE
            have E := Lib.hid hE; clear hE
            have h7d : decide ((8 : Int) ≤ l.length + m.length) = false := decide_eq_false (by omega)
            have h7e : ¬ (8 : Int) ≤ l.length + m.length := by omega
            obtain ⟨z, hz⟩ : ∃ z : Nat, z = 8 - (l.length + m.length) := ⟨_, rfl⟩
            have hz8 : (8 : Int) - l.length - m.length = (z : Int) := by omega
            have HZ8 := Lib.hid hz8; clear hz8
            have hzp : 0 < z := by omega
            have hzl : z ≤ 8 := by omega
            have hzq : l.length + z ≤ 8 := by omega
            have hzm : l.length + z + m.length ≤ 8 := by omega
            have HZ := Lib.hid hz; clear hz
            have hsz8 := hx8.size
            have hsz7 := hx77.size
            have HF1 := Lib.hid hf1; have HF2 := Lib.hid hf2; clear hf1 hf2
            have Ho8 := Lib.hid ho8'; have Ho9 := Lib.hid ho9; clear ho8' ho9
            have hsz9 := hx9.size
            go_wp2_with (at_builtin; refine wpList_append_made _ rfl _ _ 91 3 rfl w7.heap.size 82 i0 (.int .u16 0) 2 Tryz.underlying91 Tryz.underlying3 HI.out HZ0.out HZ1.out HZ2.out rfl rfl _ _ _ rfl Ho8.out z (congrArg (Value.int .i64) HZ8.out) hzp ?c1 ?c2 ?c3 ?c4 ?c5 ?_)
            case c1 => omega
            case c2 => omega
            case c3 => unfold maxLen; omega
            case c4 => omega
            case c5 => omega
            intro v' w10 hown' hgrow hne
            refine Hid.out ?_
            have hg10 : Ext w w10 := Ext.grown hx99 hgrow (fun g hg => by have := (hlt8 g hg).1; have := hx77.size; omega)
            have hr10 : Blk w10 w.heap.size (ac zadr).toList 30 := hr9.keep (Keep.of_grown hgrow) (fun hm => by
              have h8 : ∀ g, (Value.slice a1 l.length c1).ownBlock = some g → w.heap.size < g := fun g hg => by
                have := (hlt8 g hg).1; have := hr7.lt; omega
              cases ho : (Value.slice a1 l.length c1).ownBlock with
              | none => rw [ho] at hm; simp at hm
              | some g => rw [ho] at hm; simp at hm; have := h8 g ho; omega)
            obtain ⟨a3, c3, rfl, hc3, hf3⟩ := own_slice hown'
            obtain ⟨g3, rfl⟩ : ∃ g, a3 = some ⟨g, 0, none⟩ := by
              rcases hf3 with ⟨h0, _, _⟩ | h0
              · omega
              · exact h0
            have hB := Lib.hid (show w7.heap.size ≤ w10.heap.size by have := hgrow.size; omega)
            rcases HF2.out with ⟨h0, rfl, rfl⟩ | ⟨g2, rfl⟩
            · obtain rfl : m = [] := List.eq_nil_of_length_eq_zero h0
              refine Lib.hid ?_
              have ho3 : w10.ownsRow w7.heap.size 82 1 (.slice (some ⟨g3, 0, none⟩) (l.length + z) c3) (l ++ List.replicate z 0).length ((l ++ List.replicate z 0).map (Value.int .u16)) := by
                rw [List.length_append, List.length_replicate, List.map_append, List.map_replicate]; exact hown'
              have h16 : ok16 (l ++ List.replicate z 0) := fun x hx => by
                rcases List.mem_append.1 hx with hx | hx
                · exact hlo.1 x hx
                · have := List.eq_of_mem_replicate hx; omega
              have hgr := grps_own ho3 h16
              have E2 : Hid (parseA s = v6 (l ++ List.replicate z 0)) := Lib.hid (by rw [E.out, ← HZ.out, List.append_nil])
              have hV6 := fun w h => V6_any (.slice (some ⟨g3, 0, none⟩) (l.length + z) c3) (l ++ List.replicate z 0) w h (by simp; omega)
              have HGR := Lib.hid hgr; have HV6 := Lib.hid hV6; have HO3 := Lib.hid ho3; clear hgr hV6 hown' ho3
              have hA := okA_v6 h16
              go_wp2_with (first | (at_builtin; refine wpList_append_nil rfl _ _ 91 rfl 82 i0 Tryz.underlying91 HI.out g3 (l.length + z) c3 hc3 rfl rfl ?_) | (go_at_call 81; refine (HV6.out _ HGR.out).mono ?_; rintro e w11 ⟨rfl, hx11⟩; have hr11 := hr10.ext hx11; have hxx := hg10.trans hx11) | refine wpList_store_A rfl _ _ rfl okA_zadr hA hr11 rfl rfl ?_)
              refine bodyPost_ret (res_A2 rfl rfl hA (hr11.row _)) rfl ⟨by rw [E2.out]; rfl, hxx.setRow (Nat.le_refl _) _⟩
            · refine Lib.hid ?_
              have hcells2 : ∀ j u, (m.map (Value.int .u16))[j]? = some u → w10.cell? ((⟨g2, 0, none⟩ : Addr).add j) = some u := fun j u hj => by
                have h1 := Ho9.out.cells (g := g2) rfl j u hj
                have hb := hlt9 g2 rfl
                rw [show (⟨g2, 0, none⟩ : Addr).add j = ⟨g2, j, none⟩ from by unfold Addr.add; split <;> simp_all] at h1 ⊢
                rw [(Keep.of_grown hgrow).cell (p := ⟨g2, j, none⟩) hb.2 (fun hm => by
                  cases ho : (Value.slice a1 l.length c1).ownBlock with
                  | none => rw [ho] at hm; simp at hm
                  | some g => rw [ho] at hm; simp at hm; have := (hlt8 g ho).2; omega)]
                exact h1
              have Hcells2 := Lib.hid hcells2; clear hcells2
              have hl3 := hown'.lt
              have hzz : l.length + z ≤ 8 := by omega
              go_wp2_with (at_builtin; refine wpList_append_own _ rfl _ _ 91 rfl w7.heap.size 82 i0 (.int .u16 0) 1 2 Tryz.underlying91 HI.out HZ0.out HZ1.out HZ2.out rfl (by decide) _ _ _ rfl hown' ⟨g2, 0, none⟩ m.length c2 (m.map (Value.int .u16)) rfl ?d1 Hcells2.out ?d2 ?d3 ?d4 hB.out ?_)
              case d1 => simp
              case d2 => intro u hu; obtain ⟨x, _, rfl⟩ := List.mem_map.1 hu; rfl
              case d3 => unfold maxLen; omega
              case d4 => omega
              intro v'' w11 hown'' hgrow2 _
              refine Hid.out ?_
              obtain ⟨a5, c5, rfl, hc5, hf5⟩ := own_slice hown''
              have ho3 : w11.ownsRow w7.heap.size 82 1 (.slice a5 (l.length + z + m.length) c5) (l ++ List.replicate z 0 ++ m).length ((l ++ List.replicate z 0 ++ m).map (Value.int .u16)) := by
                rw [List.length_append, List.length_append, List.length_replicate, List.map_append, List.map_append, List.map_replicate, List.append_assoc]; exact hown''
              have h16 : ok16 (l ++ List.replicate z 0 ++ m) := fun x hx => by
                rcases List.mem_append.1 hx with hx | hx
                · rcases List.mem_append.1 hx with hx | hx
                  · exact hlo.1 x hx
                  · have := List.eq_of_mem_replicate hx; omega
                · exact hmo.1 x hx
              have hgr := grps_own ho3 h16
              have E2 : Hid (parseA s = v6 (l ++ List.replicate z 0 ++ m)) := Lib.hid (by rw [E.out, ← HZ.out])
              have hV6 := fun w h => V6_any (.slice a5 (l.length + z + m.length) c5) (l ++ List.replicate z 0 ++ m) w h (by simp; omega)
              have hg11 : Ext w w11 := Ext.grown hg10 hgrow2 (fun g hg => by have := (hl3 g hg).1; have := hx77.size; omega)
              have hr11 : Blk w11 w.heap.size (ac zadr).toList 30 := hr10.keep (Keep.of_grown hgrow2) (fun hm => by
                cases ho : (Value.slice (some ⟨g3, 0, none⟩) (l.length + z) c3).ownBlock with
                | none => rw [ho] at hm; simp at hm
                | some g => rw [ho] at hm; simp at hm; have := (hl3 g ho).1; have := hr7.lt; omega)
              have HGR := Lib.hid hgr; have HV6 := Lib.hid hV6; clear hgr hV6 hown'' ho3 hown'
              have hA := okA_v6 h16
              clear h16
              generalize l ++ List.replicate z 0 ++ m = gs at *
              refine Lib.hid ?_
              go_wp2_with (first | (go_at_call 81; refine (HV6.out _ HGR.out).mono ?_; rintro e w12 ⟨rfl, hx12⟩; have hr12 := hr11.ext hx12; have hxx := hg11.trans hx12) | refine wpList_store_A rfl _ _ rfl okA_zadr hA hr12 rfl rfl ?_)
              refine bodyPost_ret (res_A2 rfl rfl hA (hr12.row _)) rfl ⟨by rw [E2.out]; rfl, hxx.setRow (Nat.le_refl _) _⟩
  · obtain rfl := hl4e b hp4
    have hq : (parse4 s).isSome = true := by rw [hp4]; rfl
    have hpa : parseA s = (v4 (b.getD 0 0) (b.getD 1 0) (b.getD 2 0) (b.getD 3 0), true) := by unfold parseA; rw [hp4]
    have HPA := Lib.hid hpa; clear hpa hp4
    obtain ⟨y0, y1, y2, y3, rfl⟩ : ∃ y0 y1 y2 y3, b = [y0, y1, y2, y3] := by
      match b, hl4 with
      | [a, b, c, d], _ => exact ⟨a, b, c, d, rfl⟩
    have b0 := hl4b y0 (by simp)
    have b1 := hl4b y1 (by simp)
    have b2 := hl4b y2 (by simp)
    have b3 := hl4b y3 (by simp)
    have d0 : w6.cell? ⟨n6, 0, none⟩ = some (.int .u8 y0) := hb6.cell rfl
    have d1 : w6.cell? ⟨n6, 1, none⟩ = some (.int .u8 y1) := hb6.cell rfl
    have d2 : w6.cell? ⟨n6, 2, none⟩ = some (.int .u8 y2) := hb6.cell rfl
    have d3 : w6.cell? ⟨n6, 3, none⟩ = some (.int .u8 y3) := hb6.cell rfl
    go_wp2_with (first | (go_at_call 78; refine (ipV4_any b0 b1 b2 b3 _).mono ?_; rintro e w8 ⟨rfl, hx8⟩; have hr8 := hr6.ext hx8; have hx9 := hx6.trans hx8) | refine wpList_store_A rfl _ _ rfl okA_zadr (okA_v4 b0 b1 b2 b3) hr8 rfl rfl ?_)
    refine bodyPost_ret (res_A2 rfl rfl (okA_v4 b0 b1 b2 b3) (hr8.row _)) rfl ⟨by rw [HPA.out]; rfl, hx9.setRow (Nat.le_refl _) _⟩
end Go.Proofs.YtpdoddelnahlnaaGreatDoor
