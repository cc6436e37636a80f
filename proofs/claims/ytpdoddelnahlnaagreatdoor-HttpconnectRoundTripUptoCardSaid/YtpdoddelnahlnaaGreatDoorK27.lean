/-
  Several texts joined: IpH.
-/
import Derived.Test.YtpdoddelnahlnaaGreatDoorK23
/-
  Contract of the reference's parseGroups.
-/
set_option linter.unusedSimpArgs false
set_option linter.unusedVariables false
namespace Go.Proofs.YtpdoddelnahlnaaGreatDoor
open Go.RowKit Go.Joins

theorem parse4_some {s : ByteArray} {b : List Int} (h : parse4 s = some b) : b.length = 4 ∧ ∀ x ∈ b, 0 ≤ x ∧ x < 256 := by
  rw [parse4_eq] at h
  split at h
  · rename_i h1
    cases h
    refine ⟨by simp [h1.1], fun x hx => ?_⟩
    obtain ⟨y, hy, rfl⟩ := List.mem_map.1 hx
    have := h1.2
    unfold okDec at this; rw [List.all_eq_true] at this
    have h2 := this y hy
    have h3 := dec_bd y
    simp at h2; omega
  · cases h
theorem okA_p4A (s : ByteArray) : okA (p4A s).1 := by
  unfold p4A
  cases h : parse4 s with
  | none => exact okA_zadr
  | some b =>
    have := parse4_some h
    show okA (v4 _ _ _ _)
    rw [v4_getD this.1]
    refine ⟨by simp [this.1], fun x hx => ?_⟩
    rcases List.mem_append.1 hx with hx | hx
    · exact this.2 x hx
    · simp at hx; omega
theorem p4A_snd (s : ByteArray) : (p4A s).2 = (parse4 s).isSome := by unfold p4A; cases parse4 s <;> rfl
set_option maxRecDepth 30000 in
set_option maxHeartbeats 4000000 in
theorem rparseG_any (s : ByteArray) (last : Bool) (w : World) (hs : s.size < 4294967281) :
    Calls Tryz.prog 92 #[.string s, .bool last] w fun e w' => ∃ v : Value, e = .returned (.tuple #[v, .bool (parseG s last).isSome]) ∧ (∀ l, parseG s last = some l → w'.ownsRow w.heap.size 82 1 v l.length (l.map (Value.int .u16))) ∧ Ext w w' := by
  obtain ⟨i0, hi, hz0, hz1, hz2⟩ := info_parts infoU
  have HI := Lib.hid hi; have HZ0 := Lib.hid hz0; have HZ1 := Lib.hid hz1; have HZ2 := Lib.hid hz2
  clear hi hz0 hz1 hz2
  go_enter Tryz.func92, Tryz.ntmps92
  by_cases hz : (s.size : Int) < 1
  · have e : parseG s last = some [] := by unfold parseG; rw [if_pos (by omega)]
    rw [e]; go_wp2; go_ret2
    exact ⟨_, rfl, fun l h => by cases h; exact World.ownsRow_nil _ _ _ _, Ext.refl _⟩
  have hpz : ∀ x ∈ parts 58 s, x.size ≤ s.size := fun x hx => parts_size hx
  have hsplit := fun w => rsplit_any s 58 w hs
  have hpe : parseG s last = groups last (parts 58 s) := by unfold parseG; rw [if_neg (by omega)]
  have hpn := @parts_le 58 s
  generalize parts 58 s = ps at *
  rw [hpe]
  have HS := Lib.hid hsplit; have HPZ := Lib.hid hpz
  clear hpe hsplit hpz
  go_wp2_with (go_at_call 64; refine (HS.out _).mono ?_; rintro e w3 ⟨b, cap, rfl, hbl, hsc, hcap, hx3⟩; refine Hid.out ?_)
  refine Lib.hid ?_
  have hbw0 := Lib.hid hsc.1
  have hpn2 : (ps.length : Int) < 8589934592 := by omega
  go_wp2_with fail
  go_loopw [4, 5, 6, 8, 9, 10, 11] (fun _ _ v c _ _ _ wr => ∃ (k : Nat) (out : List Int), k ≤ ps.length ∧ c = .int .i64 k ∧ out.length ≤ 2 * k ∧ wr.ownsRow w3.heap.size 82 1 v out.length (out.map (Value.int .u16)) ∧ StrCells wr b ps ∧ Ext w wr ∧ Ext w3 wr ∧ Hid (groups last ps = (groups last (ps.drop k)).map (out ++ ·)))
    (fun _ _ _ c _ _ _ _ => ps.length - (intOf c).toNat)
  case atStart => exact ⟨0, [], Nat.zero_le _, rfl, Nat.le_refl _, World.ownsRow_nil _ _ _ _, hsc, hx3, Ext.refl _, Lib.hid (by rw [List.drop_zero]; cases groups last ps <;> rfl)⟩
  case round =>
    obtain ⟨k, out, hk, rfl, hol, hown, hsc, hx, hy, hG⟩ := hrel
    by_cases hlt : k < ps.length
    · have hlt' : (k : Int) < ps.length := by omega
      obtain ⟨x, hxk⟩ : ∃ x, ps[k]? = some x := ⟨ps[k], List.getElem?_eq_getElem _⟩
      have hcell := hsc.2 k x hxk
      have HX := Lib.hid hxk; clear hxk
      have hxz := HPZ.out x (List.mem_of_getElem? HX.out)
      have hcall := rparse4_any x wr (by omega)
      rw [p4A_snd] at hcall
      have HC := Lib.hid hcall; clear hcall
      have hA := okA_p4A x
      have Ho := Lib.hid hown; clear hown
      go_wp2_with (first | (go_at_call 61; refine HC.out.mono ?_; rintro e w4 ⟨rfl, hx4⟩; refine Hid.out ?_))
      refine Lib.hid ?_
      generalize hob : (parse4 x).isSome = ob at *
      have HOB := Lib.hid hob; clear hob
      have hown4 : w4.ownsRow w3.heap.size 82 1 _ out.length (out.map (Value.int .u16)) := ownsRow_keep Ho.out (hx4.keep []) (by simp)
      have hsc4 := hsc.ext hx4
      have hx44 := hx.trans hx4
      have hy44 := hy.trans hx4
      clear hsc hx hy Ho
      have hb5 := Blk.new w4 (ac zadr) 30
      go_upto_region 9 with (refine wpList_store_A rfl _ _ rfl okA_zadr hA hb5 rfl rfl ?_)
      change Code.wp _ _ _ _ ((w4.alloc (.cells (ac zadr) 30)).setRow w4.heap.size (ac (p4A x).1))
      rw [World.setRow_alloc_new]
      have hb6 := Blk.new w4 (ac (p4A x).1) 30
      have hx6 := hx44.alloc (.cells (ac (p4A x).1) 30)
      have hy6 := hy44.alloc (.cells (ac (p4A x).1) 30)
      have hsc6 := hsc4.ext ((Ext.refl w4).alloc (.cells (ac (p4A x).1) 30))
      have hown6 := hown4.alloc (.cells (ac (p4A x).1) 30)
      clear hb5 hsc4 hx44 hy44 hown4 hx4
      generalize w4.alloc (.cells (ac (p4A x).1) 30) = w6 at *
      generalize w4.heap.size = n6 at *
      have hsz6 := hy6.size
      have hbw : b < w3.heap.size := hbw0.out
      have hww : w.heap.size ≤ w3.heap.size := hx3.size
      have hl6 : (out.length : Int) ≤ 17179869184 := by omega
      by_cases hsp : ob = true ∧ last = true ∧ k + 1 = ps.length
      · obtain ⟨h1, h2, h3⟩ := hsp
        subst h1 h2
        have hk1 : ((k : Int) == (ps.length : Int) - 1) = true := by rw [beq_iff_eq]; omega
        obtain ⟨l4, hb⟩ : ∃ l4, parse4 x = some l4 := Option.isSome_iff_exists.1 HOB.out
        have hg : groups true ps = some (out ++ [l4.getD 0 0 * 256 + l4.getD 1 0, l4.getD 2 0 * 256 + l4.getD 3 0]) := by
          rw [hG.out, groups_special HX.out h3 hb]; rfl
        have HG := Lib.hid hg; clear hg
        obtain ⟨hl4, hl4b⟩ := parse4_some hb
        obtain ⟨y0, y1, y2, y3, rfl⟩ : ∃ y0 y1 y2 y3, l4 = [y0, y1, y2, y3] := by
          match l4, hl4 with
          | [a, b, c, d], _ => exact ⟨a, b, c, d, rfl⟩
        have hq : (p4A x).1 = v4 y0 y1 y2 y3 := by unfold p4A; rw [hb]; rfl
        rw [hq] at hb6
        clear hb hq
        have b0 := hl4b y0 (by simp)
        have b1 := hl4b y1 (by simp)
        have b2 := hl4b y2 (by simp)
        have b3 := hl4b y3 (by simp)
        have d0 : w6.cell? ⟨n6, 1, none⟩ = some (.int .u8 y0) := hb6.cell rfl
        have d1 : w6.cell? ⟨n6, 2, none⟩ = some (.int .u8 y1) := hb6.cell rfl
        have d2 : w6.cell? ⟨n6, 3, none⟩ = some (.int .u8 y2) := hb6.cell rfl
        have d3 : w6.cell? ⟨n6, 4, none⟩ = some (.int .u8 y3) := hb6.cell rfl
        have o1 := or_u16 b0.1 b0.2 b1.1 b1.2
        have o2 := or_u16 b2.1 b2.2 b3.1 b3.2
        simp only [List.getD_cons_zero, List.getD_cons_succ] at HG
        go_wp2_with (at_builtin; refine wpList_append_own _ rfl _ _ 91 rfl w3.heap.size 82 i0 (.int .u16 0) 1 2 Tryz.underlying91 HI.out HZ0.out HZ1.out HZ2.out rfl (by decide) _ _ _ rfl (hown6.alloc _) ⟨w6.heap.size, 0, none⟩ 2 2 [.int .u16 (y0 * 256 + y1), .int .u16 (y2 * 256 + y3)] rfl rfl ?c1 ?c2 ?c3 ?c4 ?c5 ?_)
        first
          | (case c1 =>
              intro j u hj
              have B1 := Blk.new w6 #[Value.int IntKind.u16 (y0 * 256 + y1), Value.int IntKind.u16 (y2 * 256 + y3)] 82
              have e1 : (⟨w6.heap.size, 0, none⟩ : Addr).add j = ⟨w6.heap.size, j, none⟩ := by unfold Addr.add; split <;> simp_all
              rw [e1]
              exact B1.cell hj)
          | skip
        case c2 => simp [Value.oneCell']
        case c3 => unfold maxLen; omega
        case c4 => omega
        case c5 => first | omega | (rw [World.size_alloc]; omega) | (simp; omega)
        intro v' w7 hown' hgrow _
        have Ho' := Lib.hid hown'; clear hown'
        have Hg := Lib.hid hgrow; clear hgrow
        have hlt2 := hown6.lt
        have Hl := Lib.hid hlt2; clear hlt2
        have Ho := Lib.hid hown6; clear hown6
        go_wp2_with fail
        go_roundw
        case rel =>
          refine ⟨k + 1, out ++ [y0 * 256 + y1, y2 * 256 + y3], by omega, by go_num, by simp; omega, ?_, ?_, ?_, ?_, Lib.hid ?_⟩
          · rw [List.length_append, List.map_append]; exact Ho'.out
          · exact hsc6.grown (fun g hg e => by have := (Hl.out g hg).1; omega) Hg.out
          · exact Ext.grown (hx6.alloc _) Hg.out (fun g hg => by have := (Hl.out g hg).1; omega)
          · exact Ext.grown (hy6.alloc _) Hg.out (fun g hg => (Hl.out g hg).1)
          · rw [HG.out, h3, List.drop_length, groups]; simp
        case measure => simp [intOf]; omega
      · have hgx := groups_hex (last := last) HX.out (by rw [HOB.out]; exact hsp)
        have HGX := Lib.hid hgx; clear hgx
        have hsz := hxz
        have hcases : ob = false ∨ (ob = true ∧ last = false) ∨ (ob = true ∧ last = true ∧ ((k : Int) == (ps.length : Int) - 1) = false) := by
          cases ob
          · exact .inl rfl
          · cases last
            · exact .inr (.inl ⟨rfl, rfl⟩)
            · exact .inr (.inr ⟨rfl, rfl, by rw [beq_eq_false_iff_ne]; intro h; exact hsp ⟨rfl, rfl, by omega⟩⟩)
        clear hsp
        have hcellx := hsc6.2 k x HX.out
        have hcl := hexg_any x w6 (by unfold maxLen; omega)
        have hgb := hexg_bd x
        by_cases hbad : hexg x < 0
        · have hg : groups last ps = none := by rw [hG.out, HGX.out, if_pos hbad]; rfl
          have HG := Lib.hid hg; clear hg HGX
          generalize hexg x = g at *
          have HCL := Lib.hid hcl; clear hcl
          rcases hcases with rfl | ⟨rfl, rfl⟩ | ⟨rfl, rfl, hk1⟩
          all_goals go_wp2_with (first | (go_at_call 117; refine HCL.out.mono ?_; rintro e w8 ⟨rfl, rfl⟩))
          all_goals go_ret2
          all_goals (refine ⟨_, (by rw [HG.out]; rfl), ?_, hx6⟩; intro l h; rw [HG.out] at h; cases h)
        · have hgr := HGX.out
          rw [if_neg hbad] at hgr
          have HGR := Lib.hid hgr; clear hgr HGX
          generalize hexg x = g at *
          have HCL := Lib.hid hcl; clear hcl
          have HE16 : Hid (IntKind.u16.wrap g = g) := Lib.hid (by rw [IntKind.wrap_u16]; omega)
          have Hown6 := Lib.hid hown6; clear hown6
          have hgb0 : 0 ≤ g := by omega
          have hgd : decide (g < 0) = false := decide_eq_false (by omega)
          have hgb1 : g < 65536 := hgb.2
          clear hgb hbad
          rcases hcases with rfl | ⟨rfl, rfl⟩ | ⟨rfl, rfl, hk1⟩
          all_goals go_upto_region 14 with (first | (go_at_call 117; refine HCL.out.mono ?_; rintro e w8 ⟨rfl, rfl⟩))
          all_goals (
            have e16 := HE16.out
            have hown9 := Hown6.out
            clear Hown6
            go_wp2_with (at_builtin; refine wpList_append_own _ rfl _ _ 91 rfl w3.heap.size 82 i0 (.int .u16 0) 1 2 Tryz.underlying91 HI.out HZ0.out HZ1.out HZ2.out rfl (by decide) _ _ _ rfl (hown9.alloc _) ⟨w6.heap.size, 0, none⟩ 1 1 [.int .u16 g] rfl rfl ?c1 ?c2 ?c3 ?c4 ?c5 ?_)
            first
              | (case c1 =>
                  intro j u hj
                  have B1 := Blk.new w6 #[Value.int IntKind.u16 g] 82
                  have e1 : (⟨w6.heap.size, 0, none⟩ : Addr).add j = ⟨w6.heap.size, j, none⟩ := by unfold Addr.add; split <;> simp_all
                  rw [e1]
                  exact B1.cell hj)
              | skip
            case c2 => simp [Value.oneCell']
            case c3 => unfold maxLen; omega
            case c4 => omega
            case c5 => first | omega | (rw [World.size_alloc]; omega) | (simp; omega)
            intro v' w7 hown' hgrow _
            have Ho' := Lib.hid hown'; clear hown'
            have Hg := Lib.hid hgrow; clear hgrow
            have hlt2 := hown9.lt
            have Hl := Lib.hid hlt2; clear hlt2
            have Ho := Lib.hid hown9; clear hown9
            go_wp2_with fail
            go_roundw
            case rel =>
              refine ⟨k + 1, out ++ [g], by omega, by go_num, by simp; omega, ?_, ?_, ?_, ?_, Lib.hid ?_⟩
              · rw [List.length_append, List.map_append]; exact Ho'.out
              · exact hsc6.grown (fun g hg e => by have := (Hl.out g hg).1; omega) Hg.out
              · exact Ext.grown (hx6.alloc _) Hg.out (fun g hg => by have := (Hl.out g hg).1; omega)
              · exact Ext.grown (hy6.alloc _) Hg.out (fun g hg => (Hl.out g hg).1)
              · rw [hG.out, HGR.out, Option.map_map]
                congr 1
                funext l
                simp
            case measure => simp [intOf]; omega)
    · obtain rfl : k = ps.length := by omega
      have hlt' : ¬ ((ps.length : Nat) : Int) < ps.length := by omega
      have e : groups last ps = some out := by rw [hG.out, List.drop_length, groups]; simp
      have E := Lib.hid e; clear e
      have Ho := Lib.hid hown; clear hown
      go_wp2_with fail
      go_ret2
      exact ⟨_, by rw [E.out]; rfl, fun l h => by rw [E.out] at h; cases h; exact ownsRow_le Ho.out hx3.size, hx⟩
end Go.Proofs.YtpdoddelnahlnaaGreatDoor
