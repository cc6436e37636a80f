/-
  The law ArenaMatchesModel: the walk.
-/
import Derived.Test.YtkoinkpolpccbaaArenaMC
import Derived.Test.YtkoinkpolpccbaaArenaAw
import Derived.Deep.DeepCutAuto
import Derived.Deep.CutBlock
set_option linter.unusedSimpArgs false
set_option linter.unusedVariables false
namespace Go.Proofs.Ytkoinkpolpccbaa
open Go.RowKit

/-- the operations that came in -/
def OpsRow (w : World) (a : Option Addr) (len : Nat) : Prop := len = 0 ∨ ∃ b off, a = some ⟨b, off, none⟩ ∧ b < w.heap.size ∧
  ∀ i, i < len → ∃ k j g x : Int, w.cell? ⟨b, off + i * 4, none⟩ = some (.int .i64 k) ∧ w.cell? ⟨b, off + i * 4 + 1, none⟩ = some (.int .i64 j) ∧ w.cell? ⟨b, off + i * 4 + 2, none⟩ = some (.int .i64 g) ∧ w.cell? ⟨b, off + i * 4 + 3, none⟩ = some (.int .i64 x)

theorem infoR : (Try.prog.info? 74).map (fun i => (i.zero, i.size, i.bytes)) = some (some (.agg (.int .i64 0 :: .bool false :: [.int .i64 0]).toArray), 3, 24) := by kernel_rfl

/-- the loop's relation -/
def LoopRel (w0 : World) (p q rp rq K len : Nat) (i : Value) (wr : World) : Prop :=
  ∃ (j : Nat) (g : Nat → Int) (b : Nat → Bool) (x y : Nat → Int) (fr : Nat) (n : Int), i = .int .i64 j ∧ j ≤ 90 ∧ j ≤ len ∧ St w0 wr p q rp rq K g b x y fr n j

set_option maxRecDepth 100000 in
set_option maxHeartbeats 40000000 in
theorem ArenaMatchesModel_walk (n : Int) (a : Option Addr) (len cap : Nat) (w : World) {G1 : Prop} (_ : G1) (hops : OpsRow w a len) (hlen : len ≤ 140737488351232) :
    Calls Try.prog 12 #[.int .i64 n, .slice a len cap] w fun e w' => e = .returned (.bool true) ∧ Ext w w' := by
  have hb := gmod_bd n 8 (by omega) (by omega)
  go_enter Try.func12, Try.ntmps12
  go_wp2_with fail
  refine (mod_any n 8 _ (by omega) (by omega)).mono ?_
  rintro e w' ⟨rfl, rfl⟩
  generalize gmod n 8 = m at *
  go_wp2_with fail
  have hb1 : 1 ≤ 1 + m := by omega
  have hb2 : 1 + m ≤ 8 := by omega
  generalize 1 + m = k0 at *
  obtain ⟨K, rfl⟩ := Int.eq_ofNat_of_zero_le (show 0 ≤ k0 by omega)
  have hk1 : 1 ≤ K := by omega
  have hk2 : K ≤ 8 := by omega
  clear hb1 hb2
  refine (ArenaInt.new_ok K _ (by omega) (by omega)).mono ?_
  rintro e w1 ⟨rfl, A1, x1⟩
  have hp1 : w.heap.size + 1 < w1.heap.size := A1.top.lt
  rw [slots_fresh] at A1
  obtain ⟨i0, hi, hz0, hz1, hz2⟩ := info_parts infoR
  have hmk := run_make w1 68 74 i0 _ Try.underlying68 hi hz0 .i64 .i64 K K (by omega) (Int.le_refl _) (by rw [hz2]; omega) (by omega)
  rw [hz1, Int.toNat_natCast, show (Value.agg (.int .i64 0 :: .bool false :: [.int .i64 0]).toArray).cells = (.int .i64 0 :: .bool false :: [.int .i64 0]).toArray from rfl, made_rowOf 3 [.int .i64 0] rfl] at hmk
  clear hi hz0 hz1 hz2
  have HA1 := Lib.hid A1; clear A1
  have Hops := Lib.hid hops; clear hops
  go_wp2_with fail
  have hS0 : St w1 ((w1.alloc (Obj.cells (rowOf (List.replicate K ⟨0, false, [.int .i64 0]⟩)).toArray 74)).alloc (Obj.cells #[.slice (some ⟨w1.heap.size, 0, none⟩) K K] 70))
      (w.heap.size + 1) w.heap.size (w1.heap.size + 1) w1.heap.size K (fun _ => 0) (fun _ => false) (fun _ => 0) (fun _ => 0) 0 0 0 := by
    refine { A := (HA1.out.alloc _).alloc _, R := ⟨?_, ?_, by omega, by rw [slots_len]; omega, ?_⟩, eqv := fun i h => rfl, gen := fun i => ⟨by simp, by simp⟩, fr1 := Nat.zero_le _, fr2 := fun i h => absurd h (Nat.not_lt_zero i), cnt := ?_, keep := ((Keep.refl _ _).alloc _).alloc _ }
    · have := Blk.new (w1.alloc (Obj.cells (rowOf (List.replicate K ⟨0, false, [.int .i64 0]⟩)).toArray 74)) #[.slice (some ⟨w1.heap.size, 0, none⟩) K K] 70
      rw [World.size_alloc] at this
      rw [slots_len]; exact this
    · have := (Blk.new w1 (rowOf (List.replicate K ⟨0, false, [.int .i64 0]⟩)).toArray 74).alloc (Obj.cells #[.slice (some ⟨w1.heap.size, 0, none⟩) K K] 70)
      rw [slots_fresh] at this ⊢
      exact this
    · have := Wd.replicate (c := 3) K ⟨0, false, [.int .i64 0]⟩ rfl
      rw [slots_fresh] at this; exact this
    · have := hand_count (slots K (FA (fun _ => 0) (fun _ => false) (fun _ => 0))) 0
      rw [this, slots, List.countP_map]
      have : List.countP ((fun x => x.taken) ∘ FA (fun _ => 0) (fun _ => false) (fun _ => 0)) (List.range K) = 0 := by
        rw [List.countP_eq_zero]; intro i _; simp [FA]
      rw [this]; rfl
  have hne : w1.heap.size ≠ w.heap.size ∧ w1.heap.size ≠ w.heap.size + 1 := by omega
  clear hmk
  generalize ((w1.alloc (Obj.cells (rowOf (List.replicate K ⟨0, false, [.int .i64 0]⟩)).toArray 74)).alloc (Obj.cells #[.slice (some ⟨w1.heap.size, 0, none⟩) K K] 70)) = w2 at *
  go_loopw [9] (fun i wr => LoopRel w1 (w.heap.size + 1) w.heap.size (w1.heap.size + 1) w1.heap.size K len i wr) (fun i _ => 90 - (intOf i).toNat)
  case atStart => exact ⟨0, _, _, _, _, _, _, rfl, by omega, by omega, hS0⟩
  case round =>
    clear hS0
    obtain ⟨j, g, b, x, y, fr, cnt, rfl, hj, hjl, hS⟩ := hrel
    have hcb := hS.n_bd
    have hkeep := hS.keep
    by_cases hc : j < len ∧ j < 90
    · obtain ⟨c1, c2⟩ := hc
      have c1' : (j : Int) < len := by omega
      have c2' : (j : Int) < 90 := by omega
      obtain hz | ⟨bl, off, rfl, hbl, hrow⟩ := Hops.out
      · omega
      obtain ⟨ok, oi, og, ox, r0, r1, r2, r3⟩ := hrow j c1
      have hbw := x1.size
      have hws := hkeep.size
      have kc : ∀ o v, w.cell? ⟨bl, o, none⟩ = some v → wr.cell? ⟨bl, o, none⟩ = some v := fun o v h =>
        (hkeep.cell (p := ⟨bl, o, none⟩) (by show bl < _; omega) (by show bl ∉ _; simp; omega)).trans ((x1.cell (p := ⟨bl, o, none⟩) hbl).trans h)
      replace r0 := kc _ _ r0
      replace r1 := kc _ _ r1
      replace r2 := kc _ _ r2
      replace r3 := kc _ _ r3
      have hq := hS.A.top.lt
      have hq2 := hS.A.row.lt
      have hq3 := hS.R.top.lt
      have hq4 := hS.R.row.lt
      have HS := Lib.hid hS; clear hS kc hrow
      have Hl := Lib.hid (show (w.heap.size + 1 < wr.heap.size ∧ w.heap.size < wr.heap.size ∧ w1.heap.size + 1 < wr.heap.size ∧ w1.heap.size < wr.heap.size) from ⟨hq, hq2, hq3, hq4⟩)
      go_upto_if 59 with (go_at_call 27; refine (mod_any _ _ _ (by omega) (by omega)).mono ?_; rintro e w' ⟨rfl, rfl⟩)
      go_cut [] (fun wc => ∃ ri rg, Rd w1 wc (w.heap.size + 1) w.heap.size (w1.heap.size + 1) w1.heap.size K g b x y fr cnt j wr.heap.size (wr.heap.size + 1) ok oi og ox ri rg)
      case first =>
        --SLOW
        go_wp2_with fail
        · go_region_with (go_at_call 27; refine (mod_any _ _ _ (by omega) (by omega)).mono ?_; rintro e w' ⟨rfl, rfl⟩)
          all_goals go_wp2_with fail
          all_goals go_meet
          all_goals exact ⟨gmod oi K, IntKind.i64.wrap (1 + gmod og 4), (Rd.boxed HS.out Hl.out ok oi og ox _ _).drew⟩
        · go_meet
          exact ⟨_, _, Rd.boxed HS.out Hl.out ok oi og ox _ _⟩
        --END
      case rest =>
        obtain ⟨ri, rg, hR⟩ := hcut
        clear HS r0 r1 r2 r3
        have HR := Lib.hid hR; clear hR
        have hH0 := HR.out.H.cell (i := 0) rfl
        have hH1 := HR.out.H.cell (i := 1) rfl
        have hO0 := HR.out.O.cell (i := 0) rfl
        go_upto_block 2 with (first
          | (go_at_call 27; refine (mod_any _ _ _ (by omega) (by omega)).mono ?_; rintro e w' ⟨rfl, rfl⟩)
          | (go_at_call 41; refine (HR.out.S.valid ri rg).mono ?_; rintro e wv ⟨rfl, hv⟩; have HRv := Lib.hid (HR.out.ext hv); have hH0 := HRv.out.H.cell (i := 0) rfl; have hH1 := HRv.out.H.cell (i := 1) rfl; have hO0 := HRv.out.O.cell (i := 0) rfl; have hO2 := HRv.out.O.cell (i := 3) rfl; have Hv := Lib.hid hv; clear hv))
        have hww := Hv.out.size
        clear hH0 hH1 hO0
        have hH0 := HRv.out.H.cell (i := 0) rfl
        have hH1 := HRv.out.H.cell (i := 1) rfl
        have hO2 := HRv.out.O.cell (i := 3) rfl
        have hwb := HRv.out.O.lt
        have hwh := HRv.out.H.lt
        clear Hv HR
        go_cut [12, 13, 15, 16, 17, 18] (fun s12 s13 s15 s16 s17 s18 wc' => s13 = .bool true ∧ ∃ g b x y fr cnt, Rd w1 wc' (w.heap.size + 1) w.heap.size (w1.heap.size + 1) w1.heap.size K g b x y fr cnt (j + 1) wr.heap.size (wr.heap.size + 1) ok oi og ox ri rg)
        case first =>
          by_cases hm4 : gmod ok 7 < 4
          · obtain ⟨hx, hg, put, hal⟩ := HRv.out.S.alloc_calls (by omega) (by omega) (by omega) hk2 ox
            have Hal := Lib.hid hal; clear hal
            go_wp2_with (first
              | (go_at_call 29; refine Hal.out.mono ?_; rintro e wa ⟨rfl, ka, hnext⟩; have hO2 := (HRv.out.O.keep ka (by simp <;> omega)).cell (i := 3) rfl; have has := ka.size; have nwl : wr.heap.size < wa.heap.size := (by omega); have hP := Blk.new wa #[.int .i64 hx, .int .i64 hg] 48; have HP := Lib.hid hP; clear hP; have Ka := Lib.hid ka; have Hn := Lib.hid hnext; clear ka hnext)
              | (go_at_call 42; refine (Hn.out _ ((Ext.refl _).alloc _)).mono ?_; rintro e w5 ⟨rfl, kr, hst⟩; have hP := HP.out.keep kr (by simp <;> omega); have hp0 := hP.cell (i := 0) rfl; have hp1 := hP.cell (i := 1) rfl; have hpl := hP.lt; have Hst := Lib.hid hst; have Kr := Lib.hid kr; clear hP kr hst))
            go_meet
            obtain ⟨g', b', x', y', fr', n', S'⟩ := Hst.out
            refine ⟨rfl, g', b', x', y', fr', n', (HRv.out.to (((Ka.out.mono (by intro z hz; left; simp at hz ⊢; omega)).trans (((Ext.refl _).alloc _).keep _)).trans Kr.out) S').ext ?_⟩
            (repeat' (first | exact Ext.refl _ | assumption | refine Ext.alloc ?_ _ | refine Ext.drew ?_ | refine Ext.setCell ?_ (Nat.le_refl _) _ | refine Ext.setCell ?_ (Nat.le_add_right _ _) _ | refine Ext.drewN ?_ _ | refine Ext.trans ?_ (by assumption) | refine Ext.dr ?_ (by assumption)))
          · by_cases hm6 : gmod ok 7 < 6
            · cases hvb : vb K g b ri rg with
              | true =>
                have hit := vb_hit (x := x) hvb
                obtain ⟨h0, h1, h2, h3⟩ := of_decide_eq_true hvb
                obtain ⟨i, rfl⟩ := Int.eq_ofNat_of_zero_le h0
                rw [Int.toNat_natCast] at h2 h3
                have hiK : i < K := by omega
                have hfr := ArenaInt.free_hit wv _ _ _ _ _ HRv.out.S.A (by omega) (by omega) i rg _ hit
                simp only [Int.toNat_natCast] at hfr
                have Hf := Lib.hid hfr; have H2 := Lib.hid h2; have H3 := Lib.hid h3
                clear hit hvb hfr h2 h3
                go_wp2_with (first
                  | (go_at_call 30; refine Hf.out.mono ?_; rintro e wa ⟨rfl, A1, ka⟩; have has := ka.size; have B1 := HRv.out.H.keep ka (by simp; omega); have hH0 := B1.cell (i := 0) rfl; have hH1 := B1.cell (i := 1) rfl; have R1 := HRv.out.S.R.keep ka (by simp; omega) (by simp; omega); have hrt := R1.top.cell (i := 0) rfl; rw [slots_len] at hrt; have hrs := R1.taken (slots_get hiK); have hrf := R1.row.free (i * 3 + 1); have HR1 := Lib.hid R1; have HA1 := Lib.hid A1; have Ka := Lib.hid ka; have hrl := R1.row.lt; clear B1 R1 A1 ka))
                go_region
                go_wp2_with fail
                go_meet
                have R2 := HR1.out.setAt i (FA g b y i) ⟨g i, false, [.int .i64 (y i)]⟩ (slots_get hiK) 1 (by omega) (.bool false) rfl
                have K2 : Keep [w1.heap.size] wa (wa.setCell ⟨w1.heap.size, i * 3 + 1, none⟩ (.bool false)) := Keep.setCell (Keep.refl _ _) (.inl (by simp)) _
                have S' := HRv.out.S.free hiK H2.out HA1.out Ka.out R2 K2 (by omega)
                refine ⟨rfl, _, _, _, _, _, _, (HRv.out.to ((Ka.out.mono (by intro z hz; left; simp at hz ⊢; omega)).trans (K2.mono (by intro z hz; left; simp at hz ⊢; omega))) (S'.more (Nat.le_succ _))).drew⟩
              | false =>
                have hfr := ArenaInt.free_miss wv _ _ _ _ _ HRv.out.S.A ri rg (vb_miss hvb)
                have Hf := Lib.hid hfr
                clear hvb hfr
                go_wp2_with (first
                  | (go_at_call 30; refine Hf.out.mono ?_; rintro e wa ⟨rfl, ka⟩; have Ka := Lib.hid ka; clear ka))
                go_meet
                exact ⟨rfl, _, _, _, _, _, _, (HRv.out.to (Keep.refl _ _) (HRv.out.S.more (Nat.le_succ _))).ext Ka.out⟩
            · cases hvb : vb K g b ri rg with
              | true =>
                have hit := vb_hit (x := x) hvb
                obtain ⟨h0, h1, h2, h3⟩ := of_decide_eq_true hvb
                obtain ⟨i, rfl⟩ := Int.eq_ofNat_of_zero_le h0
                rw [Int.toNat_natCast] at h2 h3
                have hiK : i < K := by omega
                have hfr := ArenaInt.set_hit wv _ _ _ _ _ HRv.out.S.A i rg _ hit ox
                simp only [Int.toNat_natCast] at hfr
                have Hf := Lib.hid hfr; have H2 := Lib.hid h2; have H3 := Lib.hid h3
                clear hit hvb hfr h2 h3
                go_wp2_with (first
                  | (go_at_call 43; refine Hf.out.mono ?_; rintro e wa ⟨rfl, A1, ka⟩; have has := ka.size; have B1 := HRv.out.H.keep ka (by simp; omega); have hH0 := B1.cell (i := 0) rfl; have hH1 := B1.cell (i := 1) rfl; have B2 := HRv.out.O.keep ka (by simp; omega); have hO2 := B2.cell (i := 3) rfl; have R1 := HRv.out.S.R.keep ka (by simp; omega) (by simp; omega); have hrt := R1.top.cell (i := 0) rfl; rw [slots_len] at hrt; have hrs := R1.val (slots_get hiK) rfl; have hrf := R1.row.free (i * 3 + 2); have HR1 := Lib.hid R1; have HA1 := Lib.hid A1; have Ka := Lib.hid ka; have hrl := R1.row.lt; clear B1 B2 R1 A1 ka))
                go_region
                go_wp2_with fail
                go_meet
                have R2 := HR1.out.setAt i (FA g b y i) ⟨g i, b i, [.int .i64 ox]⟩ (slots_get hiK) 2 (by omega) (.int .i64 ox) rfl
                have K2 : Keep [w1.heap.size] wa (wa.setCell ⟨w1.heap.size, i * 3 + 2, none⟩ (.int .i64 ox)) := Keep.setCell (Keep.refl _ _) (.inl (by simp)) _
                have S' := HRv.out.S.set hiK H2.out ox HA1.out Ka.out R2 K2 (by omega)
                refine ⟨rfl, _, _, _, _, _, _, (HRv.out.to ((Ka.out.mono (by intro z hz; left; simp at hz ⊢; omega)).trans (K2.mono (by intro z hz; left; simp at hz ⊢; omega))) (S'.more (Nat.le_succ _))).drew⟩
              | false =>
                have hfr := ArenaInt.set_miss wv _ _ _ _ _ HRv.out.S.A ri rg (vb_miss hvb) ox
                have Hf := Lib.hid hfr
                clear hvb hfr
                go_wp2_with (first
                  | (go_at_call 43; refine Hf.out.mono ?_; rintro e wa ⟨rfl, ka⟩; have Ka := Lib.hid ka; clear ka))
                go_meet
                exact ⟨rfl, _, _, _, _, _, _, (HRv.out.to (Keep.refl _ _) (HRv.out.S.more (Nat.le_succ _))).ext Ka.out⟩
        case rest =>
          clear HRv hH0 hH1 hO2 hww hwb hwh Hl hcb hkeep
          obtain ⟨rfl, g, b, x, y, fr, cnt, hR⟩ := hcut
          have hget := hR.S.get ri rg
          have hval : ∀ w', Ext wc w' → Calls Try.prog 41 #[.pointer (some ⟨w1.heap.size + 1, 0, none⟩), .agg #[.int .i64 ri, .int .i64 rg]] w' fun e w'' => e = .returned (.bool (vb K g b ri rg)) ∧ Ext w' w'' := fun w' k => (hR.S.ext k).valid ri rg
          obtain ⟨vv, hvv⟩ : ∃ vv, vb K g b ri rg = vv := ⟨_, rfl⟩
          obtain ⟨xv, hxv⟩ : ∃ xv, (if vb K g b ri rg then x ri.toNat else 0) = xv := ⟨_, rfl⟩
          rw [hxv] at hget
          rw [hvv] at hget hval
          have HR := Lib.hid hR; have Hget := Lib.hid hget; have Hval := Lib.hid hval; have Hvv := Lib.hid hvv; have Hxv := Lib.hid hxv
          clear hR hget hval hvv hxv
          have hH0 := HR.out.H.cell (i := 0) rfl
          have hH1 := HR.out.H.cell (i := 1) rfl
          go_upto_if 143 with (first
            | (go_at_call 44; refine Hget.out.mono ?_; rintro e wg ⟨rfl, kg⟩; have hH0 := (HR.out.ext kg).H.cell (i := 0) rfl; have hH1 := (HR.out.ext kg).H.cell (i := 1) rfl; have Kg := Lib.hid kg; clear kg)
            | (go_at_call 41; refine (Hval.out _ Kg.out).mono ?_; rintro e wu ⟨rfl, ku⟩; have Ku := Lib.hid (Kg.out.trans ku); clear ku))
          have hR2 := HR.out.ext Ku.out
          have Hval2 := Lib.hid (fun w' (k : Ext wu w') => Hval.out w' (Ku.out.trans k))
          have HR2 := Lib.hid hR2
          clear HR Hget Hval hH0 hH1 hR2
          go_cut [21] (fun s21 wc' => s21 = .int .i64 xv ∧ Ext wu wc')
          case first =>
            cases vv with
            | true =>
              obtain ⟨h0, h1, h2, h3⟩ := of_decide_eq_true Hvv.out
              have hx := Hxv.out
              rw [Hvv.out, if_pos rfl, HR2.out.S.eqv _ h2] at hx
              have Hx := Lib.hid hx
              obtain ⟨i, rfl⟩ := Int.eq_ofNat_of_zero_le h0
              have hiK : i < K := by omega
              have hH0 := HR2.out.H.cell (i := 0) rfl
              have hrt := HR2.out.S.R.top.cell (i := 0) rfl
              rw [slots_len] at hrt
              have hrs := HR2.out.S.R.val (slots_get hiK) rfl
              rw [show y i = xv from hx] at hrs
              clear h2 h3 hx
              go_wp2_with fail
              go_region
              go_wp2_with fail
              go_meet
              refine ⟨rfl, ?_⟩
              (repeat' (first | exact Ext.refl _ | assumption | refine Ext.alloc ?_ _ | refine Ext.drew ?_ | refine Ext.setCell ?_ (Nat.le_refl _) _ | refine Ext.setCell ?_ (Nat.le_add_right _ _) _ | refine Ext.drewN ?_ _ | refine Ext.trans ?_ (by assumption) | refine Ext.dr ?_ (by assumption)))
            | false =>
              have hx := Hxv.out
              rw [Hvv.out] at hx
              obtain rfl : 0 = xv := hx
              clear Hxv
              go_wp2_with fail
              go_meet
              exact ⟨rfl, Ext.refl _⟩
          case rest =>
            obtain ⟨rfl, hx21⟩ := hcut
            have HR3 := Lib.hid (HR2.out.ext hx21)
            have Hval3 := Lib.hid (fun w' (k : Ext wc w') => Hval2.out w' (hx21.trans k))
            have Hx21 := Lib.hid hx21; clear hx21
            have hNl : (hand (slots K (FA g b x)) 0).length ≤ 4096 := by
              have := hand_le (slots K (FA g b x)) 0
              rw [slots_len] at this
              omega
            have hH0 := HR3.out.H.cell (i := 0) rfl
            have hH1 := HR3.out.H.cell (i := 1) rfl
            have Kx := Lib.hid (Ext.refl wc)
            go_wp2_with (first
              | (go_at_call 41; refine (Hval3.out _ Kx.out).mono ?_; rintro e wx ⟨rfl, kx⟩; have Kx := Lib.hid (Kx.out.trans kx); clear kx)
              | (go_at_call 40; refine ((HR3.out.S.ext Kx.out).handles).mono ?_; rintro e wx ⟨a1, c1, rfl, ho, kx⟩; have Ho1 := Lib.hid ho; have Kx := Lib.hid (Kx.out.trans kx); clear kx ho)
              | (go_at_call 46; refine ((HR3.out.S.ext Kx.out).rhandles).mono ?_; rintro e wx ⟨a2, c2, rfl, ho, kx⟩; have Ho2 := Lib.hid ho; have Ho1 := Lib.hid (Ho1.out.ext kx); have Kx := Lib.hid (Kx.out.trans kx); clear kx ho)
              | (go_at_call 45; refine (heq_any _ _ _ _ Ho1.out Ho2.out hNl).mono ?_; rintro e wx ⟨rfl, kx⟩; have Ho1 := Lib.hid (Ho1.out.ext kx); have Kx := Lib.hid (Kx.out.trans kx); clear kx)
              | (go_at_call 32; refine ((HR3.out.S.ext Kx.out).len_calls).mono ?_; rintro e wx ⟨rfl, rfl⟩)
              | (go_at_call 39; refine ((HR3.out.S.ext Kx.out).cap_calls).mono ?_; rintro e wx ⟨rfl, rfl⟩))
            go_roundw
            case rel => exact ⟨j + 1, g, b, x, y, fr, cnt, by go_num, by omega, by omega, HR3.out.S.ext Kx.out⟩
            case measure => simp [intOf]; omega
    · have HS := Lib.hid hS; have Hk := Lib.hid hkeep; clear hS hkeep
      by_cases c1 : j < len
      · have c2 : ¬ (j : Int) < 90 := by omega
        have c1' : (j : Int) < len := by omega
        go_wp2_with (go_at_call 31; refine (aawake_any _).mono ?_; rintro e w3 ⟨rfl, k3⟩; have K3 := Lib.hid k3; clear k3)
        go_ret
        exact ⟨rfl, ((x1.keep [w.heap.size + 1, w.heap.size, w1.heap.size + 1, w1.heap.size]).trans (Hk.out.trans (K3.out.keep _))).ext (by have := x1.size; simp; omega)⟩
      · have c1' : ¬ (j : Int) < len := by omega
        go_wp2_with (go_at_call 31; refine (aawake_any _).mono ?_; rintro e w3 ⟨rfl, k3⟩; have K3 := Lib.hid k3; clear k3)
        go_ret
        exact ⟨rfl, ((x1.keep [w.heap.size + 1, w.heap.size, w1.heap.size + 1, w1.heap.size]).trans (Hk.out.trans (K3.out.keep _))).ext (by have := x1.size; simp; omega)⟩
end Go.Proofs.Ytkoinkpolpccbaa
