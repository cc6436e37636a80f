/-
  Contract of ip.Format.
-/
import Derived.Test.YtpdoddelnahlnaaDoorIpF
import Derived.Test.YtpdoddelnahlnaaDoorIpX
import Derived.Lib.AppendStr
import Derived.Lib.ItoaLen
set_option linter.unusedSimpArgs false
set_option linter.unusedVariables false
namespace Go.Proofs.YtpdoddelnahlnaaDoor
open Go.RowKit Go.Joins

/-- what holds of the library's tables -/
structure Tabs (w : World) : Prop where
  tz : w.cell? ⟨7, 15, none⟩ = some (.int .u8 4)
  p10 : Lib.TabIs Tryd.prog w "internal/strconv.uint64pow10" .u64 Lib.pow10Tab
theorem Tabs.ext {w w' : World} (h : Tabs w) (k : Ext w w') : Tabs w' :=
  ⟨by rw [k.cell (World.block_lt_of_cell? _ _ h.tz)]; exact h.tz, (Lib.tabBelow_of_tabIs h.p10) w' k⟩
theorem bcells_eq (l : List UInt8) : bcells l = Lib.byteCells l := rfl
theorem own_str {P : Program} {w : World} {B : Nat} {a : Option Addr} {n cap : Nat} {l : List UInt8} {src dst : TypeId} (h : w.ownsRow B 5 1 (.slice a n cap) n (bcells l)) (hs : P.underlying src = some (.slice 5)) (he : P.underlying 5 = some (.int .u8)) (hd : P.underlying dst = some .string) :
    (convert src dst (.slice a n cap)).run P w = .ok (.string (txt l)) w := by
  have hlen : l.length = n := by have := h.1; simpa [bcells] using this
  have h' := h
  obtain ⟨_, h4⟩ := h'
  rcases h4 with ⟨h5, hn⟩ | ⟨g, cap', cur, h5, _, _, hc, _⟩
  · cases h5
    obtain rfl : l = [] := List.eq_nil_of_length_eq_zero hlen
    exact run_convert_bytes_nil w src 5 hs he 0 0 dst hd
  · cases h5
    have e : strOfNums (l.map fun c => (c.toNat : Int)) = txt l := BA_ext (by
      rw [strOfNums_data, List.map_map]
      show _ = l
      conv => rhs; rw [← List.map_id l]
      refine List.map_congr_left fun x _ => ?_
      simp)
    rw [← e]
    refine run_convert_bytes_arg w src 5 hs he g 0 n cap (l.map fun c => (c.toNat : Int)) (by simp [hlen]) (fun i hi => ?_) dst hd
    have := h.cells (g := g) rfl i (.int .u8 (l.getD i 0).toNat) (by
      unfold bcells; rw [List.getElem?_map, List.getD_eq_getElem?_getD, List.getElem?_eq_getElem (by omega)]; rfl)
    rw [show (⟨g, 0, none⟩ : Addr).add i = ⟨g, i, none⟩ from by unfold Addr.add; split <;> simp_all] at this
    rw [Nat.zero_add, this]
    congr 2
    rw [List.getD_eq_getElem?_getD, List.getD_eq_getElem?_getD, List.getElem?_map, List.getElem?_eq_getElem (by omega)]; rfl
def pre4 (l : List Int) : Nat → List UInt8
  | 0 => []
  | k + 1 => pre4 l k ++ (if 0 < k then [46] else []) ++ Lib.decDigits (l.getD k 0).toNat
theorem fmt4_pre (l : List Int) : fmt4 l = pre4 l 4 := by
  unfold fmt4
  simp [pre4]
theorem itoa_len {x : Int} (h0 : 0 ≤ x) (h1 : x < 256) : (Lib.itoa x).length ≤ 21 := Lib.itoa_length_le x (by omega) (by omega)
theorem itoa_dec {x : Int} (h0 : 0 ≤ x) : Lib.itoa x = Lib.decDigits x.toNat := by unfold Lib.itoa; rw [if_neg (by omega)]

set_option maxRecDepth 8000 in
set_option maxHeartbeats 4000000 in
theorem format4_any (a : Adr) (ha : okA a) (hf : a.1 = false) (hv : validA a = true) (w : World) (htabs : Tabs w) :
    Calls Tryd.prog 35 #[av a] w fun e w' => e = .returned (.string (txt (fmtA a))) ∧ Ext w w' := by
  have hfm : fmtA a = pre4 a.2 4 := by unfold fmtA; rw [hv, hf, ← fmt4_pre]; rfl
  have HFM := Lib.hid hfm; clear hfm
  obtain ⟨i0, hi, hz0, hz1, hz2⟩ := info_parts info8
  have HI := Lib.hid hi; have HZ0 := Lib.hid hz0; have HZ1 := Lib.hid hz1; have HZ2 := Lib.hid hz2
  clear hi hz0 hz1 hz2
  have hcall := fun w => valid_any a ha w
  rw [hv] at hcall
  have HC := Lib.hid hcall; clear hcall hv
  unfold av
  go_enter Tryd.func35, Tryd.ntmps35
  go_upto_region 1 with fail
  have hx := (Ext.refl w).alloc (.cells (ac a) 37)
  have hb := ABox.new ha w
  generalize hwq : w.alloc (.cells (ac a) 37) = w0 at *
  clear hwq
  go_wp2_with (first | refine wpList_load_A rfl _ rfl ha hb.blk rfl ?_ | (go_at_call 36; refine (HC.out _).mono ?_; rintro e w1 ⟨rfl, hx1⟩; refine Hid.out ?_))
  refine Lib.hid ?_
  have hb1 := hb.ext ha hx1
  have hx11 := hx.trans hx1
  have ht1 := htabs.ext hx11
  have hB0 : w.heap.size < w1.heap.size := hb1.lt
  clear hb hx hx1
  have hfam := hb1.fam
  rw [hf] at hfam
  have hal : Tryd.prog.arrayLen 35 = 16 := by kernel_rfl
  go_wp2_with fail
  go_loopw [3, 4, 5, 18] (fun v _ _ c wr => ∃ k : Nat, k ≤ 4 ∧ c = .int .i64 k ∧ wr.ownsRow w1.heap.size 5 1 v (pre4 a.2 k).length (bcells (pre4 a.2 k)) ∧ (pre4 a.2 k).length ≤ 25 * k ∧ ABox wr w.heap.size a ∧ Ext w1 wr) (fun _ _ _ c _ => 4 - (intOf c).toNat)
  case atStart => exact ⟨0, Nat.zero_le _, rfl, World.ownsRow_nil _ _ _ _, Nat.le_refl _, hb1, Ext.refl _⟩
  case round =>
    obtain ⟨k, hk, rfl, hown, hpl, hb, hx⟩ := hrel
    have hsz := hx.size
    by_cases hlt : k < 4
    · have hlt' : (k : Int) < 4 := by omega
      have hcell := hb.at' k (by omega)
      have hxb := X_bd ha k
      have hps : pre4 a.2 (k + 1) = pre4 a.2 k ++ (if 0 < k then [46] else []) ++ Lib.itoa (X a k) := by rw [pre4, itoa_dec hxb.1]; rfl
      have hil := itoa_len hxb.1 hxb.2
      have HPS := Lib.hid hps; clear hps
      generalize pre4 a.2 k = pr at *
      generalize X a k = x at *
      obtain ⟨va, vc, rfl⟩ := own_sliceX hown
      by_cases h0 : 0 < k
      · have h0' : (0 : Int) < k := by omega
        rw [if_pos h0] at HPS
        go_upto_region 10 with (at_builtin; refine wpList_append_own _ rfl _ _ 33 rfl w1.heap.size 5 i0 (.int .u8 0) 1 1 Tryd.underlying33 HI.out HZ0.out HZ1.out HZ2.out rfl (by decide) _ _ _ rfl (hown.alloc _) ⟨wr.heap.size, 0, none⟩ 1 1 [.int .u8 46] rfl rfl ?c1 ?c2 ?c3 ?c4 ?c5 ?_)
        case c1 =>
          intro j u hj
          have B1 := Blk.new wr #[Value.int .u8 46] 5
          have e1 : (⟨wr.heap.size, 0, none⟩ : Addr).add j = ⟨wr.heap.size, j, none⟩ := by unfold Addr.add; split <;> simp_all
          rw [e1]
          exact B1.cell hj
        case c2 => simp [Value.oneCell']
        case c3 => unfold maxLen; omega
        case c4 => omega
        case c5 => first | omega | (rw [World.size_alloc]; omega)
        intro v' w7 hown' hgrow _
        have hlv := hown.lt
        have hx7 : Ext w1 w7 := Ext.grown (hx.alloc _) hgrow (fun g hg => (hlv g hg).1)
        have hb7 : ABox w7 w.heap.size a := .of_blk ha (((hb.blk).alloc _).keep (Keep.of_grown hgrow) (fun hm => by
          cases ho : (Value.slice va pr.length vc).ownBlock with
          | none => rw [ho] at hm; simp at hm
          | some g => rw [ho] at hm; simp at hm; have := (hlv g ho).1; omega))
        obtain ⟨vb, vd, rfl⟩ := own_sliceX hown'
        have hown7 : w7.ownsRow w1.heap.size 5 1 (.slice vb (pr.length + 1) vd) (pr ++ [46]).length (bcells (pr ++ [46])) := by
          rw [List.length_append, bcells_app]; exact hown'
        have Hg := Lib.hid hgrow; clear hgrow hown' hown hx hb
        go_upto_region 10 with fail
        have hBW := Lib.hid (hx7).size
        have htw : Lib.TabBelow Tryd.prog w1.heap.size w7 "internal/strconv.uint64pow10" .u64 Lib.pow10Tab := (Lib.tabBelow_of_tabIs ht1.p10).on hx7
        have hai := Tryd.strconv_AppendInt_10 w1.heap.size (pr ++ [46]).length x (by omega) (by omega) _ _ w7 hown7 hBW.out (by simp; omega) htw
        have HAI := Lib.hid hai
        have Hh := Lib.hid hx7; have Hb := Lib.hid hb7
        clear hai htw hown7 hx7 hb7
        go_wp2_with (go_at_call 56; refine HAI.out.mono ?_; rintro e w9 ⟨v9, rfl, ho9, hx9, _⟩; obtain ⟨v10, v11, rfl⟩ := own_sliceX ho9)
        go_roundw
        case rel =>
          refine ⟨k + 1, by omega, by go_num, ?_, ?_, .of_blk ha (Hb.out.blk.of_heap (Below.block hx9 _ hB0)), Below.trans Hh.out hx9⟩
          · rw [HPS.out]
            first
              | (rw [List.length_append, bcells_app]; exact ho9)
              | (simp only [List.length_append, bcells_app] at ho9 ⊢; exact ho9)
          · rw [HPS.out]; simp; omega
        case measure => simp [intOf]; omega
      · have h0' : ¬ (0 : Int) < k := by omega
        rw [if_neg h0, List.append_nil] at HPS
        go_upto_region 10 with fail
        have hBW := Lib.hid (hx).size
        have htw : Lib.TabBelow Tryd.prog w1.heap.size wr "internal/strconv.uint64pow10" .u64 Lib.pow10Tab := (Lib.tabBelow_of_tabIs ht1.p10).on hx
        have hai := Tryd.strconv_AppendInt_10 w1.heap.size (pr).length x (by omega) (by omega) _ _ wr hown hBW.out (by simp; omega) htw
        have HAI := Lib.hid hai
        have Hh := Lib.hid hx; have Hb := Lib.hid hb
        clear hai htw hown hx hb
        go_wp2_with (go_at_call 56; refine HAI.out.mono ?_; rintro e w9 ⟨v9, rfl, ho9, hx9, _⟩; obtain ⟨v10, v11, rfl⟩ := own_sliceX ho9)
        go_roundw
        case rel =>
          refine ⟨k + 1, by omega, by go_num, ?_, ?_, .of_blk ha (Hb.out.blk.of_heap (Below.block hx9 _ hB0)), Below.trans Hh.out hx9⟩
          · rw [HPS.out]
            first
              | (rw [List.length_append, bcells_app]; exact ho9)
              | (simp only [List.length_append, bcells_app] at ho9 ⊢; exact ho9)
          · rw [HPS.out]; simp; omega
        case measure => simp [intOf]; omega
    · obtain rfl : k = 4 := by omega
      obtain ⟨va, vc, rfl⟩ := own_sliceX hown
      have hcv := own_str hown Tryd.underlying33 Tryd.underlying5 Tryd.underlying9
      have hlt' : ¬ ((4 : Nat) : Int) < 4 := by omega
      have HOW := Lib.hid hown; clear hown
      go_wp2_with fail
      go_ret
      exact ⟨by rw [HFM.out]; rfl, hx11.trans hx⟩

theorem tail6_at {l : List Int} {f m : Int} {k i : Nat} (h : i < 8) (he : (i : Int) = f) : tail6 l f m (k + 1) i = [58, 58] ++ tail6 l f m k (i + m.toNat) := by
  rw [tail6, if_neg (by omega), if_pos he]
theorem tail6_no {l : List Int} {f m : Int} {k i : Nat} (h : i < 8) (he : ¬ (i : Int) = f) : tail6 l f m (k + 1) i = (if 0 < i ∧ (i : Int) ≠ f + m then [58] else []) ++ hexT (grp l i).toNat ++ tail6 l f m k (i + 1) := by
  rw [tail6, if_neg (by omega), if_neg he]
theorem tail6_end {l : List Int} {f m : Int} {k i : Nat} (h : 8 ≤ i) : tail6 l f m k i = [] := by
  cases k with
  | zero => rfl
  | succ k => rw [tail6, if_pos h]
theorem grp_bd {a : Adr} (ha : okA a) (i : Nat) : 0 ≤ grp a.2 i ∧ grp a.2 i < 65536 := by
  have h1 := X_bd ha (2 * i)
  have h2 := X_bd ha (2 * i + 1)
  unfold X at h1 h2; unfold grp; omega
end Go.Proofs.YtpdoddelnahlnaaDoor
