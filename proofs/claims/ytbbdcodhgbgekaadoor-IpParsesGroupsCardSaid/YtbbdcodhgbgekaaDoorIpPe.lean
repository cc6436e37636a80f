/-
  addressChars; IpParsesExactly.
-/
import Derived.Test.YtbbdcodhgbgekaaDoorIpPr
import Derived.Test.YtbbdcodhgbgekaaDoorRgs
import Derived.Test.YtbbdcodhgbgekaaDoorIpFm
set_option linter.unusedSimpArgs false
set_option linter.unusedVariables false
namespace Go.Proofs.YtbbdcodhgbgekaaDoor
open Go.RowKit Go.Joins

def allC : List UInt8 := [58, 58, 58, 46, 46, 48, 49, 50, 51, 52, 53, 54, 55, 56, 57, 97, 98, 99, 102, 70, 37, 120]
def addrC (x : ByteArray) : Nat → List UInt8
  | 0 => []
  | k + 1 => addrC x k ++ [allC.getD ((B x k).toNat % 22) 0]
theorem addrC_len (x : ByteArray) : ∀ k, (addrC x k).length = k
  | 0 => rfl
  | k + 1 => by rw [addrC, List.length_append, addrC_len x k]; rfl
theorem allC_at : ∀ r : Fin 22, B ⟨#[58, 58, 58, 46, 46, 48, 49, 50, 51, 52, 53, 54, 55, 56, 57, 97, 98, 99, 102, 70, 37, 120]⟩ r.1 = ((allC.getD r.1 0).toNat : Int) := by decide
/-- the bytes of a []byte that came in -/
def BytesIn (w : World) (a : Option Addr) (n c : Nat) (x : ByteArray) : Prop :=
  (a = none ∧ n = 0 ∧ c = 0) ∨ ∃ ad, a = some ad ∧ n ≤ c ∧ c ≤ 140737488351232 ∧ (0 < n → ∃ b off, ad = ⟨b, off, none⟩ ∧ b < w.heap.size ∧ ∀ i, i < n → w.cell? ⟨b, off + i, none⟩ = some (.int .u8 (B x i)))
theorem BytesIn.ext {w w' : World} {a : Option Addr} {n c : Nat} {x : ByteArray} (h : BytesIn w a n c x) (k : Ext w w') : BytesIn w' a n c x := by
  rcases h with h | ⟨ad, h1, h2, h3, h4⟩
  · exact .inl h
  · refine .inr ⟨ad, h1, h2, h3, fun hp => ?_⟩
    obtain ⟨b, off, e, hb, hc⟩ := h4 hp
    exact ⟨b, off, e, Nat.lt_of_lt_of_le hb k.size, fun i hi => by rw [k.cell (show (⟨b, off + i, none⟩ : Addr).block < _ from hb)]; exact hc i hi⟩
def addrS (n : Nat) (x : ByteArray) : ByteArray := txt (addrC x (min n 45))
set_option maxRecDepth 4000 in
set_option maxHeartbeats 4000000 in
theorem addrS_any (a : Option Addr) (n c : Nat) (x : ByteArray) (w : World) (hn : n ≤ 140737488351232) (hin : BytesIn w a n c x) :
    Calls Tryd.prog 21 #[.slice a n c] w fun e w' => e = .returned (.string (addrS n x)) ∧ Ext w w' := by
  obtain ⟨i0, hi, hz0, hz1, hz2⟩ := info_parts info8
  have HI := Lib.hid hi; have HZ0 := Lib.hid hz0; have HZ1 := Lib.hid hz1; have HZ2 := Lib.hid hz2
  clear hi hz0 hz1 hz2
  have HIN := Lib.hid hin; clear hin
  go_enter Tryd.func21, Tryd.ntmps21
  go_wp2_with fail
  go_loopw [3, 4] (fun v i wr => ∃ k : Nat, k ≤ n ∧ k ≤ 45 ∧ i = .int .i64 k ∧ wr.ownsRow w.heap.size 5 1 v k (bcells (addrC x k)) ∧ Ext w wr) (fun _ i _ => 45 - (intOf i).toNat)
  case atStart => exact ⟨0, Nat.zero_le _, Nat.zero_le _, rfl, World.ownsRow_nil _ _ _ _, Ext.refl _⟩
  case round =>
    obtain ⟨k, hk, hk45, rfl, hown, hx⟩ := hrel
    have hsz := hx.size
    obtain ⟨va, vc, rfl⟩ := own_sliceX hown
    by_cases hlt : k < n
    · have hlt' : (k : Int) < n := by omega
      have hd1 : decide ((k : Int) < n) = true := decide_eq_true hlt'
      by_cases h45 : k < 45
      · have h45' : (k : Int) < 45 := by omega
        have hd2 : decide ((k : Int) < 45) = true := decide_eq_true h45'
        rcases HIN.out.ext hx with ⟨_, h0, _⟩ | ⟨ad, rfl, hnc, hc, hcell⟩
        · omega
        · obtain ⟨b, off, rfl, hb, hcell⟩ := hcell (by omega)
          have hck := hcell k hlt
          have hbk := B_bd x k
          obtain ⟨m, hm⟩ : ∃ m : Nat, B x k = m := ⟨(B x k).toNat, by omega⟩
          have hadd : addrC x (k + 1) = addrC x k ++ [allC.getD (m % 22) 0] := by rw [addrC, hm]; rfl
          have HADD := Lib.hid hadd; clear hadd
          rw [hm] at hck hbk
          have hm2 : ((m : Int).tmod 22) = ((m % 22 : Nat) : Int) := by rw [Int.tmod_eq_emod_of_nonneg (by omega)]; omega
          have hr : m % 22 < 22 := Nat.mod_lt _ (by decide)
          have hat := allC_at ⟨m % 22, hr⟩
          simp only at hat
          generalize m % 22 = r at *
          generalize allC.getD r 0 = ch at *
          have hr' : (r : Int) < 22 := by omega
          clear hcell hm
          go_wp2_with (at_builtin; refine wpList_append_own _ rfl _ _ 34 rfl w.heap.size 5 i0 (.int .u8 0) 1 1 Tryd.underlying34 HI.out HZ0.out HZ1.out HZ2.out rfl (by decide) _ _ _ rfl (hown.alloc _) ⟨wr.heap.size, 0, none⟩ 1 1 [.int .u8 ch.toNat] rfl rfl ?c1 ?c2 ?c3 ?c4 ?c5 ?_)
          case c1 =>
            intro j u hj
            have B1 := Blk.new wr #[Value.int .u8 ch.toNat] 5
            have e1 : (⟨wr.heap.size, 0, none⟩ : Addr).add j = ⟨wr.heap.size, j, none⟩ := by unfold Addr.add; split <;> simp_all
            rw [e1]
            exact B1.cell hj
          case c2 => simp [Value.oneCell']
          case c3 => unfold maxLen; omega
          case c4 => omega
          case c5 => first | omega | (rw [World.size_alloc]; omega)
          intro v' w7 hown' hgrow _
          have hlv := hown.lt
          have hx7 : Ext w w7 := Ext.grown (hx.alloc _) hgrow (fun g hg => (hlv g hg).1)
          obtain ⟨vb, vd, rfl⟩ := own_sliceX hown'
          have hown7 : w7.ownsRow w.heap.size 5 1 (.slice vb (k + 1) vd) (k + 1) (bcells (addrC x (k + 1))) := by
            rw [HADD.out, bcells_app]; exact hown'
          have HO7 := Lib.hid hown7
          clear hown' hown hgrow hx hown7
          go_wp2_with fail
          go_roundw
          case rel => exact ⟨k + 1, by omega, by omega, by go_num, HO7.out, hx7⟩
          case measure => simp [intOf]; omega
      · have h45' : ¬ (k : Int) < 45 := by omega
        have hd2 : decide ((k : Int) < 45) = false := decide_eq_false h45'
        have E : Hid (addrS n x = txt (addrC x k)) := Lib.hid (by unfold addrS; rw [show min n 45 = k by omega])
        have hlen := addrC_len x k
        have hown2 : wr.ownsRow w.heap.size 5 1 (.slice va k vc) k (bcells (addrC x k)) := hown
        have hcv := own_str (P := Tryd.prog) hown2 Tryd.underlying34 Tryd.underlying5 Tryd.underlying9
        have HOW := Lib.hid hown; clear hown hown2
        go_wp2_with fail
        go_ret
        exact ⟨by rw [E.out]; rfl, hx⟩
    · have hlt' : ¬ (k : Int) < n := by omega
      have hd1 : decide ((k : Int) < n) = false := decide_eq_false hlt'
      have E : Hid (addrS n x = txt (addrC x k)) := Lib.hid (by unfold addrS; rw [show min n 45 = k by omega])
      have hown2 : wr.ownsRow w.heap.size 5 1 (.slice va k vc) k (bcells (addrC x k)) := hown
      have hcv := own_str (P := Tryd.prog) hown2 Tryd.underlying34 Tryd.underlying5 Tryd.underlying9
      have HOW := Lib.hid hown; clear hown hown2
      go_wp2_with fail
      go_ret
      exact ⟨by rw [E.out]; rfl, hx⟩
theorem okA_parse (s : ByteArray) : okA (parseA s).1 := by
  cases h : (parse4 s).isSome with
  | true => rw [parseA_four h]; exact okA_p4A s
  | false =>
    have h0 : parse4 s = none := by
      cases h1 : parse4 s with
      | none => rfl
      | some b => rw [h1] at h; cases h
    rw [parseA_none h0]
    split
    · cases hp : parseG s true with
      | none => exact okA_zadr
      | some l => exact okA_v6 (parseG_ok hp).1
    · cases hp1 : parseG (s.extract 0 (cutAt s).toNat) false with
      | none => exact okA_zadr
      | some l =>
        cases hp2 : parseG (s.extract ((cutAt s).toNat + 2) s.size) true with
        | none => exact okA_zadr
        | some m =>
          simp only
          split
          · exact okA_zadr
          · refine okA_v6 fun x hx => ?_
            rcases List.mem_append.1 hx with hx | hx
            · rcases List.mem_append.1 hx with hx | hx
              · exact (parseG_ok hp1).1 x hx
              · have := List.eq_of_mem_replicate hx; omega
            · exact (parseG_ok hp2).1 x hx
set_option maxRecDepth 8000 in
set_option maxHeartbeats 4000000 in
theorem IpParsesExactly_walk (s : ByteArray) (a : Option Addr) (n c : Nat) (x : ByteArray) (_ : s.size ≤ 140737488351232) (hxn : x.size = n) (hxs : x.size ≤ 140737488351232)
    (w : World) (henv : Env w) (htabs : Tabs w) (hs0 : s.size < 1048576) (hin : BytesIn w a n c x) :
    Calls Tryd.prog 5 #[.string s, .slice a n c] w fun e w' => e = .returned (.bool true) ∧ Ext w w' := by
  have hn : n ≤ 140737488351232 := by omega
  have hs : s.size < 4294967281 := by omega
  have Q1 := Lib.hid (fun w' (h : Ext w w') => parse_any s w' (henv.ext h) hs)
  have Q2 := Lib.hid (fun w' => rparse_any s w' hs)
  have Q3 := Lib.hid (fun w' (h : Ext w w') => addrS_any a n c x w' hn (hin.ext h))
  have hsz : (addrS n x).size < 4294967281 := by unfold addrS; rw [txt_size, addrC_len]; omega
  have hok := okA_parse s
  have hok2 := okA_parse (addrS n x)
  generalize addrS n x = t at *
  have Q4 := Lib.hid (fun w' (h : Ext w w') => parse_any t w' (henv.ext h) hsz)
  have Q5 := Lib.hid (fun w' => rparse_any t w' hsz)
  generalize (parseA s).1 = P at *
  generalize (parseA s).2 = ps at *
  generalize (parseA t).1 = R at *
  generalize (parseA t).2 = pt at *
  clear hs hs0 hxn hxs hn hsz hin
  go_enter Tryd.func5, Tryd.ntmps5
  go_wp2_with (go_at_call 19; refine (Q1.out _ (Ext.refl _)).mono ?_; rintro e w1 ⟨rfl, hx1⟩; refine Hid.out ?_)
  refine Lib.hid ?_
  have hbf := Blk.new w1 (ac zadr) 24
  go_upto_region 2 with (refine wpList_store_A rfl _ _ rfl okA_zadr hok hbf rfl rfl ?_)
  change Code.wp _ _ _ _ ((w1.alloc (.cells (ac zadr) 24)).setRow w1.heap.size (ac P))
  rw [World.setRow_alloc_new]
  have hB1 := Blk.new w1 (ac P) 24
  have hx2 := hx1.alloc (.cells (ac P) 24)
  have hnx := (Ext.refl w1).alloc (.cells (ac P) 24)
  clear hbf
  generalize w1.alloc (.cells (ac P) 24) = w2 at *
  generalize w1.heap.size = b1 at *
  clear hnx hx1
  go_wp2_with (go_at_call 20; refine (Q2.out _).mono ?_; rintro e w3 ⟨rfl, hx3⟩; refine Hid.out ?_)
  refine Lib.hid ?_
  have hB1_3 := hB1.ext hx3
  have hx33 := hx2.trans hx3
  clear hx3 hx2 hB1
  have hbf := Blk.new w3 (ac zadr) 24
  go_upto_region 3 with (refine wpList_store_A rfl _ _ rfl okA_zadr hok hbf rfl rfl ?_)
  change Code.wp _ _ _ _ ((w3.alloc (.cells (ac zadr) 24)).setRow w3.heap.size (ac P))
  rw [World.setRow_alloc_new]
  have hB2 := Blk.new w3 (ac P) 24
  have hx4 := hx33.alloc (.cells (ac P) 24)
  have hnx := (Ext.refl w3).alloc (.cells (ac P) 24)
  clear hbf
  generalize w3.alloc (.cells (ac P) 24) = w4 at *
  generalize w3.heap.size = b2 at *
  have hB1_4 := hB1_3.ext hnx
  clear hnx hx33 hB1_3
  go_wp2_with (first | (go_at_call 21; refine (Q3.out _ hx4).mono ?_; rintro e w5 ⟨rfl, hx5⟩) | (go_at_call 19; refine (Q4.out _ (hx4.trans hx5)).mono ?_; rintro e w6 ⟨rfl, hx6⟩; refine Hid.out ?_))
  refine Lib.hid ?_
  have hB1_6 := hB1_4.ext (hx5.trans hx6)
  have hB2_6 := hB2.ext (hx5.trans hx6)
  have hx66 := hx4.trans (hx5.trans hx6)
  clear hx4 hx5 hx6 hB1_4 hB2
  have hbf := Blk.new w6 (ac zadr) 24
  go_upto_region 4 with (refine wpList_store_A rfl _ _ rfl okA_zadr hok2 hbf rfl rfl ?_)
  change Code.wp _ _ _ _ ((w6.alloc (.cells (ac zadr) 24)).setRow w6.heap.size (ac R))
  rw [World.setRow_alloc_new]
  have hB3 := Blk.new w6 (ac R) 24
  have hx7 := hx66.alloc (.cells (ac R) 24)
  have hnx := (Ext.refl w6).alloc (.cells (ac R) 24)
  clear hbf
  generalize w6.alloc (.cells (ac R) 24) = w7 at *
  generalize w6.heap.size = b3 at *
  have hB1_7 := hB1_6.ext hnx
  have hB2_7 := hB2_6.ext hnx
  clear hnx hx66 hB1_6 hB2_6
  go_wp2_with (first | (go_at_call 21; refine (Q3.out _ hx7).mono ?_; rintro e w8 ⟨rfl, hx8⟩) | (go_at_call 20; refine (Q5.out _).mono ?_; rintro e w9 ⟨rfl, hx9⟩; refine Hid.out ?_))
  refine Lib.hid ?_
  have hB1_9 := hB1_7.ext (hx8.trans hx9)
  have hB2_9 := hB2_7.ext (hx8.trans hx9)
  have hB3_9 := hB3.ext (hx8.trans hx9)
  have hx99 := hx7.trans (hx8.trans hx9)
  clear hx7 hx8 hx9 hB1_7 hB2_7 hB3
  have hbf := Blk.new w9 (ac zadr) 24
  go_upto_region 5 with (refine wpList_store_A rfl _ _ rfl okA_zadr hok2 hbf rfl rfl ?_)
  change Code.wp _ _ _ _ ((w9.alloc (.cells (ac zadr) 24)).setRow w9.heap.size (ac R))
  rw [World.setRow_alloc_new]
  have hB4 := Blk.new w9 (ac R) 24
  have hxa := hx99.alloc (.cells (ac R) 24)
  have hnx := (Ext.refl w9).alloc (.cells (ac R) 24)
  clear hbf
  generalize w9.alloc (.cells (ac R) 24) = wa at *
  generalize w9.heap.size = b4 at *
  have g1 : ∀ w', Ext wa w' → Blk w' b1 (ac P).toList 24 := fun w' h => (hB1_9.ext hnx).ext h
  have g2 : ∀ w', Ext wa w' → Blk w' b2 (ac P).toList 24 := fun w' h => (hB2_9.ext hnx).ext h
  have g3 : ∀ w', Ext wa w' → Blk w' b3 (ac R).toList 24 := fun w' h => (hB3_9.ext hnx).ext h
  have g4 : ∀ w', Ext wa w' → Blk w' b4 (ac R).toList 24 := fun w' h => hB4.ext h
  have c1 := fun (w' : World) (h : Ext wa w') => awake_any w' (henv.ext (hxa.trans h)) (htabs.ext (hxa.trans h))
  clear hnx hB1_9 hB2_9 hB3_9 hB4 Q1 Q2 Q3 Q4 Q5 hx99
  refine wp_region_rgs ?_
  apply goV_call (by intro u; rfl) c1
  · (intro u w hSw hF; go_simp; try with_reducible rfl)
  try simp only [Act.put, List.setIfInBounds_toArray, List.set_cons_zero, List.set_cons_succ]
  apply goV_val _ (by intro u; rfl)
  · (intro u w hSw hF; go_simp; try with_reducible rfl)
  try simp only [Act.put, List.setIfInBounds_toArray, List.set_cons_zero, List.set_cons_succ]
  apply goV_loadA (by intro u; rfl) _ rfl hok g1 (by intro u; rfl)
  try simp only [Act.put, List.setIfInBounds_toArray, List.set_cons_zero, List.set_cons_succ]
  apply goV_loadA (by intro u; rfl) _ rfl hok g2 (by intro u; rfl)
  try simp only [Act.put, List.setIfInBounds_toArray, List.set_cons_zero, List.set_cons_succ]
  apply goV_eqA (by intro u; rfl) _ _ rfl hok hok rfl (by intro u; rfl) (by intro u; rfl)
  try simp only [Act.put, List.setIfInBounds_toArray, List.set_cons_zero, List.set_cons_succ]
  apply goV_val _ (by intro u; rfl)
  · (intro u w hSw hF; go_simp; try with_reducible rfl)
  try simp only [Act.put, List.setIfInBounds_toArray, List.set_cons_zero, List.set_cons_succ]
  apply goV_val _ (by intro u; rfl)
  · (intro u w hSw hF; go_simp; try with_reducible rfl)
  try simp only [Act.put, List.setIfInBounds_toArray, List.set_cons_zero, List.set_cons_succ]
  apply goV_val _ (by intro u; rfl)
  · (intro u w hSw hF; go_simp; try with_reducible rfl)
  try simp only [Act.put, List.setIfInBounds_toArray, List.set_cons_zero, List.set_cons_succ]
  apply goV_val _ (by intro u; rfl)
  · (intro u w hSw hF; go_simp; try with_reducible rfl)
  try simp only [Act.put, List.setIfInBounds_toArray, List.set_cons_zero, List.set_cons_succ]
  apply goV_val _ (by intro u; rfl)
  · (intro u w hSw hF; go_simp; try with_reducible rfl)
  try simp only [Act.put, List.setIfInBounds_toArray, List.set_cons_zero, List.set_cons_succ]
  apply goV_val _ (by intro u; rfl)
  · (intro u w hSw hF; go_simp; try with_reducible rfl)
  try simp only [Act.put, List.setIfInBounds_toArray, List.set_cons_zero, List.set_cons_succ]
  apply goV_val _ (by intro u; rfl)
  · (intro u w hSw hF; go_simp; try with_reducible rfl)
  try simp only [Act.put, List.setIfInBounds_toArray, List.set_cons_zero, List.set_cons_succ]
  apply goV_loadA (by intro u; rfl) _ rfl hok2 g3 (by intro u; rfl)
  try simp only [Act.put, List.setIfInBounds_toArray, List.set_cons_zero, List.set_cons_succ]
  apply goV_loadA (by intro u; rfl) _ rfl hok2 g4 (by intro u; rfl)
  try simp only [Act.put, List.setIfInBounds_toArray, List.set_cons_zero, List.set_cons_succ]
  apply goV_eqA (by intro u; rfl) _ _ rfl hok2 hok2 rfl (by intro u; rfl) (by intro u; rfl)
  try simp only [Act.put, List.setIfInBounds_toArray, List.set_cons_zero, List.set_cons_succ]
  apply goV_val _ (by intro u; rfl)
  · (intro u w hSw hF; go_simp; try with_reducible rfl)
  try simp only [Act.put, List.setIfInBounds_toArray, List.set_cons_zero, List.set_cons_succ]
  apply goV_val _ (by intro u; rfl)
  · (intro u w hSw hF; go_simp; try with_reducible rfl)
  try simp only [Act.put, List.setIfInBounds_toArray, List.set_cons_zero, List.set_cons_succ]
  apply goV_val _ (by intro u; rfl)
  · (intro u w hSw hF; go_simp; try with_reducible rfl)
  try simp only [Act.put, List.setIfInBounds_toArray, List.set_cons_zero, List.set_cons_succ]
  apply goV_val _ (by intro u; rfl)
  · (intro u w hSw hF; go_simp; try with_reducible rfl)
  try simp only [Act.put, List.setIfInBounds_toArray, List.set_cons_zero, List.set_cons_succ]
  apply goV_val _ (by intro u; rfl)
  · (intro u w hSw hF; go_simp; try with_reducible rfl)
  try simp only [Act.put, List.setIfInBounds_toArray, List.set_cons_zero, List.set_cons_succ]
  apply goV_val _ (by intro u; rfl)
  · (intro u w hSw hF; go_simp; try with_reducible rfl)
  try simp only [Act.put, List.setIfInBounds_toArray, List.set_cons_zero, List.set_cons_succ]
  apply goV_val _ (by intro u; rfl)
  · (intro u w hSw hF; go_simp; try with_reducible rfl)
  try simp only [Act.put, List.setIfInBounds_toArray, List.set_cons_zero, List.set_cons_succ]
  intro u w5 hx5 _
  go_wp2
  go_ret
  exact ⟨rfl, hxa.trans hx5⟩
end Go.Proofs.YtbbdcodhgbgekaaDoor
