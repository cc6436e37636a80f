/-
  Contracts of Compare and Bit, of the program and of the reference.
-/
import Derived.Test.YtbbdcodhgbgekaaGreatDoorIpF
import Derived.Laws.BitsLemmas
import Derived.Lib.Bytealg
import Derived.Lib.BytesEntry
set_option linter.unusedSimpArgs false
set_option linter.unusedVariables false
namespace Go.Proofs.YtbbdcodhgbgekaaGreatDoor
open Go.RowKit

/-- bytes from place i on -/
def cmpFrom (a b : Adr) : Nat → Nat → Int
  | 0, _ => 0
  | f + 1, i => if X a i < X b i then -1 else if X b i < X a i then 1 else cmpFrom a b f (i + 1)
def cmpA (a b : Adr) : Int := if a.1 = b.1 then cmpFrom a b 16 0 else if b.1 = true then -1 else 1
def bitA (a : Adr) (i : Int) : Int := if i < 0 ∨ bitLen a ≤ i then -1 else X a (i / 8).toNat / 2 ^ (7 - i % 8).toNat % 2

set_option maxRecDepth 4000 in
set_option maxHeartbeats 4000000 in
theorem rCompare_any (a b : Adr) (ha : okA a) (hb : okA b) (w : World) :
    Calls Tryz.prog 37 #[av a, av b] w fun e w' => e = .returned (.int .i64 (cmpA a b)) ∧ Ext w w' := by
  unfold av
  go_enter Tryz.func37, Tryz.ntmps37
  go_upto_region 1 with fail
  have hx := ((Ext.refl w).alloc (.cells (ac a) 24)).alloc (.cells (ac b) 24)
  have h1 := (ABox.new ha w).ext ha ((Ext.refl _).alloc (.cells (ac b) 24))
  have h2 := ABox.new hb (w.alloc (.cells (ac a) 24))
  rw [World.size_alloc] at h2
  generalize (w.alloc (.cells (ac a) 24)).alloc (.cells (ac b) 24) = w1 at *
  have c1 := h1.fam
  have c2 := h2.fam
  generalize w.heap.size = p at *
  by_cases hf : a.1 = b.1
  · have e : cmpA a b = cmpFrom a b 16 0 := by unfold cmpA; rw [if_pos hf]
    have E := Lib.hid e; clear e
    rw [← hf] at c2
    have hbq : ((a.1 : Bool) == a.1) = true := by simp
    generalize a.1 = fa at *
    clear hf
    go_wp2_with fail
    go_loopw [5] (fun i wr => ∃ k : Nat, k ≤ 16 ∧ i = .int .i64 k ∧ ABox wr p a ∧ ABox wr (p + 1) b ∧ Ext w wr ∧ Hid (cmpFrom a b 16 0 = cmpFrom a b (16 - k) k)) (fun i _ => 16 - (intOf i).toNat)
    case atStart => exact ⟨0, by omega, rfl, h1, h2, hx, rfl⟩
    case round =>
      obtain ⟨k, hk, rfl, h1, h2, hx, hc⟩ := hrel
      by_cases hlt : k < 16
      · have hlt' : (k : Int) < 16 := by omega
        have d1 := h1.at' k hlt
        have d2 := h2.at' k hlt
        have hs : cmpFrom a b (16 - k) k = if X a k < X b k then -1 else if X b k < X a k then 1 else cmpFrom a b (16 - (k + 1)) (k + 1) := by
          rw [show 16 - k = (16 - (k + 1)) + 1 by omega, cmpFrom]
        generalize X a k = x at *
        generalize X b k = y at *
        have HS := Lib.hid hs; clear hs
        rcases Int.lt_trichotomy x y with h | h | h
        · have E1 : Hid (cmpFrom a b 16 0 = -1) := Lib.hid (by rw [hc.out, HS.out, if_pos h])
          go_wp2_with fail
          go_quiet (fail)
          go_wp2_with fail
          go_ret
          exact ⟨by rw [E.out, E1.out]; rfl, by (repeat' (first | exact Ext.refl _ | assumption | refine Ext.alloc ?_ _ | refine Ext.drew ?_ | refine Ext.setCell ?_ (Nat.le_refl _) _ | refine Ext.setCell ?_ (Nat.le_add_right _ _) _ | refine Ext.drewN ?_ _ | refine Ext.trans ?_ (by assumption) | refine Ext.dr ?_ (by assumption)))⟩
        · subst h
          have hxx : ¬ x < x := by omega
          have E1 : Hid (cmpFrom a b 16 0 = cmpFrom a b (16 - (k + 1)) (k + 1)) := Lib.hid (by rw [hc.out, HS.out, if_neg hxx, if_neg hxx])
          go_wp2_with fail
          go_quiet (fail)
          go_wp2_with fail
          go_quiet (fail)
          go_wp2_with fail
          go_roundw
          case rel => exact ⟨k + 1, by omega, by go_num, h1.ext ha ((Ext.refl _).drewN _), h2.ext hb ((Ext.refl _).drewN _), by (repeat' (first | exact Ext.refl _ | assumption | refine Ext.alloc ?_ _ | refine Ext.drew ?_ | refine Ext.setCell ?_ (Nat.le_refl _) _ | refine Ext.setCell ?_ (Nat.le_add_right _ _) _ | refine Ext.drewN ?_ _ | refine Ext.trans ?_ (by assumption) | refine Ext.dr ?_ (by assumption))), E1⟩
          case measure => simp [intOf]; omega
        · have hyx : ¬ x < y := by omega
          have E1 : Hid (cmpFrom a b 16 0 = 1) := Lib.hid (by rw [hc.out, HS.out, if_neg hyx, if_pos h])
          go_wp2_with fail
          go_quiet (fail)
          go_wp2_with fail
          go_quiet (fail)
          go_wp2_with fail
          go_ret
          exact ⟨by rw [E.out, E1.out]; rfl, by (repeat' (first | exact Ext.refl _ | assumption | refine Ext.alloc ?_ _ | refine Ext.drew ?_ | refine Ext.setCell ?_ (Nat.le_refl _) _ | refine Ext.setCell ?_ (Nat.le_add_right _ _) _ | refine Ext.drewN ?_ _ | refine Ext.trans ?_ (by assumption) | refine Ext.dr ?_ (by assumption)))⟩
      · obtain rfl : k = 16 := by omega
        go_wp2_with fail
        go_ret
        exact ⟨by rw [E.out, hc.out]; rfl, hx⟩
  · have e : cmpA a b = if b.1 = true then -1 else 1 := by unfold cmpA; rw [if_neg hf]
    have E := Lib.hid e; clear e
    have hbq : (a.1 != b.1) = true := by rw [bne_iff_ne]; exact hf
    generalize a.1 = fa at *
    generalize b.1 = fb at *
    cases fa <;> cases fb
    · exact absurd rfl hf
    · go_wp2_with fail
      go_ret
      exact ⟨by rw [E.out]; rfl, by (repeat' (first | exact Ext.refl _ | assumption | refine Ext.alloc ?_ _ | refine Ext.drew ?_ | refine Ext.setCell ?_ (Nat.le_refl _) _ | refine Ext.setCell ?_ (Nat.le_add_right _ _) _ | refine Ext.drewN ?_ _ | refine Ext.trans ?_ (by assumption) | refine Ext.dr ?_ (by assumption)))⟩
    · go_wp2_with fail
      go_ret
      exact ⟨by rw [E.out]; rfl, by (repeat' (first | exact Ext.refl _ | assumption | refine Ext.alloc ?_ _ | refine Ext.drew ?_ | refine Ext.setCell ?_ (Nat.le_refl _) _ | refine Ext.setCell ?_ (Nat.le_add_right _ _) _ | refine Ext.drewN ?_ _ | refine Ext.trans ?_ (by assumption) | refine Ext.dr ?_ (by assumption)))⟩
    · exact absurd rfl hf

theorem cmp_lists : ∀ (l m : List Int), l.length = m.length → (∀ x ∈ l, 0 ≤ x ∧ x < 256) → (∀ x ∈ m, 0 ≤ x ∧ x < 256) → ∀ (a b : Adr) (i : Nat), a.2.drop i = l → b.2.drop i = m → Lib.compareBytes (Lib.bytesOf l) (Lib.bytesOf m) = cmpFrom a b l.length i
  | [], [], _, _, _, a, b, i, _, _ => rfl
  | x :: l, y :: m, hl, h1, h2, a, b, i, ha, hb => by
    have hx : X a i = x := by
      unfold X
      have := congrArg (fun l => l.getD 0 0) ha
      simp only [List.getD_eq_getElem?_getD, List.getElem?_drop, Nat.add_zero, List.getElem?_cons_zero, Option.getD_some] at this
      rw [List.getD_eq_getElem?_getD]; exact this
    have hy : X b i = y := by
      unfold X
      have := congrArg (fun l => l.getD 0 0) hb
      simp only [List.getD_eq_getElem?_getD, List.getElem?_drop, Nat.add_zero, List.getElem?_cons_zero, Option.getD_some] at this
      rw [List.getD_eq_getElem?_getD]; exact this
    have ha' : a.2.drop (i + 1) = l := by rw [← List.tail_drop, ha]; rfl
    have hb' : b.2.drop (i + 1) = m := by rw [← List.tail_drop, hb]; rfl
    have ih := cmp_lists l m (by simpa using hl) (fun z hz => h1 z (by simp [hz])) (fun z hz => h2 z (by simp [hz])) a b (i + 1) ha' hb'
    have bx := h1 x (by simp)
    have by' := h2 y (by simp)
    have lt_iff : ∀ {u v : Int}, 0 ≤ u → u < 256 → 0 ≤ v → v < 256 → (u.toNat.toUInt8 < v.toNat.toUInt8 ↔ u < v) := by
      intro u v h0 h1 h2 h3
      rw [UInt8.lt_iff_toNat_lt]
      have e1 : u.toNat.toUInt8.toNat = u.toNat := by show (UInt8.ofNat u.toNat).toNat = _; rw [UInt8.toNat_ofNat_of_lt' (by show _ < 256; omega)]
      have e2 : v.toNat.toUInt8.toNat = v.toNat := by show (UInt8.ofNat v.toNat).toNat = _; rw [UInt8.toNat_ofNat_of_lt' (by show _ < 256; omega)]
      rw [e1, e2]; omega
    show Lib.compareBytes (x.toNat.toUInt8 :: Lib.bytesOf l) (y.toNat.toUInt8 :: Lib.bytesOf m) = _
    rw [Lib.compareBytes, List.length_cons, cmpFrom, hx, hy, ih]
    simp only [lt_iff bx.1 bx.2 by'.1 by'.2, lt_iff by'.1 by'.2 bx.1 bx.2]
theorem cmp_adr {a b : Adr} (ha : okA a) (hb : okA b) : Lib.compareBytes (Lib.bytesOf a.2) (Lib.bytesOf b.2) = cmpFrom a b 16 0 := by
  have := cmp_lists a.2 b.2 (by rw [ha.1, hb.1]) ha.2 hb.2 a b 0 rfl rfl
  rw [ha.1] at this; exact this
theorem run_cmp {P : Program} {w : World} {p q : Nat} {a b : Adr} (ha : okA a) (hb : okA b) (h1 : ABox w p a) (h2 : ABox w q b) :
    (Extern.BytealgCompare.compare #[.slice (some ⟨p, 1, none⟩) 16 16, .slice (some ⟨q, 1, none⟩) 16 16]).run P w = .ok (.int .i64 (cmpFrom a b 16 0)) w := by
  have hl : ∀ (c : Adr) (r : Nat), okA c → ABox w r c → (Extern.Bytes.loadBytes ⟨r, 1, none⟩ 16 .empty).run P w = .ok ⟨(Lib.bytesOf c.2).toArray⟩ w := by
    intro c r hc hr
    have := Lib.run_loadBytesX (P := P) w c.2 ⟨r, 1, none⟩ .empty (fun j x hj => by
      have hj16 : j < 16 := by rw [← hc.1]; exact (List.getElem?_eq_some_iff.1 hj).1
      have e : (⟨r, 1, none⟩ : Addr).add j = ⟨r, 1 + j, none⟩ := by unfold Addr.add; split <;> simp_all
      rw [e, hr.at' j hj16]; unfold X; rw [List.getD_eq_getElem?_getD, hj]; rfl)
    rw [hc.1] at this
    rw [this]
    congr 1
    simp
  change Sem.run P (do pure (goInt (Extern.BytealgCompare.cmp (← Extern.Bytes.bytesOf (.slice (some ⟨p, 1, none⟩) 16 16)) (← Extern.Bytes.bytesOf (.slice (some ⟨q, 1, none⟩) 16 16))))) w = _
  simp only [Extern.Bytes.bytesOf, Sem.run_bind, hl a p ha h1, hl b q hb h2, Result.andThen, Sem.run_pure]
  rw [Lib.cmp_eq]
  show Result.ok (goInt (Lib.compareBytes (Lib.bytesOf a.2) (Lib.bytesOf b.2))) w = _
  rw [cmp_adr ha hb]; rfl

set_option maxRecDepth 4000 in
set_option maxHeartbeats 1000000 in
theorem bytesCompare_any {p q : Nat} {a b : Adr} (ha : okA a) (hb : okA b) (w : World) (h1 : ABox w p a) (h2 : ABox w q b) :
    Calls Tryz.prog 51 #[.slice (some ⟨p, 1, none⟩) 16 16, .slice (some ⟨q, 1, none⟩) 16 16] w fun e w' => e = .returned (.int .i64 (cmpFrom a b 16 0)) ∧ w = w' := by
  go_enter Tryz.func51, Tryz.ntmps51
  go_wp2
  rw [run_callFunc_extern Tryz.func73 (by kernel_rfl) (by kernel_rfl) (by kernel_rfl) (e := Extern.BytealgCompare.compare) (by kernel_rfl), run_cmp ha hb h1 h2]
  simp only [Result.andThen]
  rw [Oper.upon_value]
  go_wp2
  go_ret
  exact ⟨rfl, rfl⟩
set_option maxRecDepth 4000 in
set_option maxHeartbeats 4000000 in
theorem compare_any (a b : Adr) (ha : okA a) (hb : okA b) (w : World) :
    Calls Tryz.prog 35 #[av a, av b] w fun e w' => e = .returned (.int .i64 (cmpA a b)) ∧ Ext w w' := by
  unfold av
  go_enter Tryz.func35, Tryz.ntmps35
  go_upto_region 1 with fail
  have hx := ((Ext.refl w).alloc (.cells (ac a) 24)).alloc (.cells (ac b) 24)
  have h1 := (ABox.new ha w).ext ha ((Ext.refl _).alloc (.cells (ac b) 24))
  have h2 := ABox.new hb (w.alloc (.cells (ac a) 24))
  rw [World.size_alloc] at h2
  generalize (w.alloc (.cells (ac a) 24)).alloc (.cells (ac b) 24) = w1 at *
  have c1 := h1.fam
  have c2 := h2.fam
  generalize w.heap.size = p at *
  by_cases hf : a.1 = b.1
  · have e : cmpA a b = cmpFrom a b 16 0 := by unfold cmpA; rw [if_pos hf]
    have E := Lib.hid e; clear e
    rw [← hf] at c2
    have hbq : ((a.1 : Bool) == a.1) = true := by simp
    generalize a.1 = fa at *
    clear hf
    have h1d := h1.ext ha ((Ext.refl w1).drew)
    have h2d := h2.ext hb ((Ext.refl w1).drew)
    have hc := bytesCompare_any ha hb w1.drew h1d h2d
    go_wp2_with fail
    go_still_tail 4, (by kernel_rfl)
    change wpList _ _ _ _ _ w1.drew
    have HC := Lib.hid hc; clear hc
    go_wp2_with (go_at_call 51; refine HC.out.mono ?_; rintro e w3 ⟨rfl, rfl⟩)
    go_ret
    exact ⟨by rw [E.out]; rfl, hx.drew⟩
  · have e : cmpA a b = if b.1 = true then -1 else 1 := by unfold cmpA; rw [if_neg hf]
    have E := Lib.hid e; clear e
    have hbq : (a.1 == b.1) = false := by rw [beq_eq_false_iff_ne]; exact hf
    generalize a.1 = fa at *
    generalize b.1 = fb at *
    cases fa <;> cases fb
    · exact absurd rfl hf
    · go_wp2_with fail
      go_ret
      exact ⟨by rw [E.out]; rfl, by (repeat' (first | exact Ext.refl _ | assumption | refine Ext.alloc ?_ _ | refine Ext.drew ?_ | refine Ext.setCell ?_ (Nat.le_refl _) _ | refine Ext.setCell ?_ (Nat.le_add_right _ _) _ | refine Ext.drewN ?_ _ | refine Ext.trans ?_ (by assumption) | refine Ext.dr ?_ (by assumption)))⟩
    · go_wp2_with fail
      go_ret
      exact ⟨by rw [E.out]; rfl, by (repeat' (first | exact Ext.refl _ | assumption | refine Ext.alloc ?_ _ | refine Ext.drew ?_ | refine Ext.setCell ?_ (Nat.le_refl _) _ | refine Ext.setCell ?_ (Nat.le_add_right _ _) _ | refine Ext.drewN ?_ _ | refine Ext.trans ?_ (by assumption) | refine Ext.dr ?_ (by assumption)))⟩
    · exact absurd rfl hf

theorem bit_and {x : Int} (h0 : 0 ≤ x) (h1 : x < 256) : bits BinOp.and IntKind.u8 x 1 = x % 2 := by
  have := bits_mask .u8 8 (by decide) (fun n a b => by have e : ∀ n : Int, IntKind.u8.wrap n = n % 256 := fun n => by simp [IntKind.wrap, IntKind.bits, IntKind.signed]
                                                       rw [e]; omega) 1 (by decide) x h0 (by omega)
  simpa using this
theorem bitLen_pos (a : Adr) : bitLen a ≤ 128 ∧ 32 ≤ bitLen a := by unfold bitLen; split <;> omega
set_option maxRecDepth 4000 in
set_option maxHeartbeats 2000000 in
theorem rBit_any (a : Adr) (ha : okA a) (i : Int) (w : World) :
    Calls Tryz.prog 33 #[av a, .int .i64 i] w fun e w' => e = .returned (.int .i64 (bitA a i)) ∧ Ext w w' := by
  unfold av
  go_enter Tryz.func33, Tryz.ntmps33
  go_upto_region 1 with fail
  have hx := (Ext.refl w).alloc (.cells (ac a) 24)
  have hb := ABox.new ha w
  generalize w.alloc (.cells (ac a) 24) = w1 at *
  generalize w.heap.size = p at *
  have hbl := bitLen_pos a
  have hcall := rBitLen_any a ha w1
  have HC := Lib.hid hcall; clear hcall
  by_cases h0 : i < 0
  · have e : bitA a i = -1 := by unfold bitA; rw [if_pos (.inl h0)]
    have E := Lib.hid e; clear e
    have hd : decide (i < 0) = true := decide_eq_true h0
    go_wp2_with fail
    go_ret
    exact ⟨by rw [E.out]; rfl, hx⟩
  · have hd : decide (i < 0) = false := decide_eq_false h0
    generalize hL : bitLen a = L at *
    have HL := Lib.hid hL; clear hL
    by_cases h1 : L ≤ i
    · have e : bitA a i = -1 := by unfold bitA; rw [if_pos (.inr (by rw [HL.out]; exact h1))]
      have E := Lib.hid e; clear e
      have hd2 : decide (L ≤ i) = true := decide_eq_true h1
      go_wp2_with (first | refine wpList_load_Ag (by first | rfl | simp [Region.wanted, yielded, hd]) _ rfl ha hb.blk rfl ?_ | (go_at_call 22; refine HC.out.mono ?_; rintro e w3 ⟨rfl, hx3⟩))
      go_ret
      exact ⟨by rw [E.out]; rfl, hx.trans hx3⟩
    · have hd2 : decide (L ≤ i) = false := decide_eq_false h1
      obtain ⟨n, rfl⟩ : ∃ n : Nat, i = n := ⟨i.toNat, by omega⟩
      have hn : n < 128 := by omega
      have e : bitA a n = X a (n / 8) / 2 ^ (7 - n % 8) % 2 := by
        unfold bitA; rw [if_neg (by rw [HL.out]; omega)]
        have q1 : ((n : Int) / 8).toNat = n / 8 := by omega
        have q2 : (7 - (n : Int) % 8).toNat = 7 - n % 8 := by omega
        rw [q1, q2]
      have E := Lib.hid e; clear e
      go_upto_region 3 with (first | refine wpList_load_Ag (by first | rfl | simp [Region.wanted, yielded, hd]) _ rfl ha hb.blk rfl ?_ | (go_at_call 22; refine HC.out.mono ?_; rintro e w3 ⟨rfl, hx3⟩))
      have hb3 := hb.ext ha hx3
      have hd1 := hb3.at' (n / 8) (by omega)
      have hxb := X_bd ha (n / 8)
      generalize X a (n / 8) = x at *
      have m0 : ((n : Int).tdiv 8) = ((n / 8 : Nat) : Int) := by rw [Int.tdiv_eq_ediv_of_nonneg (by omega)]; omega
      have m1 : ((n : Int).tmod 8) = ((n % 8 : Nat) : Int) := by rw [Int.tmod_eq_emod_of_nonneg (by omega)]; omega
      generalize hq : n / 8 = q at *
      generalize hr : n % 8 = r at *
      have hq16 : (q : Int) < 16 := by omega
      have hr8 : r < 8 := by omega
      clear hq hr
      have hy0 : 0 ≤ x / 2 ^ (7 - r) := Int.ediv_nonneg hxb.1 (Int.le_of_lt (Int.pow_pos (by decide)))
      have hy1 : x / 2 ^ (7 - r) ≤ x := Int.ediv_le_self _ hxb.1
      go_wp2_with fail
      go_ret
      refine ⟨?_, hx.trans hx3⟩
      rw [E.out]
      show Ending.returned (Value.int .i64 (wrap64 (bits BinOp.and IntKind.u8 (x / 2 ^ (7 - r)) 1))) = _
      rw [bit_and hy0 (by omega), IntWalk.wrap64_in _ (by omega)]
end Go.Proofs.YtbbdcodhgbgekaaGreatDoor
