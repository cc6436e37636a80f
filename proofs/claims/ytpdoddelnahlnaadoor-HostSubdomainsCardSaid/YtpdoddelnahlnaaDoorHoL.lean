/-
  Contracts of host.lower, host.ParseName, host.LabelCount, host.IsSubdomain, host.ParsePort.
-/
import Derived.Test.YtpdoddelnahlnaaDoorHoA
import Derived.Lib.ConvBytes
set_option linter.unusedSimpArgs false
set_option linter.unusedVariables false
namespace Go.Proofs.YtpdoddelnahlnaaDoor
open Go.RowKit
/-- the bytes of a row -/
structure BRow (w : World) (b : Nat) (l : List Int) : Prop where
  lt : b < w.heap.size
  cell : ∀ j x, l[j]? = some x → w.cell? ⟨b, j, none⟩ = some (.int .u8 x)
  free : ∀ j, j < l.length → w.frozen? ⟨b, j, none⟩ = false
theorem frozen_of_block {w w' : World} {p : Addr} (h : w'.heap[p.block]? = w.heap[p.block]?) : w'.frozen? p = w.frozen? p := by
  unfold World.frozen?; rw [h]
theorem BRow.ext {w w' : World} {b : Nat} {l : List Int} (h : BRow w b l) (k : Ext w w') : BRow w' b l :=
  ⟨Nat.lt_of_lt_of_le h.lt k.size, fun j x hj => by rw [k.cell h.lt]; exact h.cell j x hj, fun j hj => by rw [frozen_of_block (w := w) (Below.block k b h.lt)]; exact h.free j hj⟩
theorem frozen_setCell {w : World} {b i j : Nat} {v : Value} : (w.setCell ⟨b, i, none⟩ v).frozen? ⟨b, j, none⟩ = w.frozen? ⟨b, j, none⟩ := by
  unfold World.frozen? World.setCell
  simp only [Array.getElem?_modify, if_true]
  cases h : w.heap[b]? with
  | none => rfl
  | some o => cases o <;> rfl
theorem BRow.set {w : World} {b : Nat} {l : List Int} (h : BRow w b l) {i : Nat} (hi : i < l.length) (x : Int) : BRow (w.setCell ⟨b, i, none⟩ (.int .u8 x)) b (l.set i x) := by
  have h0 := h.cell i l[i] (List.getElem?_eq_getElem hi)
  refine ⟨by simpa [World.setCell] using h.lt, fun j y hj => ?_, fun j hj => by rw [frozen_setCell]; exact h.free j (by simpa using hj)⟩
  rw [List.getElem?_set] at hj
  by_cases e : i = j
  · subst e
    rw [if_pos rfl, if_pos hi] at hj
    cases hj
    unfold World.cell? World.setCell at *
    simp only [Array.getElem?_modify, if_true] at *
    cases hb : w.heap[b]? with
    | none => rw [hb] at h0; cases h0
    | some o =>
      rw [hb] at h0
      cases o <;> simp at h0 ⊢
      rename_i cs t fr
      have : i < cs.size := by
        obtain ⟨q, -⟩ := Array.getElem?_eq_some_iff.1 h0
        exact q
      simp [this]
  · rw [if_neg e] at hj
    have h1 := h.cell j y hj
    unfold World.cell? World.setCell at *
    simp only [Array.getElem?_modify, if_true] at *
    cases hb : w.heap[b]? with
    | none => rw [hb] at h1; cases h1
    | some o =>
      rw [hb] at h1
      cases o <;> simp at h1 ⊢
      rw [Array.getElem?_setIfInBounds_ne e]; exact h1
theorem conv_str (s : ByteArray) (w : World) : ∃ w1 cap, (convert 9 33 (.string s)).run Tryd.prog w = .ok (.slice (some ⟨w.heap.size, 0, none⟩) s.size cap) w1 ∧ s.size ≤ cap ∧ BRow w1 w.heap.size (numsB s) ∧ Ext w w1 := by
  refine ⟨_, _, Lib.run_convert_string_bytes w 9 33 5 s Tryd.underlying9 Tryd.underlying33 Tryd.underlying5, grownCap_ge _ _ _ _, ⟨?_, fun j x hj => ?_, fun j hj => ?_⟩, ⟨?_, ?_, ?_, ?_, ?_⟩⟩
  · rw [Lib.bytesWorld_size]; omega
  · have hjl : j < s.size := by rw [← numsB_len]; exact (List.getElem?_eq_some_iff.1 hj).1
    rw [numsB_get s j hjl] at hj
    cases hj
    rw [Lib.bytesWorld_cell w _ s j hjl]; rfl
  · rw [numsB_len] at hj
    unfold World.frozen?
    rw [Lib.bytesWorld_at_new]
    have : s.size ≤ (Lib.bytesCells w 5 s).size := by
      unfold Lib.bytesCells
      rw [Array.size_append, Array.size_map]
      show s.data.size ≤ _
      omega
    simp
    omega
  all_goals first | rfl | skip
  · rw [Lib.bytesWorld_size]; omega
  · intro i hi; exact Lib.bytesWorld_at_old w _ s i hi
theorem conv_back {w : World} {b : Nat} {l : List Int} (h : BRow w b l) (cap : Nat) : (convert 33 9 (.slice (some ⟨b, 0, none⟩) l.length cap)).run Tryd.prog w = .ok (.string (strOfNums l)) w :=
  run_convert_bytes_arg w 33 5 Tryd.underlying33 Tryd.underlying5 b 0 l.length cap l rfl (fun i hi => by
    rw [Nat.zero_add]
    refine h.cell i _ ?_
    rw [List.getD_eq_getElem?_getD, List.getElem?_eq_getElem hi]; rfl) 9 Tryd.underlying9
set_option maxRecDepth 4000 in
set_option maxHeartbeats 1000000 in
theorem lower_any (s : ByteArray) (hs : s.size ≤ maxLen) (w : World) : Calls Tryd.prog 31 #[.string s] w fun e w' => e = .returned (.string (lowB s)) ∧ Ext w w' := by
  replace hs := size_max hs
  obtain ⟨w1, cap, hcv, hcap, hrow, hx⟩ := conv_str s w
  rw [← lowTo_zero] at hrow
  generalize hbs : w.heap.size = b at *
  replace hbs := Nat.le_of_eq hbs
  have hbw := hrow.lt
  go_enter Tryd.func31, Tryd.ntmps31
  go_wp2_with fail
  clear hcv
  go_loopw [4, 5, 10] (fun _ _ c wr => ∃ k : Nat, k ≤ s.size ∧ c = .int .i64 k ∧ BRow wr b (lowTo s k) ∧ Ext w wr) (fun _ _ c _ => s.size - (intOf c).toNat)
  case atStart => exact ⟨0, Nat.zero_le _, rfl, hrow, hx⟩
  case round =>
    obtain ⟨k, hk, rfl, hrow, hx⟩ := hrel
    by_cases hlt : k < s.size
    · have hlt' : (k : Int) < s.size := by omega
      have hcell := hrow.cell k _ (lowTo_at s hlt)
      have hfree := hrow.free k (by rw [lowTo_len]; exact hlt)
      have bk := B_bd s k
      by_cases hu : 65 ≤ B s k ∧ B s k ≤ 90
      · have e8 : IntKind.u8.wrap (B s k - 65) = B s k - 65 := by
          have : ∀ n : Int, IntKind.u8.wrap n = n % 256 := fun n => by simp [IntKind.wrap, IntKind.bits, IntKind.signed]
          rw [this]; omega
        have e9 : IntKind.u8.wrap (B s k - 65 + 97) = B s k + 32 := by
          have : ∀ n : Int, IntKind.u8.wrap n = n % 256 := fun n => by simp [IntKind.wrap, IntKind.bits, IntKind.signed]
          rw [this]; omega
        have hg1 := hu.1
        have hg2 := hu.2
        have HR := Lib.hid (hrow.set (i := k) (by rw [lowTo_len]; exact hlt) (B s k + 32))
        have HLW : Hid (lowI (B s k) = B s k + 32) := Lib.hid (by unfold lowI; rw [if_pos hu])
        clear hu
        go_wp2_with fail
        go_roundw
        case rel => exact ⟨k + 1, by omega, by go_num, by rw [← lowTo_set s hlt, HLW.out]; exact HR.out, hx.setCell (p := ⟨b, k, none⟩) hbs _⟩
        case measure => simp [intOf]; omega
      · have HLW : Hid (lowI (B s k) = B s k) := Lib.hid (by unfold lowI; rw [if_neg hu])
        by_cases hg : B s k < 65
        · clear hu
          go_wp2_with fail
          go_roundw
          case rel => exact ⟨k + 1, by omega, by go_num, by rw [← lowTo_keep s hlt HLW.out]; exact hrow, hx⟩
          case measure => simp [intOf]; omega
        · have hg2 : 90 < B s k := by omega
          clear hu
          go_wp2_with fail
          go_roundw
          case rel => exact ⟨k + 1, by omega, by go_num, by rw [← lowTo_keep s hlt HLW.out]; exact hrow, hx⟩
          case measure => simp [intOf]; omega
    · obtain rfl : k = s.size := by omega
      rw [lowTo_all] at hrow
      have hcv := conv_back hrow cap
      have hln : (lowNums s).length = s.size := by rw [← lowTo_all, lowTo_len]
      rw [hln] at hcv
      clear hln
      go_wp2_with fail
      go_ret; exact ⟨rfl, hx⟩
theorem lowB_size (s : ByteArray) : (lowB s).size = s.size := by unfold lowB; rw [strOfNums_size, ← lowTo_all, lowTo_len]
/-- the name in lower case, without a trailing dot -/
def hostS (s : ByteArray) : ByteArray := ⟨(Lib.trimSuffix (lowB s).data.toList [46]).toArray⟩
def nameP (s : ByteArray) : ByteArray × Bool := if okName (hostS s) = true then (hostS s, true) else (.empty, false)
theorem trimSuffix_len (l p : List UInt8) : (Lib.trimSuffix l p).length ≤ l.length := by
  unfold Lib.trimSuffix
  split
  · rw [List.length_take]; omega
  · exact Nat.le_refl _
theorem hostS_size (s : ByteArray) : (hostS s).size ≤ s.size := by
  have := trimSuffix_len (lowB s).data.toList [46]
  rw [← size_list, lowB_size] at this
  rw [size_list]; simpa [hostS] using this
set_option maxRecDepth 4000 in
set_option maxHeartbeats 1000000 in
theorem pname_any (s : ByteArray) (w : World) (henv : Env w) (hs : s.size ≤ maxLen) : Calls Tryd.prog 18 #[.string s] w fun e w' => e = .returned (.tuple #[.string (nameP s).1, .bool (nameP s).2]) ∧ Ext w w' := by
  have HLo := Lib.hid (fun w => lower_any s hs w)
  have HTr := Lib.hid (fun w => Tryd.strings_TrimSuffix (lowB s) ⟨#[46]⟩ w (by rw [lowB_size]; exact size_max hs))
  have HV := Lib.hid (fun w h => vname_any (hostS s) w h (Nat.le_trans (hostS_size s) hs))
  have e : nameP s = if okName (hostS s) = true then (hostS s, true) else (.empty, false) := rfl
  rw [show (⟨(Lib.trimSuffix (lowB s).data.toList (⟨#[46]⟩ : ByteArray).data.toList).toArray⟩ : ByteArray) = hostS s from rfl] at HTr
  generalize hostS s = h at *
  generalize lowB s = l at *
  go_enter Tryd.func18, Tryd.ntmps18
  go_wp2_with (first | (go_at_call 31; refine (HLo.out _).mono ?_; rintro e w1 ⟨rfl, hx⟩) | (go_at_call 30; refine (HTr.out _).mono ?_; rintro e w2 ⟨rfl, rfl⟩; refine Hid.out ?_))
  refine Lib.hid ?_
  have K := HV.out w2 (henv.ext hx)
  clear HLo HTr HV
  cases ho : okName h
  · rw [ho] at e K
    rw [if_neg (by simp)] at e
    have E := Lib.hid e
    clear e ho
    go_wp2_with (first | (go_at_call 16; refine K.mono ?_; rintro e w3 ⟨rfl, hx3⟩))
    go_ret2; exact ⟨by rw [E.out]; rfl, hx.trans hx3⟩
  · rw [ho] at e K
    rw [if_pos rfl] at e
    have E := Lib.hid e
    clear e ho
    go_wp2_with (first | (go_at_call 16; refine K.mono ?_; rintro e w3 ⟨rfl, hx3⟩))
    go_ret2; exact ⟨by rw [E.out]; rfl, hx.trans hx3⟩
def labP (s : ByteArray) : Int := if okName s = true then ((parts 46 s).length : Int) else 0
theorem okName_size {s : ByteArray} (h : okName s = true) : s.size ≤ 253 := by
  unfold okName at h; rw [Bool.and_eq_true, Bool.and_eq_true, decide_eq_true_eq] at h; exact h.1.1
set_option maxRecDepth 4000 in
set_option maxHeartbeats 1000000 in
theorem label_any (s : ByteArray) (w : World) (henv : Env w) (hs : s.size ≤ maxLen) : Calls Tryd.prog 9 #[.string s] w fun e w' => e = .returned (.int .i64 (labP s)) ∧ Ext w w' := by
  have K := vname_any s w henv hs
  have e : labP s = if okName s = true then ((parts 46 s).length : Int) else 0 := rfl
  cases ho : okName s
  · rw [ho] at e K
    rw [if_neg (by simp)] at e
    go_enter Tryd.func9, Tryd.ntmps9
    rw [e]
    clear e ho
    go_wp2_with (first | (go_at_call 16; refine K.mono ?_; rintro e w2 ⟨rfl, hx2⟩))
    go_ret; exact ⟨rfl, hx2⟩
  · have hz := okName_size ho
    rw [ho] at e K
    rw [if_pos rfl] at e
    obtain ⟨m, hm⟩ := henv
    have HC := Lib.hid (fun w h => Tryd.strings_Count_any s ⟨#[46]⟩ m w (by omega) h (Nat.le_refl 1))
    have hl := parts_length 46 s
    have hl2 := parts_len 46 s
    have e1 : (1 : Int) + (Lib.countB s ⟨#[46]⟩ : Nat) = (parts 46 s).length := by rw [hl]; omega
    have e2 : (Lib.countB s ⟨#[46]⟩ : Int) ≤ 254 := by omega
    rw [← e1] at e
    generalize (Lib.countB s ⟨#[46]⟩) = cn at *
    go_enter Tryd.func9, Tryd.ntmps9
    rw [e]
    clear e ho e1 hl hl2
    go_wp2_with (first | (go_at_call 16; refine K.mono ?_; rintro e w2 ⟨rfl, hx2⟩; have hm2 := hm; rw [← hx2.cell (World.block_lt_of_cell? _ _ hm)] at hm2) | (go_at_call 22; refine (HC.out _ hm2).mono ?_; rintro e w3 ⟨rfl, rfl⟩))
    go_ret; exact ⟨rfl, hx2⟩
def subP (a b : ByteArray) : Bool := okName a && okName b && (decide (a = b) || Lib.hasSuffix a.data.toList (46 :: b.data.toList))
theorem toList_beq {a b : ByteArray} : (a.toList == b.toList) = decide (a = b) := by
  rw [ByteArray.toList_eq, ByteArray.toList_eq]
  by_cases h : a = b
  · subst h; simp
  · rw [decide_eq_false h, beq_eq_false_iff_ne]
    exact fun e => h (BA_ext e)
set_option maxRecDepth 4000 in
set_option maxHeartbeats 1000000 in
theorem isub_any (a b : ByteArray) (w : World) (henv : Env w) (ha : a.size ≤ maxLen) (hb : b.size ≤ maxLen) : Calls Tryd.prog 6 #[.string a, .string b] w fun e w' => e = .returned (.bool (subP a b)) ∧ Ext w w' := by
  have K := vname_any a w henv ha
  have HK2 := Lib.hid (fun w h => vname_any b w h hb)
  have e : subP a b = (okName a && okName b && (decide (a = b) || Lib.hasSuffix a.data.toList (46 :: b.data.toList))) := rfl
  have HS := Lib.hid (fun w => Tryd.strings_HasSuffix a (⟨#[46]⟩ ++ b) w (size_max ha))
  rw [data_append, show (⟨#[46]⟩ : ByteArray).data.toList ++ b.data.toList = 46 :: b.data.toList from rfl] at HS
  have hq := @toList_beq a b
  generalize Lib.hasSuffix a.data.toList (46 :: b.data.toList) = r at *
  have hbz := size_max hb
  cases hA : okName a
  · rw [hA] at K e
    rw [Bool.false_and, Bool.false_and] at e
    go_enter Tryd.func6, Tryd.ntmps6
    rw [e]
    clear e hA hq
    go_wp2_with (first | (go_at_call 16; refine K.mono ?_; rintro e w2 ⟨rfl, hx2⟩))
    go_ret; exact ⟨rfl, hx2⟩
  rw [hA] at K e
  rw [Bool.true_and] at e
  cases hB : okName b
  · rw [hB] at HK2 e
    rw [Bool.false_and] at e
    go_enter Tryd.func6, Tryd.ntmps6
    rw [e]
    clear e hA hB hq
    go_wp2_with (first | (go_at_call 16; first | (refine K.mono ?_; rintro e w2 ⟨rfl, hx2⟩; have hK2 := HK2.out w2 (henv.ext hx2); clear K) | (refine hK2.mono ?_; rintro e w3 ⟨rfl, hx3⟩)))
    go_ret; exact ⟨rfl, hx2.trans hx3⟩
  have hbs := okName_size hB
  rw [hB] at HK2 e
  rw [Bool.true_and] at e
  cases hab : decide (a = b)
  · rw [hab] at e hq
    rw [Bool.false_or] at e
    go_enter Tryd.func6, Tryd.ntmps6
    rw [e]
    clear e hA hB hab
    go_wp2_with (first | (go_at_call 16; first | (refine K.mono ?_; rintro e w2 ⟨rfl, hx2⟩; have hK2 := HK2.out w2 (henv.ext hx2); clear K) | (refine hK2.mono ?_; rintro e w3 ⟨rfl, hx3⟩)) | (go_at_call 17; refine (HS.out _).mono ?_; rintro e w4 ⟨rfl, rfl⟩))
    go_ret; exact ⟨rfl, hx2.trans hx3⟩
  · rw [hab] at e hq
    rw [Bool.true_or] at e
    go_enter Tryd.func6, Tryd.ntmps6
    rw [e]
    clear e hA hB hab
    go_wp2_with (first | (go_at_call 16; first | (refine K.mono ?_; rintro e w2 ⟨rfl, hx2⟩; have hK2 := HK2.out w2 (henv.ext hx2); clear K) | (refine hK2.mono ?_; rintro e w3 ⟨rfl, hx3⟩)))
    go_ret; exact ⟨rfl, hx2.trans hx3⟩
def portP (s : ByteArray) : Int × Bool := numP s 1 65535
set_option maxRecDepth 4000 in
set_option maxHeartbeats 1000000 in
theorem pport_any (s : ByteArray) (hs : s.size ≤ maxLen) (w : World) : Calls Tryd.prog 13 #[.string s] w fun e w' => e = .returned (.tuple #[.int .i64 (portP s).1, .bool (portP s).2]) ∧ w = w' := by
  have K := num_any s 1 65535 w hs
  rw [show numP s 1 65535 = portP s from rfl] at K
  go_enter Tryd.func13, Tryd.ntmps13
  go_wp2_with (first | (go_at_call 24; refine K.mono ?_; rintro e w2 ⟨rfl, rfl⟩))
  go_ret2; exact ⟨rfl, rfl⟩
end Go.Proofs.YtpdoddelnahlnaaDoor
