/-
  ScriptNumbersCanonical.
-/
import Derived.Test.YtmdlgfnibjcgmaaGreatDoorSeD
set_option maxHeartbeats 16000000
set_option maxRecDepth 10000
set_option linter.unusedVariables false
set_option linter.unusedSimpArgs false
namespace Go.Proofs.YtmdlgfnibjcgmaaGreatDoor
open Go.RowKit
def BytIn (w : World) (a : Option Addr) (n c : Nat) (x : ByteArray) : Prop :=
 (a = none /\ n = 0 /\ c = 0) ∨ ∃ ad, a = some ad /\ n <= c /\ c <= 140737488351232 /\ (0 < n -> ∃ b off, ad = ⟨b, off, none⟩ /\ b < w.heap.size /\ ∀ i, i < n -> w.cell? ⟨b, off + i, none⟩ = some (.int .u8 (B x i)))
def tick (n : Int) : Ev := ⟨9, 0, 0, n, false, 0, ⟨#[]⟩, []⟩
theorem tick_valid (n : Int) : validS [tick n] = true := by
 unfold validS validE tick
 simp [flds, rng]
 try rfl
theorem tick_ok {n : Int} (h0 : 0 <= n) (h1 : n <= 18446744073709551615) : okE (tick n) :=
 ⟨⟨by unfold tick; simp only; omega, by unfold tick; simp only; omega, by unfold tick; simp only; omega, ⟨h0, h1⟩, by unfold tick; simp only; omega, by intro x hx; cases hx⟩, Nat.zero_le _, Nat.zero_le _⟩
theorem tick_in {n : Int} (h0 : 0 <= n) (h1 : n <= 18446744073709551615) (w : World) : EvsIn (w.alloc (.cells (evl (tick n) (.slice none 0 0)).toArray 31)) (.slice (some ⟨w.heap.size, 0, none⟩) 1 1) [tick n] := by
 have hB := Blk.new w (evl (tick n) (.slice none 0 0)).toArray 31
 refine ⟨some ⟨w.heap.size, 0, none⟩, 1, rfl, Nat.le_refl _, fun _ => ⟨_, _, rfl, hB.lt⟩, fun i e hi => ?_⟩
 match i, hi with
 | 0, hi =>
  simp at hi
  subst hi
  refine ⟨tick_ok h0 h1, .slice none 0 0, ⟨none, 0, rfl, Nat.le_refl _, (by intro x hx; cases hx), fun h => absurd h (by simp [tick])⟩, fun b off e j u hj => ?_⟩
  cases e
  rw [show 0 + 0 * 8 + j = j by omega]
  exact hB.cell hj
theorem tick_cell {w : World} {v : Value} {n : Int} (h : EvsIn w v [tick n]) : ∃ b off c, v = .slice (some ⟨b, off, none⟩) 1 c /\ b < w.heap.size /\ w.cell? ⟨b, off + 3, none⟩ = some (.int .u64 n) /\ 1 <= c := by
 obtain ⟨a, c, rfl, hc, h2, h3⟩ := h
 obtain ⟨b, off, rfl, hb⟩ := h2 (by simp)
 obtain ⟨_, v, _, hr⟩ := h3 0 (tick n) rfl
 have := hr b off rfl 3 (.int .u64 n) rfl
 exact ⟨b, off, c, rfl, hb, by simpa using this, hc⟩
theorem ScriptNumbersCanonical_walk (a : Option Addr) (bn bc : Nat) (x : ByteArray) (n last : Int) (hxn : x.size = bn) (hxs : x.size <= 140737488351232) (wn : (Lit.int .u64 n).wf = true) (wl : (Lit.int .u8 last).wf = true)
  (w : World) (henv : Env w) (htabs : Tabs w) (hin : BytIn w a bn bc x) :
  Calls Tryz.prog 6 #[.slice a bn bc, .int .u64 n, .int .u8 last] w fun e w' => e = .returned (.bool true) /\ Ext w w' := by
 have HN := Lib.hid (wfu64 wn)
 have KA := Lib.hid (fun w => awake_any w)
 have KG := Lib.hid (fun (s : ByteArray) (w : World) => agr_any s w)
 have HIN := Lib.hid hin
 have hbn : bn <= 140737488351232 := by omega
 clear henv htabs hin wn wl hxs hxn
 go_enter Tryz.func6, Tryz.ntmps6
 go_wp2_with fail
 go_loopw [7, 8] (fun s i wr => ∃ (j : Nat) (z : ByteArray), s = .string z /\ i = .int .i64 j /\ j <= 11 /\ z.size = j /\ Ext w wr) (fun _ i _ => 11 - (intOf i).toNat)
 case atStart => exact ⟨0, ⟨#[]⟩, rfl, rfl, by decide, rfl, Ext.refl _⟩
 case round =>
  obtain ⟨j, z, rfl, rfl, hj, hz, hxr⟩ := hrel
  have HZ := Lib.hid hz
  by_cases hlt : j < bn /\ j < 11
  ·obtain ⟨hlt1, hlt2⟩ := hlt
   have hlt1' : (j : Int) < bn := by omega
   have hlt2' : (j : Int) < 11 := by omega
   have hj1 : IntKind.i64.wrap ((j : Int) + 1) = ((j + 1 : Nat) : Int) := by rw [IntWalk.i64_in _ (by omega)]; omega
   rcases HIN.out with ⟨_, h0, _⟩ | ⟨ad, rfl, hcap, hcm, hc⟩
   ·omega
   obtain ⟨b, off, rfl, hb, hcell⟩ := hc (by omega)
   have cj : wr.cell? ⟨b, off + j, none⟩ = some (.int .u8 (B x j)) := by rw [hxr.cell (show (⟨b, off + j, none⟩ : Addr).block < _ from hb)]; exact hcell j hlt1
   obtain ⟨y, hy⟩ : ∃ y, bits BinOp.or IntKind.u8 (B x j) 128 = y := ⟨_, rfl⟩
   have y1 : ¬ 9223372036854775807 < z.size + 1 := by omega
   clear hcell hc hz HIN
   go_wp2_with fail
   refine ⟨⟨j + 1, z ++ str1 y, rfl, by go_num, by omega, by rw [size_app, size_str1, HZ.out], hxr.alloc _⟩, ?_⟩
   simp [intOf]; omega
  ·have y1 : ¬ 9223372036854775807 < z.size + 1 := by omega
   have hlf : ∃ lf : Bool, lf = (decide ((j : Int) < bn) && decide ((j : Int) < 11)) := ⟨_, rfl⟩
   have hzz : z.size <= 11 := by omega
   clear hz HZ
   by_cases hlt1 : j < bn
   ·have hlt1' : (j : Int) < bn := by omega
    have hlt2' : ¬ (j : Int) < 11 := by omega
    go_upto_region 7 with fail
    have hx7 := hxr.alloc (.cells #[Value.int .u8 last] 5)
    generalize (wr.alloc (.cells #[Value.int .u8 last] 5)) = w7 at *
    have hs12 : (z ++ str1 last).size <= 12 := by rw [size_app, size_str1]; omega
    generalize (z ++ str1 last) = s at *
    have y2 : ¬ 9223372036854775807 < 2 + s.size := by omega
    have y3 : ¬ 9223372036854775807 < 1 + s.size := by omega
    have y4 : ¬ 9223372036854775807 < s.size + 1 := by omega
    have y5 : ¬ 9223372036854775807 < s.size + 2 := by omega
    have hxm := hx7.alloc (.cells (evl (tick n) (.slice none 0 0)).toArray 31)
    have KN := Lib.hid (enc_any [tick n] (.slice (some ⟨w7.heap.size, 0, none⟩) 1 1) (tick_in HN.out.1 HN.out.2 w7) (by unfold maxLen; simp))
    rw [encV_ok (tick_valid n)] at KN
    have KD := Lib.hid (fun (w' : World) => pdec_scr (encS [tick n]) w')
    unfold DecP at KD
    rw [decR_enc (l := [tick n]) (by intro e he; simp at he; subst he; exact (tick_ok HN.out.1 HN.out.2).1) (tick_valid n)] at KD
    generalize encS [tick n] = ze at *
    clear hxr hx7 hs12 y1
    go_upto_region 8 with (go_at_call 8; refine KN.out.mono ?_; rintro e w3 ⟨rfl, hx3⟩)
    have hx3' := hxm.trans hx3
    clear KN hxm hx3
    go_upto_region 9 with (go_at_call 14; refine (KD.out _).mono ?_; rintro e w4 ⟨s4, rfl, he4, hl4, hx4⟩)
    have hxc := hx3'.trans hx4
    clear hx3' hx4 KD hl4
    obtain ⟨b4, off4, c4, rfl, hb4, hc4, hk4⟩ := tick_cell he4
    have HCC : Hid (∀ w', Ext w4 w' -> w'.cell? ⟨b4, off4 + 3, none⟩ = some (.int .u64 n)) := Lib.hid (fun w' h => by rw [h.cell (show (⟨b4, off4 + 3, none⟩ : Addr).block < _ from hb4)]; exact hc4)
    have hx0 := Ext.refl w4
    have cc := HCC.out w4 hx0
    clear he4
    go_wp2_with (first | (go_at_call 11; refine (KA.out _).mono ?_; rintro e w8 ⟨rfl, hx8⟩; have hx0 := Ext.trans (a := w4) (by assumption) hx8; have cc := HCC.out w8 hx0) | (go_at_call 17; refine (KG.out _ _).mono ?_; rintro e w9 ⟨rfl, hx9⟩; have hx0 := Ext.trans (a := w4) (by assumption) hx9; have cc := HCC.out w9 hx0))
    go_ret
    exact ⟨rfl, hxc.trans (by assumption)⟩
   ·have hlt1' : ¬ (j : Int) < bn := by omega
    go_upto_region 7 with fail
    have hx7 := hxr.alloc (.cells #[Value.int .u8 last] 5)
    generalize (wr.alloc (.cells #[Value.int .u8 last] 5)) = w7 at *
    have hs12 : (z ++ str1 last).size <= 12 := by rw [size_app, size_str1]; omega
    generalize (z ++ str1 last) = s at *
    have y2 : ¬ 9223372036854775807 < 2 + s.size := by omega
    have y3 : ¬ 9223372036854775807 < 1 + s.size := by omega
    have y4 : ¬ 9223372036854775807 < s.size + 1 := by omega
    have y5 : ¬ 9223372036854775807 < s.size + 2 := by omega
    have hxm := hx7.alloc (.cells (evl (tick n) (.slice none 0 0)).toArray 31)
    have KN := Lib.hid (enc_any [tick n] (.slice (some ⟨w7.heap.size, 0, none⟩) 1 1) (tick_in HN.out.1 HN.out.2 w7) (by unfold maxLen; simp))
    rw [encV_ok (tick_valid n)] at KN
    have KD := Lib.hid (fun (w' : World) => pdec_scr (encS [tick n]) w')
    unfold DecP at KD
    rw [decR_enc (l := [tick n]) (by intro e he; simp at he; subst he; exact (tick_ok HN.out.1 HN.out.2).1) (tick_valid n)] at KD
    generalize encS [tick n] = ze at *
    clear hxr hx7 hs12 y1
    go_upto_region 8 with (go_at_call 8; refine KN.out.mono ?_; rintro e w3 ⟨rfl, hx3⟩)
    have hx3' := hxm.trans hx3
    clear KN hxm hx3
    go_upto_region 9 with (go_at_call 14; refine (KD.out _).mono ?_; rintro e w4 ⟨s4, rfl, he4, hl4, hx4⟩)
    have hxc := hx3'.trans hx4
    clear hx3' hx4 KD hl4
    obtain ⟨b4, off4, c4, rfl, hb4, hc4, hk4⟩ := tick_cell he4
    have HCC : Hid (∀ w', Ext w4 w' -> w'.cell? ⟨b4, off4 + 3, none⟩ = some (.int .u64 n)) := Lib.hid (fun w' h => by rw [h.cell (show (⟨b4, off4 + 3, none⟩ : Addr).block < _ from hb4)]; exact hc4)
    have hx0 := Ext.refl w4
    have cc := HCC.out w4 hx0
    clear he4
    go_wp2_with (first | (go_at_call 11; refine (KA.out _).mono ?_; rintro e w8 ⟨rfl, hx8⟩; have hx0 := Ext.trans (a := w4) (by assumption) hx8; have cc := HCC.out w8 hx0) | (go_at_call 17; refine (KG.out _ _).mono ?_; rintro e w9 ⟨rfl, hx9⟩; have hx0 := Ext.trans (a := w4) (by assumption) hx9; have cc := HCC.out w9 hx0))
    go_ret
    exact ⟨rfl, hxc.trans (by assumption)⟩
end Go.Proofs.YtmdlgfnibjcgmaaGreatDoor
