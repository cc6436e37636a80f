/-
  Several texts joined: HsR, HtB, HuA.
-/
import Derived.Test.YtnohnnjeabehjaaGreatDoorK22
import Derived.Test.YtnohnnjeabehjaaGreatDoorK23
import Derived.Test.YtnohnnjeabehjaaGreatDoorK13
import Derived.Test.YtnohnnjeabehjaaGreatDoorK09
import Derived.Test.YtnohnnjeabehjaaGreatDoorK24
set_option maxHeartbeats 4000000
set_option maxRecDepth 4000
set_option linter.unusedVariables false
set_option linter.unusedSimpArgs false
namespace Go.Proofs.YtnohnnjeabehjaaGreatDoor
open Go.RowKit
theorem cell_ext {w w' : World} (k : Ext w w') {p : Addr} {v : Value} (h : w.cell? p = some v) : w'.cell? p = some v := by
 rw [k.cell (World.block_lt_of_cell? _ _ h)]; exact h
def RegP (w : World) (g : Nat) (tn : Tns) : Prop := ∃ (g2 cap : Nat) (es : Nat -> Nat), tn.length <= cap /\ w.cell? ⟨g, 0, none⟩ = some (.slice (some ⟨g2, 0, none⟩) tn.length cap) /\
 ∀ i x, tn[i]? = some x -> w.cell? ⟨g2, i, none⟩ = some (.pointer (some ⟨es i, 0, none⟩)) /\ w.cell? ⟨es i, 0, none⟩ = some (.string x.1) /\ w.cell? ⟨es i, 1, none⟩ = some (.string x.2)
theorem RegP.ext {w w' : World} {g : Nat} {tn : Tns} (h : RegP w g tn) (k : Ext w w') : RegP w' g tn := by
 obtain ⟨g2, cap, es, h1, h2, h3⟩ := h
 exact ⟨g2, cap, es, h1, cell_ext k h2, fun i x hx => ⟨cell_ext k (h3 i x hx).1, cell_ext k (h3 i x hx).2.1, cell_ext k (h3 i x hx).2.2⟩⟩
def RegR (w : World) (g : Nat) (tn : Tns) : Prop := ∃ (g2 cap : Nat), tn.length <= cap /\ w.cell? ⟨g, 0, none⟩ = some (.slice (some ⟨g2, 0, none⟩) tn.length cap) /\
 ∀ i x, tn[i]? = some x -> w.cell? ⟨g2, i * 6, none⟩ = some (.string x.1) /\ w.cell? ⟨g2, i * 6 + 1, none⟩ = some (.string x.2)
theorem RegR.ext {w w' : World} {g : Nat} {tn : Tns} (h : RegR w g tn) (k : Ext w w') : RegR w' g tn := by
 obtain ⟨g2, cap, h1, h2, h3⟩ := h
 exact ⟨g2, cap, h1, cell_ext k h2, fun i x hx => ⟨cell_ext k (h3 i x hx).1, cell_ext k (h3 i x hx).2⟩⟩
theorem authT_skip {u p : ByteArray} : ∀ {l : Tns} {k : Nat}, (∀ j x, l[j]? = some x -> j < k -> ¬ (x.1 = u /\ x.2 = p)) -> ∀ b, authT u p l b = authT u p (l.drop k) (b + k)
 | l, 0, _, b => by rw [List.drop_zero, Nat.add_zero]
 | [], k + 1, _, b => by rw [List.drop_nil]; rfl
 | x :: l, k + 1, h, b => by
  rw [authT, if_neg (h 0 x rfl (by omega)), List.drop_succ_cons, authT_skip (l := l) (k := k) (fun j y hj hk => h (j + 1) y (by simpa using hj) (by omega)) (b + 1)]
  congr 1; omega
theorem authT_at {u p : ByteArray} {l : Tns} {k : Nat} {x : ByteArray × ByteArray} (h : ∀ (j : Nat) (y : ByteArray × ByteArray), l[j]? = some y -> j < k -> ¬ (y.1 = u /\ y.2 = p)) (hx : l[k]? = some x) (e : x.1 = u /\ x.2 = p) : authT u p l 0 = some k := by
 rw [authT_skip h 0]
 have hk : k < l.length := (List.getElem?_eq_some_iff.1 hx).1
 rw [List.drop_eq_getElem_cons hk, (List.getElem?_eq_some_iff.1 hx).2, authT, if_pos e, Nat.zero_add]
theorem authT_no {u p : ByteArray} {l : Tns} (h : ∀ (j : Nat) (y : ByteArray × ByteArray), l[j]? = some y -> ¬ (y.1 = u /\ y.2 = p)) : authT u p l 0 = none := by
 rw [authT_skip (k := l.length) (fun j y hj _ => h j y hj) 0, List.drop_length]; rfl
open Go.RowKit Go.Joins
theorem res2t {fn : Func} {t u : Tmp} (h : fn.results = #[.tmp t, .tmp u]) {tmps : Array Value} {w : World} : (results fn tmps).run Tryz.prog w = .ok (.tuple #[tmps.getD t undef, tmps.getD u undef]) w := by
 simp [results, h, Sem.run_bind]
def authV2 (o : Option Nat) : Value := match o with
 | some i => .tuple #[.int .i64 i, .bool true]
 | none => .tuple #[.int .i64 0, .bool false]
def authV1 (o : Option Nat) : Value := match o with
 | some i => .int .i64 i
 | none => .int .i64 (-1)
theorem pauth_any (u p : ByteArray) (tn : Tns) (htn : tn.length <= 1000000) (g : Nat) (w : World) (h : RegP w g tn) : Calls Tryz.prog 104 #[.pointer (some ⟨g, 0, none⟩), .string u, .string p] w fun e w' => e = .returned (authV2 (authT u p tn 0)) /\ w = w' := by
 obtain ⟨g2, cap, es, hcap, hg, hE⟩ := h
 have HE := Lib.hid hE
 clear hE
 go_enter Tryz.func104, Tryz.ntmps104
 go_wp2_with fail
 go_loop [8, 9, 15] (fun _ _ i => ∃ k : Nat, k <= tn.length /\ i = .int .i64 k /\ ∀ (j : Nat) (y : ByteArray × ByteArray), tn[j]? = some y -> j < k -> ¬ (y.1 = u /\ y.2 = p)) (fun _ _ i => tn.length - (intOf i).toNat)
 case atStart => exact ⟨0, Nat.zero_le _, rfl, fun j y hj hk => by omega⟩
 case round =>
  obtain ⟨k, hk, rfl, hj⟩ := hrel
  have HJ := Lib.hid hj
  clear hj
  by_cases hlt : k < tn.length
  ·have hlt' : (k : Int) < tn.length := by omega
   have HX : Hid (tn[k]? = some (tn[k]'hlt)) := Lib.hid (List.getElem?_eq_getElem hlt)
   obtain ⟨c1, c2, c3⟩ := HE.out k _ HX.out
   generalize tn[k]'hlt = x at *
   obtain ⟨x1, x2⟩ := x
   simp only at c2 c3
   have b1 := @toList_beq x1 u
   have b2 := @toList_beq x2 p
   by_cases e1 : x1 = u
   ·rw [decide_eq_true e1] at b1
    by_cases e2 : x2 = p
    ·rw [decide_eq_true e2] at b2
     have R : Hid (authT u p tn 0 = some k) := Lib.hid (authT_at HJ.out HX.out ⟨e1, e2⟩)
     clear e1 e2
     go_wp2_with fail
     (refine bodyPost_ret (res2t rfl) rfl ⟨by rw [R.out]; rfl, rfl⟩)
    ·rw [decide_eq_false e2] at b2
     have HG : Hid (∀ (j : Nat) (y : ByteArray × ByteArray), tn[j]? = some y -> j < k + 1 -> ¬ (y.1 = u /\ y.2 = p)) := Lib.hid (fun j y hj hk1 => by
      rcases Nat.lt_or_ge j k with q | q
      ·exact HJ.out j y hj q
      ·obtain rfl : j = k := by omega
       rw [HX.out] at hj; injection hj with hj; rw [← hj]; exact fun z => e2 z.2)
     clear e1 e2
     go_wp2_with fail
     go_round
     case rel => exact ⟨k + 1, by omega, by go_num, HG.out⟩
     case measure => simp [intOf]; omega
   ·rw [decide_eq_false e1] at b1
    have HG : Hid (∀ (j : Nat) (y : ByteArray × ByteArray), tn[j]? = some y -> j < k + 1 -> ¬ (y.1 = u /\ y.2 = p)) := Lib.hid (fun j y hj hk1 => by
     rcases Nat.lt_or_ge j k with q | q
     ·exact HJ.out j y hj q
     ·obtain rfl : j = k := by omega
      rw [HX.out] at hj; injection hj with hj; rw [← hj]; exact fun z => e1 z.1)
    clear e1 b2
    go_wp2_with fail
    go_round
    case rel => exact ⟨k + 1, by omega, by go_num, HG.out⟩
    case measure => simp [intOf]; omega
  ·obtain rfl : k = tn.length := by omega
   have R : Hid (authT u p tn 0 = none) := Lib.hid (authT_no (fun j y hj => HJ.out j y hj (List.getElem?_eq_some_iff.1 hj).1))
   have hnl : ¬ ((tn.length : Nat) : Int) < tn.length := by omega
   go_wp2_with fail
   refine bodyPost_ret (res2t rfl) rfl ⟨by rw [R.out]; rfl, rfl⟩
theorem rauthT_any (u p : ByteArray) (tn : Tns) (htn : tn.length <= 1000000) (g : Nat) (w : World) (h : RegR w g tn) : Calls Tryz.prog 111 #[.pointer (some ⟨g, 0, none⟩), .string u, .string p] w fun e w' => e = .returned (authV1 (authT u p tn 0)) /\ w = w' := by
 obtain ⟨g2, cap, hcap, hg, hE⟩ := h
 have HE := Lib.hid hE
 clear hE
 go_enter Tryz.func111, Tryz.ntmps111
 go_wp2_with fail
 go_loop [7] (fun i => ∃ k : Nat, k <= tn.length /\ i = .int .i64 k /\ ∀ (j : Nat) (y : ByteArray × ByteArray), tn[j]? = some y -> j < k -> ¬ (y.1 = u /\ y.2 = p)) (fun i => tn.length - (intOf i).toNat)
 case atStart => exact ⟨0, Nat.zero_le _, rfl, fun j y hj hk => by omega⟩
 case round =>
  obtain ⟨k, hk, rfl, hj⟩ := hrel
  have HJ := Lib.hid hj
  clear hj
  by_cases hlt : k < tn.length
  ·have hlt' : (k : Int) < tn.length := by omega
   have HX : Hid (tn[k]? = some (tn[k]'hlt)) := Lib.hid (List.getElem?_eq_getElem hlt)
   obtain ⟨c2, c3⟩ := HE.out k _ HX.out
   generalize tn[k]'hlt = x at *
   obtain ⟨x1, x2⟩ := x
   simp only at c2 c3
   have b1 := @toList_beq x1 u
   have b2 := @toList_beq x2 p
   by_cases e1 : x1 = u
   ·rw [decide_eq_true e1] at b1
    by_cases e2 : x2 = p
    ·rw [decide_eq_true e2] at b2
     have R : Hid (authT u p tn 0 = some k) := Lib.hid (authT_at HJ.out HX.out ⟨e1, e2⟩)
     clear e1 e2
     go_wp2_with fail
     (go_ret; exact ⟨by rw [R.out]; rfl, rfl⟩)
    ·rw [decide_eq_false e2] at b2
     have HG : Hid (∀ (j : Nat) (y : ByteArray × ByteArray), tn[j]? = some y -> j < k + 1 -> ¬ (y.1 = u /\ y.2 = p)) := Lib.hid (fun j y hj hk1 => by
      rcases Nat.lt_or_ge j k with q | q
      ·exact HJ.out j y hj q
      ·obtain rfl : j = k := by omega
       rw [HX.out] at hj; injection hj with hj; rw [← hj]; exact fun z => e2 z.2)
     clear e1 e2
     go_wp2_with fail
     go_round
     case rel => exact ⟨k + 1, by omega, by go_num, HG.out⟩
     case measure => simp [intOf]; omega
   ·rw [decide_eq_false e1] at b1
    have HG : Hid (∀ (j : Nat) (y : ByteArray × ByteArray), tn[j]? = some y -> j < k + 1 -> ¬ (y.1 = u /\ y.2 = p)) := Lib.hid (fun j y hj hk1 => by
     rcases Nat.lt_or_ge j k with q | q
     ·exact HJ.out j y hj q
     ·obtain rfl : j = k := by omega
      rw [HX.out] at hj; injection hj with hj; rw [← hj]; exact fun z => e1 z.1)
    clear e1 b2
    go_wp2_with fail
    go_round
    case rel => exact ⟨k + 1, by omega, by go_num, HG.out⟩
    case measure => simp [intOf]; omega
  ·obtain rfl : k = tn.length := by omega
   have R : Hid (authT u p tn 0 = none) := Lib.hid (authT_no (fun j y hj => HJ.out j y hj (List.getElem?_eq_some_iff.1 hj).1))
   have hnl : ¬ ((tn.length : Nat) : Int) < tn.length := by omega
   go_wp2_with fail
   go_ret; exact ⟨by rw [R.out]; rfl, rfl⟩
open Go.RowKit Go.Joins
def pz (f : Bool) : Cx.Pfx := ((f, zadr.2), 0)
theorem okP_pz (f : Bool) : Cx.okP (pz f) := ⟨⟨okA_zadr.1, okA_zadr.2⟩, by unfold Cx.i64ok pz; simp only; omega⟩
theorem okA_pz (f : Bool) : okA (pz f).1 := (okP_pz f).1
theorem valid_pz (f : Bool) : Cx.validP (pz f) = true := by cases f <;> decide +kernel
theorem prefix_pz (f : Bool) : Cx.prefixOf (pz f).1 0 = (pz f, true) := by cases f <;> decide +kernel
def rt8 (f : Bool) : Nat := if f then 1 else 0
abbrev TrB (w : World) (t : Nat) (a b : Value) (n : Int) : Prop := Blk w t [a, b, .int .i64 n] 166
def rootV (f : Bool) (a b : Value) : Value := if f then b else a
theorem TrB.root {w : World} {t : Nat} {a b : Value} {n : Int} (h : TrB w t a b n) (f : Bool) : w.cell? ⟨t, rt8 f, none⟩ = some (rootV f a b) := by cases f <;> exact Blk.cell h rfl
theorem TrB.setRoot {w : World} {t : Nat} {a b : Value} {n : Int} (h : TrB w t a b n) (f : Bool) (v : Value) : TrB (w.setCell ⟨t, rt8 f, none⟩ v) t (if f then a else v) (if f then v else b) n := by
 have := Blk.set h (rt8 f) v
 cases f <;> exact this
theorem TrB.setN {w : World} {t : Nat} {a b : Value} {n : Int} (h : TrB w t a b n) (m : Int) : TrB (w.setCell ⟨t, 2, none⟩ (.int .i64 m)) t a b m := Blk.set h 2 (.int .i64 m)
theorem troot_any (t : Nat) (p : Adr) (hp : okA p) (w : World) : Calls Tryz.prog 124 #[.pointer (some ⟨t, 0, none⟩), av p] w fun e w' => e = .returned (.pointer (some ⟨t, rt8 p.1, none⟩)) /\ Ext w w' := by
 unfold av
 go_enter Tryz.func124, Tryz.ntmps124
 go_upto_region 1 with fail
 have hb := Blk.new w (ac p) 41
 have hx := (Ext.refl w).alloc (.cells (ac p) 41)
 generalize w.alloc (.cells (ac p) 41) = w0 at *
 have c0 : w0.cell? ⟨w.heap.size, 0, none⟩ = some (.bool p.1) := Blk.cell hb rfl
 generalize w.heap.size = b at *
 cases hf : p.1 with
 | false =>
  rw [hf] at c0
  have R : Hid (rt8 p.1 = 0) := Lib.hid (by rw [hf]; rfl)
  clear hf
  go_wp2_with fail
  go_ret; exact ⟨by rw [R.out]; rfl, hx⟩
 | true =>
  rw [hf] at c0
  have R : Hid (rt8 p.1 = 1) := Lib.hid (by rw [hf]; rfl)
  clear hf
  go_wp2_with fail
  go_ret; exact ⟨by rw [R.out]; rfl, hx⟩
theorem tfind_any (t : Nat) (p : Cx.Pfx) (hp : Cx.okP p) (h0 : p.2 = 0) (w : World) : Calls Tryz.prog 147 #[.pointer (some ⟨t, 0, none⟩), Cx.pv p] w fun e w' => e = .returned (.pointer (some ⟨t, rt8 p.1.1, none⟩)) /\ Ext w w' := by
 have KR := Lib.hid (fun w => troot_any t p.1 hp.1 w)
 have H0 := Lib.hid h0
 clear h0
 unfold Cx.pv
 go_enter Tryz.func147, Tryz.ntmps147
 go_upto_region 1 with fail
 have hb : Cx.PBlk _ w.heap.size p := Blk.new w (Cx.pc p) 111
 have hx := (Ext.refl w).alloc (.cells (Cx.pc p) 111)
 generalize w.alloc (.cells (Cx.pc p) 111) = w0 at *
 generalize w.heap.size = b at *
 go_upto_region 2 with (first | refine Cx.wpList_load_PA rfl _ rfl hp hb rfl ?_ | (go_at_call 124; refine (KR.out _).mono ?_; rintro e w1 ⟨rfl, hx1⟩))
 have c0 := Cx.PBlk.bits hp (Blk.ext hb hx1)
 rw [H0.out] at c0
 go_wp2_with fail
 go_loop [5, 6] (fun v i => v = .pointer (some ⟨t, rt8 p.1.1, none⟩) /\ i = .int .i64 0) (fun _ i => 0)
 case atStart => exact ⟨rfl, rfl⟩
 case round =>
  obtain ⟨rfl, rfl⟩ := hrel
  go_wp2_with fail
  go_ret; exact ⟨rfl, hx.trans hx1⟩
theorem tlookup_any (t : Nat) (p : Cx.Pfx) (hp : Cx.okP p) (h0 : p.2 = 0) (hv : Cx.validP p = true) {w : World} {a b : Value} {n : Int} (ht : TrB w t a b n) (hn : rootV p.1.1 a b = .pointer none) : Calls Tryz.prog 123 #[.pointer (some ⟨t, 0, none⟩), Cx.pv p] w fun e w' => e = .returned (.pointer none) /\ Ext w w' := by
 have KF := Lib.hid (fun w => tfind_any t p hp h0 w)
 have KV0 := fun w => Cx.cvalid_any p hp w
 rw [hv] at KV0
 have KV := Lib.hid KV0
 have HN := Lib.hid hn
 clear h0 hv KV0 hn
 unfold Cx.pv
 go_enter Tryz.func123, Tryz.ntmps123
 go_upto_region 1 with fail
 have hb : Cx.PBlk _ w.heap.size p := Blk.new w (Cx.pc p) 111
 have hx := (Ext.refl w).alloc (.cells (Cx.pc p) 111)
 have ht0 := Blk.ext ht hx
 generalize w.alloc (.cells (Cx.pc p) 111) = w0 at *
 generalize w.heap.size = bq at *
 go_upto_region 3 with (first | refine Cx.wpList_load_P rfl _ rfl hp hb rfl ?_ | (go_at_call 121; refine (KV.out _).mono ?_; rintro e w1 ⟨rfl, hx1⟩))
 have hb1 := Blk.ext hb hx1
 go_upto_region 4 with (first | refine Cx.wpList_load_P rfl _ rfl hp hb1 rfl ?_ | (go_at_call 147; refine (KF.out _).mono ?_; rintro e w2 ⟨rfl, hx2⟩; have c0 := TrB.root (Blk.ext (Blk.ext ht0 hx1) hx2) p.1.1; rw [HN.out] at c0))
 go_wp2_with fail
 go_ret; exact ⟨rfl, (hx.trans hx1).trans hx2⟩
theorem tget_any (t : Nat) (p : Cx.Pfx) (hp : Cx.okP p) (h0 : p.2 = 0) (hv : Cx.validP p = true) {w : World} {a b : Value} {n : Int} (ht : TrB w t a b n) (hn : rootV p.1.1 a b = .pointer none) : Calls Tryz.prog 97 #[.pointer (some ⟨t, 0, none⟩), Cx.pv p] w fun e w' => e = .returned (.tuple #[.slice none 0 0, .bool false]) /\ Ext w w' := by
 have KL := Lib.hid (fun (w : World) (ht : TrB w t a b n) => tlookup_any t p hp h0 hv ht hn)
 clear h0 hv hn
 unfold Cx.pv
 go_enter Tryz.func97, Tryz.ntmps97
 go_upto_region 1 with fail
 have hb : Cx.PBlk _ w.heap.size p := Blk.new w (Cx.pc p) 111
 have hx := (Ext.refl w).alloc (.cells (Cx.pc p) 111)
 have KL0 := Lib.hid (KL.out _ (Blk.ext ht hx))
 generalize w.alloc (.cells (Cx.pc p) 111) = w0 at *
 generalize w.heap.size = bq at *
 go_wp2_with (first | refine Cx.wpList_load_P rfl _ rfl hp hb rfl ?_ | (go_at_call 123; refine KL0.out.mono ?_; rintro e w1 ⟨rfl, hx1⟩))
 exact bodyPost_ret (res2t rfl) rfl ⟨rfl, hx.trans hx1⟩
theorem tnew_any (w : World) : Calls Tryz.prog 95 #[] w fun e w' => e = .returned (.pointer (some ⟨w.heap.size, 0, none⟩)) /\ Ext w w' /\ TrB w' w.heap.size (.pointer none) (.pointer none) 0 := by
 go_enter Tryz.func95, Tryz.ntmps95
 go_wp2_with fail
 go_ret
 exact ⟨rfl, (Ext.refl w).alloc _, Blk.new w #[.pointer none, .pointer none, .int .i64 0] 166⟩
def InsP (w : World) (t : Nat) (f : Bool) (a b : Value) (n : Int) (e : Ending) (w' : World) : Prop := ∃ m : Nat, e = .returned (.bool true) /\ Keep [t] w w' /\ TrB w' t (if f then a else .pointer (some ⟨m, 0, none⟩)) (if f then .pointer (some ⟨m, 0, none⟩) else b) (n + 1)
theorem Keep.set1 {t : Nat} {w w' : World} (h : Keep [t] w w') (i : Nat) (v : Value) : Keep [t] w (w'.setCell ⟨t, i, none⟩ v) := h.setCell (.inl (by simp)) v
def nodeL (f : Bool) : List Value := (Cx.pc (pz f)).toList ++ [.bool false, .slice none 0 0, .pointer none, .pointer none]
def nodeA (f : Bool) : Array Value := (nodeL f).toArray
theorem nodeC (f : Bool) (W : World) : (Instr.build 171 #[(0, .agg (Cx.pc (pz f)))]).run Tryz.prog W = .ok (.agg (nodeA f)) W := by
 cases f <;> kernel_rfl
theorem wpList_build_node {ops : Array Oper} {rest : List Oper} {o : Oper} {f : Act} {w : World} {Q : Exit -> Act -> World -> Prop} (hgd : o.guard = none) (x : Operand) (ho : o.op = .build 171 #[(0, x)]) {fm : Bool} (hx : f.eval x = .agg (Cx.pc (pz fm)))
  (h : wpList Tryz.prog ops Q rest (f.put o.dst (.agg (nodeA fm))) w) : wpList Tryz.prog ops Q (o :: rest) f w :=
 wpList_plain hgd fun K hK => by
  have e := nodeC fm w
  unfold Oper.wp execOp
  simp [ho, hx, e]
  exact hK _ _ h
theorem tins_any (t : Nat) (f : Bool) (xa : Option Addr) (xn xc : Nat) {w : World} {a b : Value} {n : Int} (hn : 0 <= n /\ n <= 1000) (ht : TrB w t a b n) (h0 : rootV f a b = .pointer none) : Calls Tryz.prog 98 #[.pointer (some ⟨t, 0, none⟩), Cx.pv (pz f), .slice xa xn xc] w fun e w' => InsP w t f a b n e w' := by
 have KR := Lib.hid (fun w => troot_any t (pz f).1 (okA_pz f) w)
 have KV0 := fun w => Cx.cvalid_any (pz f) (okP_pz f) w
 rw [valid_pz] at KV0
 have KV := Lib.hid KV0
 have KP0 := fun w => Cx.cprefix_any (pz f).1 (okA_pz f) 0 (by unfold Cx.i64ok; omega) w
 rw [prefix_pz] at KP0
 have KP := Lib.hid KP0
 clear KV0 KP0
 have hp := okP_pz f
 have htl := Blk.lt ht
 have H0 := Lib.hid h0
 clear h0
 unfold Cx.pv
 go_enter Tryz.func98, Tryz.ntmps98
 go_upto_region 1 with fail
 have hb : Cx.PBlk _ w.heap.size (pz f) := Blk.new w (Cx.pc (pz f)) 111
 have hx := (Ext.refl w).alloc (.cells (Cx.pc (pz f)) 111)
 have ht0 := Blk.ext ht hx
 generalize w.alloc (.cells (Cx.pc (pz f)) 111) = w0 at *
 have hbw : w.heap.size <= w.heap.size := Nat.le_refl _
 generalize hbq : w.heap.size = bq at hb ⊢ htl
 go_upto_region 3 with (first | refine Cx.wpList_load_P rfl _ rfl hp hb rfl ?_ | (go_at_call 121; refine (KV.out _).mono ?_; rintro e w1 ⟨rfl, hx1⟩))
 have hb1 := Blk.ext hb hx1
 go_upto_region 4 with (first | refine Cx.wpList_load_PA rfl _ rfl hp hb1 rfl ?_ | (go_at_call 124; refine (KR.out _).mono ?_; rintro e w2 ⟨rfl, hx2⟩))
 have hb2 := Blk.ext hb1 hx2
 have ht2 := Blk.ext (Blk.ext ht0 hx1) hx2
 have hxx := (hx.trans hx1).trans hx2
 clear hb hb1 hx hx1 hx2 ht0
 have e8 : rt8 (pz f).1.1 = rt8 f := rfl
 rw [e8]
 clear e8
 go_wp2_with fail
 go_loop [7, 8] (fun v i => v = .pointer (some ⟨t, rt8 f, none⟩) /\ i = .int .i64 0) (fun _ i => 0)
 case atStart => exact ⟨rfl, rfl⟩
 case round =>
  obtain ⟨rfl, rfl⟩ := hrel
  have c0 := TrB.root ht2 f
  rw [H0.out] at c0
  go_upto_region 7 with fail
  clear c0
  go_upto_region 8 with (first | refine Cx.wpList_load_PA rfl _ rfl hp hb2 rfl ?_ | (go_at_call 125; refine (KP.out _).mono ?_; rintro e w3 ⟨rfl, hx3⟩; have hbn : Cx.PBlk _ w3.heap.size Cx.zpfx := Blk.new w3 (Cx.pc Cx.zpfx) 111) | refine Cx.wpList_store_P rfl _ _ rfl Cx.okP_zpfx hp hbn rfl rfl ?_)
  rw [← Cx.pc_zero, World.setRow_alloc_new]
  clear hbn
  have hx4 := hx3.alloc (.cells (Cx.pc (pz f)) 111)
  have hbn4 : Cx.PBlk _ w3.heap.size (pz f) := Blk.new w3 (Cx.pc (pz f)) 111
  have hb4 := Blk.ext hb2 hx4
  have ht4 := Blk.ext ht2 hx4
  have hxx4 := hxx.trans hx4
  clear hb2 ht2 hxx hx3 hx4
  generalize w3.alloc (.cells (Cx.pc (pz f)) 111) = w4 at *
  generalize w3.heap.size = bn at *
  have hl4 := Blk.lt ht4
  have c4 := TrB.root ht4 f
  rw [H0.out] at c4
  have f4 := Blk.free ht4 (rt8 f)
  have htm : t ≠ w4.heap.size := by omega
  have htb : t ≠ bq := by omega
  have hml : w.heap.size <= w4.heap.size := hxx4.size
  have hbl := Blk.lt hb4
  have hS := TrB.setRoot ht4 f (.pointer (some ⟨w4.heap.size, 0, none⟩))
  have hbS := Blk.set_ne hb4 ⟨t, rt8 f, none⟩ htb (.pointer (some ⟨w4.heap.size, 0, none⟩))
  have hkS : Keep [t] w (w4.setCell ⟨t, rt8 f, none⟩ (.pointer (some ⟨w4.heap.size, 0, none⟩))) := Keep.set1 (hxx4.keep _) _ _
  have hsz : (w4.setCell ⟨t, rt8 f, none⟩ (.pointer (some ⟨w4.heap.size, 0, none⟩))).heap.size = w4.heap.size := by simp [World.setCell]
  have hx5 := (Ext.refl (w4.setCell ⟨t, rt8 f, none⟩ (.pointer (some ⟨w4.heap.size, 0, none⟩)))).alloc (.cells (nodeA f) 171)
  have hN6 : Blk _ _ (nodeL f) 171 := Blk.new (w4.setCell ⟨t, rt8 f, none⟩ (.pointer (some ⟨w4.heap.size, 0, none⟩))) (nodeA f) 171
  rw [hsz] at hN6
  have ht6 := Blk.ext hS hx5
  have hb6 := Blk.ext hbS hx5
  have hk6 := hkS.trans (hx5.keep _)
  clear hx5 ht4 hb4 hxx4 hS hbS hkS hsz
  go_upto_region 9 with (first | refine Cx.wpList_load_P rfl _ rfl hp hbn4 rfl ?_ | refine wpList_build_node rfl _ rfl rfl ?_)
  clear c4 f4 hbn4
  generalize ((w4.setCell ⟨t, rt8 f, none⟩ (.pointer (some ⟨w4.heap.size, 0, none⟩))).alloc (.cells (nodeA f) 171)) = w6 at *
  generalize w4.heap.size = m at *
  have c9 : w6.cell? ⟨bq, 17, none⟩ = some (.int .i64 0) := Cx.PBlk.bits hp hb6
  have c11 : w6.cell? ⟨t, rt8 f, none⟩ = some (.pointer (some ⟨m, 0, none⟩)) := by
   have := TrB.root ht6 f
   cases f <;> exact this
  have c12 : w6.cell? ⟨m, 18, none⟩ = some (.bool false) := Blk.cell hN6 (by cases f <;> rfl)
  have d12 : ∃ v, w6.cell? ⟨m, 19, none⟩ = some v := ⟨.slice none 0 0, Blk.cell hN6 (by cases f <;> rfl)⟩
  have c19 : w6.cell? ⟨m, 19, none⟩ = some (.slice none 0 0) := Blk.cell hN6 (by cases f <;> rfl)
  have c13 : w6.cell? ⟨t, 2, none⟩ = some (.int .i64 n) := Blk.cell ht6 rfl
  have f13 := Blk.free ht6 2
  have f18 := Blk.free hN6 18
  have f19 := Blk.free hN6 19
  have K7 := Lib.hid (TrB.setN ht6 (n + 1))
  have KK := Lib.hid hk6
  clear d12 hk6 ht6 hN6 hb6
  go_wp2_with fail
  go_ret
  refine ⟨m, rfl, ?_, ?_⟩
  ·exact Keep.setCell (Keep.setCell (Keep.set1 KK.out 2 _) (.inr hml) _) (.inr hml) _
  ·exact Blk.set_ne (Blk.set_ne K7.out ⟨m, 18, none⟩ (Ne.symm htm) _) ⟨m, 19, none⟩ (Ne.symm htm) _
end Go.Proofs.YtnohnnjeabehjaaGreatDoor
