/-
  Several texts joined: RgA, Rgs, IpF, IpX, IpFm, IpFn, IpR.
-/
import Derived.Test.YtnohnnjeabehjaaGreatDoorK03
import Derived.Test.YtnohnnjeabehjaaGreatDoorK01
import Derived.Laws.AppendOwn
import Derived.Laws.OwnMore
import Derived.Laws.BitsLemmas
import Derived.Lib.SmallJoins
import Derived.Lib.AppendStr
import Derived.Lib.AppendIntMem
import Derived.Lib.ItoaLen
set_option maxHeartbeats 4000000
set_option maxRecDepth 4000
set_option linter.unusedVariables false
set_option linter.unusedSimpArgs false
namespace Go.Proofs.YtnohnnjeabehjaaGreatDoor
open Go.RowKit
section
variable {ops : Array Oper} {Q : Exit -> Act -> World -> Prop} {md : Region.Mode} {w0 : World}
theorem goV_loadA {o : Oper} {rest : List Oper} {i : Nat} {plan : List Yld} {A : (Nat -> Value) -> Act} (hw : ∀ u, Region.wanted o (yielded ops (A u).tmps) = true) (x : Operand) (ho : o.op = .load 41 x)
  {b : Nat} {a : Adr} (ha : okA a) (hb : ∀ w, Ext w0 w -> Blk w b (ac a).toList 41) (hx : ∀ u, (A u).eval x = .pointer (some ⟨b, 0, none⟩))
  (k : goV Tryz.prog ops Q md w0 rest (i + 1) (plan ++ [.val (.agg (ac a))]) (fun u => (A u).put o.dst (.agg (ac a)))) : goV Tryz.prog ops Q md w0 (o :: rest) i plan A :=
 goV_val _ hw (fun u w hx' _ => by
  have e := load_A ha (hb w hx')
  unfold execOp
  rw [ho]
  simp only [hx, Sem.run_bind, e, Result.andThen_ok, Sem.run_pure]) k
end
section
variable {P : Program} {ops : Array Oper} {Q : Exit -> Act -> World -> Prop} {md : Region.Mode} {w0 : World}
theorem wpList_of_goV : ∀ (l : List Oper) (i : Nat) (plan : List Yld) (A : (Nat -> Value) -> Act), goV P ops Q md w0 l i plan A -> plan.length = i -> (∀ s ∈ plan, s.ok) ->
  (∀ u u' : Nat -> Value, (∀ j, j < i -> u j = u' j) -> A u = A u') -> ∀ u w, Ext w0 w -> (∀ (j : Nat) (s : Yld), plan[j]? = some s -> s.V (u j) w) -> wpList P ops Q l (A u) w
 | [], i, plan, A, h, hp, hok, hA, u, w, hx, hV => h u w hx (holdsAt_all fun j _ s hs => hV j s hs)
 | o :: l, i, plan, A, h, hp, hok, hA, u, w, hx, hV => by
  obtain ⟨s, hs, h1, h2⟩ := h
  have ho := h1 u w hx (holdsAt_all fun j _ s hs => hV j s hs)
  have next : ∀ x w', Ext w w' -> s.V x w' -> wpList P ops Q l ((A u).put o.dst x) w' := fun x w' hx' hv => by
   have hu : A u = A (fun j => if j = i then x else u j) := hA _ _ fun j hj => by simp only [if_neg (show ¬ j = i by omega)]
   have := wpList_of_goV l (i + 1) (plan ++ [s]) _ h2 (by rw [List.length_append, hp]; rfl) (fun t ht => by
    rcases List.mem_append.1 ht with ht | ht
    ·exact hok t ht
    ·rw [List.mem_singleton] at ht; rw [ht]; exact hs) (fun u u' huu => by
    rw [hA u u' (fun j hj => huu j (by omega)), huu i (by omega)]) (fun j => if j = i then x else u j) w' (hx.trans hx') (fun j t ht => by
    rcases Nat.lt_trichotomy j plan.length with hj | hj | hj
    ·rw [List.getElem?_append_left hj] at ht
     simp only [if_neg (show ¬ j = i by omega)]
     exact (hok t (List.mem_of_getElem? ht)).stay _ _ _ (hV j t ht) hx'
    ·rw [List.getElem?_append_right (by omega), show j - plan.length = 0 by omega] at ht
     cases ht
     simp only [if_pos (show j = i by omega)]; exact hv
    ·rw [List.getElem?_append_right (by omega)] at ht
     obtain ⟨q, hq⟩ : ∃ q, j - plan.length = q + 1 := ⟨j - plan.length - 1, by omega⟩
     rw [hq] at ht; simp at ht)
   simp only [if_true, Yld.at_eq hs hv] at this
   rw [← hu] at this
   exact this
  unfold wpList
  rcases ho with ⟨hw, hv⟩ | ⟨hw, hv⟩
  ·simp only [hw, if_true, Oper.wp]
   left
   generalize (execOp (A u).eval o).run P w = r at *
   unfold OutV at hv
   split at hv
   ·exact next _ _ hv.1 hv.2
   ·exact Calls.mono hv.2 fun e w'' he => by
     obtain ⟨x, rfl, k1, k2⟩ := he
     exact next _ _ (hv.1.trans k1) k2
   ·exact Rows.mono hv.2 fun x w'' he => next _ _ (hv.1.trans he.1) he.2
   ·exact hv.elim
  ·simp only [hw, Bool.false_eq_true, if_false]; exact next _ _ (Ext.refl _) hv
theorem wp_region_rgs {id : Nat} {l : List Oper} {a : Act} {w : World} (h : goV P l.toArray Q .any w l 0 [] (fun _ => a)) : (Code.region id l.toArray false).wp P Q a w :=
 wp_region_lit (wpList_of_goV l 0 [] _ h rfl (fun s hs => by cases hs) (fun _ _ _ => rfl) (fun _ => undef) w (Ext.refl _) (fun j s hs => by simp at hs))
end
open Go.RowKit
theorem wpList_load_Ag {ops : Array Oper} {rest : List Oper} {o : Oper} {f : Act} {w : World} {Q : Exit -> Act -> World -> Prop} (hw : Region.wanted o (yielded ops f.tmps) = true) (x : Operand) (ho : o.op = .load 41 x)
  {b : Nat} {a : Adr} (ha : okA a) (hb : Blk w b (ac a).toList 41) (hx : f.eval x = .pointer (some ⟨b, 0, none⟩)) (h : wpList Tryz.prog ops Q rest (f.put o.dst (.agg (ac a))) w) : wpList Tryz.prog ops Q (o :: rest) f w := by
 refine wpList_step fun K hK => ?_
 rw [if_pos hw]
 have := wp_load_mid (P := Tryz.prog) (op := o) (a := f) (w := w) (K := K) (Q := Q) 41 x ho b 0 hx (ac a).toList _ (fun j v hj => by rw [Nat.zero_add]; exact hb.cell hj) Tryz.underlying41 rfl (by rw [info_A, Array.length_toList, ac_size ha])
 exact this (hK _ _ h)
theorem zrun_stop (l : List Int) : ∀ (f i k : Nat), i <= k -> k <= i + f -> (∀ j, i <= j -> j < k -> grp l j = 0) -> (k = i + f ∨ grp l k ≠ 0) -> zrun l f i = k - i
 | 0, i, k, h1, h2, _, _ => by rw [zrun]; omega
 | f + 1, i, k, h1, h2, h3, h4 => by
  rw [zrun]
  by_cases h : k = i
  ·subst h
   rw [if_neg]
   ·omega
   ·rcases h4 with h4 | h4
    ·omega
    ·exact h4
  ·rw [if_pos (h3 i (Nat.le_refl _) (by omega)), zrun_stop l f (i + 1) k (by omega) (by omega) (fun j a b => h3 j (by omega) b) (by rcases h4 with h4 | h4; exact .inl (by omega); exact .inr h4)]
   omega
theorem zr_stop {l : List Int} {i k : Nat} (h1 : i <= k) (h2 : k <= 8) (h3 : ∀ j, i <= j -> j < k -> grp l j = 0) (h4 : k = 8 ∨ grp l k ≠ 0) : zr l i = k - i :=
 zrun_stop l (8 - i) i k h1 (by omega) h3 (by rcases h4 with h4 | h4; exact .inl (by omega); exact .inr h4)
theorem zrun_le (l : List Int) : ∀ (f i : Nat), zrun l f i <= f
 | 0, _ => Nat.le_refl _
 | f + 1, i => by rw [zrun]; split; have := zrun_le l f (i + 1); omega; omega
theorem zr_le (l : List Int) (i : Nat) : zr l i <= 8 - i := zrun_le _ _ _
theorem best_bd (l : List Int) : ∀ i, i <= 8 -> (best l i = (-1, 1) ∨ (0 <= (best l i).1 /\ (best l i).1 < i /\ 2 <= (best l i).2 /\ (best l i).1 + (best l i).2 <= 8))
 | 0, _ => .inl rfl
 | i + 1, h => by
  have ih := best_bd l i (by omega)
  have hz := zr_le l i
  rw [best]
  by_cases hc : (best l i).2 < zr l i
  ·rw [if_pos hc]
   right
   rcases ih with ih | ih
   ·rw [ih] at hc; simp at hc ⊢; omega
   ·simp; omega
  ·rw [if_neg hc]
   rcases ih with ih | ih
   ·exact .inl ih
   ·right; omega
open Go.RowKit Go.Joins
def bcells (l : List UInt8) : List Value := l.map fun c => Value.int .u8 c.toNat
theorem bcells_app (a b : List UInt8) : bcells (a ++ b) = bcells a ++ bcells b := by simp [bcells]
theorem hexT_small {n : Nat} (h : n < 16) : hexT n = [hexc n] := by rw [hexT, dif_pos h]
theorem hexT_big {n : Nat} (h : ¬ n < 16) : hexT n = hexT (n / 16) ++ [hexc (n % 16)] := by rw [hexT, dif_neg h]
theorem hexT_len {n : Nat} (h : n < 65536) : (hexT n).length <= 4 := by
 by_cases h1 : n < 16
 ·rw [hexT_small h1]; simp
 rw [hexT_big h1]
 by_cases h2 : n / 16 < 16
 ·rw [hexT_small h2]; simp
 rw [hexT_big h2]
 by_cases h3 : n / 16 / 16 < 16
 ·rw [hexT_small h3]; simp
 rw [hexT_big h3, hexT_small (n := n / 16 / 16 / 16) (by omega)]; simp
theorem hexT_pos (n : Nat) : 1 <= (hexT n).length := by
 by_cases h1 : n < 16
 ·rw [hexT_small h1]; simp
 ·rw [hexT_big h1]; simp
theorem info8 : (Tryz.prog.info? 5).map (fun i => (i.zero, i.size, i.bytes)) = some (some (.int .u8 0), 1, 1) := by kernel_rfl
theorem own_sliceX {w : World} {B : Nat} {e : TypeId} {v : Value} {n : Nat} {xs : List Value} (h : w.ownsRow B e 1 v n xs) : ∃ a cap, v = .slice a n cap := by
 obtain ⟨_, h4⟩ := h
 rcases h4 with ⟨rfl, hn⟩ | ⟨g, cap, cur, rfl, _, _, hc, _⟩
 ·exact ⟨none, 0, by rw [hn]⟩
 ·exact ⟨_, cap, rfl⟩
open Go.RowKit Go.Joins
structure Tabs (w : World) : Prop where
 tz : w.cell? ⟨3, 15, none⟩ = some (.int .u8 4)
 p10 : Lib.TabIs Tryz.prog w "internal/strconv.uint64pow10" .u64 Lib.pow10Tab
theorem Tabs.ext {w w' : World} (h : Tabs w) (k : Ext w w') : Tabs w' :=
 ⟨by rw [k.cell (World.block_lt_of_cell? _ _ h.tz)]; exact h.tz, (Lib.tabBelow_of_tabIs h.p10) w' k⟩
theorem own_str {P : Program} {w : World} {B : Nat} {a : Option Addr} {n cap : Nat} {l : List UInt8} {src dst : TypeId} (h : w.ownsRow B 5 1 (.slice a n cap) n (bcells l)) (hs : P.underlying src = some (.slice 5)) (he : P.underlying 5 = some (.int .u8)) (hd : P.underlying dst = some .string) :
  (convert src dst (.slice a n cap)).run P w = .ok (.string (txt l)) w := by
 have hlen : l.length = n := by have := h.1; simpa [bcells] using this
 have h' := h
 obtain ⟨_, h4⟩ := h'
 rcases h4 with ⟨h5, hn⟩ | ⟨g, cap', cur, h5, _, _, hc, _⟩
 ·cases h5
  obtain rfl : l = [] := List.eq_nil_of_length_eq_zero hlen
  exact run_convert_bytes_nil w src 5 hs he 0 0 dst hd
 ·cases h5
  have e : strOfNums (l.map fun c => (c.toNat : Int)) = txt l := BA_ext (by
   rw [strOfNums_data, List.map_map]
   show _ = l
   conv => rhs; rw [← List.map_id l]
   refine List.map_congr_left fun x _ => ?_
   simp)
  rw [← e]
  refine run_convert_bytes_arg w src 5 hs he g 0 n cap (l.map fun c => (c.toNat : Int)) (by simp [hlen]) (fun i hi => ?_) dst hd
  have := h.cells (g := g) rfl i (.int .u8 (l.getD i 0).toNat) (by
   unfold bcells; rw [List.getElem?_map, List.getD_eq_getElem?_getD, List.getElem?_eq_getElem (by omega)]; rfl)
  rw [show (⟨g, 0, none⟩ : Addr).add i = ⟨g, i, none⟩ from by unfold Addr.add; split <;> simp_all] at this
  rw [Nat.zero_add, this]
  congr 2
  rw [List.getD_eq_getElem?_getD, List.getD_eq_getElem?_getD, List.getElem?_map, List.getElem?_eq_getElem (by omega)]; rfl
theorem tail6_at {l : List Int} {f m : Int} {k i : Nat} (h : i < 8) (he : (i : Int) = f) : tail6 l f m (k + 1) i = [58, 58] ++ tail6 l f m k (i + m.toNat) := by
 rw [tail6, if_neg (by omega), if_pos he]
theorem tail6_no {l : List Int} {f m : Int} {k i : Nat} (h : i < 8) (he : ¬ (i : Int) = f) : tail6 l f m (k + 1) i = (if 0 < i /\ (i : Int) ≠ f + m then [58] else []) ++ hexT (grp l i).toNat ++ tail6 l f m k (i + 1) := by
 rw [tail6, if_neg (by omega), if_neg he]
theorem tail6_end {l : List Int} {f m : Int} {k i : Nat} (h : 8 <= i) : tail6 l f m k i = [] := by
 cases k with
 | zero => rfl
 | succ k => rw [tail6, if_pos h]
theorem grp_bd {a : Adr} (ha : okA a) (i : Nat) : 0 <= grp a.2 i /\ grp a.2 i < 65536 := by
 have h1 := X_bd ha (2 * i)
 have h2 := X_bd ha (2 * i + 1)
 unfold X at h1 h2; unfold grp; omega
open Go.RowKit Go.Joins
open Go.RowKit
theorem validA_iff {a : Adr} (ha : okA a) (hf : a.1 = false) : validA a = true ↔ ∀ j, 4 <= j -> j < 16 -> X a j = 0 := by
 unfold validA; rw [hf, Bool.false_or, List.all_eq_true]
 constructor
 ·intro h j h4 hj
  have := h (X a j) (by
   unfold X
   rw [List.getD_eq_getElem?_getD, List.getElem?_eq_getElem (by rw [ha.1]; exact hj), Option.getD_some]
   exact List.mem_of_getElem? (i := j - 4) (by rw [List.getElem?_drop, show 4 + (j - 4) = j by omega, List.getElem?_eq_getElem (by rw [ha.1]; exact hj)]))
  simpa using this
 ·intro h x hx
  obtain ⟨i, hi, e⟩ := List.mem_iff_getElem.1 hx
  have hl : 4 + i < 16 := by have := ha.1; simp at hi; omega
  have := h (4 + i) (by omega) hl
  unfold X at this
  rw [List.getD_eq_getElem?_getD, List.getElem?_eq_getElem (by rw [ha.1]; exact hl), Option.getD_some] at this
  rw [List.getElem_drop] at e
  rw [← e]; exact decide_eq_true this
theorem rValid_any (a : Adr) (ha : okA a) (w : World) :
  Calls Tryz.prog 56 #[av a] w fun e w' => e = .returned (.bool (validA a)) /\ Ext w w' := by
 unfold av
 go_enter Tryz.func56, Tryz.ntmps56
 go_upto_region 1 with fail
 have hx := (Ext.refl w).alloc (.cells (ac a) 41)
 have hb := ABox.new ha w
 generalize w.alloc (.cells (ac a) 41) = w1 at *
 have c1 := hb.fam
 generalize w.heap.size = p at *
 cases hf : a.1 with
 | true =>
  have E : Hid (validA a = true) := Lib.hid (by unfold validA; rw [hf]; rfl)
  have HF := Lib.hid hf; clear hf
  clear c1
  go_wp2_with fail
  go_loopw [3] (fun i wr => i = .int .i64 4 /\ ABox wr p a /\ Ext w wr) (fun i _ => 0)
  case atStart => exact ⟨rfl, hb, hx⟩
  case round =>
   obtain ⟨rfl, hb, hx⟩ := hrel
   have c1 := hb.fam
   rw [HF.out] at c1
   go_wp2_with fail
   go_ret
   exact ⟨by rw [E.out]; rfl, by (repeat' (first | exact Ext.refl _ | assumption | refine Ext.alloc ?_ _ | refine Ext.drew ?_ | refine Ext.setCell ?_ (Nat.le_refl _) _ | refine Ext.setCell ?_ (Nat.le_add_right _ _) _ | refine Ext.drewN ?_ _ | refine Ext.trans ?_ (by assumption) | refine Ext.dr ?_ (by assumption)))⟩
 | false =>
  have V := Lib.hid (validA_iff ha hf)
  have HF := Lib.hid hf; clear hf
  rw [HF.out] at c1
  clear c1
  go_wp2_with fail
  go_loopw [3] (fun i wr => ∃ k : Nat, 4 <= k /\ k <= 16 /\ i = .int .i64 k /\ ABox wr p a /\ Ext w wr /\ Hid (∀ j, 4 <= j -> j < k -> X a j = 0)) (fun i _ => 16 - (intOf i).toNat)
  case atStart => exact ⟨4, by omega, by omega, rfl, hb, hx, Lib.hid (fun j h1 h2 => by omega)⟩
  case round =>
   obtain ⟨k, hk4, hk, rfl, hb, hx, hz⟩ := hrel
   have c1 := hb.fam
   rw [HF.out] at c1
   by_cases hlt : k < 16
   ·have hlt' : (k : Int) < 16 := by omega
    have d1 := hb.at' k hlt
    have xb := X_bd ha k
    by_cases h0 : X a k = 0
    ·have HZ : Hid (∀ j, 4 <= j -> j < k + 1 -> X a j = 0) := Lib.hid (fun j h1 h2 => by
      rcases Nat.lt_or_ge j k with h | h
      ·exact hz.out j h1 h
      ·obtain rfl : j = k := by omega
       exact h0)
     rw [h0] at d1
     clear h0
     go_wp2_with fail
     go_roundw
     case rel => exact ⟨k + 1, by omega, by omega, by go_num, hb, by (repeat' (first | exact Ext.refl _ | assumption | refine Ext.alloc ?_ _ | refine Ext.drew ?_ | refine Ext.setCell ?_ (Nat.le_refl _) _ | refine Ext.setCell ?_ (Nat.le_add_right _ _) _ | refine Ext.drewN ?_ _ | refine Ext.trans ?_ (by assumption) | refine Ext.dr ?_ (by assumption))), HZ⟩
     case measure => simp [intOf]; omega
    ·have E : Hid (validA a = false) := Lib.hid (by
      cases h : validA a with
      | false => rfl
      | true => exact absurd (V.out.1 h k hk4 hlt) h0)
     have hne : (X a k != 0) = true := by rw [bne_iff_ne]; exact h0
     generalize X a k = x at *
     go_wp2_with fail
     go_ret
     exact ⟨by rw [E.out]; rfl, by (repeat' (first | exact Ext.refl _ | assumption | refine Ext.alloc ?_ _ | refine Ext.drew ?_ | refine Ext.setCell ?_ (Nat.le_refl _) _ | refine Ext.setCell ?_ (Nat.le_add_right _ _) _ | refine Ext.drewN ?_ _ | refine Ext.trans ?_ (by assumption) | refine Ext.dr ?_ (by assumption)))⟩
   ·obtain rfl : k = 16 := by omega
    have E : Hid (validA a = true) := Lib.hid (V.out.2 fun j h1 h2 => hz.out j h1 h2)
    go_wp2_with fail
    go_ret
    exact ⟨by rw [E.out]; rfl, by (repeat' (first | exact Ext.refl _ | assumption | refine Ext.alloc ?_ _ | refine Ext.drew ?_ | refine Ext.setCell ?_ (Nat.le_refl _) _ | refine Ext.setCell ?_ (Nat.le_add_right _ _) _ | refine Ext.drewN ?_ _ | refine Ext.trans ?_ (by assumption) | refine Ext.dr ?_ (by assumption)))⟩
theorem u8_small {x : Int} (h0 : 0 <= x) (h1 : x < 256) : IntKind.u8.wrap x = x := by
 have : IntKind.u8.wrap x = x % 256 := by simp [IntKind.wrap, IntKind.bits, IntKind.signed]
 rw [this]; omega
theorem conv1 {P : Program} {w : World} {b : Nat} {x : Int} {c : UInt8} {src e dst : TypeId} (hs : P.underlying src = some (.slice e)) (he : P.underlying e = some (.int .u8)) (hd : P.underlying dst = some .string)
  (h : Blk w b [.int .u8 x] e) (hc : x = (c.toNat : Int)) : (convert src dst (.slice (some ⟨b, 0, none⟩) 1 1)).run P w = .ok (.string (txt [c])) w := by
 have := run_strs (P := P) src dst e 1 (0, 0) [x] b w hs he hd h
 have e2 : strOfNums [x] = txt [c] := BA_ext (by
  rw [strOfNums_data, hc]
  simp [txt])
 rw [e2] at this
 exact this
theorem str1_txt (n : Nat) (x : Int) (h : x = n) : str1 x = txt [UInt8.ofNat n] := by subst h; rfl
theorem txt_append (l m : List UInt8) : txt (l ++ m) = txt l ++ txt m := BA_ext (by rw [data_append]; rfl)
theorem txt_size (l : List UInt8) : (txt l).size = l.length := by rw [size_list]; rfl
theorem dec_cons {n : Nat} (h : ¬ n < 10) : Lib.decDigits n = Lib.decDigits (n / 10) ++ [UInt8.ofNat (48 + n % 10)] := by rw [Lib.decDigits, dif_neg h]
theorem fdec_any (n : Nat) : n <= 9223372036854775807 -> ∀ w : World,
  Calls Tryz.prog 49 #[.int .i64 n] w fun e w' => e = .returned (.string (txt (Lib.decDigits n))) /\ Ext w w' := by
 induction n using Nat.strongRecOn with
 | _ n ih =>
  intro hn w
  go_enter Tryz.func49, Tryz.ntmps49
  by_cases h : n < 10
  ·have h' : (n : Int) < 10 := by omega
   have e8 : IntKind.u8.wrap (48 + (n : Int)) = 48 + (n : Int) := u8_small (by omega) (by omega)
   have E := Lib.hid (str1_txt (48 + n) (48 + (n : Int)) (by omega))
   have D := Lib.hid (Lib.decDigits_one h)
   go_wp2_with fail
   go_ret
   exact ⟨by rw [D.out, E.out]; rfl, by (repeat' (first | exact Ext.refl _ | assumption | refine Ext.alloc ?_ _ | refine Ext.drew ?_ | refine Ext.setCell ?_ (Nat.le_refl _) _ | refine Ext.setCell ?_ (Nat.le_add_right _ _) _ | refine Ext.drewN ?_ _ | refine Ext.trans ?_ (by assumption) | refine Ext.dr ?_ (by assumption)))⟩
  ·have h' : ¬ (n : Int) < 10 := by omega
   have q0 : ((n : Int).tdiv 10) = ((n / 10 : Nat) : Int) := by rw [Int.tdiv_eq_ediv_of_nonneg (by omega)]; omega
   have m0 : ((n : Int).tmod 10) = ((n % 10 : Nat) : Int) := by rw [Int.tmod_eq_emod_of_nonneg (by omega)]; omega
   have H1 := Lib.hid (ih (n / 10) (by omega) (by omega))
   have D := Lib.hid (dec_cons h)
   have hm : n % 10 < 10 := Nat.mod_lt _ (by decide)
   have hq : n / 10 <= 9223372036854775807 := by omega
   have hl : (txt (Lib.decDigits (n / 10))).size <= 21 := by
    rw [txt_size]
    have := Lib.itoa_length_le ((n / 10 : Nat) : Int) (by omega) (by omega)
    rw [Lib.itoa_nonneg] at this
    exact this
   generalize n / 10 = q at *
   generalize n % 10 = r at *
   have e8 : IntKind.u8.wrap (48 + (r : Int)) = 48 + (r : Int) := u8_small (by omega) (by omega)
   have e9 : IntKind.i64.wrap (48 + (r : Int)) = 48 + (r : Int) := IntWalk.i64_in _ (by omega)
   have e10 : IntKind.i64.wrap (q : Int) = (q : Int) := IntWalk.i64_in _ (by omega)
   have hcc : 48 + (r : Int) = ((UInt8.ofNat (48 + r)).toNat : Int) := by rw [UInt8.toNat_ofNat_of_lt' (by show _ < 256; omega)]; omega
   have TA := Lib.hid (txt_append (Lib.decDigits q) [UInt8.ofNat (48 + r)])
   generalize UInt8.ofNat (48 + r) = c at *
   have HCC := Lib.hid hcc; clear hcc
   have hs1 : (txt [c]).size = 1 := txt_size _
   generalize hs : txt (Lib.decDigits q) = s at *
   have hsz : ¬ 9223372036854775807 < s.size + 1 := by omega
   have HS := Lib.hid hs; clear hs ih h
   go_wp2_with fail
   refine wp_region_rg w (by kernel_rfl) (by kernel_rfl) (Ext.refl w) ?_
   apply goV_val _ (by intro u; rfl)
   ·(intro u w hSw hF; go_simp; try with_reducible rfl)
   try simp only [aput, List.set]
   apply goV_val _ (by intro u; rfl)
   ·(intro u w hSw hF; go_simp; try with_reducible rfl)
   try simp only [aput, List.set]
   apply goV_call (by intro u; rfl) (fun w hw => H1.out w)
   ·(intro u w hSw hF; go_simp; try with_reducible rfl)
   try simp only [aput, List.set]
   apply goV_val _ (by intro u; rfl)
   ·(intro u w hSw hF; go_simp; try with_reducible rfl)
   try simp only [aput, List.set]
   apply goV_val _ (by intro u; rfl)
   ·(intro u w hSw hF; go_simp; try with_reducible rfl)
   try simp only [aput, List.set]
   apply goV_val _ (by intro u; rfl)
   ·(intro u w hSw hF; go_simp; try with_reducible rfl)
   try simp only [aput, List.set]
   apply goV_val _ (by intro u; rfl)
   ·(intro u w hSw hF; go_simp; try with_reducible rfl)
   try simp only [aput, List.set]
   apply goV_rel (fun u w => ∃ b, u = .slice (some ⟨b, 0, none⟩) 1 1 /\ Blk w b [.int .u8 (48 + (r : Int))] 5) (fun u w w' h k => by obtain ⟨b, h1, h2⟩ := h; exact ⟨b, h1, h2.ext k⟩) (by intro u; rfl)
   ·intro u w hSw hF
    go_simp
    exact ⟨(Ext.refl _).alloc _, w.heap.size, rfl, Blk.new _ _ _⟩
   try simp only [aput, List.set]
   apply goV_val (.string (txt [c])) (by intro u; rfl)
   ·intro u w hSw hF
    obtain ⟨⟨b, hu, hb⟩, _⟩ := hF
    have hcv := conv1 (P := Tryz.prog) Tryz.underlying33 Tryz.underlying5 Tryz.underlying9 hb HCC.out
    go_simp
   try simp only [aput, List.set]
   apply goV_val _ (by intro u; rfl)
   ·(intro u w hSw hF; go_simp; try with_reducible rfl)
   try simp only [aput, List.set]
   apply goV_val _ (by intro u; rfl)
   ·(intro u w hSw hF; go_simp; try with_reducible rfl)
   try simp only [aput, List.set]
   intro u w1 hx1 _
   go_wp2
   go_ret
   exact ⟨by rw [D.out, TA.out]; rfl, by (repeat' (first | exact Ext.refl _ | assumption | refine Ext.alloc ?_ _ | refine Ext.drew ?_ | refine Ext.setCell ?_ (Nat.le_refl _) _ | refine Ext.setCell ?_ (Nat.le_add_right _ _) _ | refine Ext.drewN ?_ _ | refine Ext.trans ?_ (by assumption) | refine Ext.dr ?_ (by assumption)))⟩
theorem hex_piece : ∀ r : Fin 16, (⟨#[48, 49, 50, 51, 52, 53, 54, 55, 56, 57, 97, 98, 99, 100, 101, 102]⟩ : ByteArray).extract r.1 (r.1 + 1) = txt [hexc r.1] := by decide
theorem fhex_any (n : Nat) : n <= 65535 -> ∀ w : World,
  Calls Tryz.prog 82 #[.int .i64 n] w fun e w' => e = .returned (.string (txt (hexT n))) /\ Ext w w' := by
 induction n using Nat.strongRecOn with
 | _ n ih =>
  intro hn w
  go_enter Tryz.func82, Tryz.ntmps82
  by_cases h : n < 16
  ·have h' : (n : Int) < 16 := by omega
   have E := Lib.hid (hex_piece ⟨n, h⟩)
   have D := Lib.hid (hexT_small h)
   go_wp2_with fail
   go_ret
   exact ⟨by rw [D.out, ← E.out]; rfl, by (repeat' (first | exact Ext.refl _ | assumption | refine Ext.alloc ?_ _ | refine Ext.drew ?_ | refine Ext.setCell ?_ (Nat.le_refl _) _ | refine Ext.setCell ?_ (Nat.le_add_right _ _) _ | refine Ext.drewN ?_ _ | refine Ext.trans ?_ (by assumption) | refine Ext.dr ?_ (by assumption)))⟩
  ·have h' : ¬ (n : Int) < 16 := by omega
   have q0 : ((n : Int).tdiv 16) = ((n / 16 : Nat) : Int) := by rw [Int.tdiv_eq_ediv_of_nonneg (by omega)]; omega
   have m0 : ((n : Int).tmod 16) = ((n % 16 : Nat) : Int) := by rw [Int.tmod_eq_emod_of_nonneg (by omega)]; omega
   have H1 := Lib.hid (ih (n / 16) (by omega) (by omega))
   have D := Lib.hid (hexT_big h)
   have hm : n % 16 < 16 := Nat.mod_lt _ (by decide)
   have E := Lib.hid (hex_piece ⟨n % 16, hm⟩)
   have hq : n / 16 <= 65535 := by omega
   have hl : (txt (hexT (n / 16))).size <= 4 := by
    rw [txt_size]; exact hexT_len (by omega)
   have TA := Lib.hid (txt_append (hexT (n / 16)) [hexc (n % 16)])
   generalize n / 16 = q at *
   generalize n % 16 = r at *
   have hr16 : (r : Int) < 16 := by omega
   have e9 : IntKind.i64.wrap ((r : Int) + 1) = (r : Int) + 1 := IntWalk.i64_in _ (by omega)
   have e10 : IntKind.i64.wrap (q : Int) = (q : Int) := IntWalk.i64_in _ (by omega)
   have hs1 : (txt [hexc r]).size = 1 := txt_size _
   generalize hexc r = c at *
   generalize hs : txt (hexT q) = s at *
   have hsz : ¬ 9223372036854775807 < s.size + 1 := by omega
   have HS := Lib.hid hs; clear hs ih h
   go_wp2_with fail
   refine wp_region_rg w (by kernel_rfl) (by kernel_rfl) (Ext.refl w) ?_
   apply goV_val _ (by intro u; rfl)
   ·(intro u w hSw hF; go_simp; try with_reducible rfl)
   try simp only [aput, List.set]
   apply goV_val _ (by intro u; rfl)
   ·(intro u w hSw hF; go_simp; try with_reducible rfl)
   try simp only [aput, List.set]
   apply goV_call (by intro u; rfl) (fun w hw => H1.out w)
   ·(intro u w hSw hF; go_simp; try with_reducible rfl)
   try simp only [aput, List.set]
   apply goV_val _ (by intro u; rfl)
   ·(intro u w hSw hF; go_simp; try with_reducible rfl)
   try simp only [aput, List.set]
   apply goV_val _ (by intro u; rfl)
   ·(intro u w hSw hF; go_simp; try with_reducible rfl)
   try simp only [aput, List.set]
   apply goV_val _ (by intro u; rfl)
   ·(intro u w hSw hF; go_simp; try with_reducible rfl)
   try simp only [aput, List.set]
   apply goV_val _ (by intro u; rfl)
   ·(intro u w hSw hF; go_simp; try with_reducible rfl)
   try simp only [aput, List.set]
   apply goV_val _ (by intro u; rfl)
   ·(intro u w hSw hF; go_simp; try with_reducible rfl)
   try simp only [aput, List.set]
   apply goV_val (.string (txt [c])) (by intro u; rfl)
   ·intro u w hSw hF
    have EE := E.out
    go_simp
    rw [if_pos (by omega), if_pos (by omega)]
   try simp only [aput, List.set]
   apply goV_val _ (by intro u; rfl)
   ·(intro u w hSw hF; go_simp; try with_reducible rfl)
   try simp only [aput, List.set]
   apply goV_val _ (by intro u; rfl)
   ·(intro u w hSw hF; go_simp; try with_reducible rfl)
   try simp only [aput, List.set]
   intro u w1 hx1 _
   go_wp2
   go_ret
   exact ⟨by rw [D.out, TA.out]; rfl, by (repeat' (first | exact Ext.refl _ | assumption | refine Ext.alloc ?_ _ | refine Ext.drew ?_ | refine Ext.setCell ?_ (Nat.le_refl _) _ | refine Ext.setCell ?_ (Nat.le_add_right _ _) _ | refine Ext.drewN ?_ _ | refine Ext.trans ?_ (by assumption) | refine Ext.dr ?_ (by assumption)))⟩
end Go.Proofs.YtnohnnjeabehjaaGreatDoor
