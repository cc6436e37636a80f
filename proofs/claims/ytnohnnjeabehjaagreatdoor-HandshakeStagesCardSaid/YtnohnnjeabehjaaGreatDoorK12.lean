/-
  Several texts joined: HbR.
-/
import Derived.Test.YtnohnnjeabehjaaGreatDoorK11
set_option maxHeartbeats 4000000
set_option maxRecDepth 4000
set_option linter.unusedVariables false
set_option linter.unusedSimpArgs false
namespace Go.Proofs.YtnohnnjeabehjaaGreatDoor
open Go.RowKit Go.Joins
def letN (r : Nat) : Nat := if r < 26 then 65 + r else if r < 52 then 97 + r - 26 else if r < 62 then 48 + r - 52 else if r = 62 then 43 else 47
theorem let_at : ∀ r : Fin 64, (alpha.getD r.1 0).toNat = letN r.1 := by decide
theorem letter_any (n : Int) (h0 : 0 <= n) (h1 : n < 64) (w : World) : Calls Tryz.prog 83 #[.int .i64 n] w fun e w' => e = .returned (.int .u8 (L6 n).toNat) /\ w = w' := by
 obtain ⟨k, rfl⟩ : ∃ k : Nat, n = k := ⟨n.toNat, by omega⟩
 have e : ((L6 k).toNat : Int) = letN k := by
  have := let_at ⟨k, by omega⟩
  unfold L6
  rw [Int.toNat_natCast]
  simp only at this
  rw [this]
 rw [e]
 clear e
 unfold letN
 go_enter Tryz.func83, Tryz.ntmps83
 have u8w : ∀ n : Int, IntKind.u8.wrap n = n % 256 := fun n => by simp [IntKind.wrap, IntKind.bits, IntKind.signed]
 by_cases a1 : k < 26
 ·have a1' : (k : Int) < 26 := by omega
  have e8 : IntKind.u8.wrap (65 + (k : Int)) = ((65 + k : Nat) : Int) := by rw [u8w]; omega
  clear a1
  go_wp2_with fail
  go_ret; exact ⟨congrArg Ending.returned (vint (a := (65 + (k : Int)) % 256) (by omega)), rfl⟩
 by_cases a2 : k < 52
 ·have a2' : (k : Int) < 52 := by omega
  have a1' : ¬ (k : Int) < 26 := by omega
  have e8 : IntKind.u8.wrap (97 + (k : Int) - 26) = ((97 + k - 26 : Nat) : Int) := by rw [u8w]; omega
  clear a1 a2
  go_wp2_with fail
  go_ret; exact ⟨congrArg Ending.returned (vint (a := (97 + (k : Int) - 26) % 256) (by omega)), rfl⟩
 by_cases a3 : k < 62
 ·have a3' : (k : Int) < 62 := by omega
  have a1' : ¬ (k : Int) < 26 := by omega
  have a2' : ¬ (k : Int) < 52 := by omega
  have e8 : IntKind.u8.wrap (48 + (k : Int) - 52) = ((48 + k - 52 : Nat) : Int) := by rw [u8w]; omega
  clear a1 a2 a3
  go_wp2_with fail
  go_ret; exact ⟨congrArg Ending.returned (vint (a := (48 + (k : Int) - 52) % 256) (by omega)), rfl⟩
 by_cases a4 : k = 62
 ·subst a4
  go_wp2_with fail
  go_ret; exact ⟨rfl, rfl⟩
 ·obtain rfl : k = 63 := by omega
  go_wp2_with fail
  go_ret; exact ⟨rfl, rfl⟩
theorem letter_e (n : Int) (h0 : 0 <= n) (h1 : n < 64) (w : World) : Calls Tryz.prog 83 #[.int .i64 n] w fun e w' => e = .returned (.int .u8 (L6 n).toNat) /\ Ext w w' :=
 (letter_any n h0 h1 w).mono fun e w' h => ⟨h.1, h.2 ▸ Ext.refl _⟩
theorem own_ne {w : World} {base : Nat} {e : TypeId} {size : Nat} {v : Value} {n : Nat} {xs : List Value} (h : w.ownsRow base e size v n xs) {b : Nat} {cs : List Value} {t : TypeId} (hb : Blk w b cs t) (ht : t ≠ e) : some b ≠ v.ownBlock := by
 rcases h.2 with ⟨rfl, _⟩ | ⟨g, cap, cur, rfl, _, hg, _⟩
 ·intro q; cases q
 ·intro q
  have q' : b = g := Option.some.inj q
  subst q'
  unfold Blk at hb
  rw [hb] at hg
  have := Option.some.inj hg
  injection this with _ h2
  exact ht h2
theorem Blk.grown {w w' : World} {base : Nat} {e : TypeId} {size : Nat} {v : Value} {n : Nat} {xs : List Value} (h : w.ownsRow base e size v n xs) {b : Nat} {cs : List Value} {t : TypeId} (hb : Blk w b cs t) (ht : t ≠ e) (hg : w.grownBy w' v.ownBlock) : Blk w' b cs t :=
 hb.of_heap (hg.block b hb.lt (own_ne h hb ht))
theorem wpList_app1 {ops : Array Oper} {rest : List Oper} {o : Oper} {f : Act} {w : World} {Q : Exit -> Act -> World -> Prop} (hgd : o.guard = none) (x y : Operand) (ho : o.op = .call { callee := .builtin .append, args := #[x, y], argTypes := #[33, 33] })
  {base : Nat} {v : Value} {out : List UInt8} (hown : w.ownsRow base 5 1 v out.length (bcells out)) (hx : f.eval x = v) {g m : Nat} {ns : List UInt8} (hb : Blk w g (bcells ns) 5) (hm : ns.length = m) (hy : f.eval y = .slice (some ⟨g, 0, none⟩) m m)
  (hl : out.length + m <= 100000000000000) (hbase : base <= w.heap.size)
  (h : ∀ a cap w', w'.ownsRow base 5 1 (.slice a (out.length + m) cap) (out ++ ns).length (bcells (out ++ ns)) -> w.grownBy w' v.ownBlock -> wpList Tryz.prog ops Q rest (f.put o.dst (.slice a (out.length + m) cap)) w') : wpList Tryz.prog ops Q (o :: rest) f w := by
 obtain ⟨i0, hi, hz0, hz1, hz2⟩ := info_parts info8
 subst hm
 refine wpList_append_own _ hgd x y 33 ho base 5 i0 (.int .u8 0) 1 1 Tryz.underlying33 hi hz0 hz1 hz2 rfl (by decide) v out.length _ hx hown ⟨g, 0, none⟩ ns.length ns.length (bcells ns) hy (by simp [bcells]) (fun j u hj => ?_) (fun u hu => ?_) (by unfold maxLen; omega) (by omega) hbase fun v' w' h1 h2 _ => ?_
 ·have e1 : (⟨g, 0, none⟩ : Addr).add j = ⟨g, j, none⟩ := by unfold Addr.add; split <;> simp_all
  rw [e1]
  exact hb.cell hj
 ·unfold bcells at hu
  obtain ⟨c, _, rfl⟩ := List.mem_map.1 hu
  rfl
 ·obtain ⟨a, cap, rfl⟩ := own_sliceX h1
  refine h a cap w' ?_ h2
  rw [List.length_append, bcells_app]; exact h1
def bq (z : ByteArray) (n k : Nat) : Int := if k < n then B z k else 0
theorem bq_bd (z : ByteArray) (n k : Nat) : 0 <= bq z n k /\ bq z n k < 256 := by
 unfold bq
 have := B_bd z k
 split <;> omega
theorem encQ_step {z : ByteArray} {n : Nat} (h0 : 1 <= z.size) (hn : n = min z.size 3) : encL z.data.toList = quad n (bq z n 0) (bq z n 1) (bq z n 2) ++ encL (z.data.toList.drop n) := by
 have h := encB_step h0 hn
 have hl := size_list z
 rw [show (z.extract n z.size).data.toList = z.data.toList.drop n by rw [data_extract, List.take_of_length_le (by omega)]] at h
 rw [h, ← qto_quad (n := n) (by omega) (bq_bd z n 0) (bq_bd z n 1) (bq_bd z n 2)]
 simp only [vacc]
 unfold bq
 simp
def arr3 (z : ByteArray) (k : Nat) : List Value := [.int .i64 (bq z k 0), .int .i64 (bq z k 1), .int .i64 (bq z k 2)]
theorem arr3_set (z : ByteArray) {k : Nat} (h : k < 3) : (arr3 z k).set k (.int .i64 (B z k)) = arr3 z (k + 1) := by
 have : k = 0 ∨ k = 1 ∨ k = 2 := by omega
 rcases this with h | h | h <;> subst h <;> simp [arr3, bq]
theorem and_3 {v : Int} (h0 : 0 <= v) (h1 : v < 256) : bits BinOp.and IntKind.i64 v 3 = v % 4 := by
 have := bits_mask .i64 24 (by decide) (fun n a b => IntWalk.i64_in _ (by omega)) 2 (by decide) v h0 (by omega)
 simpa using this
theorem and_15 {v : Int} (h0 : 0 <= v) (h1 : v < 256) : bits BinOp.and IntKind.i64 v 15 = v % 16 := by
 have := bits_mask .i64 24 (by decide) (fun n a b => IntWalk.i64_in _ (by omega)) 4 (by decide) v h0 (by omega)
 simpa using this
theorem or_16 {v x : Int} (h0 : 0 <= v) (h1 : v < 4) (x0 : 0 <= x) (x1 : x < 16) : bits BinOp.or IntKind.i64 (v * 16) x = v * 16 + x :=
 bits_join .i64 24 (by decide) (fun n a b => IntWalk.i64_in _ (by omega)) 4 _ _ (by omega) (by omega) (by omega) x0 x1 (by omega)
theorem or_4 {v x : Int} (h0 : 0 <= v) (h1 : v < 16) (x0 : 0 <= x) (x1 : x < 4) : bits BinOp.or IntKind.i64 (v * 4) x = v * 4 + x :=
 bits_join .i64 24 (by decide) (fun n a b => IntWalk.i64_in _ (by omega)) 2 _ _ (by omega) (by omega) (by omega) x0 x1 (by omega)
theorem own_ext {w w' : World} {base : Nat} {e : TypeId} {size : Nat} {v : Value} {n : Nat} {xs : List Value} (h : w.ownsRow base e size v n xs) (k : Ext w w') : w'.ownsRow base e size v n xs :=
 ownsRow_keep h (k.keep []) (fun g hg => by cases hg)
theorem holdsAt_get8 {p : List Yld} {u : Nat -> Value} {w : World} {V : Value -> World -> Prop} : ∀ {js : List Nat} {j : Nat}, holdsAt p u w js -> j ∈ js -> p[j]? = some (Yld.rel V) -> V (u j) w
 | k :: js, j, h, hj, hp => by
  by_cases e : k = j
  ·subst e
   have h1 := h.1
   rw [hp] at h1
   exact h1
  ·exact holdsAt_get8 h.2 ((List.mem_cons.1 hj).resolve_left (fun h => e h.symm)) hp
def VSl (base : Nat) (n : Nat) (l : List Value) : Value -> World -> Prop := fun u w => ∃ g, u = .slice (some ⟨g, 0, none⟩) n n /\ base <= g /\ Blk w g l 5
theorem renc_any (s : ByteArray) (hs : s.size <= 17592186044416) (w : World) : Calls Tryz.prog 60 #[.string s] w fun e w' => e = .returned (.string (encB s)) /\ Ext w w' := by
 go_enter Tryz.func60, Tryz.ntmps60
 go_wp2_with fail
 go_loopw [3, 4] (fun v c wr => ∃ (i : Nat) (out : List UInt8), i <= s.size + 2 /\ c = .int .i64 i /\ wr.ownsRow w.heap.size 5 1 v out.length (bcells out) /\ Ext w wr /\ out.length <= i * 4 /\ encL s.data.toList = out ++ encL (s.data.toList.drop i)) (fun _ c _ => s.size + 3 - (intOf c).toNat)
 case atStart => exact ⟨0, [], Nat.zero_le _, rfl, World.ownsRow_nil _ _ _ _, Ext.refl _, Nat.zero_le _, rfl⟩
 case round =>
  obtain ⟨i, out, hil, rfl, hown, hx, hol, hr⟩ := hrel
  have HR := Lib.hid hr; clear hr
  obtain ⟨va, vc, rfl⟩ := own_sliceX hown
  by_cases h0 : s.size <= i
  ·have hcv := own_str (P := Tryz.prog) hown Tryz.underlying33 Tryz.underlying5 Tryz.underlying9
   have E : Hid (encB s = txt out) := Lib.hid (by
    have e : s.data.toList.drop i = [] := List.drop_of_length_le (by rw [← size_list]; exact h0)
    unfold encB; rw [HR.out, e]; show txt (out ++ []) = _; rw [List.append_nil])
   have HOW := Lib.hid hown; clear hown
   have h0' : ¬ (i : Int) < s.size := by omega
   clear h0
   go_wp2_with fail
   go_ret
   exact ⟨by rw [E.out]; rfl, hx⟩
  ·obtain ⟨z, hzz⟩ : ∃ z : ByteArray, z = s.extract i s.size := ⟨_, rfl⟩
   have hzs : z.size = s.size - i := by rw [hzz, ByteArray.size_extract]; omega
   have HBZ : Hid (∀ k, i + k < s.size -> B s (i + k) = B z k) := Lib.hid (fun k hk => by rw [hzz, B_extract _ _ _ _ hk])
   have HZL : Hid (z.data.toList = s.data.toList.drop i) := Lib.hid (by rw [hzz, data_extract, List.take_of_length_le (by rw [← size_list]; exact Nat.le_refl _)])
   clear hzz
   have h0' : (i : Int) < s.size := by omega
   clear h0
   go_upto_region 6 with fail
   have hBk := Blk.new wr #[Value.int .i64 0, Value.int .i64 0, Value.int .i64 0] 127
   have hxA := (Ext.refl wr).alloc (.cells #[Value.int .i64 0, Value.int .i64 0, Value.int .i64 0] 127)
   have e3 : (#[Value.int .i64 0, Value.int .i64 0, Value.int .i64 0] : Array Value).toList = arr3 z 0 := by simp [arr3, bq]
   rw [e3] at hBk
   clear e3
   have hbs : wr.heap.size <= wr.heap.size := Nat.le_refl _
   generalize wr.alloc (.cells #[Value.int .i64 0, Value.int .i64 0, Value.int .i64 0] 127) = wA at *
   have hlv := hown.lt
   have HOW := Lib.hid hown
   have hwb := hx.size
   clear hown
   generalize hbg : wr.heap.size = b at *
   have HBG := Lib.hid hbg
   clear hbg
   go_wp2_with fail
   go_loopw [6, 7] (fun nv kv wq => ∃ j : Nat, j <= 3 /\ j <= z.size /\ kv = .int .i64 j /\ nv = .int .i64 j /\ Blk wq b (arr3 z j) 127 /\ Ext wr wq) (fun _ kv _ => 3 - (intOf kv).toNat)
   case atStart => exact ⟨0, Nat.zero_le _, Nat.zero_le _, rfl, rfl, hBk, hxA⟩
   clear hBk hxA
   case round =>
    obtain ⟨j, hj3, hjz, rfl, rfl, hBk, hxq⟩ := hrel
    by_cases hgo : j < 3 /\ i + j < s.size
    ·have hg1 : (j : Int) < 3 := by omega
     have hg2 : (i : Int) + j < s.size := by omega
     have hd1 : decide ((j : Int) < 3) = true := decide_eq_true hg1
     have hd2 : decide ((i : Int) + j < s.size) = true := decide_eq_true hg2
     have e1 := HBZ.out j hgo.2
     have hjlt := hgo.1
     have bj := B_bd z j
     have hf := hBk.free j
     have hcell : _root_.Go.World.cell? _ ⟨b, j, none⟩ = some (.int .i64 (bq z j j)) := hBk.cell (i := j) (by
      have : j = 0 ∨ j = 1 ∨ j = 2 := by omega
      rcases this with h | h | h <;> subst h <;> rfl)
     have hset := Lib.hid (hBk.set j (.int .i64 (B z j)))
     have hxs := Lib.hid (hxq.setCell (p := ⟨b, j, none⟩) (show _ <= b from by have := HBG.out; omega) (.int .i64 (B z j)))
     clear hgo
     go_wp2_with fail
     go_roundw
     case rel => exact ⟨j + 1, by omega, by omega, by go_num, by go_num, by rw [← arr3_set z hjlt]; exact hset.out, hxs.out⟩
     case measure => simp [intOf]; omega
    ·have hjn : j = min z.size 3 := by omega
     have hj1 : 1 <= j := by omega
     have HST := Lib.hid (encQ_step (z := z) (n := j) (by omega) hjn)
     have hown := own_ext HOW.out hxq
     have hxw := hx.trans hxq
     have hcond : (decide ((j : Int) < 3) && decide ((i : Int) + j < s.size)) = false := by
      rw [Bool.and_eq_false_iff]; 
      by_cases q : j < 3
      ·right; exact decide_eq_false (by omega)
      ·left; exact decide_eq_false (by omega)
     have x0b := bq_bd z j 0
     have x1b := bq_bd z j 1
     have x2b := bq_bd z j 2
     have hBk2 : Blk _ b [.int .i64 (bq z j 0), .int .i64 (bq z j 1), .int .i64 (bq z j 2)] 127 := hBk
     have hzj : z.size - j = s.size - i - j := by omega
     have hjq : j = 3 ∨ j = z.size := by omega
     clear hBk HBZ hgo hjn
     generalize bq z j 0 = x0 at *
     generalize bq z j 1 = x1 at *
     generalize bq z j 2 = x2 at *
     have hcs : j = 1 ∨ j = 2 ∨ j = 3 := by omega
     rcases hcs with hq | hq | hq
     ·skip
      have hd1 : decide ((j : Int) < 3) = true := decide_eq_true (by omega)
      have hd2 : decide ((i : Int) + j < s.size) = false := decide_eq_false (by omega)
      have hd4 : (j : Int) < 3 := by omega
      have hd5 : ¬ (i : Int) + j < s.size := by omega
      have hj2 : ¬ (1 : Int) < j := by omega
      have hj3 : ¬ (2 : Int) < j := by omega
      have HST : Hid (encL s.data.toList = (out ++ [L6 (x0 / 4), L6 (x0 % 4 * 16 + x1 / 16)] ++ [(61 : UInt8)] ++ [(61 : UInt8)]) ++ encL (s.data.toList.drop (i + 3))) := Lib.hid (by
       rw [HR.out, ← HZL.out, HST.out, hq]
       have e1 : z.data.toList.drop 1 = [] := List.drop_of_length_le (by rw [← size_list]; omega)
       have e2 : s.data.toList.drop (i + 3) = [] := List.drop_of_length_le (by rw [← size_list]; omega)
       rw [e1, e2]
       simp only [List.append_assoc]; rfl)
      have hi3 : i + 3 <= s.size + 2 := by omega
      clear hcond hq
      go_upto_region 12 with fail
      obtain ⟨wq, hwq⟩ : ∃ wq : World, wq = wr := ⟨_, rfl⟩
      rw [← hwq] at hBk2 hxq hown hxw ⊢
      clear hwq
      have f0 := fun (w' : World) (h : Ext wq w') => (hBk2.ext h).cell (i := 0) rfl
      have f1 := fun (w' : World) (h : Ext wq w') => (hBk2.ext h).cell (i := 1) rfl
      have c1 := fun (w' : World) (h : Ext wq w') => letter_e (x0 / 4) (by omega) (by omega) w'
      have c2 := fun (w' : World) (h : Ext wq w') => letter_e (x0 % 4 * 16 + x1 / 16) (by omega) (by omega) w'
      have ha := and_3 x0b.1 x0b.2
      have ho := or_16 (v := x0 % 4) (x := x1 / 16) (by omega) (by omega) (by omega) (by omega)
      have l2 : IntKind.i64.wrap (x0 % 4 * 16) = x0 % 4 * 16 := IntWalk.i64_in _ (by omega)
      have l3 : wrap64 (x0 % 4 * 16) = x0 % 4 * 16 := IntWalk.wrap64_in _ (by omega)
      refine wp_region_rgu 15 wq (by kernel_rfl) (by kernel_rfl) (Ext.refl _) ?_
      simp only [List.take_succ_cons, List.take_zero]
      iterate 2
       first
        | (apply goV_skip (by intro u; rfl))
        | (apply goV_val _ (by intro u; rfl); · (intro u w hSw hF; go_simp; try with_reducible rfl))
       try simp only [aput, List.set]
      first
       | (apply goV_skip (by intro u; rfl))
       | (apply goV_val (.int .i64 x0) (by intro u; rfl); · (intro u w hSw hF; have c0 := f0 w hSw; go_simp))
      try simp only [aput, List.set]
      first
       | (apply goV_skip (by intro u; rfl))
       | (apply goV_val _ (by intro u; rfl); · (intro u w hSw hF; go_simp; try with_reducible rfl))
      try simp only [aput, List.set]
      first
       | (apply goV_skip (by intro u; rfl))
       | (apply goV_call (by intro u; rfl) c1; · (intro u w hSw hF; go_simp; try with_reducible rfl))
      try simp only [aput, List.set]
      first
       | (apply goV_skip (by intro u; rfl))
       | (apply goV_val _ (by intro u; rfl); · (intro u w hSw hF; go_simp; try with_reducible rfl))
      try simp only [aput, List.set]
      first
       | (apply goV_skip (by intro u; rfl))
       | (apply goV_val (.int .i64 x0) (by intro u; rfl); · (intro u w hSw hF; have c0 := f0 w hSw; go_simp))
      try simp only [aput, List.set]
      iterate 3
       first
        | (apply goV_skip (by intro u; rfl))
        | (apply goV_val _ (by intro u; rfl); · (intro u w hSw hF; go_simp; try with_reducible rfl))
       try simp only [aput, List.set]
      first
       | (apply goV_skip (by intro u; rfl))
       | (apply goV_val (.int .i64 x1) (by intro u; rfl); · (intro u w hSw hF; have c0 := f1 w hSw; go_simp))
      try simp only [aput, List.set]
      iterate 2
       first
        | (apply goV_skip (by intro u; rfl))
        | (apply goV_val _ (by intro u; rfl); · (intro u w hSw hF; go_simp; try with_reducible rfl))
       try simp only [aput, List.set]
      first
       | (apply goV_skip (by intro u; rfl))
       | (apply goV_call (by intro u; rfl) c2; · (intro u w hSw hF; go_simp; try with_reducible rfl))
      try simp only [aput, List.set]
      apply goV_rel (VSl wq.heap.size 2 [.int .u8 (L6 (x0 / 4)).toNat, .int .u8 (L6 (x0 % 4 * 16 + x1 / 16)).toNat]) (fun u w w' h k => by obtain ⟨g, h0, h1, h2⟩ := h; exact ⟨g, h0, h1, h2.ext k⟩) (by intro u; rfl)
      ·intro u w' hSw hF
       go_simp
       exact ⟨(Ext.refl _).alloc _, w'.heap.size, rfl, hSw.size, Blk.new _ _ _⟩
      try simp only [aput, List.set]
      intro u w5 hx5 hh
      obtain ⟨g, e5, hg5, hB5⟩ := holdsAt_get8 (V := VSl wq.heap.size 2 [.int .u8 (L6 (x0 / 4)).toNat, .int .u8 (L6 (x0 % 4 * 16 + x1 / 16)).toNat]) (j := 14) hh (by simp) rfl
      clear hh c1 c2 ha ho l2 l3 f0 f1
      dsimp only
      rw [e5]
      simp only [List.drop_succ_cons, List.drop_zero]
      have hown5 := own_ext hown hx5
      have hxw5 := hxw.trans hx5
      have hBk5 := hBk2.ext hx5
      have hlv5 := hown5.lt
      clear hown hxw hBk2 hx5
      refine wpList_app1 (m := 2) (ns := [L6 (x0 / 4), L6 (x0 % 4 * 16 + x1 / 16)]) rfl _ _ rfl hown5 rfl hB5 rfl rfl (by omega) (by have := hxw5.size; omega) ?_
      intro ve vf w6 hown6 hgrow
      have hx6 : Ext w w6 := Ext.grown hxw5 hgrow (fun g hg => (hlv5 g hg).1)
      have hBk6 := Blk.grown hown5 hBk5 (by decide) hgrow
      clear hgrow hown5 hxw5 hBk5 hlv5 hB5 hg5 e5
      have K3 := Lib.hid (letter_any (x1 % 16 * 4 + x2 / 64) (by omega) (by omega))
      have K4 := Lib.hid (letter_any (x2 % 64) (by omega) (by omega))
      have ha := and_15 x1b.1 x1b.2
      have ho := or_4 (v := x1 % 16) (x := x2 / 64) (by omega) (by omega) (by omega) (by omega)
      have hc := and_63 (v := x2) (by omega) (by omega)
      have g1 := hBk6.cell (i := 1) rfl
      have g2 := hBk6.cell (i := 2) rfl
      have hl6 : (out ++ [L6 (x0 / 4), L6 (x0 % 4 * 16 + x1 / 16)]).length <= out.length + 2 := by simp
      generalize out ++ [L6 (x0 / 4), L6 (x0 % 4 * 16 + x1 / 16)] = out6 at *
      have hbz := (hx6).size
      go_wp2_with (first | fail | refine wpList_app1 (m := 1) (out := out6) (ns := [((61) : UInt8)]) rfl _ _ rfl ((hown6).alloc _) rfl (Blk.new w6 #[.int .u8 (((61) : UInt8).toNat : Int)] 5) rfl rfl (by omega) (by rw [World.size_alloc]; omega) ?_)
      intro ve vf w7 hn0 hgrow
      have hown7 : (w7).ownsRow w.heap.size 5 1 (.slice ve ((out6).length + 1) vf) (out6 ++ [((61) : UInt8)]).length (bcells (out6 ++ [((61) : UInt8)])) := by first | exact hn0 | (rw [List.length_append]; exact hn0)
      clear hn0
      have hlvx := (hown6).lt
      have hx7 : Ext w w7 := Ext.grown ((hx6).alloc _) hgrow (fun g hg => (hlvx g hg).1)
      have hBk7 := Blk.grown ((hown6).alloc _) ((hBk6).alloc _) (by decide) hgrow
      clear hgrow hlvx hbz
      have g3 := hBk7.cell (i := 2) rfl
      have hl7 : (out6 ++ [((61) : UInt8)]).length <= out.length + 3 := by rw [List.length_append]; show out6.length + 1 <= _; omega
      generalize out6 ++ [((61) : UInt8)] = out7 at *
      have hbz := (hx7).size
      go_wp2_with (first | fail | refine wpList_app1 (m := 1) (out := out7) (ns := [((61) : UInt8)]) rfl _ _ rfl ((hown7).alloc _) rfl (Blk.new w7 #[.int .u8 (((61) : UInt8).toNat : Int)] 5) rfl rfl (by omega) (by rw [World.size_alloc]; omega) ?_)
      intro ve vf w8 hn0 hgrow
      have hown8 : (w8).ownsRow w.heap.size 5 1 (.slice ve ((out7).length + 1) vf) (out7 ++ [((61) : UInt8)]).length (bcells (out7 ++ [((61) : UInt8)])) := by first | exact hn0 | (rw [List.length_append]; exact hn0)
      clear hn0
      have hlvx := (hown7).lt
      have hx8 : Ext w w8 := Ext.grown ((hx7).alloc _) hgrow (fun g hg => (hlvx g hg).1)
      have hBk8 := Blk.grown ((hown7).alloc _) ((hBk7).alloc _) (by decide) hgrow
      clear hgrow hlvx hbz
      have hl8 : (out7 ++ [((61) : UInt8)]).length <= out.length + 4 := by rw [List.length_append]; show out7.length + 1 <= _; omega
      generalize out7 ++ [((61) : UInt8)] = out8 at *
      have HO8 := Lib.hid hown8
      clear hown8
      go_wp2_with fail
      go_roundw
      case rel => exact ⟨i + 3, out8, hi3, by go_num, HO8.out, hx8, by omega, HST.out⟩
      case measure => simp [intOf]; omega
     ·skip
      have hd1 : decide ((j : Int) < 3) = true := decide_eq_true (by omega)
      have hd2 : decide ((i : Int) + j < s.size) = false := decide_eq_false (by omega)
      have hd4 : (j : Int) < 3 := by omega
      have hd5 : ¬ (i : Int) + j < s.size := by omega
      have hj2 : (1 : Int) < j := by omega
      have hj3 : ¬ (2 : Int) < j := by omega
      have HST : Hid (encL s.data.toList = (out ++ [L6 (x0 / 4), L6 (x0 % 4 * 16 + x1 / 16)] ++ [((L6 (x1 % 16 * 4 + x2 / 64)) : UInt8)] ++ [(61 : UInt8)]) ++ encL (s.data.toList.drop (i + 3))) := Lib.hid (by
       rw [HR.out, ← HZL.out, HST.out, hq]
       have e1 : z.data.toList.drop 2 = [] := List.drop_of_length_le (by rw [← size_list]; omega)
       have e2 : s.data.toList.drop (i + 3) = [] := List.drop_of_length_le (by rw [← size_list]; omega)
       rw [e1, e2]
       simp only [List.append_assoc]; rfl)
      have hi3 : i + 3 <= s.size + 2 := by omega
      clear hcond hq
      go_upto_region 12 with fail
      obtain ⟨wq, hwq⟩ : ∃ wq : World, wq = wr := ⟨_, rfl⟩
      rw [← hwq] at hBk2 hxq hown hxw ⊢
      clear hwq
      have f0 := fun (w' : World) (h : Ext wq w') => (hBk2.ext h).cell (i := 0) rfl
      have f1 := fun (w' : World) (h : Ext wq w') => (hBk2.ext h).cell (i := 1) rfl
      have c1 := fun (w' : World) (h : Ext wq w') => letter_e (x0 / 4) (by omega) (by omega) w'
      have c2 := fun (w' : World) (h : Ext wq w') => letter_e (x0 % 4 * 16 + x1 / 16) (by omega) (by omega) w'
      have ha := and_3 x0b.1 x0b.2
      have ho := or_16 (v := x0 % 4) (x := x1 / 16) (by omega) (by omega) (by omega) (by omega)
      have l2 : IntKind.i64.wrap (x0 % 4 * 16) = x0 % 4 * 16 := IntWalk.i64_in _ (by omega)
      have l3 : wrap64 (x0 % 4 * 16) = x0 % 4 * 16 := IntWalk.wrap64_in _ (by omega)
      refine wp_region_rgu 15 wq (by kernel_rfl) (by kernel_rfl) (Ext.refl _) ?_
      simp only [List.take_succ_cons, List.take_zero]
      iterate 2
       first
        | (apply goV_skip (by intro u; rfl))
        | (apply goV_val _ (by intro u; rfl); · (intro u w hSw hF; go_simp; try with_reducible rfl))
       try simp only [aput, List.set]
      first
       | (apply goV_skip (by intro u; rfl))
       | (apply goV_val (.int .i64 x0) (by intro u; rfl); · (intro u w hSw hF; have c0 := f0 w hSw; go_simp))
      try simp only [aput, List.set]
      first
       | (apply goV_skip (by intro u; rfl))
       | (apply goV_val _ (by intro u; rfl); · (intro u w hSw hF; go_simp; try with_reducible rfl))
      try simp only [aput, List.set]
      first
       | (apply goV_skip (by intro u; rfl))
       | (apply goV_call (by intro u; rfl) c1; · (intro u w hSw hF; go_simp; try with_reducible rfl))
      try simp only [aput, List.set]
      first
       | (apply goV_skip (by intro u; rfl))
       | (apply goV_val _ (by intro u; rfl); · (intro u w hSw hF; go_simp; try with_reducible rfl))
      try simp only [aput, List.set]
      first
       | (apply goV_skip (by intro u; rfl))
       | (apply goV_val (.int .i64 x0) (by intro u; rfl); · (intro u w hSw hF; have c0 := f0 w hSw; go_simp))
      try simp only [aput, List.set]
      iterate 3
       first
        | (apply goV_skip (by intro u; rfl))
        | (apply goV_val _ (by intro u; rfl); · (intro u w hSw hF; go_simp; try with_reducible rfl))
       try simp only [aput, List.set]
      first
       | (apply goV_skip (by intro u; rfl))
       | (apply goV_val (.int .i64 x1) (by intro u; rfl); · (intro u w hSw hF; have c0 := f1 w hSw; go_simp))
      try simp only [aput, List.set]
      iterate 2
       first
        | (apply goV_skip (by intro u; rfl))
        | (apply goV_val _ (by intro u; rfl); · (intro u w hSw hF; go_simp; try with_reducible rfl))
       try simp only [aput, List.set]
      first
       | (apply goV_skip (by intro u; rfl))
       | (apply goV_call (by intro u; rfl) c2; · (intro u w hSw hF; go_simp; try with_reducible rfl))
      try simp only [aput, List.set]
      apply goV_rel (VSl wq.heap.size 2 [.int .u8 (L6 (x0 / 4)).toNat, .int .u8 (L6 (x0 % 4 * 16 + x1 / 16)).toNat]) (fun u w w' h k => by obtain ⟨g, h0, h1, h2⟩ := h; exact ⟨g, h0, h1, h2.ext k⟩) (by intro u; rfl)
      ·intro u w' hSw hF
       go_simp
       exact ⟨(Ext.refl _).alloc _, w'.heap.size, rfl, hSw.size, Blk.new _ _ _⟩
      try simp only [aput, List.set]
      intro u w5 hx5 hh
      obtain ⟨g, e5, hg5, hB5⟩ := holdsAt_get8 (V := VSl wq.heap.size 2 [.int .u8 (L6 (x0 / 4)).toNat, .int .u8 (L6 (x0 % 4 * 16 + x1 / 16)).toNat]) (j := 14) hh (by simp) rfl
      clear hh c1 c2 ha ho l2 l3 f0 f1
      dsimp only
      rw [e5]
      simp only [List.drop_succ_cons, List.drop_zero]
      have hown5 := own_ext hown hx5
      have hxw5 := hxw.trans hx5
      have hBk5 := hBk2.ext hx5
      have hlv5 := hown5.lt
      clear hown hxw hBk2 hx5
      refine wpList_app1 (m := 2) (ns := [L6 (x0 / 4), L6 (x0 % 4 * 16 + x1 / 16)]) rfl _ _ rfl hown5 rfl hB5 rfl rfl (by omega) (by have := hxw5.size; omega) ?_
      intro ve vf w6 hown6 hgrow
      have hx6 : Ext w w6 := Ext.grown hxw5 hgrow (fun g hg => (hlv5 g hg).1)
      have hBk6 := Blk.grown hown5 hBk5 (by decide) hgrow
      clear hgrow hown5 hxw5 hBk5 hlv5 hB5 hg5 e5
      have K3 := Lib.hid (letter_any (x1 % 16 * 4 + x2 / 64) (by omega) (by omega))
      have K4 := Lib.hid (letter_any (x2 % 64) (by omega) (by omega))
      have ha := and_15 x1b.1 x1b.2
      have ho := or_4 (v := x1 % 16) (x := x2 / 64) (by omega) (by omega) (by omega) (by omega)
      have hc := and_63 (v := x2) (by omega) (by omega)
      have g1 := hBk6.cell (i := 1) rfl
      have g2 := hBk6.cell (i := 2) rfl
      have hl6 : (out ++ [L6 (x0 / 4), L6 (x0 % 4 * 16 + x1 / 16)]).length <= out.length + 2 := by simp
      generalize out ++ [L6 (x0 / 4), L6 (x0 % 4 * 16 + x1 / 16)] = out6 at *
      have hbz := (hx6).size
      go_wp2_with (first | (go_at_call 83; refine (K3.out _).mono ?_; rintro e w' ⟨rfl, rfl⟩) | refine wpList_app1 (m := 1) (out := out6) (ns := [(((L6 (x1 % 16 * 4 + x2 / 64))) : UInt8)]) rfl _ _ rfl ((hown6).alloc _) rfl (Blk.new w6 #[.int .u8 ((((L6 (x1 % 16 * 4 + x2 / 64))) : UInt8).toNat : Int)] 5) rfl rfl (by omega) (by rw [World.size_alloc]; omega) ?_)
      intro ve vf w7 hn0 hgrow
      have hown7 : (w7).ownsRow w.heap.size 5 1 (.slice ve ((out6).length + 1) vf) (out6 ++ [(((L6 (x1 % 16 * 4 + x2 / 64))) : UInt8)]).length (bcells (out6 ++ [(((L6 (x1 % 16 * 4 + x2 / 64))) : UInt8)])) := by first | exact hn0 | (rw [List.length_append]; exact hn0)
      clear hn0
      have hlvx := (hown6).lt
      have hx7 : Ext w w7 := Ext.grown ((hx6).alloc _) hgrow (fun g hg => (hlvx g hg).1)
      have hBk7 := Blk.grown ((hown6).alloc _) ((hBk6).alloc _) (by decide) hgrow
      clear hgrow hlvx hbz
      have g3 := hBk7.cell (i := 2) rfl
      have hl7 : (out6 ++ [(((L6 (x1 % 16 * 4 + x2 / 64))) : UInt8)]).length <= out.length + 3 := by rw [List.length_append]; show out6.length + 1 <= _; omega
      generalize out6 ++ [(((L6 (x1 % 16 * 4 + x2 / 64))) : UInt8)] = out7 at *
      have hbz := (hx7).size
      go_wp2_with (first | fail | refine wpList_app1 (m := 1) (out := out7) (ns := [((61) : UInt8)]) rfl _ _ rfl ((hown7).alloc _) rfl (Blk.new w7 #[.int .u8 (((61) : UInt8).toNat : Int)] 5) rfl rfl (by omega) (by rw [World.size_alloc]; omega) ?_)
      intro ve vf w8 hn0 hgrow
      have hown8 : (w8).ownsRow w.heap.size 5 1 (.slice ve ((out7).length + 1) vf) (out7 ++ [((61) : UInt8)]).length (bcells (out7 ++ [((61) : UInt8)])) := by first | exact hn0 | (rw [List.length_append]; exact hn0)
      clear hn0
      have hlvx := (hown7).lt
      have hx8 : Ext w w8 := Ext.grown ((hx7).alloc _) hgrow (fun g hg => (hlvx g hg).1)
      have hBk8 := Blk.grown ((hown7).alloc _) ((hBk7).alloc _) (by decide) hgrow
      clear hgrow hlvx hbz
      have hl8 : (out7 ++ [((61) : UInt8)]).length <= out.length + 4 := by rw [List.length_append]; show out7.length + 1 <= _; omega
      generalize out7 ++ [((61) : UInt8)] = out8 at *
      have HO8 := Lib.hid hown8
      clear hown8
      go_wp2_with fail
      go_roundw
      case rel => exact ⟨i + 3, out8, hi3, by go_num, HO8.out, hx8, by omega, HST.out⟩
      case measure => simp [intOf]; omega
     ·skip
      have hd1 : decide ((j : Int) < 3) = false := decide_eq_false (by omega)
      have hd3 : ¬ (j : Int) < 3 := by omega
      have hj2 : (1 : Int) < j := by omega
      have hj3 : (2 : Int) < j := by omega
      have HST : Hid (encL s.data.toList = (out ++ [L6 (x0 / 4), L6 (x0 % 4 * 16 + x1 / 16)] ++ [((L6 (x1 % 16 * 4 + x2 / 64)) : UInt8)] ++ [((L6 (x2 % 64)) : UInt8)]) ++ encL (s.data.toList.drop (i + 3))) := Lib.hid (by
       rw [HR.out, ← HZL.out, HST.out, hq]
       rw [HZL.out, List.drop_drop]
       simp only [List.append_assoc]; rfl)
      have hi3 : i + 3 <= s.size + 2 := by omega
      clear hcond hq
      go_upto_region 12 with fail
      obtain ⟨wq, hwq⟩ : ∃ wq : World, wq = wr := ⟨_, rfl⟩
      rw [← hwq] at hBk2 hxq hown hxw ⊢
      clear hwq
      have f0 := fun (w' : World) (h : Ext wq w') => (hBk2.ext h).cell (i := 0) rfl
      have f1 := fun (w' : World) (h : Ext wq w') => (hBk2.ext h).cell (i := 1) rfl
      have c1 := fun (w' : World) (h : Ext wq w') => letter_e (x0 / 4) (by omega) (by omega) w'
      have c2 := fun (w' : World) (h : Ext wq w') => letter_e (x0 % 4 * 16 + x1 / 16) (by omega) (by omega) w'
      have ha := and_3 x0b.1 x0b.2
      have ho := or_16 (v := x0 % 4) (x := x1 / 16) (by omega) (by omega) (by omega) (by omega)
      have l2 : IntKind.i64.wrap (x0 % 4 * 16) = x0 % 4 * 16 := IntWalk.i64_in _ (by omega)
      have l3 : wrap64 (x0 % 4 * 16) = x0 % 4 * 16 := IntWalk.wrap64_in _ (by omega)
      refine wp_region_rgu 15 wq (by kernel_rfl) (by kernel_rfl) (Ext.refl _) ?_
      simp only [List.take_succ_cons, List.take_zero]
      iterate 2
       first
        | (apply goV_skip (by intro u; rfl))
        | (apply goV_val _ (by intro u; rfl); · (intro u w hSw hF; go_simp; try with_reducible rfl))
       try simp only [aput, List.set]
      first
       | (apply goV_skip (by intro u; rfl))
       | (apply goV_val (.int .i64 x0) (by intro u; rfl); · (intro u w hSw hF; have c0 := f0 w hSw; go_simp))
      try simp only [aput, List.set]
      first
       | (apply goV_skip (by intro u; rfl))
       | (apply goV_val _ (by intro u; rfl); · (intro u w hSw hF; go_simp; try with_reducible rfl))
      try simp only [aput, List.set]
      first
       | (apply goV_skip (by intro u; rfl))
       | (apply goV_call (by intro u; rfl) c1; · (intro u w hSw hF; go_simp; try with_reducible rfl))
      try simp only [aput, List.set]
      first
       | (apply goV_skip (by intro u; rfl))
       | (apply goV_val _ (by intro u; rfl); · (intro u w hSw hF; go_simp; try with_reducible rfl))
      try simp only [aput, List.set]
      first
       | (apply goV_skip (by intro u; rfl))
       | (apply goV_val (.int .i64 x0) (by intro u; rfl); · (intro u w hSw hF; have c0 := f0 w hSw; go_simp))
      try simp only [aput, List.set]
      iterate 3
       first
        | (apply goV_skip (by intro u; rfl))
        | (apply goV_val _ (by intro u; rfl); · (intro u w hSw hF; go_simp; try with_reducible rfl))
       try simp only [aput, List.set]
      first
       | (apply goV_skip (by intro u; rfl))
       | (apply goV_val (.int .i64 x1) (by intro u; rfl); · (intro u w hSw hF; have c0 := f1 w hSw; go_simp))
      try simp only [aput, List.set]
      iterate 2
       first
        | (apply goV_skip (by intro u; rfl))
        | (apply goV_val _ (by intro u; rfl); · (intro u w hSw hF; go_simp; try with_reducible rfl))
       try simp only [aput, List.set]
      first
       | (apply goV_skip (by intro u; rfl))
       | (apply goV_call (by intro u; rfl) c2; · (intro u w hSw hF; go_simp; try with_reducible rfl))
      try simp only [aput, List.set]
      apply goV_rel (VSl wq.heap.size 2 [.int .u8 (L6 (x0 / 4)).toNat, .int .u8 (L6 (x0 % 4 * 16 + x1 / 16)).toNat]) (fun u w w' h k => by obtain ⟨g, h0, h1, h2⟩ := h; exact ⟨g, h0, h1, h2.ext k⟩) (by intro u; rfl)
      ·intro u w' hSw hF
       go_simp
       exact ⟨(Ext.refl _).alloc _, w'.heap.size, rfl, hSw.size, Blk.new _ _ _⟩
      try simp only [aput, List.set]
      intro u w5 hx5 hh
      obtain ⟨g, e5, hg5, hB5⟩ := holdsAt_get8 (V := VSl wq.heap.size 2 [.int .u8 (L6 (x0 / 4)).toNat, .int .u8 (L6 (x0 % 4 * 16 + x1 / 16)).toNat]) (j := 14) hh (by simp) rfl
      clear hh c1 c2 ha ho l2 l3 f0 f1
      dsimp only
      rw [e5]
      simp only [List.drop_succ_cons, List.drop_zero]
      have hown5 := own_ext hown hx5
      have hxw5 := hxw.trans hx5
      have hBk5 := hBk2.ext hx5
      have hlv5 := hown5.lt
      clear hown hxw hBk2 hx5
      refine wpList_app1 (m := 2) (ns := [L6 (x0 / 4), L6 (x0 % 4 * 16 + x1 / 16)]) rfl _ _ rfl hown5 rfl hB5 rfl rfl (by omega) (by have := hxw5.size; omega) ?_
      intro ve vf w6 hown6 hgrow
      have hx6 : Ext w w6 := Ext.grown hxw5 hgrow (fun g hg => (hlv5 g hg).1)
      have hBk6 := Blk.grown hown5 hBk5 (by decide) hgrow
      clear hgrow hown5 hxw5 hBk5 hlv5 hB5 hg5 e5
      have K3 := Lib.hid (letter_any (x1 % 16 * 4 + x2 / 64) (by omega) (by omega))
      have K4 := Lib.hid (letter_any (x2 % 64) (by omega) (by omega))
      have ha := and_15 x1b.1 x1b.2
      have ho := or_4 (v := x1 % 16) (x := x2 / 64) (by omega) (by omega) (by omega) (by omega)
      have hc := and_63 (v := x2) (by omega) (by omega)
      have g1 := hBk6.cell (i := 1) rfl
      have g2 := hBk6.cell (i := 2) rfl
      have hl6 : (out ++ [L6 (x0 / 4), L6 (x0 % 4 * 16 + x1 / 16)]).length <= out.length + 2 := by simp
      generalize out ++ [L6 (x0 / 4), L6 (x0 % 4 * 16 + x1 / 16)] = out6 at *
      have hbz := (hx6).size
      go_wp2_with (first | (go_at_call 83; refine (K3.out _).mono ?_; rintro e w' ⟨rfl, rfl⟩) | refine wpList_app1 (m := 1) (out := out6) (ns := [(((L6 (x1 % 16 * 4 + x2 / 64))) : UInt8)]) rfl _ _ rfl ((hown6).alloc _) rfl (Blk.new w6 #[.int .u8 ((((L6 (x1 % 16 * 4 + x2 / 64))) : UInt8).toNat : Int)] 5) rfl rfl (by omega) (by rw [World.size_alloc]; omega) ?_)
      intro ve vf w7 hn0 hgrow
      have hown7 : (w7).ownsRow w.heap.size 5 1 (.slice ve ((out6).length + 1) vf) (out6 ++ [(((L6 (x1 % 16 * 4 + x2 / 64))) : UInt8)]).length (bcells (out6 ++ [(((L6 (x1 % 16 * 4 + x2 / 64))) : UInt8)])) := by first | exact hn0 | (rw [List.length_append]; exact hn0)
      clear hn0
      have hlvx := (hown6).lt
      have hx7 : Ext w w7 := Ext.grown ((hx6).alloc _) hgrow (fun g hg => (hlvx g hg).1)
      have hBk7 := Blk.grown ((hown6).alloc _) ((hBk6).alloc _) (by decide) hgrow
      clear hgrow hlvx hbz
      have g3 := hBk7.cell (i := 2) rfl
      have hl7 : (out6 ++ [(((L6 (x1 % 16 * 4 + x2 / 64))) : UInt8)]).length <= out.length + 3 := by rw [List.length_append]; show out6.length + 1 <= _; omega
      generalize out6 ++ [(((L6 (x1 % 16 * 4 + x2 / 64))) : UInt8)] = out7 at *
      have hbz := (hx7).size
      go_wp2_with (first | (go_at_call 83; refine (K4.out _).mono ?_; rintro e w' ⟨rfl, rfl⟩) | refine wpList_app1 (m := 1) (out := out7) (ns := [(((L6 (x2 % 64))) : UInt8)]) rfl _ _ rfl ((hown7).alloc _) rfl (Blk.new w7 #[.int .u8 ((((L6 (x2 % 64))) : UInt8).toNat : Int)] 5) rfl rfl (by omega) (by rw [World.size_alloc]; omega) ?_)
      intro ve vf w8 hn0 hgrow
      have hown8 : (w8).ownsRow w.heap.size 5 1 (.slice ve ((out7).length + 1) vf) (out7 ++ [(((L6 (x2 % 64))) : UInt8)]).length (bcells (out7 ++ [(((L6 (x2 % 64))) : UInt8)])) := by first | exact hn0 | (rw [List.length_append]; exact hn0)
      clear hn0
      have hlvx := (hown7).lt
      have hx8 : Ext w w8 := Ext.grown ((hx7).alloc _) hgrow (fun g hg => (hlvx g hg).1)
      have hBk8 := Blk.grown ((hown7).alloc _) ((hBk7).alloc _) (by decide) hgrow
      clear hgrow hlvx hbz
      have hl8 : (out7 ++ [(((L6 (x2 % 64))) : UInt8)]).length <= out.length + 4 := by rw [List.length_append]; show out7.length + 1 <= _; omega
      generalize out7 ++ [(((L6 (x2 % 64))) : UInt8)] = out8 at *
      have HO8 := Lib.hid hown8
      clear hown8
      go_wp2_with fail
      go_roundw
      case rel => exact ⟨i + 3, out8, hi3, by go_num, HO8.out, hx8, by omega, HST.out⟩
      case measure => simp [intOf]; omega
end Go.Proofs.YtnohnnjeabehjaaGreatDoor
