/-
  Several texts joined: CiP, IpB, CiSpec, CiC, ScAw.
-/
import Derived.DeepKeys2
import Derived.Test.YtmdlgfnibjcgmaaGreatDoorK18
import Derived.Test.YtmdlgfnibjcgmaaGreatDoorK17
import Derived.Test.YtmdlgfnibjcgmaaGreatDoorK27
import Derived.Laws.BitsLemmas
import Derived.Lib.Bytealg
import Derived.Lib.BytesEntry
import Derived.Test.YtmdlgfnibjcgmaaGreatDoorK07
import Derived.KernelRfl
import Derived.Test.YtmdlgfnibjcgmaaGreatDoorK44
import Derived.Test.YtmdlgfnibjcgmaaGreatDoorK02
set_option maxHeartbeats 4000000
set_option maxRecDepth 100000
set_option linter.unusedVariables false
set_option linter.unusedSimpArgs false
namespace Go.Proofs.YtmdlgfnibjcgmaaGreatDoor.Cx
open Go.RowKit
abbrev Pfx := Adr × Int
def i64ok (z : Int) : Prop := -9223372036854775808 <= z /\ z <= 9223372036854775807
def okP (p : Pfx) : Prop := okA p.1 /\ i64ok p.2
def pc (p : Pfx) : Array Value := ((ac p.1).toList ++ [Value.int .i64 p.2]).toArray
abbrev pv (p : Pfx) : Value := .agg (pc p)
theorem ac_len {a : Adr} (ha : okA a) : (ac a).toList.length = 17 := by rw [Array.length_toList, ac_size ha]
theorem pc_list (p : Pfx) : (pc p).toList = (ac p.1).toList ++ [Value.int .i64 p.2] := rfl
abbrev PBlk (w : World) (b : Nat) (p : Pfx) : Prop := Blk w b (pc p).toList 133
theorem PBlk.fam {w : World} {b : Nat} {p : Pfx} (h : PBlk w b p) : w.cell? ⟨b, 0, none⟩ = some (.bool p.1.1) := h.cell rfl
theorem PBlk.bits {w : World} {b : Nat} {p : Pfx} (hp : okP p) (h : PBlk w b p) : w.cell? ⟨b, 17, none⟩ = some (.int .i64 p.2) := h.cell (by
 rw [pc_list, List.getElem?_append_right (by rw [ac_len hp.1]; omega), ac_len hp.1]; rfl)
theorem PBlk.range {w : World} {b : Nat} {p : Pfx} (h : PBlk w b p) : w.rangeAt b 0 (ac p.1).toList := fun j v hj => by
 rw [Nat.zero_add]
 refine h.cell ?_
 rw [pc_list, List.getElem?_append_left (List.getElem?_eq_some_iff.1 hj).1]; exact hj
end Go.Proofs.YtmdlgfnibjcgmaaGreatDoor.Cx
namespace Go.Proofs.YtmdlgfnibjcgmaaGreatDoor
open Go.RowKit
end Go.Proofs.YtmdlgfnibjcgmaaGreatDoor
namespace Go.Proofs.YtmdlgfnibjcgmaaGreatDoor.Cx
open Go.RowKit
def maskB (x : Int) (k : Nat) : Int := x / 2 ^ (8 - k) * 2 ^ (8 - k)
def bt (x : Int) (j : Nat) : Int := x / 2 ^ (7 - j) % 2
def keepN (bits : Int) (i : Nat) : Nat := (max 0 (min (bits - 8 * (i : Int)) 8)).toNat
theorem keepN_le (bits : Int) (i : Nat) : keepN bits i <= 8 := by unfold keepN; omega
theorem fin_mask : ∀ (x : Fin 256) (k : Fin 9), 0 <= maskB (x.1 : Int) k.1 /\ maskB (x.1 : Int) k.1 < 256 /\ (∀ j : Fin 8, bt (maskB (x.1 : Int) k.1) j.1 = if j.1 < k.1 then bt (x.1 : Int) j.1 else 0) := by decide +kernel
theorem fin_sum : ∀ x : Fin 256, (x.1 : Int) = bt (x.1 : Int) 0 * 128 + bt (x.1 : Int) 1 * 64 + bt (x.1 : Int) 2 * 32 + bt (x.1 : Int) 3 * 16 + bt (x.1 : Int) 4 * 8 + bt (x.1 : Int) 5 * 4 + bt (x.1 : Int) 6 * 2 + bt (x.1 : Int) 7 := by decide +kernel
theorem fin_and : ∀ (x : Fin 256) (k : Fin 9), bits BinOp.and IntKind.u8 (x.1 : Int) (IntKind.u8.wrap (255 * 2 ^ (8 - k.1))) = maskB (x.1 : Int) k.1 := by decide +kernel
theorem nat8 {x : Int} (h : 0 <= x /\ x < 256) : ∃ n : Fin 256, x = (n.1 : Int) := ⟨⟨x.toNat, by omega⟩, by simp; omega⟩
theorem mask_bd {x : Int} (h : 0 <= x /\ x < 256) {k : Nat} (hk : k <= 8) : 0 <= maskB x k /\ maskB x k < 256 := by
 obtain ⟨n, rfl⟩ := nat8 h
 have := fin_mask n ⟨k, by omega⟩
 exact ⟨this.1, this.2.1⟩
theorem and_mask {x : Int} (h : 0 <= x /\ x < 256) {k : Nat} (hk : k <= 8) : bits BinOp.and IntKind.u8 x (IntKind.u8.wrap (255 * 2 ^ (8 - k))) = maskB x k := by
 obtain ⟨n, rfl⟩ := nat8 h
 exact fin_and n ⟨k, by omega⟩
theorem bt_ext {x y : Int} (hx : 0 <= x /\ x < 256) (hy : 0 <= y /\ y < 256) (h : ∀ j, j < 8 -> bt x j = bt y j) : x = y := by
 obtain ⟨n, rfl⟩ := nat8 hx
 obtain ⟨m, rfl⟩ := nat8 hy
 rw [fin_sum n, fin_sum m, h 0 (by decide), h 1 (by decide), h 2 (by decide), h 3 (by decide), h 4 (by decide), h 5 (by decide), h 6 (by decide), h 7 (by decide)]
def truncA (a : Adr) (bits : Int) : Adr := (a.1, (List.range 16).map fun i => maskB (X a i) (keepN bits i))
theorem X_trunc (a : Adr) (bits : Int) {i : Nat} (hi : i < 16) : X (truncA a bits) i = maskB (X a i) (keepN bits i) := by
 show ((List.range 16).map fun i => maskB (X a i) (keepN bits i)).getD i 0 = _
 rw [List.getD_eq_getElem?_getD, List.getElem?_map, List.getElem?_range hi]; rfl
theorem okA_trunc {a : Adr} (ha : okA a) (bits : Int) : okA (truncA a bits) := by
 refine ⟨by simp [truncA], fun x hx => ?_⟩
 obtain ⟨i, _, rfl⟩ := List.mem_map.1 hx
 exact mask_bd (X_bd ha i) (keepN_le _ _)
theorem adr_ext {a b : Adr} (ha : okA a) (hb : okA b) (h1 : a.1 = b.1) (h : ∀ i, i < 16 -> ∀ j, j < 8 -> bt (X a i) j = bt (X b i) j) : a = b := by
 refine Prod.ext h1 ?_
 apply List.ext_getElem?
 intro i
 rcases Nat.lt_or_ge i 16 with hi | hi
 ·have e := bt_ext (X_bd ha i) (X_bd hb i) (h i hi)
  unfold X at e
  rw [List.getD_eq_getElem?_getD, List.getD_eq_getElem?_getD, List.getElem?_eq_getElem (by rw [ha.1]; exact hi), List.getElem?_eq_getElem (by rw [hb.1]; exact hi)] at e
  rw [List.getElem?_eq_getElem (by rw [ha.1]; exact hi), List.getElem?_eq_getElem (by rw [hb.1]; exact hi)]
  exact congrArg some e
 ·rw [List.getElem?_eq_none (by rw [ha.1]; exact hi), List.getElem?_eq_none (by rw [hb.1]; exact hi)]
end Go.Proofs.YtmdlgfnibjcgmaaGreatDoor.Cx
namespace Go.Proofs.YtmdlgfnibjcgmaaGreatDoor.Cx
open Go.RowKit
theorem adr_extX {a b : Adr} (ha : okA a) (hb : okA b) (h1 : a.1 = b.1) (h : ∀ i, i < 16 -> X a i = X b i) : a = b :=
 adr_ext ha hb h1 fun i hi j _ => by rw [h i hi]
theorem X_set {a : Adr} (ha : okA a) {k : Nat} (hk : k < 16) (z : Int) (q : Nat) : X (a.1, a.2.set k z) q = if q = k then z else X a q := by
 unfold X
 simp only [List.getD_eq_getElem?_getD, List.getElem?_set]
 by_cases h : k = q
 ·subst h; rw [if_pos rfl, if_pos (by rw [ha.1]; exact hk), if_pos rfl]; rfl
 ·rw [if_neg h, if_neg (fun e => h e.symm)]
theorem okA_setz {a : Adr} (ha : okA a) (k : Nat) {z : Int} (hz : 0 <= z /\ z < 256) : okA (a.1, a.2.set k z) := by
 refine ⟨by rw [List.length_set]; exact ha.1, fun x hx => ?_⟩
 rcases List.mem_or_eq_of_mem_set hx with h | rfl
 ·exact ha.2 x h
 ·exact hz
theorem trunc_any (a : Adr) (ha : okA a) (n : Int) (h0 : 0 <= n) (h1 : n <= 128) (w : World) :
  Calls Tryz.prog 240 #[av a, .int .i64 n] w fun e w' => e = .returned (av (truncA a n)) /\ Ext w w' := by
 unfold av
 go_enter Tryz.func240, Tryz.ntmps240
 go_upto_region 1 with fail
 rw [← ac_zadr]
 have hx := ((Ext.refl w).alloc (.cells (ac a) 72)).alloc (.cells (ac zadr) 72)
 have hb := (ABox.new ha w).ext ha ((Ext.refl _).alloc (.cells (ac zadr) 72))
 have hr := Blk.new (w.alloc (.cells (ac a) 72)) (ac zadr) 72
 have hsz : (w.alloc (.cells (ac a) 72)).heap.size = w.heap.size + 1 := by show (w.heap.push _).size = _; simp
 rw [hsz] at hr
 generalize (w.alloc (.cells (ac a) 72)).alloc (.cells (ac zadr) 72) = w2 at *
 clear hsz
 obtain ⟨p, hp⟩ : ∃ p, w.heap.size = p := ⟨_, rfl⟩
 have hpw : w.heap.size <= p := by omega
 rw [hp] at hb hr ⊢
 clear hp
 go_wp2_with fail
 go_loopw [7] (fun c wr => ∃ (k : Nat) (b : Adr), k <= 16 /\ c = .int .i64 k /\ okA b /\ ABox wr p b /\ Blk wr (p + 1) (ac zadr).toList 72 /\ Ext w wr /\ Hid (b.1 = a.1 /\ ∀ q, X b q = if q < k then maskB (X a q) (keepN n q) else X a q)) (fun c _ => 16 - (intOf c).toNat)
 case atStart => exact ⟨0, a, Nat.zero_le _, rfl, ha, hb, hr, hx, Lib.hid ⟨rfl, fun q => by rw [if_neg (by omega)]⟩⟩
 case round =>
  obtain ⟨k, b, hk, rfl, hbk, hb, hr, hx, hX⟩ := hrel
  by_cases hlt : k < 16
  ·have hlt' : (k : Int) < 16 := by omega
   have hkp : max 0 (min (n - 8 * (k : Int)) 8) = (keepN n k : Int) := by unfold keepN; omega
   have hkl := keepN_le n k
   have hXk : X b k = X a k := by rw [hX.out.2 k, if_neg (by omega)]
   have hcell := hb.at' k hlt
   have hf := hb.blk.free (1 + k)
   have hxb := X_bd ha k
   have hand := and_mask hxb hkl
   rw [show IntKind.u8.wrap (255 * 2 ^ (8 - keepN n k)) = 255 * 2 ^ (8 - keepN n k) % 256 by simp [IntKind.wrap, IntKind.bits, IntKind.signed]] at hand
   have hmb := mask_bd hxb hkl
   rw [hXk] at hcell
   have HXN : Hid (b.1 = a.1 /\ ∀ q, X (b.1, b.2.set k (maskB (X a k) (keepN n k))) q = if q < k + 1 then maskB (X a q) (keepN n q) else X a q) := Lib.hid ⟨hX.out.1, fun q => by
    rw [X_set hbk hlt]
    by_cases hq : q = k
    ·subst hq; rw [if_pos rfl, if_pos (by omega)]
    ·rw [if_neg hq, hX.out.2 q]
     by_cases h : q < k
     ·rw [if_pos h, if_pos (by omega)]
     ·rw [if_neg h, if_neg (by omega)]⟩
   have hokn := okA_setz hbk k hmb
   have HS := Lib.hid (hb.blk.set (1 + k) (.int .u8 (maskB (X a k) (keepN n k))))
   rw [ac_set] at HS
   generalize hm : maskB (X a k) (keepN n k) = mv at *
   generalize X a k = x at *
   generalize keepN n k = kp at *
   clear hX hXk
   have hsub : IntKind.i64.wrap (8 - (kp : Int)) = ((8 - kp : Nat) : Int) := by rw [IntWalk.i64_in _ (by omega)]; omega
   go_wp2_with fail
   go_region
   go_wp2_with fail
   go_roundw
   case rel =>
    refine ⟨k + 1, (b.1, b.2.set k mv), by omega, by go_num, hokn, .of_blk hokn HS.out, hr.set_ne ⟨p, _, none⟩ (by show p ≠ p + 1; omega) _, (hx.setCell (p := ⟨p, _, none⟩) hpw _).drew, HXN⟩
   case measure => simp [intOf]; omega
  ·obtain rfl : k = 16 := by omega
   have E : Hid (b = truncA a n) := Lib.hid (adr_extX hbk (okA_trunc ha n) hX.out.1 fun i hi => by rw [hX.out.2 i, if_pos hi, X_trunc a n hi])
   go_wp2_with (first | refine wpList_load_A rfl _ rfl hbk hb.blk rfl ?_ | refine wpList_store_A rfl _ _ rfl okA_zadr hbk hr rfl rfl ?_)
   refine bodyPost_ret (res_A rfl rfl hbk (hr.row _)) rfl ⟨by rw [← E.out], hx.setRow (by omega) _⟩
end Go.Proofs.YtmdlgfnibjcgmaaGreatDoor.Cx
namespace Go.Proofs.YtmdlgfnibjcgmaaGreatDoor
open Go.RowKit
def u8L : List Value -> Option (List Int)
 | [] => some []
 | .int .u8 (.ofNat n) :: l => Rn.sel (Nat.blt n 256) ((u8L l).map (Int.ofNat n :: ·)) none
 | _ => none
theorem u8L_some : ∀ {l : List Value} {z : List Int}, u8L l = some z -> l = z.map (Value.int .u8) /\ ∀ x ∈ z, 0 <= x /\ x < 256
 | [], z, h => by cases h; exact ⟨rfl, fun x hx => by cases hx⟩
 | v :: l, z, h => by
  match v, h with
  | .int .u8 (.ofNat n), h =>
   unfold u8L Rn.sel at h
   cases hb : Nat.blt n 256 with
   | false => rw [hb] at h; cases h
   | true =>
    rw [hb] at h
    simp only at h
    obtain ⟨y, h1, h2⟩ := Option.map_eq_some_iff.1 h
    obtain ⟨k1, k2⟩ := u8L_some h1
    subst h2
    have hn : n < 256 := by simpa using hb
    refine ⟨by rw [k1]; rfl, fun x hx => ?_⟩
    rcases List.mem_cons.1 hx with q | q
    ·subst q
     exact ⟨Int.natCast_nonneg n, by show ((n : Nat) : Int) < 256; omega⟩
    ·exact k2 x q
def zero16 : List Value := List.replicate 16 (.int .u8 0)
def plugAw (f : FuncId) (args : List Value) : Option Value := match Nat.beq f 93 with
 | true => match args with
  | [.string s, .string ⟨⟨[c]⟩⟩] => some (.bool (decide (0 <= Lib.indexByte s.data.toList c)))
  | _ => none
 | false => match Nat.beq f 240 with
  | true => match args with
   | [.agg ⟨.bool b :: l⟩, .int .i64 (.ofNat 0)] => match u8L l with
    | some z => Rn.sel (Nat.beq z.length 16) (some (.agg ⟨.bool b :: zero16⟩)) none
    | none => none
   | _ => none
  | false => none
theorem trunc_zero {a : Adr} (ha : okA a) : av (Cx.truncA a 0) = .agg ⟨.bool a.1 :: zero16⟩ := by
 have h : Cx.truncA a 0 = (a.1, List.replicate 16 0) := by
  unfold Cx.truncA
  congr 1
  rw [List.eq_replicate_iff]
  refine ⟨by simp, fun x hx => ?_⟩
  obtain ⟨i, _, rfl⟩ := List.mem_map.1 hx
  have hk : Cx.keepN 0 i = 0 := by unfold Cx.keepN; omega
  have hb := X_bd ha i
  rw [hk]
  unfold Cx.maskB
  show X a i / 256 * 256 = 0
  rw [Int.ediv_eq_zero_of_lt hb.1 hb.2]; rfl
 rw [h]; rfl
theorem noesc (v : Value) (w : World) : (callFunc 72 #[v]).run Tryz.prog w = .ok (.value v) w := by
 rw [run_callFunc_extern (P := Tryz.prog) Tryz.func72 (e := Extern.AbiNoEscape.same) (by kernel_rfl) (by kernel_rfl) (by kernel_rfl) (by kernel_rfl)]; rfl
theorem bodies : (Tryz.prog.funcs.toList.all fun fn => fn.body.isNone || !(fn.name == "runtime.NumGoroutine")) = true := by kernel_rfl
theorem mixed : Tryz.prog.follows .mixedOrders = true := by kernel_rfl
theorem plugs : Rn.Plugs Tryz.prog 72 plugAw := by
 refine ⟨noesc, fun f args v h => ?_⟩
 unfold plugAw at h
 cases h1 : Nat.beq f 93 with
 | true =>
  rw [h1] at h
  obtain rfl := Nat.eq_of_beq_eq_true h1
  match args, h with
  | [.string s, .string ⟨⟨[c]⟩⟩], h =>
   cases h
   exact ⟨rfl, rfl, fun w => ⟨Rn.callFunc_enter Tryz.func93 (by kernel_rfl) (by kernel_rfl) _ w, (Tryz.strings_Contains_one s c w).mono fun e w' q => ⟨q.1, by rw [q.2]; exact Below.refl _ _⟩⟩⟩
 | false =>
  rw [h1] at h
  simp only at h
  cases h2 : Nat.beq f 240 with
  | false => rw [h2] at h; cases h
  | true =>
   rw [h2] at h
   obtain rfl := Nat.eq_of_beq_eq_true h2
   match args, h with
   | [.agg ⟨.bool b :: l⟩, .int .i64 (.ofNat 0)], h =>
    simp only at h
    cases hl : u8L l with
    | none => rw [hl] at h; cases h
    | some z =>
     rw [hl] at h
     simp only [Rn.sel] at h
     cases hz : Nat.beq z.length 16 with
     | false => rw [hz] at h; cases h
     | true =>
      rw [hz] at h
      cases h
      obtain ⟨k1, k2⟩ := u8L_some hl
      have ha : okA (b, z) := ⟨Nat.eq_of_beq_eq_true hz, k2⟩
      have he : (Value.agg ⟨.bool b :: l⟩) = av (b, z) := by rw [k1]; rfl
      have hcl : ∀ l : List Int, Rn.closedL (l.map (Value.int .u8)) = true := by
       intro l
       induction l with
       | nil => rfl
       | cons x l ih => simp only [List.map_cons, Rn.closedL, Rn.closed, ih, Bool.and_self]
      refine ⟨by rw [k1]; simp [Rn.closed, Rn.closedL, hcl], rfl, fun w => ⟨Rn.callFunc_enter Tryz.func240 (by kernel_rfl) (by kernel_rfl) _ w, ?_⟩⟩
      rw [he]
      refine (Cx.trunc_any (b, z) ha 0 (by omega) (by omega) w).mono fun e w' q => ⟨?_, q.2⟩
      rw [q.1, trunc_zero ha]
theorem awake_run : ((Rn.run0 Tryz.prog 72 plugAw 11 []).map fun p => p.1) = some (.bool true) := by kernel_rfl
theorem awake_any (w : World) : Calls Tryz.prog 11 #[] w fun e w' => e = .returned (.bool true) /\ Ext w w' := by
 obtain ⟨⟨v, s⟩, h1, h2⟩ := Option.map_eq_some_iff.1 awake_run
 simp only at h2
 subst h2
 refine Rn.run0_ok mixed plugs (fun f fn hf hb => ?_) h1 rfl rfl w
 have := List.all_eq_true.1 bodies fn (by simpa using Array.mem_of_getElem? hf)
 cases hn : fn.body with
 | none => rw [hn] at hb; cases hb
 | some c => rw [hn] at this; simpa using this
end Go.Proofs.YtmdlgfnibjcgmaaGreatDoor
