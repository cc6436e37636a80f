/-
  Several texts joined: IpA, IpE, IpO, Uni, IpEq.
-/
import Derived.Test.YtnohnnjeabehjaaGreatDoorProg
import Derived.Lib.EndianBits
import Derived.Lib.TrimByte
import Derived.Handy
import Derived.Deep.MidRow
import Derived.StillTailTactics
import Derived.Laws.CopyOwn
import Derived.Deep.CutBlock
import Derived.Test.YtnohnnjeabehjaaGreatDoorK01
import Derived.Test.YtnohnnjeabehjaaGreatDoorK02
import Derived.DeepKeys
import Derived.Lib.LaidTab
import Derived.ChangeSame
import Derived.WideShapes
import Derived.OrdersHeld
import Derived.Tactics
import Derived.KernelRfl
import Derived.ProofKit
set_option maxHeartbeats 400000
set_option maxRecDepth 20000
set_option linter.unusedVariables false
set_option linter.unusedSimpArgs false
namespace Go.Proofs.YtnohnnjeabehjaaGreatDoor
open Go.RowKit
def ac (a : Adr) : Array Value := (.bool a.1 :: a.2.map (Value.int .u8)).toArray
abbrev av (a : Adr) : Value := .agg (ac a)
def X (a : Adr) (j : Nat) : Int := a.2.getD j 0
def okA (a : Adr) : Prop := a.2.length = 16 /\ ∀ x ∈ a.2, 0 <= x /\ x < 256
theorem X_bd {a : Adr} (h : okA a) (j : Nat) : 0 <= X a j /\ X a j < 256 := by
 unfold X
 rw [List.getD_eq_getElem?_getD]
 rcases Nat.lt_or_ge j a.2.length with h1 | h1
 ·rw [List.getElem?_eq_getElem h1]; exact h.2 _ (List.getElem_mem h1)
 ·rw [List.getElem?_eq_none h1]; exact ⟨Int.le_refl _, by decide⟩
theorem ac_at {a : Adr} (h : okA a) {j : Nat} (hj : j < 16) : (ac a)[1 + j]? = some (.int .u8 (X a j)) := by
 unfold ac X
 rw [List.getElem?_toArray, Nat.add_comm 1 j, List.getElem?_cons_succ, List.getElem?_map, List.getD_eq_getElem?_getD, List.getElem?_eq_getElem (by rw [h.1]; exact hj)]; rfl
structure ABox (w : World) (b : Nat) (a : Adr) : Prop where
 lt : b < w.heap.size
 fam : w.cell? ⟨b, 0, none⟩ = some (.bool a.1)
 at' : ∀ j, j < 16 -> w.cell? ⟨b, 1 + j, none⟩ = some (.int .u8 (X a j))
 blk : Blk w b (ac a).toList 41
theorem ABox.of_blk {w : World} {b : Nat} {a : Adr} (h : okA a) (hb : Blk w b (ac a).toList 41) : ABox w b a :=
 ⟨hb.lt, hb.cell rfl, fun j hj => hb.cell (by rw [Array.getElem?_toList]; exact ac_at h hj), hb⟩
theorem ABox.new {a : Adr} (h : okA a) (w : World) : ABox (w.alloc (.cells (ac a) 41)) w.heap.size a := .of_blk h (Blk.new _ _ _)
theorem ABox.ext {w w' : World} {b : Nat} {a : Adr} (h : ABox w b a) (ha : okA a) (k : Ext w w') : ABox w' b a := .of_blk ha (h.blk.ext k)
theorem ABox.num {w : World} {b : Nat} {a : Adr} (h : ABox w b a) (j n : Nat) (hn : n = 1 + j) (hj : j < 16) : w.cell? ⟨b, n, none⟩ = some (.int .u8 (X a j)) := by subst hn; exact h.at' j hj
theorem ABox.str {P : Program} {w : World} {b : Nat} {a : Adr} (h : ABox w b a) (ha : okA a) (f n cap : Nat) (hn : f + n <= 16) {src e dst : TypeId} (hs : P.underlying src = some (.slice e)) (he : P.underlying e = some (.int .u8)) (hd : P.underlying dst = some .string) :
  (convert src dst (.slice (some ⟨b, 1 + f, none⟩) n cap)).run P w = .ok (.string (strOfNums ((a.2.drop f).take n))) w :=
 run_convert_bytes_arg w src e hs he b (1 + f) n cap _ (by have := ha.1; simp; omega) (fun i hi => by
  rw [show 1 + f + i = 1 + (f + i) by omega, h.at' (f + i) (by omega)]
  unfold X
  simp [List.getD_eq_getElem?_getD, List.getElem?_take, List.getElem?_drop, hi]) dst hd
theorem or_u16 {h l : Int} (h0 : 0 <= h) (h1 : h < 256) (l0 : 0 <= l) (l1 : l < 256) : bits BinOp.or IntKind.u16 (h * 256) l = h * 256 + l :=
 bits_join .u16 16 (by decide) wraps_u16 8 _ _ (by omega) (by omega) (by omega) l0 l1 (by omega)
theorem or_i64 {h l : Int} (h0 : 0 <= h) (h1 : h < 256) (l0 : 0 <= l) (l1 : l < 256) : bits BinOp.or IntKind.i64 (h * 256) l = h * 256 + l :=
 bits_join .i64 16 (by decide) (fun n a b => IntWalk.i64_in _ (by omega)) 8 _ _ (by omega) (by omega) (by omega) l0 l1 (by omega)
theorem Group_any (a : Adr) (ha : okA a) (k : Nat) (hk : k < 8) (w : World) : Calls Tryz.prog 81 #[av a, .int .i64 k] w fun e w' => e = .returned (.int .i64 (grp a.2 k)) /\ Ext w w' := by
 unfold av
 go_enter Tryz.func81, Tryz.ntmps81
 go_upto_region 1 with fail
 have hx : Ext w (w.alloc (.cells (ac a) 41)) := (Ext.refl w).alloc _
 have hb := ABox.new ha w
 generalize w.alloc (.cells (ac a) 41) = w1 at *
 have b0 := X_bd ha (2 * k)
 have b1 := X_bd ha (2 * k + 1)
 have c0 := hb.at' (2 * k) (by omega)
 have c1 := hb.at' (2 * k + 1) (by omega)
 generalize w.heap.size = b at *
 go_quiet (fail)
 go_wp2
 go_returns
 exact ⟨by rw [or_i64 b0.1 b0.2 b1.1 b1.2]; rfl, by (repeat' (first | exact Ext.refl _ | assumption | refine Ext.alloc ?_ _ | refine Ext.drew ?_ | refine Ext.setCell ?_ (Nat.le_refl _) _ | refine Ext.setCell ?_ (Nat.le_add_right _ _) _ | refine Ext.drewN ?_ _ | refine Ext.trans ?_ (by assumption) | refine Ext.dr ?_ (by assumption)))⟩
def bitLen (a : Adr) : Int := if a.1 then 128 else 32
theorem bitLen_any (a : Adr) (ha : okA a) (w : World) : Calls Tryz.prog 143 #[av a] w fun e w' => e = .returned (.int .i64 (bitLen a)) /\ Ext w w' := by
 unfold av bitLen
 go_enter Tryz.func143, Tryz.ntmps143
 go_upto_region 1 with fail
 have hx : Ext w (w.alloc (.cells (ac a) 41)) := (Ext.refl w).alloc _
 have hb := ABox.new ha w
 generalize w.alloc (.cells (ac a) 41) = w1 at *
 have c0 := hb.fam
 generalize w.heap.size = b at *
 cases a.1 <;> (go_wp2; all_goals go_returns; all_goals exact ⟨rfl, by (repeat' (first | exact Ext.refl _ | assumption | refine Ext.alloc ?_ _ | refine Ext.drew ?_ | refine Ext.setCell ?_ (Nat.le_refl _) _ | refine Ext.setCell ?_ (Nat.le_add_right _ _) _ | refine Ext.drewN ?_ _ | refine Ext.trans ?_ (by assumption) | refine Ext.dr ?_ (by assumption)))⟩)
theorem trimB_nil (l : List UInt8) (c : UInt8) : Lib.trimB l c = [] ↔ ∀ x ∈ l, x = c := by
 unfold Lib.trimB Lib.trimLeftB Lib.trimRightB
 constructor
 ·intro h
  have h1 : ∀ m : List UInt8, m.dropWhile (· == c) = [] -> ∀ x ∈ m, x = c := by
   intro m
   induction m with
   | nil => intro _ x hx; cases hx
   | cons y m ih =>
    intro hm x hx
    rw [List.dropWhile_cons] at hm
    split at hm
    ·rename_i hy
     rcases List.mem_cons.1 hx with rfl | hx
     ·simpa using hy
     ·exact ih hm x hx
    ·cases hm
  have h2 : l.reverse.dropWhile (· == c) = [] := by
   cases hd : l.reverse.dropWhile (· == c) with
   | nil => rfl
   | cons y m =>
    have e1 := h1 _ h
    rw [hd] at e1
    have e2 : y = c := e1 y (by simp)
    have e3 := List.head_dropWhile_not (fun x : UInt8 => x == c) (l := l.reverse) (by rw [hd]; simp)
    simp only [hd, List.head_cons] at e3
    rw [e2] at e3; simp at e3
  intro x hx
  exact h1 _ h2 x (by simpa using hx)
 ·intro h
  have e : l.reverse.dropWhile (· == c) = [] := by
   have h3 : ∀ m : List UInt8, (∀ x ∈ m, x = c) -> m.dropWhile (· == c) = [] := by
    intro m
    induction m with
    | nil => intro _; rfl
    | cons y m ih => intro hm; rw [List.dropWhile_cons, if_pos (by simpa using hm y (by simp))]; exact ih fun x hx => hm x (by simp [hx])
   exact h3 _ fun x hx => h x (by simpa using hx)
  rw [e]; rfl
theorem ofNat_zero {x : Int} (h0 : 0 <= x) (h1 : x < 256) : UInt8.ofNat x.toNat = 0 ↔ x = 0 := by
 constructor
 ·intro h
  have := congrArg UInt8.toNat h
  rw [UInt8.toNat_ofNat_of_lt' (by show _ < 256; omega)] at this
  have : x.toNat = 0 := this
  omega
 ·intro h; subst h; rfl
theorem trim_valid (a : Adr) (ha : okA a) : (Lib.trimB (strOfNums ((a.2.drop 4).take 12)).data.toList 0).isEmpty = ((a.2.drop 4).all fun x => decide (x = 0)) := by
 rw [Bool.eq_iff_iff, List.isEmpty_iff]
 have hl : (a.2.drop 4).take 12 = a.2.drop 4 := List.take_of_length_le (by have := ha.1; simp; omega)
 rw [hl, strOfNums_data]
 rw [trimB_nil, List.all_eq_true]
 constructor
 ·intro h x hx
  have hb := ha.2 x (List.mem_of_mem_drop hx)
  have := h _ (List.mem_map.2 ⟨x, hx, rfl⟩)
  rw [ofNat_zero hb.1 hb.2] at this
  simpa using this
 ·intro h y hy
  obtain ⟨x, hx, rfl⟩ := List.mem_map.1 hy
  have hb := ha.2 x (List.mem_of_mem_drop hx)
  rw [ofNat_zero hb.1 hb.2]
  simpa using h x hx
theorem valid_any (a : Adr) (ha : okA a) (w : World) : Calls Tryz.prog 115 #[av a] w fun e w' => e = .returned (.bool (validA a)) /\ Ext w w' := by
 unfold av
 go_enter Tryz.func115, Tryz.ntmps115
 go_upto_region 1 with fail
 have hx : Ext w (w.alloc (.cells (ac a) 41)) := (Ext.refl w).alloc _
 have hb := ABox.new ha w
 generalize w.alloc (.cells (ac a) 41) = w1 at *
 have c0 := hb.fam
 have hc := hb.str (P := Tryz.prog) ha 4 12 12 (by decide) Tryz.underlying33 Tryz.underlying5 Tryz.underlying9
 have hsz : (strOfNums ((a.2.drop 4).take 12)).size <= 9223372036854775807 := by rw [strOfNums_size]; simp; omega
 have ht := trim_valid a ha
 generalize w.heap.size = b at *
 rcases ha1 : a.1 with _ | _
 ·have HA := Lib.hid ha1; rw [ha1] at c0; clear ha1
  go_wp2_with (go_at_call 138; refine (Tryz.strings_Trim_one _ 0 (by decide) _ hsz).mono ?_; rintro e w' ⟨rfl, hw⟩)
  go_returns
  refine ⟨by unfold validA; rw [HA.out, Bool.false_or, ← trim_valid a ha]; rfl, by rcases hw with rfl | rfl <;> (repeat' (first | exact Ext.refl _ | assumption | refine Ext.alloc ?_ _ | refine Ext.drew ?_ | refine Ext.setCell ?_ (Nat.le_refl _) _ | refine Ext.setCell ?_ (Nat.le_add_right _ _) _ | refine Ext.drewN ?_ _ | refine Ext.trans ?_ (by assumption) | refine Ext.dr ?_ (by assumption)))⟩
 ·have HA := Lib.hid ha1; rw [ha1] at c0; clear ha1
  go_wp2
  go_returns
  exact ⟨by unfold validA; rw [HA.out]; rfl, by (repeat' (first | exact Ext.refl _ | assumption | refine Ext.alloc ?_ _ | refine Ext.drew ?_ | refine Ext.setCell ?_ (Nat.le_refl _) _ | refine Ext.setCell ?_ (Nat.le_add_right _ _) _ | refine Ext.drewN ?_ _ | refine Ext.trans ?_ (by assumption) | refine Ext.dr ?_ (by assumption)))⟩
theorem ac_size {a : Adr} (ha : okA a) : (ac a).size = 17 := by
 unfold ac; simp [ha.1]
theorem ac_one (a : Adr) : (ac a).all (·.oneCell') = true := by
 rw [Array.all_eq_true_iff_forall_mem]
 intro v hv
 unfold ac at hv
 simp only [List.mem_toArray, List.mem_cons, List.mem_map] at hv
 rcases hv with rfl | ⟨x, _, rfl⟩ <;> rfl
theorem info_A : (Tryz.prog.info? 41).map (·.size) = some 17 := by kernel_rfl
theorem load_A {w : World} {b : Nat} {a : Adr} (ha : okA a) (h : Blk w b (ac a).toList 41) : (Instr.loadAt 41 (.pointer (some ⟨b, 0, none⟩))).run Tryz.prog w = .ok (.agg (ac a)) w := by
 have := run_loadAt_mid (P := Tryz.prog) w b 0 41 (ac a).toList _ (fun j v hj => by rw [Nat.zero_add]; exact h.cell hj) Tryz.underlying41 rfl (by rw [info_A, Array.length_toList, ac_size ha])
 simpa using this
theorem loadV_A {w : World} {b : Nat} {a : Adr} (ha : okA a) (h : Blk w b (ac a).toList 41) : (loadVar 41 ⟨b, 0, none⟩).run Tryz.prog w = .ok (.agg (ac a)) w := by
 have := run_loadVar_mid (P := Tryz.prog) w b 0 41 (ac a).toList _ (fun j v hj => by rw [Nat.zero_add]; exact h.cell hj) Tryz.underlying41 rfl (by rw [info_A, Array.length_toList, ac_size ha])
 simpa using this
theorem Blk.row {w : World} {c : Nat} {cs : List Value} {t : TypeId} (h : Blk w c cs t) (ds : Array Value) : Blk (w.setRow c ds) c ds.toList t := by
 unfold Blk at *; exact setRow_heap w c _ ds t (0, 0) h
theorem Blk.row_ne {w : World} {b c : Nat} {cs : List Value} {t : TypeId} (h : Blk w b cs t) (hne : b ≠ c) (ds : Array Value) : Blk (w.setRow c ds) b cs t := by
 unfold Blk at *; rw [setRow_other w c b ds hne]; exact h
theorem Ext.setRow {a w : World} (h : Ext a w) {c : Nat} (hc : a.heap.size <= c) (ds : Array Value) : Ext a (w.setRow c ds) := below_setRow h hc ds
theorem res_A {fn : Func} {t : Tmp} (h : fn.results = #[.cell t 41]) {tmps : Array Value} {c : Nat} (hp : tmps.getD t undef = .pointer (some ⟨c, 0, none⟩)) {w : World} {a : Adr} (ha : okA a) (hb : Blk w c (ac a).toList 41) :
  (results fn tmps).run Tryz.prog w = .ok (.agg (ac a)) w := by
 have := loadV_A ha hb
 have hp' : tmps[t]?.getD undef = .pointer (some ⟨c, 0, none⟩) := by simpa using hp
 simp [results, h, hp', this, Sem.run_bind, asAddr]
theorem res_A2 {fn : Func} {t u : Tmp} (h : fn.results = #[.cell t 41, .tmp u]) {tmps : Array Value} {c : Nat} (hp : tmps.getD t undef = .pointer (some ⟨c, 0, none⟩)) {w : World} {a : Adr} (ha : okA a) (hb : Blk w c (ac a).toList 41) :
  (results fn tmps).run Tryz.prog w = .ok (.tuple #[.agg (ac a), tmps.getD u undef]) w := by
 have := loadV_A ha hb
 have hp' : tmps[t]?.getD undef = .pointer (some ⟨c, 0, none⟩) := by simpa using hp
 simp [results, h, hp', this, Sem.run_bind, asAddr]
theorem wpList_load_A {ops : Array Oper} {rest : List Oper} {o : Oper} {f : Act} {w : World} {Q : Exit -> Act -> World -> Prop} (hgd : o.guard = none) (x : Operand) (ho : o.op = .load 41 x)
  {b : Nat} {a : Adr} (ha : okA a) (hb : Blk w b (ac a).toList 41) (hx : f.eval x = .pointer (some ⟨b, 0, none⟩)) (h : wpList Tryz.prog ops Q rest (f.put o.dst (.agg (ac a))) w) : wpList Tryz.prog ops Q (o :: rest) f w :=
 wpList_load_mid hgd 41 x ho b 0 hx (ac a).toList _ (fun j v hj => by rw [Nat.zero_add]; exact hb.cell hj) Tryz.underlying41 rfl (by rw [info_A, Array.length_toList, ac_size ha]) h
theorem wpList_store_A {ops : Array Oper} {rest : List Oper} {o : Oper} {f : Act} {w : World} {Q : Exit -> Act -> World -> Prop} (hgd : o.guard = none) (x y : Operand) (ho : o.op = .store 41 x y)
  {c : Nat} {a0 a : Adr} (h0 : okA a0) (ha : okA a) (hb : Blk w c (ac a0).toList 41) (hx : f.eval x = .pointer (some ⟨c, 0, none⟩)) (hy : f.eval y = .agg (ac a)) (h : wpList Tryz.prog ops Q rest (f.put o.dst undef) (w.setRow c (ac a))) : wpList Tryz.prog ops Q (o :: rest) f w :=
 wpList_plain hgd fun _ hK => wp_store_row 41 x y ho c (ac a) hx hy 41 (ac a0) hb (by rw [info_A, ac_size ha]) (by rw [ac_size ha, ac_size h0]) (ac_one a) (hK _ _ h)
theorem okA_zadr : okA zadr := ⟨rfl, by decide⟩
theorem okA_v4 {a b c d : Int} (h : 0 <= a /\ a < 256) (h1 : 0 <= b /\ b < 256) (h2 : 0 <= c /\ c < 256) (h3 : 0 <= d /\ d < 256) : okA (v4 a b c d) := by
 refine ⟨rfl, fun x hx => ?_⟩
 simp [v4] at hx
 omega
theorem ac_zadr : ac zadr = #[.bool false, .int .u8 0, .int .u8 0, .int .u8 0, .int .u8 0, .int .u8 0, .int .u8 0, .int .u8 0, .int .u8 0, .int .u8 0, .int .u8 0, .int .u8 0, .int .u8 0, .int .u8 0, .int .u8 0, .int .u8 0, .int .u8 0] := rfl
theorem ipV4_any {a b c d : Int} (h : 0 <= a /\ a < 256) (h1 : 0 <= b /\ b < 256) (h2 : 0 <= c /\ c < 256) (h3 : 0 <= d /\ d < 256) (w : World) : Calls Tryz.prog 216 #[.int .u8 a, .int .u8 b, .int .u8 c, .int .u8 d] w fun e w' => e = .returned (av (v4 a b c d)) /\ Ext w w' := by
 have hv := okA_v4 h h1 h2 h3
 go_enter Tryz.func216, Tryz.ntmps216
 go_upto_region 1 with fail
 rw [← ac_zadr]
 have hx := (Ext.refl w).alloc (.cells (ac zadr) 41)
 have hr := Blk.new w (ac zadr) 41
 generalize w.alloc (.cells (ac zadr) 41) = w2 at *
 have hx2 := fun cs => hx.setRow (Nat.le_refl _) cs
 go_wp2_with (refine wpList_store_A rfl _ _ rfl okA_zadr hv hr rfl rfl ?_)
 exact bodyPost_ret (res_A rfl rfl hv (hr.row _)) rfl ⟨rfl, hx2 _⟩
theorem rV4_any {a b c d : Int} (h : 0 <= a /\ a < 256) (h1 : 0 <= b /\ b < 256) (h2 : 0 <= c /\ c < 256) (h3 : 0 <= d /\ d < 256) (w : World) : Calls Tryz.prog 57 #[.int .u8 a, .int .u8 b, .int .u8 c, .int .u8 d] w fun e w' => e = .returned (av (v4 a b c d)) /\ Ext w w' := by
 have hv := okA_v4 h h1 h2 h3
 go_enter Tryz.func57, Tryz.ntmps57
 go_upto_region 1 with fail
 rw [← ac_zadr]
 have hx := (Ext.refl w).alloc (.cells (ac zadr) 41)
 have hr := Blk.new w (ac zadr) 41
 generalize w.alloc (.cells (ac zadr) 41) = w2 at *
 have hx2 := fun cs => hx.setRow (Nat.le_refl _) cs
 go_wp2_with (refine wpList_store_A rfl _ _ rfl okA_zadr hv hr rfl rfl ?_)
 exact bodyPost_ret (res_A rfl rfl hv (hr.row _)) rfl ⟨rfl, hx2 _⟩
open Go.RowKit
open Go.RowKit Go.ChangeShapes Go.WideShapes
section
variable {H : Type} {enc : TypeId × Value -> H} {W : World} {base : Nat} {sp : Nat -> Bool} {held : Bool} {r : Reach} {b0 : Nat}
theorem cells_ints {P : Program} {fuel : Nat} {t e : TypeId} {n : Nat} {k : IntKind} {cs : List Value} {x : DataW H × List MemPlace}
  (ht : P.underlying t = some (.array n e)) (he : P.underlying e = some (.int k)) (hce : P.cellsOf e = 1) (hct : P.cellsOf t = n)
  (h : DataW.trod enc P W base sp held fuel t cs = some x) : ∃ zs : List Int, cs = zs.map (Value.int k) /\ zs.length = n /\ ∀ z ∈ zs, (Lit.int k z).wf = true := by
 cases fuel with
 | zero => simp [DataW.trod] at h
 | succ fuel =>
  simp only [DataW.trod, ht, hce, hct, Nat.mul_one] at h
  split at h
  ·rename_i hl
   obtain ⟨xs, hm, hx⟩ := Option.map_eq_some_iff.1 h
   have key : ∀ i, i < n -> ∃ z, cs[i]? = some (.int k z) /\ (Lit.int k z).wf = true := by
    intro i hi
    obtain ⟨b, hb, hf⟩ := Lib.mapM_at hm i i (by simp [hi])
    obtain ⟨z, hc, rfl, hw⟩ := DataW.trod_int he hf
    have h1 : cs[i]? = some (.int k z) := by
     have := congrArg (·[0]?) hc
     simpa [List.getElem?_take, List.getElem?_drop] using this
    exact ⟨z, h1, hw⟩
   have hl' : cs.length = n := by simpa using hl
   refine ⟨cs.map fun v => match v with | .int _ z => z | _ => 0, ?_, by simpa using hl', ?_⟩
   ·apply List.ext_getElem?
    intro i
    rcases Nat.lt_or_ge i n with hi | hi
    ·obtain ⟨z, hz, _⟩ := key i hi
     simp [hz]
    ·simp [List.getElem?_eq_none (show cs.length <= i by omega)]
   ·intro z hz
    obtain ⟨v, hv, rfl⟩ := List.mem_map.1 hz
    obtain ⟨i, hi, rfl⟩ := List.getElem_of_mem hv
    obtain ⟨z, hz, hw⟩ := key i (by omega)
    rw [List.getElem?_eq_getElem hi] at hz
    rw [Option.some.inj hz]
    exact hw
  ·cases h
theorem cells_A : Tryz.prog.cellsOf 41 = 17 := by kernel_rfl
theorem cells_16 : Tryz.prog.cellsOf 39 = 16 := by kernel_rfl
theorem cells_b : Tryz.prog.cellsOf 4 = 1 := by kernel_rfl
theorem cells_u8 : Tryz.prog.cellsOf 5 = 1 := by kernel_rfl
theorem open_A {v : Value} {d : DataW H} {p : List MemPlace} (hv : Value.okWide Tryz.prog W r b0 41 v) (h : DataW.Trod enc Tryz.prog W base sp held 41 v d p) :
  ∃ a : Adr, okA a /\ v = av a := by
 obtain ⟨cs, rfl, hsz⟩ := okWide_struct Tryz.underlying41 hv
 obtain ⟨fuel, hf⟩ := h
 obtain ⟨y0, y1, n, -, hl, h0, h1⟩ := trod_struct2 Tryz.underlying41 hf
 obtain ⟨b, hb, -⟩ := DataW.trod_bool Tryz.underlying4 h0
 obtain ⟨zs, hz, hzl, hzw⟩ := cells_ints Tryz.underlying39 Tryz.underlying5 cells_u8 cells_16 h1
 rw [cells_A] at hsz
 have hc : (Value.agg cs).cells = cs := rfl
 rw [hc] at hb hz
 simp only [cells_b, cells_16] at hb hz
 refine ⟨(b, zs), ⟨hzl, fun x hx => ?_⟩, ?_⟩
 ·have := hzw x hx
  simp only [Lit.wf, Bool.and_eq_true, decide_eq_true_eq, IntKind.min, IntKind.max, IntKind.bits, IntKind.signed] at this
  simp at this
  omega
 ·unfold av ac
  congr 1
  apply Array.ext'
  have e : cs.toList = cs.toList.take 1 ++ cs.toList.drop 1 := (List.take_append_drop 1 _).symm
  rw [e]
  have h16 : (cs.toList.drop 1).take 16 = cs.toList.drop 1 := List.take_of_length_le (by simp; omega)
  rw [h16] at hz
  rw [hz]
  have hb' : cs.toList.take 1 = [.bool b] := by simpa using hb
  rw [hb']; rfl
end
section
variable {P : Program} {ops : Array Oper} {Q : Exit -> Act -> World -> Prop} {md : Region.Mode} {S : World -> Prop}
def Outcome (P : Program) (S : World -> Prop) (v : Value) : Result Next -> Prop
 | .ok (.value u) w' => u = v /\ S w'
 | .ok (.enter f args) w' => Calls P f args w' fun e w'' => e = .returned v /\ S w''
 | .ok (.row row args) w' => Rows P row args w' fun u w'' => u = v /\ S w''
 | _ => False
def DoesIf (P : Program) (ops : Array Oper) (S : World -> Prop) (o : Oper) (v : Value) (a : Act) : Prop :=
 (Region.wanted o (yielded ops a.tmps) = true /\ ∀ w, S w -> Outcome P S v ((execOp a.eval o).run P w)) ∨
 (Region.wanted o (yielded ops a.tmps) = false /\ v = undef)
theorem DoesIf.value {o : Oper} {v : Value} {a : Act} (hw : Region.wanted o (yielded ops a.tmps) = true) (h : ∀ w, S w -> (execOp a.eval o).run P w = .ok (.value v) w) : DoesIf P ops S o v a :=
 .inl ⟨hw, fun w hS => by rw [h w hS]; exact ⟨rfl, hS⟩⟩
theorem DoesIf.call {o : Oper} {v : Value} {a : Act} {f : FuncId} {args : Array Value} (hw : Region.wanted o (yielded ops a.tmps) = true) (h : ∀ w, (execOp a.eval o).run P w = .ok (.enter f args) w)
  (hc : ∀ w, S w -> Calls P f args w fun e w' => e = .returned v /\ S w') : DoesIf P ops S o v a :=
 .inl ⟨hw, fun w hS => by rw [h w]; exact hc w hS⟩
theorem DoesIf.skip {o : Oper} {a : Act} (hw : Region.wanted o (yielded ops a.tmps) = false) : DoesIf P ops S o undef a := .inr ⟨hw, rfl⟩
theorem DoesIf.wpOp {i : Nat} {o : Oper} {v : Value} {a : Act} (hi : ops[i]? = some o) (hy : DoesIf P ops S o v a)
  {K : Act -> World -> Prop} {w : World} (hS : S w) (h : ∀ w', S w' -> K (a.put o.dst v) w') : wpOp P ops Q i K a w := by
 unfold Go.wpOp
 simp only [hi]
 rcases hy with ⟨hw, hv⟩ | ⟨hw, rfl⟩
 ·simp only [hw, if_true, Oper.wp]
  left
  have hv := hv w hS
  generalize (execOp a.eval o).run P w = r at *
  unfold Outcome at hv
  split at hv
  ·obtain ⟨rfl, hs⟩ := hv; exact h _ hs
  ·exact Calls.mono hv fun e w'' he => by obtain ⟨rfl, hs⟩ := he; exact h _ hs
  ·exact Rows.mono hv fun u w'' he => by obtain ⟨rfl, hs⟩ := he; exact h _ hs
  ·exact hv.elim
 ·simp only [hw, Bool.false_eq_true, if_false]; exact h _ hS
end
open Go.RowKit
theorem mapM_isSome {α β : Type} {f : α -> Option β} : ∀ {l : List α}, (∀ x ∈ l, (f x).isSome = true) -> (l.mapM f).isSome = true
 | [], _ => rfl
 | x :: l, h => by
  obtain ⟨y, hy⟩ := Option.isSome_iff_exists.1 (h x (by simp))
  obtain ⟨ys, hys⟩ := Option.isSome_iff_exists.1 (mapM_isSome (l := l) fun z hz => h z (by simp [hz]))
  simp [List.mapM_cons, hy, hys]
theorem keyLits_bool (d : Nat) (b : Bool) : Tryz.prog.keyLits (d + 1) 4 [.bool b] = some [.bool b] := by
 simp only [Program.keyLits, Tryz.underlying4]
theorem keyLits_u8 (d : Nat) {z : Int} (h : 0 <= z /\ z < 256) : Tryz.prog.keyLits (d + 1) 5 [.int .u8 z] = some [.int .u8 z] := by
 have hw : (Lit.int .u8 z).wf = true := by
  simp only [Lit.wf, Bool.and_eq_true, decide_eq_true_eq, IntKind.min, IntKind.max, IntKind.bits, IntKind.signed]
  simp
  omega
 simp only [Program.keyLits, Tryz.underlying5, hw, and_self, if_true]
theorem keyLits_16 (d : Nat) {l : List Int} (h : l.length = 16) (hb : ∀ x ∈ l, 0 <= x /\ x < 256) : (Tryz.prog.keyLits (d + 2) 39 (l.map (Value.int .u8))).isSome = true := by
 unfold Program.keyLits
 have c : (l.map (Value.int .u8)).length = Tryz.prog.cellsOf 39 := by rw [cells_16, List.length_map, h]
 simp only [Tryz.underlying39]
 rw [if_pos c, Option.isSome_map]
 refine mapM_isSome (l := List.range 16) (f := fun i => Tryz.prog.keyLits (d + 1) 5 (((l.map (Value.int .u8)).drop (i * Tryz.prog.cellsOf 5)).take (Tryz.prog.cellsOf 5))) fun i hi => ?_
 show (Tryz.prog.keyLits (d + 1) 5 (((l.map (Value.int .u8)).drop (i * Tryz.prog.cellsOf 5)).take (Tryz.prog.cellsOf 5))).isSome = true
 rw [cells_u8]
 have hi := List.mem_range.1 hi
 have e : ((l.map (Value.int .u8)).drop (i * 1)).take 1 = [.int .u8 (l.getD i 0)] := by
  apply List.ext_getElem?
  intro j
  rcases j with _ | j
  ·simp [List.getD_eq_getElem?_getD, List.getElem?_eq_getElem (show i < l.length by omega), List.getElem?_take, List.getElem?_drop]
  ·simp [List.getElem?_take]
 rw [e, keyLits_u8 d (hb _ (by rw [List.getD_eq_getElem?_getD, List.getElem?_eq_getElem (show i < l.length by omega)]; exact List.getElem_mem _))]
 rfl
theorem keyLits_A {a : Adr} (ha : okA a) : (Tryz.prog.keyLits 4 41 (ac a).toList).isSome = true := by
 unfold Program.keyLits
 have hl : (ac a).toList.length = 17 := by rw [Array.length_toList]; exact ac_size ha
 have e : (ac a).toList = .bool a.1 :: a.2.map (Value.int .u8) := rfl
 simp only [Tryz.underlying41]
 rw [if_pos ⟨by rw [hl, cells_A], by kernel_rfl⟩, Option.isSome_map]
 refine mapM_isSome fun f hf => ?_
 simp only [List.mem_cons, List.not_mem_nil, or_false, List.toList_toArray] at hf
 rcases hf with rfl | rfl
 ·show (Tryz.prog.keyLits 3 4 (((ac a).toList.drop 0).take (Tryz.prog.cellsOf 4))).isSome = true
  rw [cells_b, e]
  show (Tryz.prog.keyLits 3 4 [.bool a.1]).isSome = true
  rw [keyLits_bool]; rfl
 ·show (Tryz.prog.keyLits 3 39 (((ac a).toList.drop 1).take (Tryz.prog.cellsOf 39))).isSome = true
  rw [cells_16, e, List.drop_succ_cons, List.drop_zero, List.take_of_length_le (by rw [List.length_map, ha.1]; exact Nat.le_refl _)]
  exact keyLits_16 1 ha.1 ha.2
theorem key24 : Tryz.prog.keyTypeAt 3 41 = true := by kernel_rfl
theorem formed_A {a : Adr} (ha : okA a) : (av a).formed Tryz.prog 41 = true := by
 simp only [Value.formed, Tryz.underlying41, cells_A, ac_size ha, beq_self_eq_true]
theorem noGuard_A : Tryz.prog.eqGuardType Tryz.prog.depth 41 = false := by kernel_rfl
end Go.Proofs.YtnohnnjeabehjaaGreatDoor
