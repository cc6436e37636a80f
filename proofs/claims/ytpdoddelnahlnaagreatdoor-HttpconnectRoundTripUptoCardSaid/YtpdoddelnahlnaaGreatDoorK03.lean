/-
  Several texts joined: IpA.
-/
import Derived.Test.YtpdoddelnahlnaaGreatDoorProg
import Derived.Test.YtpdoddelnahlnaaGreatDoorShelf
import Derived.Lib.EndianBits
import Derived.Lib.TrimByte
import Derived.Handy
import Derived.Deep.MidRow
import Derived.StillTailTactics
import Derived.Laws.CopyOwn
import Derived.Deep.CutBlock
import Derived.Test.YtpdoddelnahlnaaGreatDoorK01
import Derived.Test.YtpdoddelnahlnaaGreatDoorK02
/-
  Contracts of the package ip and of its reference: groups, bits, families.
-/
set_option linter.unusedSimpArgs false
set_option linter.unusedVariables false
namespace Go.Proofs.YtpdoddelnahlnaaGreatDoor
open Go.RowKit

/-- an address as a value -/
def ac (a : Adr) : Array Value := (.bool a.1 :: a.2.map (Value.int .u8)).toArray
abbrev av (a : Adr) : Value := .agg (ac a)
def X (a : Adr) (j : Nat) : Int := a.2.getD j 0
def okA (a : Adr) : Prop := a.2.length = 16 ∧ ∀ x ∈ a.2, 0 ≤ x ∧ x < 256
theorem X_bd {a : Adr} (h : okA a) (j : Nat) : 0 ≤ X a j ∧ X a j < 256 := by
  unfold X
  rw [List.getD_eq_getElem?_getD]
  rcases Nat.lt_or_ge j a.2.length with h1 | h1
  · rw [List.getElem?_eq_getElem h1]; exact h.2 _ (List.getElem_mem h1)
  · rw [List.getElem?_eq_none h1]; exact ⟨Int.le_refl _, by decide⟩
theorem ac_at {a : Adr} (h : okA a) {j : Nat} (hj : j < 16) : (ac a)[1 + j]? = some (.int .u8 (X a j)) := by
  unfold ac X
  rw [List.getElem?_toArray, Nat.add_comm 1 j, List.getElem?_cons_succ, List.getElem?_map, List.getD_eq_getElem?_getD, List.getElem?_eq_getElem (by rw [h.1]; exact hj)]; rfl
/-- block b holds the address a -/
structure ABox (w : World) (b : Nat) (a : Adr) : Prop where
  lt : b < w.heap.size
  fam : w.cell? ⟨b, 0, none⟩ = some (.bool a.1)
  at' : ∀ j, j < 16 → w.cell? ⟨b, 1 + j, none⟩ = some (.int .u8 (X a j))
  blk : Blk w b (ac a).toList 30
theorem ABox.of_blk {w : World} {b : Nat} {a : Adr} (h : okA a) (hb : Blk w b (ac a).toList 30) : ABox w b a :=
  ⟨hb.lt, hb.cell rfl, fun j hj => hb.cell (by rw [Array.getElem?_toList]; exact ac_at h hj), hb⟩
theorem ABox.new {a : Adr} (h : okA a) (w : World) : ABox (w.alloc (.cells (ac a) 30)) w.heap.size a := .of_blk h (Blk.new _ _ _)
theorem ABox.ext {w w' : World} {b : Nat} {a : Adr} (h : ABox w b a) (ha : okA a) (k : Ext w w') : ABox w' b a := .of_blk ha (h.blk.ext k)
theorem ABox.num {w : World} {b : Nat} {a : Adr} (h : ABox w b a) (j n : Nat) (hn : n = 1 + j) (hj : j < 16) : w.cell? ⟨b, n, none⟩ = some (.int .u8 (X a j)) := by subst hn; exact h.at' j hj
/-- its cells, read one by one into a string -/
theorem ABox.str {P : Program} {w : World} {b : Nat} {a : Adr} (h : ABox w b a) (ha : okA a) (f n cap : Nat) (hn : f + n ≤ 16) {src e dst : TypeId} (hs : P.underlying src = some (.slice e)) (he : P.underlying e = some (.int .u8)) (hd : P.underlying dst = some .string) :
    (convert src dst (.slice (some ⟨b, 1 + f, none⟩) n cap)).run P w = .ok (.string (strOfNums ((a.2.drop f).take n))) w :=
  run_convert_bytes_arg w src e hs he b (1 + f) n cap _ (by have := ha.1; simp; omega) (fun i hi => by
    rw [show 1 + f + i = 1 + (f + i) by omega, h.at' (f + i) (by omega)]
    unfold X
    simp [List.getD_eq_getElem?_getD, List.getElem?_take, List.getElem?_drop, hi]) dst hd

theorem or_u16 {h l : Int} (h0 : 0 ≤ h) (h1 : h < 256) (l0 : 0 ≤ l) (l1 : l < 256) : bits BinOp.or IntKind.u16 (h * 256) l = h * 256 + l :=
  bits_join .u16 16 (by decide) wraps_u16 8 _ _ (by omega) (by omega) (by omega) l0 l1 (by omega)
theorem or_i64 {h l : Int} (h0 : 0 ≤ h) (h1 : h < 256) (l0 : 0 ≤ l) (l1 : l < 256) : bits BinOp.or IntKind.i64 (h * 256) l = h * 256 + l :=
  bits_join .i64 16 (by decide) (fun n a b => IntWalk.i64_in _ (by omega)) 8 _ _ (by omega) (by omega) (by omega) l0 l1 (by omega)

set_option maxHeartbeats 400000 in
theorem group_any (a : Adr) (ha : okA a) (k : Nat) (hk : k < 8) (w : World) : Calls Tryz.prog 72 #[av a, .int .i64 k] w fun e w' => e = .returned (.int .u16 (grp a.2 k)) ∧ Ext w w' := by
  unfold av
  go_enter Tryz.func72, Tryz.ntmps72
  go_upto_region 1 with fail
  have hx : Ext w (w.alloc (.cells (ac a) 30)) := (Ext.refl w).alloc _
  have hb := ABox.new ha w
  generalize w.alloc (.cells (ac a) 30) = w1 at *
  have b0 := X_bd ha (2 * k)
  have b1 := X_bd ha (2 * k + 1)
  have c0 := hb.at' (2 * k) (by omega)
  have c1 := hb.at' (2 * k + 1) (by omega)
  generalize w.heap.size = b at *
  go_quiet (fail)
  go_wp2
  go_returns
  exact ⟨by rw [or_u16 b0.1 b0.2 b1.1 b1.2]; rfl, by (repeat' (first | exact Ext.refl _ | assumption | refine Ext.alloc ?_ _ | refine Ext.drew ?_ | refine Ext.setCell ?_ (Nat.le_refl _) _ | refine Ext.setCell ?_ (Nat.le_add_right _ _) _ | refine Ext.drewN ?_ _ | refine Ext.trans ?_ (by assumption) | refine Ext.dr ?_ (by assumption)))⟩
set_option maxHeartbeats 400000 in
theorem Group_any (a : Adr) (ha : okA a) (k : Nat) (hk : k < 8) (w : World) : Calls Tryz.prog 73 #[av a, .int .i64 k] w fun e w' => e = .returned (.int .i64 (grp a.2 k)) ∧ Ext w w' := by
  unfold av
  go_enter Tryz.func73, Tryz.ntmps73
  go_upto_region 1 with fail
  have hx : Ext w (w.alloc (.cells (ac a) 30)) := (Ext.refl w).alloc _
  have hb := ABox.new ha w
  generalize w.alloc (.cells (ac a) 30) = w1 at *
  have b0 := X_bd ha (2 * k)
  have b1 := X_bd ha (2 * k + 1)
  have c0 := hb.at' (2 * k) (by omega)
  have c1 := hb.at' (2 * k + 1) (by omega)
  generalize w.heap.size = b at *
  go_quiet (fail)
  go_wp2
  go_returns
  exact ⟨by rw [or_i64 b0.1 b0.2 b1.1 b1.2]; rfl, by (repeat' (first | exact Ext.refl _ | assumption | refine Ext.alloc ?_ _ | refine Ext.drew ?_ | refine Ext.setCell ?_ (Nat.le_refl _) _ | refine Ext.setCell ?_ (Nat.le_add_right _ _) _ | refine Ext.drewN ?_ _ | refine Ext.trans ?_ (by assumption) | refine Ext.dr ?_ (by assumption)))⟩

def bitLen (a : Adr) : Int := if a.1 then 128 else 32
theorem trimB_nil (l : List UInt8) (c : UInt8) : Lib.trimB l c = [] ↔ ∀ x ∈ l, x = c := by
  unfold Lib.trimB Lib.trimLeftB Lib.trimRightB
  constructor
  · intro h
    have h1 : ∀ m : List UInt8, m.dropWhile (· == c) = [] → ∀ x ∈ m, x = c := by
      intro m
      induction m with
      | nil => intro _ x hx; cases hx
      | cons y m ih =>
        intro hm x hx
        rw [List.dropWhile_cons] at hm
        split at hm
        · rename_i hy
          rcases List.mem_cons.1 hx with rfl | hx
          · simpa using hy
          · exact ih hm x hx
        · cases hm
    have h2 : l.reverse.dropWhile (· == c) = [] := by
      cases hd : l.reverse.dropWhile (· == c) with
      | nil => rfl
      | cons y m =>
        have e1 := h1 _ h
        rw [hd] at e1
        have e2 : y = c := e1 y (by simp)
        have e3 := List.head_dropWhile_not (fun x : UInt8 => x == c) (l := l.reverse) (by rw [hd]; simp)
        simp only [hd, List.head_cons] at e3
        rw [e2] at e3; simp at e3
    intro x hx
    exact h1 _ h2 x (by simpa using hx)
  · intro h
    have e : l.reverse.dropWhile (· == c) = [] := by
      have h3 : ∀ m : List UInt8, (∀ x ∈ m, x = c) → m.dropWhile (· == c) = [] := by
        intro m
        induction m with
        | nil => intro _; rfl
        | cons y m ih => intro hm; rw [List.dropWhile_cons, if_pos (by simpa using hm y (by simp))]; exact ih fun x hx => hm x (by simp [hx])
      exact h3 _ fun x hx => h x (by simpa using hx)
    rw [e]; rfl
theorem ofNat_zero {x : Int} (h0 : 0 ≤ x) (h1 : x < 256) : UInt8.ofNat x.toNat = 0 ↔ x = 0 := by
  constructor
  · intro h
    have := congrArg UInt8.toNat h
    rw [UInt8.toNat_ofNat_of_lt' (by show _ < 256; omega)] at this
    have : x.toNat = 0 := this
    omega
  · intro h; subst h; rfl
theorem trim_valid (a : Adr) (ha : okA a) : (Lib.trimB (strOfNums ((a.2.drop 4).take 12)).data.toList 0).isEmpty = ((a.2.drop 4).all fun x => decide (x = 0)) := by
  rw [Bool.eq_iff_iff, List.isEmpty_iff]
  have hl : (a.2.drop 4).take 12 = a.2.drop 4 := List.take_of_length_le (by have := ha.1; simp; omega)
  rw [hl, strOfNums_data]
  rw [trimB_nil, List.all_eq_true]
  constructor
  · intro h x hx
    have hb := ha.2 x (List.mem_of_mem_drop hx)
    have := h _ (List.mem_map.2 ⟨x, hx, rfl⟩)
    rw [ofNat_zero hb.1 hb.2] at this
    simpa using this
  · intro h y hy
    obtain ⟨x, hx, rfl⟩ := List.mem_map.1 hy
    have hb := ha.2 x (List.mem_of_mem_drop hx)
    rw [ofNat_zero hb.1 hb.2]
    simpa using h x hx
set_option maxHeartbeats 400000 in
theorem valid_any (a : Adr) (ha : okA a) (w : World) : Calls Tryz.prog 36 #[av a] w fun e w' => e = .returned (.bool (validA a)) ∧ Ext w w' := by
  unfold av
  go_enter Tryz.func36, Tryz.ntmps36
  go_upto_region 1 with fail
  have hx : Ext w (w.alloc (.cells (ac a) 30)) := (Ext.refl w).alloc _
  have hb := ABox.new ha w
  generalize w.alloc (.cells (ac a) 30) = w1 at *
  have c0 := hb.fam
  have hc := hb.str (P := Tryz.prog) ha 4 12 12 (by decide) Tryz.underlying22 Tryz.underlying5 Tryz.underlying9
  have hsz : (strOfNums ((a.2.drop 4).take 12)).size ≤ 9223372036854775807 := by rw [strOfNums_size]; simp; omega
  have ht := trim_valid a ha
  generalize w.heap.size = b at *
  rcases ha1 : a.1 with _ | _
  · have HA := Lib.hid ha1; rw [ha1] at c0; clear ha1
    go_wp2_with (go_at_call 65; refine (Tryz.strings_Trim_one _ 0 (by decide) _ hsz).mono ?_; rintro e w' ⟨rfl, hw⟩)
    go_returns
    refine ⟨by unfold validA; rw [HA.out, Bool.false_or, ← trim_valid a ha]; rfl, by rcases hw with rfl | rfl <;> (repeat' (first | exact Ext.refl _ | assumption | refine Ext.alloc ?_ _ | refine Ext.drew ?_ | refine Ext.setCell ?_ (Nat.le_refl _) _ | refine Ext.setCell ?_ (Nat.le_add_right _ _) _ | refine Ext.drewN ?_ _ | refine Ext.trans ?_ (by assumption) | refine Ext.dr ?_ (by assumption)))⟩
  · have HA := Lib.hid ha1; rw [ha1] at c0; clear ha1
    go_wp2
    go_returns
    exact ⟨by unfold validA; rw [HA.out]; rfl, by (repeat' (first | exact Ext.refl _ | assumption | refine Ext.alloc ?_ _ | refine Ext.drew ?_ | refine Ext.setCell ?_ (Nat.le_refl _) _ | refine Ext.setCell ?_ (Nat.le_add_right _ _) _ | refine Ext.drewN ?_ _ | refine Ext.trans ?_ (by assumption) | refine Ext.dr ?_ (by assumption)))⟩
def unmapA (a : Adr) : Adr :=
  if a.1 = true ∧ a.2.take 12 = [0, 0, 0, 0, 0, 0, 0, 0, 0, 0, 255, 255] then v4 (X a 12) (X a 13) (X a 14) (X a 15) else a
theorem ac_size {a : Adr} (ha : okA a) : (ac a).size = 17 := by
  unfold ac; simp [ha.1]
theorem ac_one (a : Adr) : (ac a).all (·.oneCell') = true := by
  rw [Array.all_eq_true_iff_forall_mem]
  intro v hv
  unfold ac at hv
  simp only [List.mem_toArray, List.mem_cons, List.mem_map] at hv
  rcases hv with rfl | ⟨x, _, rfl⟩ <;> rfl
theorem info_A : (Tryz.prog.info? 30).map (·.size) = some 17 := by kernel_rfl
theorem load_A {w : World} {b : Nat} {a : Adr} (ha : okA a) (h : Blk w b (ac a).toList 30) : (Instr.loadAt 30 (.pointer (some ⟨b, 0, none⟩))).run Tryz.prog w = .ok (.agg (ac a)) w := by
  have := run_loadAt_mid (P := Tryz.prog) w b 0 30 (ac a).toList _ (fun j v hj => by rw [Nat.zero_add]; exact h.cell hj) Tryz.underlying30 rfl (by rw [info_A, Array.length_toList, ac_size ha])
  simpa using this
theorem loadV_A {w : World} {b : Nat} {a : Adr} (ha : okA a) (h : Blk w b (ac a).toList 30) : (loadVar 30 ⟨b, 0, none⟩).run Tryz.prog w = .ok (.agg (ac a)) w := by
  have := run_loadVar_mid (P := Tryz.prog) w b 0 30 (ac a).toList _ (fun j v hj => by rw [Nat.zero_add]; exact h.cell hj) Tryz.underlying30 rfl (by rw [info_A, Array.length_toList, ac_size ha])
  simpa using this
theorem store_A {w : World} {c : Nat} {a0 a : Adr} (h0 : okA a0) (ha : okA a) (h : Blk w c (ac a0).toList 30) : (Instr.storeAt 30 (.pointer (some ⟨c, 0, none⟩)) (.agg (ac a))).run Tryz.prog w = .ok () (w.setRow c (ac a)) := by
  simp only [Instr.storeAt, Instr.sureAddr, Sem.run_bind, Sem.run_pure, Result.andThen_ok]
  unfold Blk at h
  rw [run_storeVar_row (P := Tryz.prog) w c 30 30 (ac a0) (ac a) h (by rw [info_A, ac_size ha]) (by rw [ac_size ha, ac_size h0]) (ac_one a)]
theorem Blk.row {w : World} {c : Nat} {cs : List Value} {t : TypeId} (h : Blk w c cs t) (ds : Array Value) : Blk (w.setRow c ds) c ds.toList t := by
  unfold Blk at *; exact setRow_heap w c _ ds t (0, 0) h
theorem Blk.row_ne {w : World} {b c : Nat} {cs : List Value} {t : TypeId} (h : Blk w b cs t) (hne : b ≠ c) (ds : Array Value) : Blk (w.setRow c ds) b cs t := by
  unfold Blk at *; rw [setRow_other w c b ds hne]; exact h
theorem Ext.setRow {a w : World} (h : Ext a w) {c : Nat} (hc : a.heap.size ≤ c) (ds : Array Value) : Ext a (w.setRow c ds) := below_setRow h hc ds
theorem res_A {fn : Func} {t : Tmp} (h : fn.results = #[.cell t 30]) {tmps : Array Value} {c : Nat} (hp : tmps.getD t undef = .pointer (some ⟨c, 0, none⟩)) {w : World} {a : Adr} (ha : okA a) (hb : Blk w c (ac a).toList 30) :
    (results fn tmps).run Tryz.prog w = .ok (.agg (ac a)) w := by
  have := loadV_A ha hb
  have hp' : tmps[t]?.getD undef = .pointer (some ⟨c, 0, none⟩) := by simpa using hp
  simp [results, h, hp', this, Sem.run_bind, asAddr]
theorem res_A2 {fn : Func} {t u : Tmp} (h : fn.results = #[.cell t 30, .tmp u]) {tmps : Array Value} {c : Nat} (hp : tmps.getD t undef = .pointer (some ⟨c, 0, none⟩)) {w : World} {a : Adr} (ha : okA a) (hb : Blk w c (ac a).toList 30) :
    (results fn tmps).run Tryz.prog w = .ok (.tuple #[.agg (ac a), tmps.getD u undef]) w := by
  have := loadV_A ha hb
  have hp' : tmps[t]?.getD undef = .pointer (some ⟨c, 0, none⟩) := by simpa using hp
  simp [results, h, hp', this, Sem.run_bind, asAddr]
theorem wpList_load_A {ops : Array Oper} {rest : List Oper} {o : Oper} {f : Act} {w : World} {Q : Exit → Act → World → Prop} (hgd : o.guard = none) (x : Operand) (ho : o.op = .load 30 x)
    {b : Nat} {a : Adr} (ha : okA a) (hb : Blk w b (ac a).toList 30) (hx : f.eval x = .pointer (some ⟨b, 0, none⟩)) (h : wpList Tryz.prog ops Q rest (f.put o.dst (.agg (ac a))) w) : wpList Tryz.prog ops Q (o :: rest) f w :=
  wpList_load_mid hgd 30 x ho b 0 hx (ac a).toList _ (fun j v hj => by rw [Nat.zero_add]; exact hb.cell hj) Tryz.underlying30 rfl (by rw [info_A, Array.length_toList, ac_size ha]) h
theorem wpList_store_A {ops : Array Oper} {rest : List Oper} {o : Oper} {f : Act} {w : World} {Q : Exit → Act → World → Prop} (hgd : o.guard = none) (x y : Operand) (ho : o.op = .store 30 x y)
    {c : Nat} {a0 a : Adr} (h0 : okA a0) (ha : okA a) (hb : Blk w c (ac a0).toList 30) (hx : f.eval x = .pointer (some ⟨c, 0, none⟩)) (hy : f.eval y = .agg (ac a)) (h : wpList Tryz.prog ops Q rest (f.put o.dst undef) (w.setRow c (ac a))) : wpList Tryz.prog ops Q (o :: rest) f w :=
  wpList_plain hgd fun _ hK => wp_store_row 30 x y ho c (ac a) hx hy 30 (ac a0) hb (by rw [info_A, ac_size ha]) (by rw [ac_size ha, ac_size h0]) (ac_one a) (hK _ _ h)
theorem okA_zadr : okA zadr := ⟨rfl, by decide⟩
theorem okA_v4 {a b c d : Int} (h : 0 ≤ a ∧ a < 256) (h1 : 0 ≤ b ∧ b < 256) (h2 : 0 ≤ c ∧ c < 256) (h3 : 0 ≤ d ∧ d < 256) : okA (v4 a b c d) := by
  refine ⟨rfl, fun x hx => ?_⟩
  simp [v4] at hx
  omega
theorem ac_zadr : ac zadr = #[.bool false, .int .u8 0, .int .u8 0, .int .u8 0, .int .u8 0, .int .u8 0, .int .u8 0, .int .u8 0, .int .u8 0, .int .u8 0, .int .u8 0, .int .u8 0, .int .u8 0, .int .u8 0, .int .u8 0, .int .u8 0, .int .u8 0] := rfl
theorem str_eq_nums {l m : List Int} (hl : ∀ x ∈ l, 0 ≤ x ∧ x < 256) (hm : ∀ x ∈ m, 0 ≤ x ∧ x < 256) : strOfNums l = strOfNums m ↔ l = m := by
  constructor
  · intro h
    have h := congrArg (fun x : ByteArray => x.data.toList) h
    simp only [strOfNums_data] at h
    have key : ∀ (l m : List Int), (∀ x ∈ l, 0 ≤ x ∧ x < 256) → (∀ x ∈ m, 0 ≤ x ∧ x < 256) → l.map (fun n => UInt8.ofNat n.toNat) = m.map (fun n => UInt8.ofNat n.toNat) → l = m := by
      intro l
      induction l with
      | nil => intro m _ _ h; cases m with | nil => rfl | cons y m => simp at h
      | cons x l ih =>
        intro m hl hm h
        cases m with
        | nil => simp at h
        | cons y m =>
          simp only [List.map_cons, List.cons.injEq] at h
          have hx := hl x (by simp)
          have hy := hm y (by simp)
          have e := congrArg (fun c : UInt8 => ((c.toNat : Nat) : Int)) h.1
          simp only [u8_back hx.1 hx.2, u8_back hy.1 hy.2] at e
          rw [e, ih m (fun z hz => hl z (by simp [hz])) (fun z hz => hm z (by simp [hz])) h.2]
    exact key l m hl hm h
  · intro h; rw [h]
set_option maxHeartbeats 400000 in
theorem ipV4_any {a b c d : Int} (h : 0 ≤ a ∧ a < 256) (h1 : 0 ≤ b ∧ b < 256) (h2 : 0 ≤ c ∧ c < 256) (h3 : 0 ≤ d ∧ d < 256) (w : World) : Calls Tryz.prog 78 #[.int .u8 a, .int .u8 b, .int .u8 c, .int .u8 d] w fun e w' => e = .returned (av (v4 a b c d)) ∧ Ext w w' := by
  have hv := okA_v4 h h1 h2 h3
  go_enter Tryz.func78, Tryz.ntmps78
  go_upto_region 1 with fail
  rw [← ac_zadr]
  have hx := (Ext.refl w).alloc (.cells (ac zadr) 30)
  have hr := Blk.new w (ac zadr) 30
  generalize w.alloc (.cells (ac zadr) 30) = w2 at *
  have hx2 := fun cs => hx.setRow (Nat.le_refl _) cs
  go_wp2_with (refine wpList_store_A rfl _ _ rfl okA_zadr hv hr rfl rfl ?_)
  exact bodyPost_ret (res_A rfl rfl hv (hr.row _)) rfl ⟨rfl, hx2 _⟩
set_option maxHeartbeats 400000 in
theorem rV4_any {a b c d : Int} (h : 0 ≤ a ∧ a < 256) (h1 : 0 ≤ b ∧ b < 256) (h2 : 0 ≤ c ∧ c < 256) (h3 : 0 ≤ d ∧ d < 256) (w : World) : Calls Tryz.prog 75 #[.int .u8 a, .int .u8 b, .int .u8 c, .int .u8 d] w fun e w' => e = .returned (av (v4 a b c d)) ∧ Ext w w' := by
  have hv := okA_v4 h h1 h2 h3
  go_enter Tryz.func75, Tryz.ntmps75
  go_upto_region 1 with fail
  rw [← ac_zadr]
  have hx := (Ext.refl w).alloc (.cells (ac zadr) 30)
  have hr := Blk.new w (ac zadr) 30
  generalize w.alloc (.cells (ac zadr) 30) = w2 at *
  have hx2 := fun cs => hx.setRow (Nat.le_refl _) cs
  go_wp2_with (refine wpList_store_A rfl _ _ rfl okA_zadr hv hr rfl rfl ?_)
  exact bodyPost_ret (res_A rfl rfl hv (hr.row _)) rfl ⟨rfl, hx2 _⟩
theorem okA_unmap {a : Adr} (ha : okA a) : okA (unmapA a) := by
  unfold unmapA
  split
  · exact okA_v4 (X_bd ha _) (X_bd ha _) (X_bd ha _) (X_bd ha _)
  · exact ha
end Go.Proofs.YtpdoddelnahlnaaGreatDoor
