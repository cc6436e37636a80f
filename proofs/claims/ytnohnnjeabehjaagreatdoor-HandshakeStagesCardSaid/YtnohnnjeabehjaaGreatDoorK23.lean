/-
  Several texts joined: HcS, HsS, HtA, HcD.
-/
import Derived.Test.YtnohnnjeabehjaaGreatDoorK20
import Derived.Test.YtnohnnjeabehjaaGreatDoorK17
import Derived.Test.YtnohnnjeabehjaaGreatDoorK22
import Derived.Test.YtnohnnjeabehjaaGreatDoorK19
import Derived.Test.YtnohnnjeabehjaaGreatDoorK04
import Derived.Test.YtnohnnjeabehjaaGreatDoorK21
set_option maxHeartbeats 2000000
set_option maxRecDepth 4000
set_option linter.unusedVariables false
set_option linter.unusedSimpArgs false
namespace Go.Proofs.YtnohnnjeabehjaaGreatDoor
open Go.RowKit
theorem Blk.mid {w : World} {b : Nat} {pre mid post : List Value} {t : TypeId} (h : Blk w b (pre ++ (mid ++ post)) t) {o : Nat} (ho : pre.length = o) : w.rangeAt b o mid := fun j v hj => by
 refine h.cell ?_
 have hl := (List.getElem?_eq_some_iff.1 hj).1
 rw [List.getElem?_append_right (by omega), show o + j - pre.length = j by omega, List.getElem?_append_left hl]; exact hj
theorem Blk.one {w : World} {b : Nat} {pre post : List Value} {v : Value} {t : TypeId} (h : Blk w b (pre ++ (v :: post)) t) {o : Nat} (ho : pre.length = o) : w.cell? ⟨b, o, none⟩ = some v := h.cell (by
 rw [List.getElem?_append_right (by omega), show o - pre.length = 0 by omega]; rfl)
theorem Blk.setOne {w : World} {b : Nat} {pre post : List Value} {v : Value} {t : TypeId} (h : Blk w b (pre ++ (v :: post)) t) {o : Nat} (ho : pre.length = o) (x : Value) : Blk (w.setCell ⟨b, o, none⟩ x) b (pre ++ (x :: post)) t := by
 have := h.set o x
 rw [List.set_append_right _ _ (by omega), show o - pre.length = 0 by omega] at this
 exact this
theorem Blk.setMid {w : World} {b : Nat} {pre mid new post : List Value} {t : TypeId} (h : Blk w b (pre ++ (mid ++ post)) t) {o : Nat} (ho : pre.length = o) (hl : new.length = mid.length) : Blk (w.setCells b o new) b (pre ++ (new ++ post)) t := by
 have := Blk.setCells new o w _ (by simp only [List.length_append]; omega) h
 rw [List.take_left' ho, List.append_assoc, show o + new.length = pre.length + mid.length by omega, ← List.drop_drop, List.drop_left, List.drop_left] at this
 exact this
theorem Blk.there {w : World} {b : Nat} {pre mid post : List Value} {t : TypeId} (h : Blk w b (pre ++ (mid ++ post)) t) {o n : Nat} (ho : pre.length = o) (hn : mid.length = n) : w.there b o n := fun j hj => ⟨by
 have := h.mid ho j (mid[j]'(by omega)) (List.getElem?_eq_getElem _)
 rw [this]; rfl, h.free _⟩
theorem Keep.setCells {S : List Nat} {a : World} {b : Nat} (hb : b ∈ S ∨ a.heap.size <= b) : ∀ (vs : List Value) (o : Nat) (w : World), Keep S a w -> Keep S a (w.setCells b o vs)
 | [], _, _, h => h
 | v :: r, o, w, h => Keep.setCells hb r (o + 1) _ (h.setCell (p := ⟨b, o, none⟩) hb v)
def crl (h : Cr) : List Value := (tc h.1).toList ++ [.bool h.2.1, .string h.2.2.1, .string h.2.2.2]
def crc (h : Cr) : Array Value := (crl h).toArray
abbrev cv (h : Cr) : Value := .agg (crc h)
theorem tc_len {t : Tgt} (ht : okT t) : (tc t).toList.length = 19 := by rw [Array.length_toList, tc_size ht]
theorem crl_len {h : Cr} (ho : okC h) : (crl h).length = 22 := by unfold crl; rw [List.length_append, tc_len ho.1]; rfl
theorem crc_size {h : Cr} (ho : okC h) : (crc h).size = 22 := by unfold crc; rw [List.size_toArray, crl_len ho]
theorem tl_one (t : Tgt) : ∀ v ∈ (tc t).toList, v.oneCell' = true := fun v hv => Array.all_eq_true_iff_forall_mem.1 (tc_one t) v (by simpa using hv)
theorem crl_one (h : Cr) : ∀ v ∈ crl h, v.oneCell' = true := by
 intro v hv
 unfold crl at hv
 rcases List.mem_append.1 hv with hv | hv
 ·exact tl_one _ v hv
 ·simp only [List.mem_cons, List.not_mem_nil, or_false] at hv
  rcases hv with rfl | rfl | rfl <;> rfl
theorem crc_one (h : Cr) : (crc h).all (·.oneCell') = true := all_oneCell_toArray (crl_one h)
abbrev RBlk (w : World) (b : Nat) (h : Cr) : Prop := Blk w b (crl h) 49
theorem info_C : (Tryz.prog.info? 49).map (·.size) = some 22 := by kernel_rfl
theorem crl_u (h : Cr) : crl h = ((tc h.1).toList ++ [.bool h.2.1]) ++ (.string h.2.2.1 :: [.string h.2.2.2]) := by unfold crl; simp
theorem crl_p (h : Cr) : crl h = ((tc h.1).toList ++ [.bool h.2.1, .string h.2.2.1]) ++ (.string h.2.2.2 :: []) := by unfold crl; simp
theorem RBlk.has {w : World} {b : Nat} {h : Cr} (ho : okC h) (hb : RBlk w b h) : w.cell? ⟨b, 19, none⟩ = some (.bool h.2.1) := Blk.one (pre := (tc h.1).toList) hb (tc_len ho.1)
theorem RBlk.user {w : World} {b : Nat} {h : Cr} (ho : okC h) (hb : RBlk w b h) : w.cell? ⟨b, 20, none⟩ = some (.string h.2.2.1) := by
 unfold RBlk at hb; rw [crl_u] at hb; exact Blk.one hb (by rw [List.length_append, tc_len ho.1]; rfl)
theorem RBlk.pass {w : World} {b : Nat} {h : Cr} (ho : okC h) (hb : RBlk w b h) : w.cell? ⟨b, 21, none⟩ = some (.string h.2.2.2) := by
 unfold RBlk at hb; rw [crl_p] at hb; exact Blk.one hb (by rw [List.length_append, tc_len ho.1]; rfl)
theorem RBlk.setHas {w : World} {b : Nat} {h : Cr} (ho : okC h) (hb : RBlk w b h) (x : Bool) : RBlk (w.setCell ⟨b, 19, none⟩ (.bool x)) b (h.1, x, h.2.2) := Blk.setOne (pre := (tc h.1).toList) hb (tc_len ho.1) _
theorem RBlk.setUser {w : World} {b : Nat} {h : Cr} (ho : okC h) (hb : RBlk w b h) (x : ByteArray) : RBlk (w.setCell ⟨b, 20, none⟩ (.string x)) b (h.1, h.2.1, x, h.2.2.2) := by
 unfold RBlk at *; rw [crl_u] at hb ⊢; exact Blk.setOne hb (by rw [List.length_append, tc_len ho.1]; rfl) _
theorem RBlk.setPass {w : World} {b : Nat} {h : Cr} (ho : okC h) (hb : RBlk w b h) (x : ByteArray) : RBlk (w.setCell ⟨b, 21, none⟩ (.string x)) b (h.1, h.2.1, h.2.2.1, x) := by
 unfold RBlk at *; rw [crl_p] at hb ⊢; exact Blk.setOne hb (by rw [List.length_append, tc_len ho.1]; rfl) _
theorem RBlk.setTgt {w : World} {b : Nat} {h : Cr} (ho : okC h) (hb : RBlk w b h) {t : Tgt} (ht : okT t) : RBlk (w.setCells b 0 (tc t).toList) b (t, h.2) :=
 Blk.setMid (pre := []) (mid := (tc h.1).toList) hb rfl (by rw [tc_len ht, tc_len ho.1])
theorem loadV_C {w : World} {b : Nat} {h : Cr} (ho : okC h) (hb : RBlk w b h) : (loadVar 49 ⟨b, 0, none⟩).run Tryz.prog w = .ok (.agg (crc h)) w := by
 have := run_loadVar_mid (P := Tryz.prog) w b 0 49 (crl h) _ (Blk.mid (pre := []) (mid := crl h) (post := []) (by simpa using hb) rfl) Tryz.underlying49 rfl (by rw [info_C, crl_len ho])
 simpa [crc] using this
theorem RBlk.range {w : World} {b : Nat} {h : Cr} (hb : RBlk w b h) : w.rangeAt b 0 (crl h) := Blk.mid (pre := []) (mid := crl h) (post := []) (by simpa using hb) rfl
theorem wpList_load_C {ops : Array Oper} {rest : List Oper} {o : Oper} {f : Act} {w : World} {Q : Exit -> Act -> World -> Prop} (hgd : o.guard = none) (x : Operand) (ho : o.op = .load 49 x)
  {b k : Nat} {h : Cr} (hc : okC h) (hr : w.rangeAt b k (crl h)) (hx : f.eval x = .pointer (some ⟨b, k, none⟩)) (hn : wpList Tryz.prog ops Q rest (f.put o.dst (.agg (crc h))) w) : wpList Tryz.prog ops Q (o :: rest) f w :=
 wpList_load_mid hgd 49 x ho b k hx (crl h) _ hr Tryz.underlying49 rfl (by rw [info_C, crl_len hc]) hn
theorem wpList_store_C {ops : Array Oper} {rest : List Oper} {o : Oper} {f : Act} {w : World} {Q : Exit -> Act -> World -> Prop} (hgd : o.guard = none) (x y : Operand) (ho : o.op = .store 49 x y)
  {c : Nat} {h0 h : Cr} (hc0 : okC h0) (hc : okC h) (hb : RBlk w c h0) (hx : f.eval x = .pointer (some ⟨c, 0, none⟩)) (hy : f.eval y = .agg (crc h)) (hn : wpList Tryz.prog ops Q rest (f.put o.dst undef) (w.setRow c (crc h))) : wpList Tryz.prog ops Q (o :: rest) f w :=
 wpList_plain hgd fun _ hK => wp_store_row 49 x y ho c (crc h) hx hy 49 (crc h0) hb (by rw [info_C, crc_size hc]) (by rw [crc_size hc, crc_size hc0]) (crc_one h) (hK _ _ hn)
theorem wpList_store_Tm {ops : Array Oper} {rest : List Oper} {o : Oper} {f : Act} {w : World} {Q : Exit -> Act -> World -> Prop} (hgd : o.guard = none) (x y : Operand) (ho : o.op = .store 43 x y)
  {c k : Nat} {t : Tgt} (ht : okT t) (hb : w.there c k 19) (hx : f.eval x = .pointer (some ⟨c, k, none⟩)) (hy : f.eval y = .agg (tc t)) (h : wpList Tryz.prog ops Q rest (f.put o.dst undef) (w.setCells c k (tc t).toList)) : wpList Tryz.prog ops Q (o :: rest) f w :=
 wpList_store_mid hgd 43 x y ho c k (tc t) hx hy (by rw [tc_size ht]; exact hb) (by rw [info_T, tc_size ht]) (tc_one t) h
theorem RBlk.thereT {w : World} {b : Nat} {h : Cr} (ho : okC h) (hb : RBlk w b h) : w.there b 0 19 := Blk.there (pre := []) (mid := (tc h.1).toList) hb rfl (tc_len ho.1)
theorem res_C3 {fn : Func} {t u v : Tmp} (h : fn.results = #[.cell t 49, .tmp u, .tmp v]) {tmps : Array Value} {c : Nat} (hq : tmps.getD t undef = .pointer (some ⟨c, 0, none⟩)) {w : World} {p : Cr} (hp : okC p) (hb : RBlk w c p) :
  (results fn tmps).run Tryz.prog w = .ok (.tuple #[.agg (crc p), tmps.getD u undef, tmps.getD v undef]) w := by
 have := loadV_C hp hb
 have hq' : tmps[t]?.getD undef = .pointer (some ⟨c, 0, none⟩) := by simpa using hq
 simp [results, h, hq', this, Sem.run_bind, asAddr]
def pcl (n : Int) (h : Cr) (s : Bool) : List Value := .int .i64 n :: (crl h ++ [.bool s])
def pcc (n : Int) (h : Cr) (s : Bool) : Array Value := (pcl n h s).toArray
abbrev PBlk (w : World) (b : Nat) (n : Int) (h : Cr) (s : Bool) : Prop := Blk w b (pcl n h s) 181
theorem pcl_t (n : Int) (h : Cr) (s : Bool) : pcl n h s = [.int .i64 n] ++ ((tc h.1).toList ++ [.bool h.2.1, .string h.2.2.1, .string h.2.2.2, .bool s]) := by unfold pcl crl; simp
theorem pcl_h (n : Int) (h : Cr) (s : Bool) : pcl n h s = (.int .i64 n :: (tc h.1).toList) ++ (.bool h.2.1 :: [.string h.2.2.1, .string h.2.2.2, .bool s]) := by unfold pcl crl; simp
theorem pcl_u (n : Int) (h : Cr) (s : Bool) : pcl n h s = (.int .i64 n :: ((tc h.1).toList ++ [.bool h.2.1])) ++ (.string h.2.2.1 :: [.string h.2.2.2, .bool s]) := by unfold pcl crl; simp
theorem pcl_p (n : Int) (h : Cr) (s : Bool) : pcl n h s = (.int .i64 n :: ((tc h.1).toList ++ [.bool h.2.1, .string h.2.2.1])) ++ (.string h.2.2.2 :: [.bool s]) := by unfold pcl crl; simp
theorem pcl_s (n : Int) (h : Cr) (s : Bool) : pcl n h s = (.int .i64 n :: crl h) ++ (.bool s :: []) := by unfold pcl; simp
section
variable {w : World} {b : Nat} {n : Int} {h : Cr} {s : Bool}
theorem PBlk.num (hb : PBlk w b n h s) : w.cell? ⟨b, 0, none⟩ = some (.int .i64 n) := hb.cell rfl
theorem PBlk.seen (ho : okC h) (hb : PBlk w b n h s) : w.cell? ⟨b, 23, none⟩ = some (.bool s) := by
 unfold PBlk at hb; rw [pcl_s] at hb; exact Blk.one hb (by rw [List.length_cons, crl_len ho])
theorem PBlk.has8 (ho : okC h) (hb : PBlk w b n h s) : w.cell? ⟨b, 20, none⟩ = some (.bool h.2.1) := by
 unfold PBlk at hb; rw [pcl_h] at hb; exact Blk.one hb (by rw [List.length_cons, tc_len ho.1])
theorem PBlk.user8 (ho : okC h) (hb : PBlk w b n h s) : w.cell? ⟨b, 21, none⟩ = some (.string h.2.2.1) := by
 unfold PBlk at hb; rw [pcl_u] at hb; exact Blk.one hb (by rw [List.length_cons, List.length_append, tc_len ho.1]; rfl)
theorem PBlk.pass8 (ho : okC h) (hb : PBlk w b n h s) : w.cell? ⟨b, 22, none⟩ = some (.string h.2.2.2) := by
 unfold PBlk at hb; rw [pcl_p] at hb; exact Blk.one hb (by rw [List.length_cons, List.length_append, tc_len ho.1]; rfl)
theorem PBlk.setN (hb : PBlk w b n h s) (x : Int) : PBlk (w.setCell ⟨b, 0, none⟩ (.int .i64 x)) b x h s := Blk.setOne (pre := []) hb rfl _
theorem PBlk.setHas (ho : okC h) (hb : PBlk w b n h s) (x : Bool) : PBlk (w.setCell ⟨b, 20, none⟩ (.bool x)) b n (h.1, x, h.2.2) s := by
 unfold PBlk at *; rw [pcl_h] at hb ⊢; exact Blk.setOne hb (by rw [List.length_cons, tc_len ho.1]) _
theorem PBlk.setUser (ho : okC h) (hb : PBlk w b n h s) (x : ByteArray) : PBlk (w.setCell ⟨b, 21, none⟩ (.string x)) b n (h.1, h.2.1, x, h.2.2.2) s := by
 unfold PBlk at *; rw [pcl_u] at hb ⊢; exact Blk.setOne hb (by rw [List.length_cons, List.length_append, tc_len ho.1]; rfl) _
theorem PBlk.setPass (ho : okC h) (hb : PBlk w b n h s) (x : ByteArray) : PBlk (w.setCell ⟨b, 22, none⟩ (.string x)) b n (h.1, h.2.1, h.2.2.1, x) s := by
 unfold PBlk at *; rw [pcl_p] at hb ⊢; exact Blk.setOne hb (by rw [List.length_cons, List.length_append, tc_len ho.1]; rfl) _
theorem PBlk.setSeen (ho : okC h) (hb : PBlk w b n h s) (x : Bool) : PBlk (w.setCell ⟨b, 23, none⟩ (.bool x)) b n h x := by
 unfold PBlk at *; rw [pcl_s] at hb ⊢; exact Blk.setOne hb (by rw [List.length_cons, crl_len ho]) _
theorem PBlk.setTgt (ho : okC h) (hb : PBlk w b n h s) {t : Tgt} (ht : okT t) : PBlk (w.setCells b 1 (tc t).toList) b n (t, h.2) s := by
 unfold PBlk at *; rw [pcl_t] at hb ⊢; exact Blk.setMid hb rfl (by rw [tc_len ht, tc_len ho.1])
theorem PBlk.thereT (ho : okC h) (hb : PBlk w b n h s) : w.there b 1 19 := by
 unfold PBlk at hb; rw [pcl_t] at hb; exact Blk.there hb rfl (tc_len ho.1)
theorem PBlk.range (hb : PBlk w b n h s) : w.rangeAt b 1 (crl h) := Blk.mid (pre := [.int .i64 n]) (mid := crl h) (post := [.bool s]) hb rfl
end
open Go.RowKit
def hcl (reg : Value) (s : Hst) : List Value :=
 [reg, .int .i64 s.1, .int .i64 s.2.1, .int .i64 s.2.2.1, .int .i64 s.2.2.2.1] ++ ((tc s.2.2.2.2.1).toList ++ [.int .i64 s.2.2.2.2.2])
def HBlk (ty : TypeId) (w : World) (b : Nat) (reg : Value) (s : Hst) : Prop := Blk w b (hcl reg s) ty
theorem hcl_w (reg : Value) (s : Hst) : hcl reg s = ([reg, .int .i64 s.1, .int .i64 s.2.1, .int .i64 s.2.2.1, .int .i64 s.2.2.2.1] ++ (tc s.2.2.2.2.1).toList) ++ (.int .i64 s.2.2.2.2.2 :: []) := by unfold hcl; rw [List.append_assoc]
def okH (s : Hst) : Prop := okT s.2.2.2.2.1
section
variable {ty : TypeId} {w : World} {b : Nat} {reg : Value} {s : Hst}
theorem HBlk.regc (h : HBlk ty w b reg s) : w.cell? ⟨b, 0, none⟩ = some reg := Blk.one (pre := []) h rfl
theorem HBlk.stage (h : HBlk ty w b reg s) : w.cell? ⟨b, 1, none⟩ = some (.int .i64 s.1) := Blk.one (pre := [reg]) h rfl
theorem HBlk.state (h : HBlk ty w b reg s) : w.cell? ⟨b, 2, none⟩ = some (.int .i64 s.2.1) := Blk.one (pre := [reg, .int .i64 s.1]) h rfl
theorem HBlk.proto (h : HBlk ty w b reg s) : w.cell? ⟨b, 3, none⟩ = some (.int .i64 s.2.2.1) := Blk.one (pre := [reg, .int .i64 s.1, .int .i64 s.2.1]) h rfl
theorem HBlk.tenant (h : HBlk ty w b reg s) : w.cell? ⟨b, 4, none⟩ = some (.int .i64 s.2.2.2.1) := Blk.one (pre := [reg, .int .i64 s.1, .int .i64 s.2.1, .int .i64 s.2.2.1]) h rfl
theorem HBlk.why (ho : okH s) (h : HBlk ty w b reg s) : w.cell? ⟨b, 24, none⟩ = some (.int .i64 s.2.2.2.2.2) := by
 unfold HBlk at h; rw [hcl_w] at h; exact Blk.one h (by rw [List.length_append, tc_len ho]; rfl)
theorem HBlk.range (h : HBlk ty w b reg s) : w.rangeAt b 5 (tc s.2.2.2.2.1).toList := Blk.mid (pre := [reg, .int .i64 s.1, .int .i64 s.2.1, .int .i64 s.2.2.1, .int .i64 s.2.2.2.1]) (mid := (tc s.2.2.2.2.1).toList) (post := [.int .i64 s.2.2.2.2.2]) h rfl
theorem HBlk.thereT (ho : okH s) (h : HBlk ty w b reg s) : w.there b 5 19 := Blk.there (pre := [reg, .int .i64 s.1, .int .i64 s.2.1, .int .i64 s.2.2.1, .int .i64 s.2.2.2.1]) (mid := (tc s.2.2.2.2.1).toList) (post := [.int .i64 s.2.2.2.2.2]) h rfl (tc_len ho)
theorem HBlk.setStage (h : HBlk ty w b reg s) (x : Int) : HBlk ty (w.setCell ⟨b, 1, none⟩ (.int .i64 x)) b reg (x, s.2) := Blk.setOne (pre := [reg]) h rfl _
theorem HBlk.setState (h : HBlk ty w b reg s) (x : Int) : HBlk ty (w.setCell ⟨b, 2, none⟩ (.int .i64 x)) b reg (s.1, x, s.2.2) := Blk.setOne (pre := [reg, .int .i64 s.1]) h rfl _
theorem HBlk.setProto (h : HBlk ty w b reg s) (x : Int) : HBlk ty (w.setCell ⟨b, 3, none⟩ (.int .i64 x)) b reg (s.1, s.2.1, x, s.2.2.2) := Blk.setOne (pre := [reg, .int .i64 s.1, .int .i64 s.2.1]) h rfl _
theorem HBlk.setTenant (h : HBlk ty w b reg s) (x : Int) : HBlk ty (w.setCell ⟨b, 4, none⟩ (.int .i64 x)) b reg (s.1, s.2.1, s.2.2.1, x, s.2.2.2.2) := Blk.setOne (pre := [reg, .int .i64 s.1, .int .i64 s.2.1, .int .i64 s.2.2.1]) h rfl _
theorem HBlk.setWhy (ho : okH s) (h : HBlk ty w b reg s) (x : Int) : HBlk ty (w.setCell ⟨b, 24, none⟩ (.int .i64 x)) b reg (s.1, s.2.1, s.2.2.1, s.2.2.2.1, s.2.2.2.2.1, x) := by
 unfold HBlk at *; rw [hcl_w] at h ⊢; exact Blk.setOne h (by rw [List.length_append, tc_len ho]; rfl) _
theorem HBlk.setTgt (ho : okH s) (h : HBlk ty w b reg s) {t : Tgt} (ht : okT t) : HBlk ty (w.setCells b 5 (tc t).toList) b reg (s.1, s.2.1, s.2.2.1, s.2.2.2.1, t, s.2.2.2.2.2) :=
 Blk.setMid (pre := [reg, .int .i64 s.1, .int .i64 s.2.1, .int .i64 s.2.2.1, .int .i64 s.2.2.2.1]) (mid := (tc s.2.2.2.2.1).toList) (post := [.int .i64 s.2.2.2.2.2]) h rfl (by rw [tc_len ht, tc_len ho])
theorem HBlk.free (h : HBlk ty w b reg s) (i : Nat) : w.frozen? ⟨b, i, none⟩ = false := Blk.free h i
theorem HBlk.lt (h : HBlk ty w b reg s) : b < w.heap.size := Blk.lt h
theorem HBlk.ext {w' : World} (h : HBlk ty w b reg s) (k : Ext w w') : HBlk ty w' b reg s := Blk.ext h k
theorem HBlk.keep {S : List Nat} {w' : World} (h : HBlk ty w b reg s) (k : Keep S w w') (hb : b ∉ S) : HBlk ty w' b reg s := Blk.keep h k hb
end
open Go.RowKit Go.Joins
def st400 : ByteArray := ⟨#[72, 84, 84, 80, 47, 49, 46, 49, 32, 52, 48, 48, 32, 66, 97, 100, 32, 82, 101, 113, 117, 101, 115, 116, 13, 10, 67, 111, 110, 116, 101, 110, 116, 45, 76, 101, 110, 103, 116, 104, 58, 32, 48, 13, 10, 13, 10]⟩
def st407 : ByteArray := ⟨#[72, 84, 84, 80, 47, 49, 46, 49, 32, 52, 48, 55, 32, 80, 114, 111, 120, 121, 32, 65, 117, 116, 104, 101, 110, 116, 105, 99, 97, 116, 105, 111, 110, 32, 82, 101, 113, 117, 105, 114, 101, 100, 13, 10, 80, 114, 111, 120, 121, 45, 65, 117, 116, 104, 101, 110, 116, 105, 99, 97, 116, 101, 58, 32, 66, 97, 115, 105, 99, 32, 114, 101, 97, 108, 109, 61, 34, 103, 105, 110, 110, 101, 108, 34, 13, 10, 67, 111, 110, 116, 101, 110, 116, 45, 76, 101, 110, 103, 116, 104, 58, 32, 48, 13, 10, 13, 10]⟩
def st408 : ByteArray := ⟨#[72, 84, 84, 80, 47, 49, 46, 49, 32, 52, 48, 56, 32, 82, 101, 113, 117, 101, 115, 116, 32, 84, 105, 109, 101, 111, 117, 116, 13, 10, 67, 111, 110, 116, 101, 110, 116, 45, 76, 101, 110, 103, 116, 104, 58, 32, 48, 13, 10, 13, 10]⟩
def txt3 : Txt := ⟨st400, st407⟩
theorem it400 : txt (Lib.itoa 400) = ⟨#[52, 48, 48]⟩ := by decide +kernel
theorem dt400 : txt (Lib.decDigits 400) = ⟨#[52, 48, 48]⟩ := by decide +kernel
theorem it407 : txt (Lib.itoa 407) = ⟨#[52, 48, 55]⟩ := by decide +kernel
theorem dt407 : txt (Lib.decDigits 407) = ⟨#[52, 48, 55]⟩ := by decide +kernel
theorem it408 : txt (Lib.itoa 408) = ⟨#[52, 48, 56]⟩ := by decide +kernel
theorem dt408 : txt (Lib.decDigits 408) = ⟨#[52, 48, 56]⟩ := by decide +kernel
theorem hst400 (w : World) (htabs : Tabs w) : Calls Tryz.prog 44 #[.int .i64 400] w fun e w' => e = .returned (.string st400) /\ Ext w w' := by
 have KN0 := (numfmt_all 400 (by unfold i64ok; omega) w htabs)
 rw [it400] at KN0
 have KN := Lib.hid KN0
 clear KN0
 have KP : Hid (∀ w, Calls Tryz.prog 62 #[.int .i64 400] w fun e w' => e = .returned (.string ⟨#[66, 97, 100, 32, 82, 101, 113, 117, 101, 115, 116]⟩) /\ w = w') := Lib.hid (fun w => by
  go_enter Tryz.func62, Tryz.ntmps62
  go_wp2
  go_ret
  exact ⟨rfl, rfl⟩)
 have R : Hid ((((⟨#[72, 84, 84, 80, 47, 49, 46, 49, 32]⟩ ++ ⟨#[52, 48, 48]⟩ ++ ⟨#[32]⟩ ++ ⟨#[66, 97, 100, 32, 82, 101, 113, 117, 101, 115, 116]⟩ ++ ⟨#[13, 10]⟩) ++ ⟨#[67, 111, 110, 116, 101, 110, 116, 45, 76, 101, 110, 103, 116, 104, 58, 32, 48, 13, 10]⟩) ++ ⟨#[13, 10]⟩ : ByteArray) = st400) := Lib.hid (by decide +kernel)
 go_enter Tryz.func44, Tryz.ntmps44
 go_wp2_with (first | (go_at_call 62; refine (KP.out _).mono ?_; rintro e w1 ⟨rfl, rfl⟩) | (go_at_call 63; refine KN.out.mono ?_; rintro e w2 ⟨rfl, hx2⟩))
 go_ret
 exact ⟨by rw [← R.out]; rfl, hx2⟩
theorem hst407 (w : World) (htabs : Tabs w) : Calls Tryz.prog 44 #[.int .i64 407] w fun e w' => e = .returned (.string st407) /\ Ext w w' := by
 have KN0 := (numfmt_all 407 (by unfold i64ok; omega) w htabs)
 rw [it407] at KN0
 have KN := Lib.hid KN0
 clear KN0
 have KP : Hid (∀ w, Calls Tryz.prog 62 #[.int .i64 407] w fun e w' => e = .returned (.string ⟨#[80, 114, 111, 120, 121, 32, 65, 117, 116, 104, 101, 110, 116, 105, 99, 97, 116, 105, 111, 110, 32, 82, 101, 113, 117, 105, 114, 101, 100]⟩) /\ w = w') := Lib.hid (fun w => by
  go_enter Tryz.func62, Tryz.ntmps62
  go_wp2
  go_ret
  exact ⟨rfl, rfl⟩)
 have R : Hid (((((⟨#[72, 84, 84, 80, 47, 49, 46, 49, 32]⟩ ++ ⟨#[52, 48, 55]⟩ ++ ⟨#[32]⟩ ++ ⟨#[80, 114, 111, 120, 121, 32, 65, 117, 116, 104, 101, 110, 116, 105, 99, 97, 116, 105, 111, 110, 32, 82, 101, 113, 117, 105, 114, 101, 100]⟩ ++ ⟨#[13, 10]⟩) ++ ⟨#[80, 114, 111, 120, 121, 45, 65, 117, 116, 104, 101, 110, 116, 105, 99, 97, 116, 101, 58, 32, 66, 97, 115, 105, 99, 32, 114, 101, 97, 108, 109, 61, 34, 103, 105, 110, 110, 101, 108, 34, 13, 10]⟩) ++ ⟨#[67, 111, 110, 116, 101, 110, 116, 45, 76, 101, 110, 103, 116, 104, 58, 32, 48, 13, 10]⟩) ++ ⟨#[13, 10]⟩ : ByteArray) = st407) := Lib.hid (by decide +kernel)
 go_enter Tryz.func44, Tryz.ntmps44
 go_wp2_with (first | (go_at_call 62; refine (KP.out _).mono ?_; rintro e w1 ⟨rfl, rfl⟩) | (go_at_call 63; refine KN.out.mono ?_; rintro e w2 ⟨rfl, hx2⟩))
 go_ret
 exact ⟨by rw [← R.out]; rfl, hx2⟩
theorem hst408 (w : World) (htabs : Tabs w) : Calls Tryz.prog 44 #[.int .i64 408] w fun e w' => e = .returned (.string st408) /\ Ext w w' := by
 have KN0 := (numfmt_all 408 (by unfold i64ok; omega) w htabs)
 rw [it408] at KN0
 have KN := Lib.hid KN0
 clear KN0
 have KP : Hid (∀ w, Calls Tryz.prog 62 #[.int .i64 408] w fun e w' => e = .returned (.string ⟨#[82, 101, 113, 117, 101, 115, 116, 32, 84, 105, 109, 101, 111, 117, 116]⟩) /\ w = w') := Lib.hid (fun w => by
  go_enter Tryz.func62, Tryz.ntmps62
  go_wp2
  go_ret
  exact ⟨rfl, rfl⟩)
 have R : Hid ((((⟨#[72, 84, 84, 80, 47, 49, 46, 49, 32]⟩ ++ ⟨#[52, 48, 56]⟩ ++ ⟨#[32]⟩ ++ ⟨#[82, 101, 113, 117, 101, 115, 116, 32, 84, 105, 109, 101, 111, 117, 116]⟩ ++ ⟨#[13, 10]⟩) ++ ⟨#[67, 111, 110, 116, 101, 110, 116, 45, 76, 101, 110, 103, 116, 104, 58, 32, 48, 13, 10]⟩) ++ ⟨#[13, 10]⟩ : ByteArray) = st408) := Lib.hid (by decide +kernel)
 go_enter Tryz.func44, Tryz.ntmps44
 go_wp2_with (first | (go_at_call 62; refine (KP.out _).mono ?_; rintro e w1 ⟨rfl, rfl⟩) | (go_at_call 63; refine KN.out.mono ?_; rintro e w2 ⟨rfl, hx2⟩))
 go_ret
 exact ⟨by rw [← R.out]; rfl, hx2⟩
theorem rst400 (w : World) : Calls Tryz.prog 27 #[.int .i64 400] w fun e w' => e = .returned (.string st400) /\ Ext w w' := by
 have KN0 := (fdec_any 400 (by decide) w)
 rw [dt400] at KN0
 have KN := Lib.hid KN0
 clear KN0
 have KP : Hid (∀ w, Calls Tryz.prog 48 #[.int .i64 400] w fun e w' => e = .returned (.string ⟨#[66, 97, 100, 32, 82, 101, 113, 117, 101, 115, 116]⟩) /\ w = w') := Lib.hid (fun w => by
  go_enter Tryz.func48, Tryz.ntmps48
  go_wp2
  go_ret
  exact ⟨rfl, rfl⟩)
 have R : Hid ((((⟨#[72, 84, 84, 80, 47, 49, 46, 49, 32]⟩ ++ ⟨#[52, 48, 48]⟩ ++ ⟨#[32]⟩ ++ ⟨#[66, 97, 100, 32, 82, 101, 113, 117, 101, 115, 116]⟩ ++ ⟨#[13, 10]⟩) ++ ⟨#[67, 111, 110, 116, 101, 110, 116, 45, 76, 101, 110, 103, 116, 104, 58, 32, 48, 13, 10]⟩) ++ ⟨#[13, 10]⟩ : ByteArray) = st400) := Lib.hid (by decide +kernel)
 go_enter Tryz.func27, Tryz.ntmps27
 go_wp2_with (first | (go_at_call 48; refine (KP.out _).mono ?_; rintro e w1 ⟨rfl, rfl⟩) | (go_at_call 49; refine KN.out.mono ?_; rintro e w2 ⟨rfl, hx2⟩))
 go_ret
 exact ⟨by rw [← R.out]; rfl, hx2⟩
theorem rst407 (w : World) : Calls Tryz.prog 27 #[.int .i64 407] w fun e w' => e = .returned (.string st407) /\ Ext w w' := by
 have KN0 := (fdec_any 407 (by decide) w)
 rw [dt407] at KN0
 have KN := Lib.hid KN0
 clear KN0
 have KP : Hid (∀ w, Calls Tryz.prog 48 #[.int .i64 407] w fun e w' => e = .returned (.string ⟨#[80, 114, 111, 120, 121, 32, 65, 117, 116, 104, 101, 110, 116, 105, 99, 97, 116, 105, 111, 110, 32, 82, 101, 113, 117, 105, 114, 101, 100]⟩) /\ w = w') := Lib.hid (fun w => by
  go_enter Tryz.func48, Tryz.ntmps48
  go_wp2
  go_ret
  exact ⟨rfl, rfl⟩)
 have R : Hid (((((⟨#[72, 84, 84, 80, 47, 49, 46, 49, 32]⟩ ++ ⟨#[52, 48, 55]⟩ ++ ⟨#[32]⟩ ++ ⟨#[80, 114, 111, 120, 121, 32, 65, 117, 116, 104, 101, 110, 116, 105, 99, 97, 116, 105, 111, 110, 32, 82, 101, 113, 117, 105, 114, 101, 100]⟩ ++ ⟨#[13, 10]⟩) ++ ⟨#[80, 114, 111, 120, 121, 45, 65, 117, 116, 104, 101, 110, 116, 105, 99, 97, 116, 101, 58, 32, 66, 97, 115, 105, 99, 32, 114, 101, 97, 108, 109, 61, 34, 103, 105, 110, 110, 101, 108, 34, 13, 10]⟩) ++ ⟨#[67, 111, 110, 116, 101, 110, 116, 45, 76, 101, 110, 103, 116, 104, 58, 32, 48, 13, 10]⟩) ++ ⟨#[13, 10]⟩ : ByteArray) = st407) := Lib.hid (by decide +kernel)
 go_enter Tryz.func27, Tryz.ntmps27
 go_wp2_with (first | (go_at_call 48; refine (KP.out _).mono ?_; rintro e w1 ⟨rfl, rfl⟩) | (go_at_call 49; refine KN.out.mono ?_; rintro e w2 ⟨rfl, hx2⟩))
 go_ret
 exact ⟨by rw [← R.out]; rfl, hx2⟩
theorem rst408 (w : World) : Calls Tryz.prog 27 #[.int .i64 408] w fun e w' => e = .returned (.string st408) /\ Ext w w' := by
 have KN0 := (fdec_any 408 (by decide) w)
 rw [dt408] at KN0
 have KN := Lib.hid KN0
 clear KN0
 have KP : Hid (∀ w, Calls Tryz.prog 48 #[.int .i64 408] w fun e w' => e = .returned (.string ⟨#[82, 101, 113, 117, 101, 115, 116, 32, 84, 105, 109, 101, 111, 117, 116]⟩) /\ w = w') := Lib.hid (fun w => by
  go_enter Tryz.func48, Tryz.ntmps48
  go_wp2
  go_ret
  exact ⟨rfl, rfl⟩)
 have R : Hid ((((⟨#[72, 84, 84, 80, 47, 49, 46, 49, 32]⟩ ++ ⟨#[52, 48, 56]⟩ ++ ⟨#[32]⟩ ++ ⟨#[82, 101, 113, 117, 101, 115, 116, 32, 84, 105, 109, 101, 111, 117, 116]⟩ ++ ⟨#[13, 10]⟩) ++ ⟨#[67, 111, 110, 116, 101, 110, 116, 45, 76, 101, 110, 103, 116, 104, 58, 32, 48, 13, 10]⟩) ++ ⟨#[13, 10]⟩ : ByteArray) = st408) := Lib.hid (by decide +kernel)
 go_enter Tryz.func27, Tryz.ntmps27
 go_wp2_with (first | (go_at_call 48; refine (KP.out _).mono ?_; rintro e w1 ⟨rfl, rfl⟩) | (go_at_call 49; refine KN.out.mono ?_; rintro e w2 ⟨rfl, hx2⟩))
 go_ret
 exact ⟨by rw [← R.out]; rfl, hx2⟩
open Go.RowKit Go.Joins
theorem u8w (n : Int) : IntKind.u8.wrap n = n % 256 := by simp [IntKind.wrap, IntKind.bits, IntKind.signed]
theorem hlower_any (c : Int) (hc : 0 <= c /\ c < 256) (w : World) : Calls Tryz.prog 199 #[.int .u8 c] w fun e w' => e = .returned (.int .u8 (lowI c)) /\ Ext w w' := by
 go_enter Tryz.func199, Tryz.ntmps199
 by_cases hu : 65 <= c /\ c <= 90
 ·have e8 : IntKind.u8.wrap (c - 65) = c - 65 := by rw [u8w]; omega
  have e9 : IntKind.u8.wrap (c - 65 + 97) = c + 32 := by rw [u8w]; omega
  have hg1 := hu.1
  have hg2 := hu.2
  have E := Lib.hid (show lowI c = c + 32 by unfold lowI; rw [if_pos hu])
  clear hu
  go_wp2_with fail
  go_ret; exact ⟨by rw [E.out]; rfl, Ext.refl _⟩
 ·have E := Lib.hid (show lowI c = c by unfold lowI; rw [if_neg hu])
  by_cases hg : c < 65
  ·clear hu
   go_wp2_with fail
   go_ret; exact ⟨by rw [E.out]; rfl, Ext.refl _⟩
  ·have hg1 : 65 <= c := by omega
   have hg2 : 90 < c := by omega
   clear hu hg
   go_wp2_with fail
   go_ret; exact ⟨by rw [E.out]; rfl, Ext.refl _⟩
theorem lowB_two {s t : ByteArray} : lowB s = lowB t ↔ s.size = t.size /\ ∀ j, j < s.size -> lowI (B s j) = lowI (B t j) := by
 rw [lowB_is, lowB_size]
 constructor
 ·intro ⟨h1, h2⟩
  exact ⟨h1, fun j hj => by rw [h2 j hj, B_low t (by omega)]⟩
 ·intro ⟨h1, h2⟩
  exact ⟨h1, fun j hj => by rw [h2 j hj, B_low t (by omega)]⟩
theorem hfold_any (s t : ByteArray) (hs : s.size <= maxLen) (w : World) : Calls Tryz.prog 178 #[.string s, .string t] w fun e w' => e = .returned (.bool (decide (lowB s = lowB t))) /\ Ext w w' := by
 have HI := Lib.hid (@lowB_two s t)
 replace hs := size_max hs
 go_enter Tryz.func178, Tryz.ntmps178
 by_cases hz : s.size = t.size
 ·have hzb : ((s.size : Int) != t.size) = false := by rw [bne_eq_false_iff_eq]; omega
  have HZ := Lib.hid hz
  have hz1 : (s.size : Int) <= t.size := by omega
  clear hz
  go_wp2_with fail
  go_loopw [5, 13] (fun _ i wr => ∃ k : Nat, k <= s.size /\ i = .int .i64 k /\ (∀ j, j < k -> lowI (B s j) = lowI (B t j)) /\ Ext w wr) (fun _ i _ => s.size - (intOf i).toNat)
  case atStart => exact ⟨0, Nat.zero_le _, rfl, fun j hj => by omega, Ext.refl _⟩
  case round =>
   obtain ⟨k, hk, rfl, hj, hx⟩ := hrel
   have HJ := Lib.hid hj
   clear hj
   by_cases hlt : k < s.size
   ·have hlt' : (k : Int) < s.size := by omega
    have hlt2 : (k : Int) < t.size := by omega
    have L1 := fun w' (_ : Ext wr w') => hlower_any (B s k) (B_bd s k) w'
    have L2 := fun w' (_ : Ext wr w') => hlower_any (B t k) (B_bd t k) w'
    have HBAD : Hid (lowI (B s k) ≠ lowI (B t k) -> decide (lowB s = lowB t) = false) := Lib.hid (fun h => decide_eq_false (fun q => h ((HI.out.1 q).2 k hlt)))
    have HGO : Hid (lowI (B s k) = lowI (B t k) -> ∀ j, j < k + 1 -> lowI (B s j) = lowI (B t j)) := Lib.hid (fun h j hj => by
     by_cases q : j = k
     ·subst q; exact h
     ·exact HJ.out j (by omega))
    generalize lowI (B s k) = x at *
    generalize lowI (B t k) = y at *
    go_upto_region 6 with fail
    refine wp_region_rg wr (by kernel_rfl) (by kernel_rfl) (Ext.refl _) ?_
    iterate 3
     first
      | (apply goV_skip (by intro u; rfl))
      | (apply goV_val _ (by intro u; rfl); · (intro u w hSw hF; go_simp; try with_reducible rfl))
     try simp only [aput, List.set]
    first
     | (apply goV_skip (by intro u; rfl))
     | (apply goV_call (by intro u; rfl) L1; · (intro u w hSw hF; go_simp; try with_reducible rfl))
    try simp only [aput, List.set]
    iterate 3
     first
      | (apply goV_skip (by intro u; rfl))
      | (apply goV_val _ (by intro u; rfl); · (intro u w hSw hF; go_simp; try with_reducible rfl))
     try simp only [aput, List.set]
    first
     | (apply goV_skip (by intro u; rfl))
     | (apply goV_call (by intro u; rfl) L2; · (intro u w hSw hF; go_simp; try with_reducible rfl))
    try simp only [aput, List.set]
    first
     | (apply goV_skip (by intro u; rfl))
     | (apply goV_val _ (by intro u; rfl); · (intro u w hSw hF; go_simp; try with_reducible rfl))
    try simp only [aput, List.set]
    intro u w5 hx5 _
    by_cases he : x = y
    ·have hb : (x != y) = false := by rw [bne_eq_false_iff_eq]; exact he
     have HG := Lib.hid (HGO.out he)
     clear he HGO HBAD
     go_wp2_with fail
     go_roundw
     case rel => exact ⟨k + 1, by omega, by go_num, HG.out, hx.trans hx5⟩
     case measure => simp [intOf]; omega
    ·have hb : (x != y) = true := by rw [bne_iff_ne]; exact he
     have HG := Lib.hid (HBAD.out he)
     clear he HGO HBAD
     go_wp2_with fail
     go_ret; exact ⟨by rw [HG.out]; rfl, hx.trans hx5⟩
   ·obtain rfl : k = s.size := by omega
    have E : Hid (decide (lowB s = lowB t) = true) := Lib.hid (decide_eq_true (HI.out.2 ⟨HZ.out, HJ.out⟩))
    have hnl : ¬ ((s.size : Nat) : Int) < s.size := by omega
    go_wp2_with fail
    go_ret; exact ⟨by rw [E.out]; rfl, hx⟩
 ·have hzb : ((s.size : Int) != t.size) = true := by rw [bne_iff_ne]; omega
  have E : Hid (decide (lowB s = lowB t) = false) := Lib.hid (decide_eq_false (fun q => hz (HI.out.1 q).1))
  clear hz
  go_wp2_with fail
  go_ret; exact ⟨by rw [E.out]; rfl, Ext.refl _⟩
def nch (x : Int) : Bool := x != 45 && (decide (x < 97) || decide (122 < x)) && (decide (x < 48) || decide (57 < x))
theorem nch_lch (x : Int) : nch x = !lch x := by
 unfold nch lch
 by_cases h1 : x = 45
 ·subst h1; decide
 ·have e1 : (x != 45) = true := by rw [bne_iff_ne]; exact h1
  rw [e1]
  by_cases h2 : 97 <= x /\ x <= 122
  ·rw [decide_eq_true (show (97 <= x /\ x <= 122) ∨ (48 <= x /\ x <= 57) ∨ x = 45 from .inl h2), decide_eq_false (show ¬ x < 97 by omega), decide_eq_false (show ¬ 122 < x by omega)]; rfl
  ·by_cases h3 : 48 <= x /\ x <= 57
   ·rw [decide_eq_true (show (97 <= x /\ x <= 122) ∨ (48 <= x /\ x <= 57) ∨ x = 45 from .inr (.inl h3)), decide_eq_false (show ¬ x < 48 by omega), decide_eq_false (show ¬ 57 < x by omega)]; simp
   ·rw [decide_eq_false (show ¬ ((97 <= x /\ x <= 122) ∨ (48 <= x /\ x <= 57) ∨ x = 45) by omega)]
    have e2 : (decide (x < 97) || decide (122 < x)) = true := by
     rw [Bool.or_eq_true, decide_eq_true_eq, decide_eq_true_eq]; omega
    have e3 : (decide (x < 48) || decide (57 < x)) = true := by
     rw [Bool.or_eq_true, decide_eq_true_eq, decide_eq_true_eq]; omega
    rw [e2, e3]; rfl
theorem B_empty (s : ByteArray) (h : (s.size : Int) < 1) : s = ⟨#[]⟩ := by
 refine BA_ext (List.length_eq_zero_iff.1 ?_)
 rw [← size_list]; omega
theorem hname_any (s : ByteArray) (hs : s.size <= maxLen) (w : World) : Calls Tryz.prog 177 #[.string s] w fun e w' => e = .returned (.bool (vname8 s)) /\ Ext w w' := by
 have HI := Lib.hid (@allB_iff hch s s.size)
 have HV : Hid (vname8 s = (decide (1 <= s.size) && allB hch s s.size)) := Lib.hid rfl
 have HE := Lib.hid (B_empty s)
 replace hs := size_max hs
 go_enter Tryz.func177, Tryz.ntmps177
 go_wp2_with fail
 go_loopw [3, 4, 7] (fun _ _ i wr => ∃ k : Nat, k <= s.size /\ i = .int .i64 k /\ (∀ j, j < k -> hch (B s j) = true) /\ Ext w wr) (fun _ _ i _ => s.size - (intOf i).toNat)
 case atStart => exact ⟨0, Nat.zero_le _, rfl, fun j hj => by omega, Ext.refl _⟩
 case round =>
  obtain ⟨k, hk, rfl, hj, hx⟩ := hrel
  have HJ := Lib.hid hj
  clear hj
  by_cases hlt : k < s.size
  ·have hlt' : (k : Int) < s.size := by omega
   have L1 := Lib.hid (fun w' => hlower_any (B s k) (B_bd s k) w')
   have bl := lowI_bd (B_bd s k)
   have HBAD : Hid (lch (lowI (B s k)) = false -> vname8 s = false) := Lib.hid (fun h => by
    rw [HV.out, Bool.and_eq_false_iff]; right
    cases e : allB hch s s.size with
    | false => rfl
    | true =>
     have := HI.out.1 e k hlt
     unfold hch at this
     rw [h] at this; cases this)
   have HGO : Hid (lch (lowI (B s k)) = true -> ∀ j, j < k + 1 -> hch (B s j) = true) := Lib.hid (fun h j hj => by
    by_cases q : j = k
    ·subst q; exact h
    ·exact HJ.out j (by omega))
   generalize lowI (B s k) = x at *
   have hn := nch_lch x
   go_upto_region 5 with (go_at_call 199; refine (L1.out _).mono ?_; rintro e w3 ⟨rfl, hx3⟩)
   by_cases he : lch x = true
   ·have HG := Lib.hid (HGO.out he)
    rw [he] at hn
    unfold nch at hn
    clear he HGO HBAD
    have h1 : x = 45 ∨ (97 <= x /\ x <= 122) ∨ (48 <= x /\ x <= 57) := by
     simp at hn; omega
    clear hn
    rcases h1 with h1 | h1 | h1
    ·subst h1
     go_wp2_with fail
     go_roundw
     case rel => exact ⟨k + 1, by omega, by go_num, HG.out, hx.trans hx3⟩
     case measure => simp [intOf]; omega
    ·have a1 : (x != 45) = true := by rw [bne_iff_ne]; omega
     have a2 := h1.1
     have a3 := h1.2
     clear h1
     go_wp2_with fail
     go_roundw
     case rel => exact ⟨k + 1, by omega, by go_num, HG.out, hx.trans hx3⟩
     case measure => simp [intOf]; omega
    ·have a1 : (x != 45) = true := by rw [bne_iff_ne]; omega
     have a2 := h1.1
     have a3 := h1.2
     have a4 : x < 97 := by omega
     clear h1
     go_wp2_with fail
     go_roundw
     case rel => exact ⟨k + 1, by omega, by go_num, HG.out, hx.trans hx3⟩
     case measure => simp [intOf]; omega
   ·have he' : lch x = false := by cases q : lch x with
     | false => rfl
     | true => exact absurd q he
    have HG := Lib.hid (HBAD.out he')
    rw [he'] at hn
    unfold lch at he'
    rw [decide_eq_false_iff_not] at he'
    have a1 : (x != 45) = true := by rw [bne_iff_ne]; omega
    clear hn he HGO HBAD
    by_cases b1 : x < 97
    ·by_cases b2 : x < 48
     ·clear he'
      go_wp2_with fail
      go_ret; exact ⟨by rw [HG.out]; rfl, hx.trans hx3⟩
     ·have b3 : 57 < x := by omega
      clear he'
      go_wp2_with fail
      go_ret; exact ⟨by rw [HG.out]; rfl, hx.trans hx3⟩
    ·have b2 : 122 < x := by omega
     have b3 : 57 < x := by omega
     have b4 : ¬ x < 48 := by omega
     clear he'
     go_wp2_with fail
     go_ret; exact ⟨by rw [HG.out]; rfl, hx.trans hx3⟩
  ·obtain rfl : k = s.size := by omega
   have hnl : ¬ ((s.size : Nat) : Int) < s.size := by omega
   by_cases hz : (s.size : Int) < 1
   ·have E : Hid (vname8 s = false) := Lib.hid (by rw [HV.out, decide_eq_false (by omega)]; rfl)
    have e0 := HE.out hz
    subst e0
    clear hlt hk
    go_wp2_with fail
    go_ret; exact ⟨by rw [E.out]; rfl, hx⟩
   ·have E : Hid (vname8 s = true) := Lib.hid (by rw [HV.out, decide_eq_true (by omega), HI.out.2 HJ.out]; rfl)
    have hq : (s.toList != []) = true := by
     rw [bne_iff_ne, ByteArray.toList_eq]
     intro e
     have := size_list s
     rw [e] at this
     change s.size = 0 at this
     omega
    go_wp2_with fail
    go_ret; exact ⟨by rw [E.out]; rfl, hx⟩
theorem hbyte_any (c : Int) (hc : 0 <= c /\ c < 256) (p : Nat) (r : Bool) (w : World) : Calls Tryz.prog 133 #[.int .u8 c, .int .i64 p, .bool r] w fun e w' => e = .returned (.bool (vbyte c p r)) /\ Ext w w' := by
 have HV : Hid (vbyte c p r = if r = true /\ p < 8 then decide (c = B connS p) else decide ((32 <= c /\ c <= 126) ∨ c = 9)) := Lib.hid rfl
 have HC : Hid (B ⟨#[67, 79, 78, 78, 69, 67, 84, 32]⟩ p = B connS p) := Lib.hid rfl
 go_enter Tryz.func133, Tryz.ntmps133
 cases r
 ·have E := Lib.hid (HV.out.trans (if_neg (by simp)))
  clear HV
  by_cases h1 : 32 <= c
  ·by_cases h2 : c <= 126
   ·have E := Lib.hid (E.out.trans (decide_eq_true (.inl ⟨h1, h2⟩)))
    go_wp2_with fail
    go_ret; exact ⟨by rw [E.out]; rfl, Ext.refl _⟩
   ·have E := Lib.hid (E.out.trans (decide_eq_false (by omega)))
    have h3 : (c == 9) = false := by rw [beq_eq_false_iff_ne]; omega
    have h4 : 126 < c := by omega
    go_wp2_with fail
    go_ret; exact ⟨by rw [E.out]; rfl, Ext.refl _⟩
  ·by_cases h3 : c = 9
   ·have E := Lib.hid (E.out.trans (decide_eq_true (.inr h3)))
    subst h3
    go_wp2_with fail
    go_ret; exact ⟨by rw [E.out]; rfl, Ext.refl _⟩
   ·have E := Lib.hid (E.out.trans (decide_eq_false (by omega)))
    have h4 : (c == 9) = false := by rw [beq_eq_false_iff_ne]; omega
    have h5 : c < 32 := by omega
    clear h1 h3
    go_wp2_with fail
    go_ret; exact ⟨by rw [E.out]; rfl, Ext.refl _⟩
 ·by_cases hp : p < 8
  ·have E := Lib.hid ((HV.out.trans (if_pos ⟨rfl, hp⟩)).trans (by rw [← HC.out]))
   have hp' : (p : Int) < 8 := by omega
   have hp2 : ¬ (8 : Int) <= p := by omega
   clear HV
   go_wp2_with fail
   go_ret; exact ⟨by rw [E.out]; rfl, Ext.refl _⟩
  ·have E := Lib.hid (HV.out.trans (if_neg (by omega)))
   have hp' : ¬ (p : Int) < 8 := by omega
   clear HV hp
   by_cases h1 : 32 <= c
   ·by_cases h2 : c <= 126
    ·have E := Lib.hid (E.out.trans (decide_eq_true (.inl ⟨h1, h2⟩)))
     go_wp2_with fail
     go_ret; exact ⟨by rw [E.out]; rfl, Ext.refl _⟩
    ·have E := Lib.hid (E.out.trans (decide_eq_false (by omega)))
     have h3 : (c == 9) = false := by rw [beq_eq_false_iff_ne]; omega
     have h4 : 126 < c := by omega
     go_wp2_with fail
     go_ret; exact ⟨by rw [E.out]; rfl, Ext.refl _⟩
   ·by_cases h3 : c = 9
    ·have E := Lib.hid (E.out.trans (decide_eq_true (.inr h3)))
     subst h3
     go_wp2_with fail
     go_ret; exact ⟨by rw [E.out]; rfl, Ext.refl _⟩
    ·have E := Lib.hid (E.out.trans (decide_eq_false (by omega)))
     have h4 : (c == 9) = false := by rw [beq_eq_false_iff_ne]; omega
     have h5 : c < 32 := by omega
     clear h1 h3
     go_wp2_with fail
     go_ret; exact ⟨by rw [E.out]; rfl, Ext.refl _⟩
end Go.Proofs.YtnohnnjeabehjaaGreatDoor
