/-
  Several texts joined: IpQ, LawR, LawW.
-/
import Derived.Lib.SmallJoins
import Derived.Test.YtpdoddelnahlnaaGreatDoorK03
import Derived.Test.YtpdoddelnahlnaaGreatDoorK05
import Derived.Deep.DeepHandedRow
import Derived.Lib.LaidTab
import Derived.Test.YtpdoddelnahlnaaGreatDoorK04
import Derived.Test.YtpdoddelnahlnaaGreatDoorK01
import Derived.Deep.DeepWitnessRowRef
import Derived.Stop.LaidErr
import Derived.Deep.DeepLaidRun
import Derived.Test.YtpdoddelnahlnaaGreatDoorCards
import Derived.Test.YtpdoddelnahlnaaGreatDoorTie
/-
  Contracts of parseIPv4, of the program and of the reference.
-/
set_option linter.unusedSimpArgs false
set_option linter.unusedVariables false
namespace Go.Proofs.YtpdoddelnahlnaaGreatDoor
open Go.RowKit Go.Joins

/-- the strings' cells of block b -/
def StrCells (w : World) (b : Nat) (ps : List ByteArray) : Prop := b < w.heap.size ∧ ∀ j x, ps[j]? = some x → w.cell? ⟨b, j, none⟩ = some (.string x)
theorem StrCells.ext {w w' : World} {b : Nat} {ps : List ByteArray} (h : StrCells w b ps) (k : Ext w w') : StrCells w' b ps :=
  ⟨Nat.lt_of_lt_of_le h.1 k.size, fun j x hj => by rw [k.cell h.1]; exact h.2 j x hj⟩
theorem StrCells.set {w : World} {b : Nat} {ps : List ByteArray} (h : StrCells w b ps) {p : Addr} (hp : p.block ≠ b) (u : Value) : StrCells (w.setCell p u) b ps :=
  ⟨by simpa [World.setCell] using h.1, fun j x hj => by rw [World.cell?_of_block (w := w) (Below.heap_setCell w p u b (fun e => hp e.symm))]; exact h.2 j x hj⟩
/-- what holds of the package's variables -/
def Env (w : World) : Prop := ∃ m : Int, w.cell? ⟨0, 0, none⟩ = some (.int .i64 m)
theorem Env.ext {w w' : World} (h : Env w) (k : Ext w w') : Env w' := by
  obtain ⟨m, hm⟩ := h
  exact ⟨m, by rw [k.cell (World.block_lt_of_cell? _ _ hm)]; exact hm⟩

theorem split_any (s : ByteArray) (c : UInt8) (w : World) (he : Env w) (hs : s.size < 4294967281) :
    Calls Tryz.prog 66 #[.string s, .string ⟨#[c]⟩] w fun e w' => ∃ b cap, e = .returned (.slice (some ⟨b, 0, none⟩) (parts c s).length cap) ∧ w.heap.size ≤ b ∧ StrCells w' b (parts c s) ∧ (parts c s).length ≤ cap ∧ Ext w w' := by
  obtain ⟨m, hm⟩ := he
  refine (Tryz.strings_Split s ⟨#[c]⟩ m w hs hm (Nat.le_refl 1)).mono fun e w' ⟨h1, h2⟩ => ?_
  subst h1 h2
  rw [splitB_parts]
  have hb := Blk.new w ((parts c s).map Value.string).toArray 9
  refine ⟨w.heap.size, _, by rw [parts_length], Nat.le_refl _, ⟨hb.lt, fun j x hj => hb.cell (by simp [hj])⟩, by rw [parts_length]; exact Nat.le_refl _, (Ext.refl w).alloc _⟩
theorem parts_pos (c : UInt8) (s : ByteArray) : 0 < (parts c s).length := by rw [parts_length]; omega
theorem rsplit_any (s : ByteArray) (c : UInt8) (w : World) (hs : s.size < 4294967281) :
    Calls Tryz.prog 64 #[.string s, .int .u8 c.toNat] w fun e w' => ∃ b cap, e = .returned (.slice (some ⟨b, 0, none⟩) (parts c s).length cap) ∧ w.heap.size ≤ b ∧ StrCells w' b (parts c s) ∧ (parts c s).length ≤ cap ∧ Ext w w' := by
  refine (rSplit_any s c w hs).mono fun e w' ⟨v, h1, h2, h3⟩ => ?_
  obtain ⟨g, cap, hv⟩ := ownsRow_form h2 (parts_pos c s)
  subst hv
  have hl := h2.lt g rfl
  have hc := h2.cells (g := g) rfl
  obtain ⟨_, h4⟩ := h2
  refine ⟨g, cap, h1, hl.1, ⟨hl.2, fun j x hj => ?_⟩, ?_, h3⟩
  · have := hc j (.string x) (by simp [hj])
    rw [show (⟨g, 0, none⟩ : Addr).add j = ⟨g, j, none⟩ from by unfold Addr.add; split <;> simp_all] at this
    exact this
  · rcases h4 with ⟨h5, _⟩ | ⟨g', cap', cur, h5, _, _, h6⟩
    · cases h5
    · cases h5; omega

def arr4 (ps : List ByteArray) (k : Nat) : List Int := (ps.take k).map dec ++ List.replicate (4 - k) 0
theorem arr4_len {ps : List ByteArray} (h : ps.length = 4) {k : Nat} (hk : k ≤ 4) : (arr4 ps k).length = 4 := by simp [arr4]; omega
theorem arr4_set {ps : List ByteArray} (h : ps.length = 4) {k : Nat} (hk : k < 4) {x : ByteArray} (hx : ps[k]? = some x) : (arr4 ps k).set k (dec x) = arr4 ps (k + 1) := by
  unfold arr4
  rw [List.set_append_right _ _ (by simp; omega), show k - ((ps.take k).map dec).length = 0 from by simp; omega, show 4 - k = (4 - (k + 1)) + 1 by omega, List.replicate_succ, List.set_cons_zero, List.take_add_one, hx]
  simp
theorem arr4_all {ps : List ByteArray} (h : ps.length = 4) : arr4 ps 4 = ps.map dec := by unfold arr4; rw [List.take_of_length_le (by omega)]; simp
theorem arr4_bd {ps : List ByteArray} {k : Nat} (h : okDec (ps.take k) = true) : ∀ x ∈ arr4 ps k, 0 ≤ x ∧ x < 256 := by
  intro x hx
  unfold arr4 at hx
  rcases List.mem_append.1 hx with hx | hx
  · obtain ⟨y, hy, rfl⟩ := List.mem_map.1 hx
    unfold okDec at h
    rw [List.all_eq_true] at h
    have := dec_bd y
    have := h y hy
    simp at this; omega
  · have := List.eq_of_mem_replicate hx; omega
theorem arr4_at {ps : List ByteArray} (h : ps.length = 4) {k : Nat} (hk : k < 4) : (arr4 ps k)[k]? = some 0 := by
  unfold arr4
  rw [List.getElem?_append_right (by simp; omega), show k - ((ps.take k).map dec).length = 0 from by simp; omega, List.getElem?_replicate, if_pos (by omega)]
theorem parse4_eq {s : ByteArray} : parse4 s = if (parts 46 s).length = 4 ∧ okDec (parts 46 s) = true then some ((parts 46 s).map dec) else none := rfl
theorem okDec_take {ps : List ByteArray} {k : Nat} {x : ByteArray} (h : okDec (ps.take k) = true) (hx : ps[k]? = some x) (hd : 0 ≤ dec x) : okDec (ps.take (k + 1)) = true := by
  unfold okDec at *; rw [List.take_add_one, hx, List.all_append, h]; simpa using hd
theorem okDec_not {ps : List ByteArray} {k : Nat} {x : ByteArray} (hx : ps[k]? = some x) (hd : dec x < 0) : okDec ps = false := by
  cases h : okDec ps with
  | false => rfl
  | true =>
    unfold okDec at h; rw [List.all_eq_true] at h
    have := h x (List.mem_of_getElem? hx); simp at this; omega
theorem okDec_all {ps : List ByteArray} (h : ps.length = 4) (ho : okDec (ps.take 4) = true) : okDec ps = true := by rwa [List.take_of_length_le (by omega)] at ho

theorem info_4 : (Tryz.prog.info? 86).map (·.size) = some 4 := by kernel_rfl
def c4 (l : List Int) : Array Value := (l.map (Value.int .u8)).toArray
theorem c4_size {l : List Int} (h : l.length = 4) : (c4 l).size = 4 := by simp [c4, h]
theorem c4_one (l : List Int) : (c4 l).all (·.oneCell') = true := by
  rw [Array.all_eq_true_iff_forall_mem]
  intro v hv
  simp only [c4, List.mem_toArray, List.mem_map] at hv
  obtain ⟨x, _, rfl⟩ := hv; rfl
theorem wpList_load_4 {ops : Array Oper} {rest : List Oper} {o : Oper} {f : Act} {w : World} {Q : Exit → Act → World → Prop} (hgd : o.guard = none) (x : Operand) (ho : o.op = .load 86 x)
    {b : Nat} {l : List Int} (hl : l.length = 4) (hb : Blk w b (c4 l).toList 86) (hx : f.eval x = .pointer (some ⟨b, 0, none⟩)) (h : wpList Tryz.prog ops Q rest (f.put o.dst (.agg (c4 l))) w) : wpList Tryz.prog ops Q (o :: rest) f w :=
  wpList_load_mid hgd 86 x ho b 0 hx (c4 l).toList _ (fun j v hj => by rw [Nat.zero_add]; exact hb.cell hj) Tryz.underlying86 rfl (by rw [info_4, Array.length_toList, c4_size hl]) h
theorem wpList_store_4 {ops : Array Oper} {rest : List Oper} {o : Oper} {f : Act} {w : World} {Q : Exit → Act → World → Prop} (hgd : o.guard = none) (x y : Operand) (ho : o.op = .store 86 x y)
    {c : Nat} {l0 l : List Int} (h0 : l0.length = 4) (hl : l.length = 4) (hb : Blk w c (c4 l0).toList 86) (hx : f.eval x = .pointer (some ⟨c, 0, none⟩)) (hy : f.eval y = .agg (c4 l)) (h : wpList Tryz.prog ops Q rest (f.put o.dst undef) (w.setRow c (c4 l))) : wpList Tryz.prog ops Q (o :: rest) f w :=
  wpList_plain hgd fun _ hK => wp_store_row 86 x y ho c (c4 l) hx hy 86 (c4 l0) hb (by rw [info_4, c4_size hl]) (by rw [c4_size hl, c4_size h0]) (c4_one l) (hK _ _ h)
theorem res_42 {fn : Func} {t u : Tmp} (h : fn.results = #[.cell t 86, .tmp u]) {tmps : Array Value} {c : Nat} (hp : tmps.getD t undef = .pointer (some ⟨c, 0, none⟩)) {w : World} {l : List Int} (hl : l.length = 4) (hb : Blk w c (c4 l).toList 86) :
    (results fn tmps).run Tryz.prog w = .ok (.tuple #[.agg (c4 l), tmps.getD u undef]) w := by
  have := run_loadVar_mid (P := Tryz.prog) w c 0 86 (c4 l).toList _ (fun j v hj => by rw [Nat.zero_add]; exact hb.cell hj) Tryz.underlying86 rfl (by rw [info_4, Array.length_toList, c4_size hl])
  rw [Array.toArray_toList] at this
  have hp' : tmps[t]?.getD undef = .pointer (some ⟨c, 0, none⟩) := by simpa using hp
  simp [results, h, hp', this, Sem.run_bind, asAddr]
theorem c4_zero : c4 [0, 0, 0, 0] = #[.int .u8 0, .int .u8 0, .int .u8 0, .int .u8 0] := rfl

set_option maxRecDepth 4000 in
set_option maxHeartbeats 1000000 in
theorem parse4_any (s : ByteArray) (w : World) (henv : Env w) (hs : s.size < 4294967281) :
    Calls Tryz.prog 77 #[.string s] w fun e w' => ∃ l : List Int, l.length = 4 ∧ (∀ x ∈ l, 0 ≤ x ∧ x < 256) ∧ e = .returned (.tuple #[.agg (c4 l), .bool (parse4 s).isSome]) ∧ (∀ b, parse4 s = some b → b = l) ∧ Ext w w' := by
  have hpz : ∀ x ∈ parts 46 s, x.size ≤ maxLen := fun x hx => Nat.le_trans (parts_size hx) (by unfold maxLen; omega)
  have hsplit := fun w he => split_any s 46 w he hs
  have hpe := @parse4_eq s
  generalize parts 46 s = ps at *
  have HPE := Lib.hid hpe; have HS := Lib.hid hsplit; have HPZ := Lib.hid hpz
  clear hpe hsplit hpz
  go_enter Tryz.func77, Tryz.ntmps77
  go_upto_region 2 with fail
  rw [← c4_zero]
  have hx := ((Ext.refl w).alloc (.cells (c4 [0, 0, 0, 0]) 86)).alloc (.cells (c4 [0, 0, 0, 0]) 86)
  have hr := (Blk.new w (c4 [0, 0, 0, 0]) 86).ext ((Ext.refl _).alloc (.cells (c4 [0, 0, 0, 0]) 86))
  have hb := Blk.new (w.alloc (.cells (c4 [0, 0, 0, 0]) 86)) (c4 [0, 0, 0, 0]) 86
  rw [World.size_alloc] at hb
  generalize (w.alloc (.cells (c4 [0, 0, 0, 0]) 86)).alloc (.cells (c4 [0, 0, 0, 0]) 86) = w2 at *
  go_wp2_with (go_at_call 66; refine (HS.out _ (henv.ext hx)).mono ?_; rintro e w3 ⟨b, cap, rfl, hbl, hsc, hcap, hx3⟩; refine Hid.out ?_)
  have hr3 := hr.ext hx3
  have hb3 := hb.ext hx3
  have hw2 := hb.lt
  have hx33 := hx.trans hx3
  clear hr hb hx hx3
  refine Lib.hid ?_
  by_cases h4 : ps.length = 4
  · have hn4 : ((ps.length : Int) != 4) = false := by rw [bne_eq_false_iff_eq]; omega
    have hn5 : (ps.length : Int) = 4 := by omega
    have HN5 := Lib.hid hn5; clear hn5
    have H4 := Lib.hid h4; clear h4
    have hcp : ps.length ≤ cap := hcap
    have hlen4 : (ps.length : Int) ≤ 4 := by have := H4.out; omega
    have hlen4' : (4 : Int) ≤ ps.length := by have := H4.out; omega
    have hrs : w.heap.size + 1 < w3.heap.size := hb3.lt
    go_wp2_with fail
    go_loopw [3, 6, 7, 8, 9, 18] (fun _ _ _ _ _ c wr => ∃ k : Nat, k ≤ 4 ∧ c = .int .i64 k ∧ okDec (ps.take k) = true ∧ Blk wr w.heap.size (c4 [0, 0, 0, 0]).toList 86 ∧ Blk wr (w.heap.size + 1) (c4 (arr4 ps k)).toList 86 ∧ StrCells wr b ps ∧ Ext w wr) (fun _ _ _ _ _ c _ => 4 - (intOf c).toNat)
    case atStart => exact ⟨0, Nat.zero_le _, rfl, rfl, hr3, hb3, hsc, hx33⟩
    case round =>
      obtain ⟨k, hk, rfl, hok, hr, hb, hsc, hx⟩ := hrel
      have HOK := Lib.hid hok; clear hok
      by_cases hlt : k < 4
      · have hlt' : (k : Int) < ps.length := by omega
        obtain ⟨x, hxk⟩ : ∃ x, ps[k]? = some x := ⟨ps[k]'(by have := H4.out; omega), List.getElem?_eq_getElem _⟩
        have hcell := hsc.2 k x hxk
        have HX := Lib.hid hxk; clear hxk
        have hxz := HPZ.out x (List.mem_of_getElem? HX.out)
        have hcell2 : wr.cell? ⟨w.heap.size + 1, k, none⟩ = some (.int .u8 0) := hb.cell (by have := arr4_at H4.out hlt; simp [c4, this])
        have hfr2 := hb.free k
        by_cases hd : dec x < 0
        · have hcall : Calls Tryz.prog 62 #[.string x, .int .i64 0, .int .i64 255] wr fun e w' => e = .returned (.tuple #[.int .i64 0, .bool false]) ∧ wr = w' := by
            have := num_any x 0 255 wr hxz
            rw [num_dec, if_pos hd] at this; exact this
          have e : parse4 s = none := by rw [HPE.out, if_neg (fun h => by rw [okDec_not HX.out hd] at h; simp at h)]
          have E := Lib.hid e; clear e
          have HC := Lib.hid hcall; clear hcall
          go_wp2_with (first | (go_at_call 62; refine HC.out.mono ?_; rintro e w' ⟨rfl, rfl⟩) | refine wpList_load_4 rfl _ rfl (l := arr4 ps k) (arr4_len H4.out hk) hb rfl ?_ | refine wpList_store_4 rfl _ _ rfl (l0 := [0, 0, 0, 0]) rfl (l := arr4 ps k) (arr4_len H4.out hk) hr rfl rfl ?_)
          refine bodyPost_ret (res_42 rfl rfl (l := arr4 ps k) (arr4_len H4.out hk) (hr.row _)) rfl ⟨arr4 ps k, arr4_len H4.out hk, arr4_bd HOK.out, by rw [E.out]; rfl, fun b hb => ?_, hx.setRow (Nat.le_refl _) _⟩
          rw [E.out] at hb; cases hb
        · have hcall : Calls Tryz.prog 62 #[.string x, .int .i64 0, .int .i64 255] wr fun e w' => e = .returned (.tuple #[.int .i64 (dec x), .bool true]) ∧ wr = w' := by
            have := num_any x 0 255 wr hxz
            rw [num_dec, if_neg hd] at this; exact this
          have HC := Lib.hid hcall; clear hcall
          have hdb := dec_bd x
          have e8 : IntKind.u8.wrap (dec x) = dec x := by
            have : ∀ n : Int, IntKind.u8.wrap n = n % 256 := fun n => by simp [IntKind.wrap, IntKind.bits, IntKind.signed]
            rw [this]; omega
          go_wp2_with (first | (go_at_call 62; refine HC.out.mono ?_; rintro e w' ⟨rfl, rfl⟩))
          go_roundw
          case rel =>
            have hne : w.heap.size ≠ w.heap.size + 1 := by omega
            refine ⟨k + 1, by omega, by go_num, okDec_take HOK.out HX.out (by omega), hr.set_ne ⟨w.heap.size + 1, k, none⟩ (fun e => hne e.symm) _, ?_, hsc.set (p := ⟨w.heap.size + 1, k, none⟩) ?_ _, hx.setCell (p := ⟨w.heap.size + 1, k, none⟩) (Nat.le_add_right _ _) _⟩
            · have := hb.set k (.int .u8 (dec x))
              rw [← arr4_set H4.out hlt HX.out]
              simpa [c4] using this
            · show w.heap.size + 1 ≠ b
              omega
          case measure => simp [intOf]; omega
      · obtain rfl : k = 4 := by omega
        have e : parse4 s = some (ps.map dec) := by rw [HPE.out, if_pos ⟨H4.out, okDec_all H4.out HOK.out⟩]
        have E := Lib.hid e; clear e
        have hbd := arr4_bd HOK.out
        rw [arr4_all H4.out] at hb hbd
        have hml : (ps.map dec).length = 4 := by simp [H4.out]
        have HB := Lib.hid hbd; have HML := Lib.hid hml; clear hbd hml
        go_wp2_with (first | refine wpList_load_4 rfl _ rfl (l := ps.map dec) HML.out hb rfl ?_ | refine wpList_store_4 rfl _ _ rfl (l0 := [0, 0, 0, 0]) rfl (l := ps.map dec) HML.out hr rfl rfl ?_)
        refine bodyPost_ret (res_42 rfl rfl (l := ps.map dec) HML.out (hr.row _)) rfl ⟨ps.map dec, HML.out, HB.out, by rw [E.out]; rfl, fun b hb => ?_, hx.setRow (Nat.le_refl _) _⟩
        rw [E.out] at hb; exact (Option.some.inj hb).symm
  · have hn4 : ((ps.length : Int) != 4) = true := by rw [bne_iff_ne]; omega
    have e : parse4 s = none := by rw [HPE.out, if_neg (fun h => h4 h.1)]
    have E := Lib.hid e; clear e
    go_wp2_with (first | refine wpList_load_4 rfl _ rfl (l := [0, 0, 0, 0]) rfl hb3 rfl ?_ | refine wpList_store_4 rfl _ _ rfl (l0 := [0, 0, 0, 0]) rfl (l := [0, 0, 0, 0]) rfl hr3 rfl rfl ?_)
    refine bodyPost_ret (res_42 rfl rfl (l := [0, 0, 0, 0]) rfl (hr3.row _)) rfl ⟨[0, 0, 0, 0], rfl, by decide, by rw [E.out]; rfl, fun b hb => ?_, hx33.setRow (Nat.le_refl _) _⟩
    rw [E.out] at hb; cases hb

def p4A (s : ByteArray) : Adr × Bool := match parse4 s with
  | some b => (v4 (b.getD 0 0) (b.getD 1 0) (b.getD 2 0) (b.getD 3 0), true)
  | none => (zadr, false)
def adr4 (ps : List ByteArray) (k : Nat) : Adr := (false, arr4 ps k ++ [0, 0, 0, 0, 0, 0, 0, 0, 0, 0, 0, 0])
theorem okA_adr4 {ps : List ByteArray} (h : ps.length = 4) {k : Nat} (hk : k ≤ 4) (ho : okDec (ps.take k) = true) : okA (adr4 ps k) := by
  refine ⟨by simp [adr4, arr4_len h hk], fun x hx => ?_⟩
  rcases List.mem_append.1 hx with hx | hx
  · exact arr4_bd ho x hx
  · simp at hx; omega
theorem adr4_set {ps : List ByteArray} (h : ps.length = 4) {k : Nat} (hk : k < 4) {x : ByteArray} (hx : ps[k]? = some x) : (ac (adr4 ps k)).toList.set (1 + k) (.int .u8 (dec x)) = (ac (adr4 ps (k + 1))).toList := by
  have hl := arr4_len h (Nat.le_of_lt hk)
  unfold ac adr4
  rw [← arr4_set h hk hx]
  simp only [Nat.add_comm 1 k, List.set_cons_succ, List.map_append]
  rw [List.set_append_left _ _ (by simp [hl]; omega), List.map_set]
theorem v4_getD {l : List Int} (h : l.length = 4) : v4 (l.getD 0 0) (l.getD 1 0) (l.getD 2 0) (l.getD 3 0) = (false, l ++ [0, 0, 0, 0, 0, 0, 0, 0, 0, 0, 0, 0]) := by
  match l, h with
  | [a, b, c, d], _ => rfl
theorem adr4_zero {ps : List ByteArray} : adr4 ps 0 = zadr := rfl

set_option maxRecDepth 4000 in
set_option maxHeartbeats 1000000 in
theorem rparse4_any (s : ByteArray) (w : World) (hs : s.size < 4294967281) :
    Calls Tryz.prog 61 #[.string s] w fun e w' => e = .returned (.tuple #[av (p4A s).1, .bool (p4A s).2]) ∧ Ext w w' := by
  have hpz : ∀ x ∈ parts 46 s, x.size ≤ maxLen := fun x hx => Nat.le_trans (parts_size hx) (by unfold maxLen; omega)
  have hsplit := fun w => rsplit_any s 46 w hs
  have hpe := @parse4_eq s
  generalize parts 46 s = ps at *
  have HPE := Lib.hid hpe; have HS := Lib.hid hsplit; have HPZ := Lib.hid hpz
  clear hpe hsplit hpz
  go_enter Tryz.func61, Tryz.ntmps61
  go_upto_region 1 with fail
  rw [← ac_zadr]
  have hx := (Ext.refl w).alloc (.cells (ac zadr) 30)
  have hr := Blk.new w (ac zadr) 30
  generalize w.alloc (.cells (ac zadr) 30) = w2 at *
  go_wp2_with (go_at_call 64; refine (HS.out _).mono ?_; rintro e w3 ⟨b, cap, rfl, hbl, hsc, hcap, hx3⟩; refine Hid.out ?_)
  have hr3 := hr.ext hx3
  have hw2 := hr.lt
  have hx33 := hx.trans hx3
  have hx4 := hx33.alloc (.cells (ac zadr) 30)
  have hr4 := hr3.ext ((Ext.refl w3).alloc (.cells (ac zadr) 30))
  have hsc4 := hsc.ext ((Ext.refl w3).alloc (.cells (ac zadr) 30))
  have hb4 := Blk.new w3 (ac zadr) 30
  have hbl3 : b < w3.heap.size := hsc.1
  have hrl3 := hr3.lt
  clear hr hx hx3 hr3 hsc
  refine Lib.hid ?_
  go_upto_region 3 with (refine wpList_store_A rfl _ _ rfl okA_zadr okA_zadr hb4 rfl rfl ?_)
  change Code.wp _ _ _ _ ((w3.alloc (.cells (ac zadr) 30)).setRow w3.heap.size (ac zadr))
  have hb5 := hb4.row (ac zadr)
  have hr5 := hr4.row_ne (show w.heap.size ≠ w3.heap.size by omega) (ac zadr)
  have hx5 := hx4.setRow (show w.heap.size ≤ w3.heap.size by omega) (ac zadr)
  have hsc5 : StrCells ((w3.alloc (.cells (ac zadr) 30)).setRow w3.heap.size (ac zadr)) b ps :=
    ⟨by rw [setRow_size]; exact hsc4.1, fun j x hj => by rw [cell_setRow_other _ _ _ _ (show b ≠ w3.heap.size by omega)]; exact hsc4.2 j x hj⟩
  clear hb4 hr4 hx4 hsc4
  generalize (w3.alloc (.cells (ac zadr) 30)).setRow w3.heap.size (ac zadr) = w5 at *
  generalize w3.heap.size = c at *
  rw [← @adr4_zero ps] at hb5
  by_cases h4 : ps.length = 4
  · have hn4 : ((ps.length : Int) != 4) = false := by rw [bne_eq_false_iff_eq]; omega
    have H4 := Lib.hid h4; clear h4
    have hcp : ps.length ≤ cap := hcap
    have hlen4 : (ps.length : Int) ≤ 4 := by have := H4.out; omega
    have hlen4' : (4 : Int) ≤ ps.length := by have := H4.out; omega
    go_wp2_with fail
    go_loopw [6, 7] (fun i _ wr => ∃ k : Nat, k ≤ 4 ∧ i = .int .i64 k ∧ okDec (ps.take k) = true ∧ Blk wr w.heap.size (ac zadr).toList 30 ∧ Blk wr c (ac (adr4 ps k)).toList 30 ∧ StrCells wr b ps ∧ Ext w wr) (fun i _ _ => 4 - (intOf i).toNat)
    case atStart => exact ⟨0, Nat.zero_le _, rfl, rfl, hr5, hb5, hsc5, hx5⟩
    case round =>
      obtain ⟨k, hk, rfl, hok, hr, hb, hsc, hx⟩ := hrel
      have hA := okA_adr4 H4.out hk hok
      have HOK := Lib.hid hok; clear hok
      by_cases hlt : k < 4
      · have hlt' : (k : Int) < ps.length := by omega
        obtain ⟨x, hxk⟩ : ∃ x, ps[k]? = some x := ⟨ps[k]'(by have := H4.out; omega), List.getElem?_eq_getElem _⟩
        have hcell := hsc.2 k x hxk
        have HX := Lib.hid hxk; clear hxk
        have hxz := HPZ.out x (List.mem_of_getElem? HX.out)
        have hcell2 := hb.cell (i := 1 + k) (by rw [Array.getElem?_toList]; exact ac_at hA (by omega))
        have hfr2 := hb.free (1 + k)
        have hcall := decP_any x 255 wr hxz
        rw [show decP x 255 = dec x from rfl] at hcall
        have HC := Lib.hid hcall; clear hcall
        have hdb := dec_bd x
        by_cases hd : dec x < 0
        · have e : p4A s = (zadr, false) := by unfold p4A; rw [HPE.out, if_neg (fun h => by rw [okDec_not HX.out hd] at h; simp at h)]
          have E := Lib.hid e; clear e
          go_wp2_with (first | (go_at_call 63; refine HC.out.mono ?_; rintro e w' ⟨rfl, rfl⟩) | refine wpList_store_A rfl _ _ rfl okA_zadr okA_zadr hr rfl rfl ?_)
          refine bodyPost_ret (res_A2 rfl rfl okA_zadr (hr.row _)) rfl ⟨by rw [E.out]; rfl, hx.setRow (Nat.le_refl _) _⟩
        · have e8 : IntKind.u8.wrap (dec x) = dec x := by
            have : ∀ n : Int, IntKind.u8.wrap n = n % 256 := fun n => by simp [IntKind.wrap, IntKind.bits, IntKind.signed]
            rw [this]; omega
          go_wp2_with (first | (go_at_call 63; refine HC.out.mono ?_; rintro e w' ⟨rfl, rfl⟩))
          go_roundw
          case rel =>
            refine ⟨k + 1, by omega, by go_num, okDec_take HOK.out HX.out (by omega), hr.set_ne ⟨c, 1 + k, none⟩ (show c ≠ w.heap.size by omega) _, ?_, hsc.set (p := ⟨c, 1 + k, none⟩) (show c ≠ b by omega) _, hx.setCell (p := ⟨c, 1 + k, none⟩) (show w.heap.size ≤ c by omega) _⟩
            rw [← adr4_set H4.out hlt HX.out]; exact hb.set (1 + k) (.int .u8 (dec x))
          case measure => simp [intOf]; omega
      · obtain rfl : k = 4 := by omega
        have e : p4A s = (adr4 ps 4, true) := by
          unfold p4A; rw [HPE.out, if_pos ⟨H4.out, okDec_all H4.out HOK.out⟩]
          show (v4 _ _ _ _, true) = _
          rw [v4_getD (by simp [H4.out]), adr4, arr4_all H4.out]
        have E := Lib.hid e; clear e
        go_wp2_with (first | refine wpList_load_A rfl _ rfl hA hb rfl ?_ | refine wpList_store_A rfl _ _ rfl okA_zadr hA hr rfl rfl ?_)
        refine bodyPost_ret (res_A2 rfl rfl hA (hr.row _)) rfl ⟨by rw [E.out]; rfl, hx.setRow (Nat.le_refl _) _⟩
  · have hn4 : ((ps.length : Int) != 4) = true := by rw [bne_iff_ne]; omega
    have e : p4A s = (zadr, false) := by unfold p4A; rw [HPE.out, if_neg (fun h => h4 h.1)]
    have E := Lib.hid e; clear e
    rw [adr4_zero] at hb5
    go_wp2_with (first | refine wpList_load_A rfl _ rfl okA_zadr hb5 rfl ?_ | refine wpList_store_A rfl _ _ rfl okA_zadr okA_zadr hr5 rfl rfl ?_)
    refine bodyPost_ret (res_A2 rfl rfl okA_zadr (hr5.row _)) rfl ⟨by rw [E.out]; rfl, hx5.setRow (Nat.le_refl _) _⟩
end Go.Proofs.YtpdoddelnahlnaaGreatDoor
/-
  From a contract 'returns true and changes nothing that was there' to the row of a law that lists the library's tables.
-/
namespace Go.Proofs.YtpdoddelnahlnaaGreatDoor
open Go.ChangeShapes Go.WideShapes Go.ChangeAt Go.RowKit

theorem law_liftedR {C : Checked} {os : Os} {H : Type} {enc : TypeId × Value → H} (own : ownKnob C.prog.godebug = none) (hl : laidOutB C.prog = true) (started : os.Started)
    {f : FuncId} {fn : Func} (s : ChangeSpec) (so : OpenSpec) (hso : ∃ c, so = { OpenSpec.ofChange s with cond := c }) {F : Stop.Interp} {laid : List (String × DataW Unit)} (noInit : C.prog.inits.idxOf? f = none) (hfn : C.prog.funcs[f]? = some fn)
    (hsv : s.vars = []) (tb : TypeId) (hres : fn.resultTypes = #[tb]) (htb : C.prog.underlying tb = some .bool)
    (hread : fn.params.toList.all (fun t => C.prog.readableRec t && decide (t < C.prog.types.size)) = true)
    (n : Nat) (hn : fn.params.size = n)
    (hspec : ∀ ds : List (DataW H), ds.length = n → s.fn H ds = { results := [.lit (.bool true)], args := ds })
    (witness : ∃ (w : World) (tape : Tape) (i : Input), w.os = os ∧ (w.forCall tape i).Shaped C.prog ∧ i.vars = [] ∧ Input.okWide C.prog (w.forCall tape i) .any w.heap.size f i ∧
      so.preRow enc C.prog fn [] false laid (w.forCall tape i).memory i.args ∧ (({} : Assume)).holds C.prog (lone (Frame.enter C.prog f i.args .normal) [] (w.forCall tape i)))
    (contract : ∀ (W : World) (base : Nat) (args : List Value) (ds : List (DataW H)) (ps : List MemPlace),
      (∀ (j : Nat) t v, fn.params[j]? = some t → args[j]? = some v → Value.okWide C.prog W .any base t v) →
      DataW.TrodAll enc C.prog W 0 (fun _ => true) true fn.params.toList args ds ps →
      (DataW.weightsEach C.prog fn.params.toList ds).all (· ≤ reachBytes) = true →
      (∀ k, so.cond = some k → k H (ds ++ []) = true) →
      laidMetH C.prog laid W → W.ShapedOpen C.prog →
      Calls C.prog f args.toArray W fun e W' => e = .returned (.bool true) ∧ Below W.heap.size W W') :
    ReturnsInHanded {} C os f .any (so.preRow enc C.prog fn [] false laid) ((so.at F).post enc C.prog fn false true false false) := by
  obtain ⟨c, rfl⟩ := hso
  refine returnsInHanded_of_row own started noInit hfn witness ?_
  intro W base args ds gs before hval hW _ hcond hsz hL hsh _
  have hW' := hW
  obtain ⟨p, q, hA, hV, rfl, hfz, hnd⟩ := hW
  have hV2 : DataW.TrodVars enc C.prog W (fun _ => true) s.vars gs q := hV
  rw [hsv] at hV2
  obtain ⟨rfl, rfl⟩ := trodVars_none hV2
  have hlen : ∀ (ts : List TypeId) (vs : List Value) (ds : List (DataW H)) (ps : List MemPlace), DataW.TrodAll enc C.prog W 0 (fun _ => true) true ts vs ds ps → ds.length = ts.length := by
    intro ts
    induction ts with
    | nil => intro vs ds ps h; obtain ⟨_, rfl, _⟩ := trodAll_nil h; rfl
    | cons t ts ih => intro vs ds ps h; obtain ⟨v, vs', d, ds', p, q, rfl, rfl, rfl, h1, h2⟩ := trodAll_cons h; simp [ih _ _ _ h2]
  have hl2 := hlen _ _ _ _ hA
  have hsp := hspec ds (by rw [hl2]; simpa using hn)
  have hsz' : (DataW.weightsEach C.prog fn.params.toList ds).all (· ≤ reachBytes) = true := by
    have e : ∀ k, DataSpec.varTypes C.prog (({ OpenSpec.ofChange s with cond := k } : OpenSpec).bare.plain) = [] := fun k => by
      unfold DataSpec.varTypes; show s.vars.filterMap _ = []; rw [hsv]; rfl
    rw [e] at hsz
    simpa using hsz
  have hc := contract W base args.toList ds p (fun j t v h1 h2 => hval j t v h1 (by simpa using h2)) hA hsz' (fun k hk => hcond k hk) hL hsh
  rw [Array.toArray_toList] at hc
  refine hc.mono fun e W' ⟨he, bel⟩ => ?_
  subst he
  have hW2 : DataW.Whole enc C.prog fn.params.toList s.vars false W args.toList ds [] (p ++ []) := hW'
  refine ⟨_, rfl, ds, [], _, [], p, [], hW', ?_, ?_, ?_, bel.frame _, fun h => by cases h⟩
  · rw [List.append_nil]
    show DataW.TrodAll enc C.prog W' W.heap.size (fun _ => false) false fn.resultTypes.toList _ (s.fn H ds).results _
    rw [hsp, hres]; exact trodAll_mk1 (shut_bool htb _)
  · rw [List.append_nil]
    show DataW.TrodAll enc C.prog W' 0 _ true fn.params.toList _ (s.fn H ds).args _
    rw [hsp]; exact trodAll_carry hl bel _ _ _ _ hread hA
  · rw [List.append_nil]
    show DataW.TrodVars enc C.prog W' _ s.vars (s.fn H ds).vars _
    rw [hsp, hsv]; rfl
end Go.Proofs.YtpdoddelnahlnaaGreatDoor
/-
  What the rows of this seat list ('laid'): the tables as the contracts ask for them, and a world for the witness.
-/
namespace Go.Proofs.YtpdoddelnahlnaaGreatDoor
open Go.ChangeShapes Go.WideShapes Go.ChangeAt Go.RowKit

theorem gMax : Tryz.prog.globalNamed "internal/bytealg.MaxLen" = some 0 := by kernel_rfl
theorem gP10 : Tryz.prog.globalNamed "internal/strconv.uint64pow10" = some 1 := by kernel_rfl
theorem gP10t : (Tryz.prog.globals[1]?).map (·.type) = some 131 := by kernel_rfl
theorem gTz : Tryz.prog.globalNamed "math/bits.deBruijn64tab" = some 7 := by kernel_rfl
theorem gTzt : (Tryz.prog.globals[7]?).map (·.type) = some 154 := by kernel_rfl
theorem cells96 : Tryz.prog.cellsOf 131 = 20 := by kernel_rfl
theorem cells123 : Tryz.prog.cellsOf 154 = 64 := by kernel_rfl
theorem cellsU64 : Tryz.prog.cellsOf 81 = 1 := by kernel_rfl
theorem cellsU8 : Tryz.prog.cellsOf 5 = 1 := by kernel_rfl

def tzTab : List Int := [0, 1, 56, 2, 57, 49, 28, 3, 61, 58, 42, 50, 38, 29, 17, 4, 62, 47, 59, 36, 45, 43, 51, 22, 53, 39, 33, 30, 24, 18, 12, 5, 63, 55, 48, 27, 60, 41, 37, 16, 46, 35, 44, 21, 52, 32, 23, 11, 54, 26, 40, 15, 34, 20, 31, 10, 25, 14, 19, 9, 13, 8, 7, 6]

theorem env_of_shaped {W : World} (h : W.ShapedOpen Tryz.prog) : Env W :=
  cell_of_shapedOpen_int (zero := #[.int .i64 0]) (t := 3) h (of_decide_eq_true (by kernel_rfl)) (by kernel_rfl) rfl (by kernel_rfl) (by kernel_rfl) Tryz.underlying3

theorem laid_open {W : World} (h : laidMetH Tryz.prog Rows.hostParsesExactlyRow.laid W) : laidMet Tryz.prog Rows.hostParsesExactlyRow.laid W := h

set_option maxRecDepth 100000 in
theorem tabs_of_laid {W : World} (h : laidMetH Tryz.prog Rows.hostParsesExactlyRow.laid W) : Tabs W := by
  have h1 : laidMet Tryz.prog (("math/bits.deBruijn64tab", Lib.tabData .u8 tzTab) :: ("internal/strconv.uint64pow10", Lib.tabData .u64 Lib.pow10Tab) :: Rows.hostParsesExactlyRow.laid.drop 3) W := (laid_open h).tail
  have a := Lib.tabIs_of_head gTz gTzt Tryz.underlying154 Tryz.underlying5 cellsU8 cells123 h1
  have b := Lib.tabIs_of_head gP10 gP10t Tryz.underlying131 Tryz.underlying81 cellsU64 cells96 h1.tail
  have c : W.cell? ⟨7, 15, none⟩ = some (.int .u8 (tzTab.getD 15 0)) := a.cell gTz 15 (of_decide_eq_true (by kernel_rfl))
  exact ⟨c, b⟩


/-- The cells of a datum of integers. -/
def flatCells : DataW Unit → List Value
  | .lit (.int k z) => [.int k z]
  | .agg xs => flats xs
  | _ => []
where flats : List (DataW Unit) → List Value
  | [] => []
  | x :: xs => flatCells x ++ flats xs

def rangeText : ByteArray := ⟨#[118, 97, 108, 117, 101, 32, 111, 117, 116, 32, 111, 102, 32, 114, 97, 110, 103, 101]⟩
def syntaxText : ByteArray := ⟨#[105, 110, 118, 97, 108, 105, 100, 32, 115, 121, 110, 116, 97, 120]⟩

def setCells (cs : List Value) : Obj → Obj
  | .cells _ t f => .cells cs.toArray t f
  | o => o

/-- The world that the witness holds: 'extra' lie first among the new blocks, the two sentinels' texts behind them. -/
noncomputable def laidWorld (os : Os) (extra : Array Obj) : World :=
  let w0 := World.holding Tryz.prog os ⟨extra ++ #[.cells #[.string rangeText] 158, .cells #[.string syntaxText] 158], #[], []⟩
  let low := (World.settled Tryz.prog os).heap.size + extra.size
  { w0 with heap := ((((((w0.heap.modify 6 (setCells (flatCells Rows.laid_math_bits_deBruijn32tab))).modify 7 (setCells (flatCells Rows.laid_math_bits_deBruijn64tab))).modify 1 (setCells (flatCells Rows.laid_internal_strconv_uint64pow10))).modify 3 (setCells (flatCells Rows.laid_unicode_utf8_acceptRanges))).modify 2 (setCells (flatCells Rows.laid_unicode_utf8_first))).modify 5 (setCells [.iface 156 (.pointer (some ⟨low, 0, none⟩))])).modify 4 (setCells [.iface 156 (.pointer (some ⟨low + 1, 0, none⟩))]) }

set_option maxRecDepth 100000 in
theorem laid_met (os : Os) (args : Array Value) : laidMet Tryz.prog Rows.hostParsesExactlyRow.laid ((laidWorld os #[]).forCall (fun _ _ => 0) ⟨#[], args, []⟩).memory :=
  laidMet_of_run3 8 (by kernel_rfl) (by kernel_rfl) (by kernel_rfl)

end Go.Proofs.YtpdoddelnahlnaaGreatDoor
