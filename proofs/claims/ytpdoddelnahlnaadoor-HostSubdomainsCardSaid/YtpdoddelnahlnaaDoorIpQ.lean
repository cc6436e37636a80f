/-
  Contracts of parseIPv4, of the program and of the reference.
-/
import Derived.Test.YtpdoddelnahlnaaDoorIpA
import Derived.Test.YtpdoddelnahlnaaDoorIpN
import Derived.Test.YtpdoddelnahlnaaDoorIpS
import Derived.Lib.SmallJoins
set_option linter.unusedSimpArgs false
set_option linter.unusedVariables false
namespace Go.Proofs.YtpdoddelnahlnaaDoor
open Go.RowKit Go.Joins

/-- the strings' cells of block b -/
def StrCells (w : World) (b : Nat) (ps : List ByteArray) : Prop := b < w.heap.size ∧ ∀ j x, ps[j]? = some x → w.cell? ⟨b, j, none⟩ = some (.string x)
theorem StrCells.ext {w w' : World} {b : Nat} {ps : List ByteArray} (h : StrCells w b ps) (k : Ext w w') : StrCells w' b ps :=
  ⟨Nat.lt_of_lt_of_le h.1 k.size, fun j x hj => by rw [k.cell h.1]; exact h.2 j x hj⟩
theorem StrCells.set {w : World} {b : Nat} {ps : List ByteArray} (h : StrCells w b ps) {p : Addr} (hp : p.block ≠ b) (u : Value) : StrCells (w.setCell p u) b ps :=
  ⟨by simpa [World.setCell] using h.1, fun j x hj => by rw [World.cell?_of_block (w := w) (Below.heap_setCell w p u b (fun e => hp e.symm))]; exact h.2 j x hj⟩
/-- what holds of the package's variables -/
def Env (w : World) : Prop := ∃ m : Int, w.cell? ⟨0, 0, none⟩ = some (.int .i64 m)
theorem Env.ext {w w' : World} (h : Env w) (k : Ext w w') : Env w' := by
  obtain ⟨m, hm⟩ := h
  exact ⟨m, by rw [k.cell (World.block_lt_of_cell? _ _ hm)]; exact hm⟩

theorem split_any (s : ByteArray) (c : UInt8) (w : World) (he : Env w) (hs : s.size < 4294967281) :
    Calls Tryd.prog 26 #[.string s, .string ⟨#[c]⟩] w fun e w' => ∃ b cap, e = .returned (.slice (some ⟨b, 0, none⟩) (parts c s).length cap) ∧ w.heap.size ≤ b ∧ StrCells w' b (parts c s) ∧ (parts c s).length ≤ cap ∧ Ext w w' := by
  obtain ⟨m, hm⟩ := he
  refine (Tryd.strings_Split s ⟨#[c]⟩ m w hs hm (Nat.le_refl 1)).mono fun e w' ⟨h1, h2⟩ => ?_
  subst h1 h2
  rw [splitB_parts]
  have hb := Blk.new w ((parts c s).map Value.string).toArray 9
  refine ⟨w.heap.size, _, by rw [parts_length], Nat.le_refl _, ⟨hb.lt, fun j x hj => hb.cell (by simp [hj])⟩, by rw [parts_length]; exact Nat.le_refl _, (Ext.refl w).alloc _⟩
theorem parts_pos (c : UInt8) (s : ByteArray) : 0 < (parts c s).length := by rw [parts_length]; omega
theorem rsplit_any (s : ByteArray) (c : UInt8) (w : World) (hs : s.size < 4294967281) :
    Calls Tryd.prog 23 #[.string s, .int .u8 c.toNat] w fun e w' => ∃ b cap, e = .returned (.slice (some ⟨b, 0, none⟩) (parts c s).length cap) ∧ w.heap.size ≤ b ∧ StrCells w' b (parts c s) ∧ (parts c s).length ≤ cap ∧ Ext w w' := by
  refine (rSplit_any s c w hs).mono fun e w' ⟨v, h1, h2, h3⟩ => ?_
  obtain ⟨g, cap, hv⟩ := ownsRow_form h2 (parts_pos c s)
  subst hv
  have hl := h2.lt g rfl
  have hc := h2.cells (g := g) rfl
  obtain ⟨_, h4⟩ := h2
  refine ⟨g, cap, h1, hl.1, ⟨hl.2, fun j x hj => ?_⟩, ?_, h3⟩
  · have := hc j (.string x) (by simp [hj])
    rw [show (⟨g, 0, none⟩ : Addr).add j = ⟨g, j, none⟩ from by unfold Addr.add; split <;> simp_all] at this
    exact this
  · rcases h4 with ⟨h5, _⟩ | ⟨g', cap', cur, h5, _, _, h6⟩
    · cases h5
    · cases h5; omega

def arr4 (ps : List ByteArray) (k : Nat) : List Int := (ps.take k).map dec ++ List.replicate (4 - k) 0
theorem arr4_len {ps : List ByteArray} (h : ps.length = 4) {k : Nat} (hk : k ≤ 4) : (arr4 ps k).length = 4 := by simp [arr4]; omega
theorem arr4_set {ps : List ByteArray} (h : ps.length = 4) {k : Nat} (hk : k < 4) {x : ByteArray} (hx : ps[k]? = some x) : (arr4 ps k).set k (dec x) = arr4 ps (k + 1) := by
  unfold arr4
  rw [List.set_append_right _ _ (by simp; omega), show k - ((ps.take k).map dec).length = 0 from by simp; omega, show 4 - k = (4 - (k + 1)) + 1 by omega, List.replicate_succ, List.set_cons_zero, List.take_add_one, hx]
  simp
theorem arr4_all {ps : List ByteArray} (h : ps.length = 4) : arr4 ps 4 = ps.map dec := by unfold arr4; rw [List.take_of_length_le (by omega)]; simp
theorem arr4_bd {ps : List ByteArray} {k : Nat} (h : okDec (ps.take k) = true) : ∀ x ∈ arr4 ps k, 0 ≤ x ∧ x < 256 := by
  intro x hx
  unfold arr4 at hx
  rcases List.mem_append.1 hx with hx | hx
  · obtain ⟨y, hy, rfl⟩ := List.mem_map.1 hx
    unfold okDec at h
    rw [List.all_eq_true] at h
    have := dec_bd y
    have := h y hy
    simp at this; omega
  · have := List.eq_of_mem_replicate hx; omega
theorem arr4_at {ps : List ByteArray} (h : ps.length = 4) {k : Nat} (hk : k < 4) : (arr4 ps k)[k]? = some 0 := by
  unfold arr4
  rw [List.getElem?_append_right (by simp; omega), show k - ((ps.take k).map dec).length = 0 from by simp; omega, List.getElem?_replicate, if_pos (by omega)]
theorem parse4_eq {s : ByteArray} : parse4 s = if (parts 46 s).length = 4 ∧ okDec (parts 46 s) = true then some ((parts 46 s).map dec) else none := rfl
theorem okDec_take {ps : List ByteArray} {k : Nat} {x : ByteArray} (h : okDec (ps.take k) = true) (hx : ps[k]? = some x) (hd : 0 ≤ dec x) : okDec (ps.take (k + 1)) = true := by
  unfold okDec at *; rw [List.take_add_one, hx, List.all_append, h]; simpa using hd
theorem okDec_not {ps : List ByteArray} {k : Nat} {x : ByteArray} (hx : ps[k]? = some x) (hd : dec x < 0) : okDec ps = false := by
  cases h : okDec ps with
  | false => rfl
  | true =>
    unfold okDec at h; rw [List.all_eq_true] at h
    have := h x (List.mem_of_getElem? hx); simp at this; omega
theorem okDec_all {ps : List ByteArray} (h : ps.length = 4) (ho : okDec (ps.take 4) = true) : okDec ps = true := by rwa [List.take_of_length_le (by omega)] at ho

theorem info_4 : (Tryd.prog.info? 66).map (·.size) = some 4 := by kernel_rfl
def c4 (l : List Int) : Array Value := (l.map (Value.int .u8)).toArray
theorem c4_size {l : List Int} (h : l.length = 4) : (c4 l).size = 4 := by simp [c4, h]
theorem c4_one (l : List Int) : (c4 l).all (·.oneCell') = true := by
  rw [Array.all_eq_true_iff_forall_mem]
  intro v hv
  simp only [c4, List.mem_toArray, List.mem_map] at hv
  obtain ⟨x, _, rfl⟩ := hv; rfl
theorem wpList_load_4 {ops : Array Oper} {rest : List Oper} {o : Oper} {f : Act} {w : World} {Q : Exit → Act → World → Prop} (hgd : o.guard = none) (x : Operand) (ho : o.op = .load 66 x)
    {b : Nat} {l : List Int} (hl : l.length = 4) (hb : Blk w b (c4 l).toList 66) (hx : f.eval x = .pointer (some ⟨b, 0, none⟩)) (h : wpList Tryd.prog ops Q rest (f.put o.dst (.agg (c4 l))) w) : wpList Tryd.prog ops Q (o :: rest) f w :=
  wpList_load_mid hgd 66 x ho b 0 hx (c4 l).toList _ (fun j v hj => by rw [Nat.zero_add]; exact hb.cell hj) Tryd.underlying66 rfl (by rw [info_4, Array.length_toList, c4_size hl]) h
theorem wpList_store_4 {ops : Array Oper} {rest : List Oper} {o : Oper} {f : Act} {w : World} {Q : Exit → Act → World → Prop} (hgd : o.guard = none) (x y : Operand) (ho : o.op = .store 66 x y)
    {c : Nat} {l0 l : List Int} (h0 : l0.length = 4) (hl : l.length = 4) (hb : Blk w c (c4 l0).toList 66) (hx : f.eval x = .pointer (some ⟨c, 0, none⟩)) (hy : f.eval y = .agg (c4 l)) (h : wpList Tryd.prog ops Q rest (f.put o.dst undef) (w.setRow c (c4 l))) : wpList Tryd.prog ops Q (o :: rest) f w :=
  wpList_plain hgd fun _ hK => wp_store_row 66 x y ho c (c4 l) hx hy 66 (c4 l0) hb (by rw [info_4, c4_size hl]) (by rw [c4_size hl, c4_size h0]) (c4_one l) (hK _ _ h)
theorem res_42 {fn : Func} {t u : Tmp} (h : fn.results = #[.cell t 66, .tmp u]) {tmps : Array Value} {c : Nat} (hp : tmps.getD t undef = .pointer (some ⟨c, 0, none⟩)) {w : World} {l : List Int} (hl : l.length = 4) (hb : Blk w c (c4 l).toList 66) :
    (results fn tmps).run Tryd.prog w = .ok (.tuple #[.agg (c4 l), tmps.getD u undef]) w := by
  have := run_loadVar_mid (P := Tryd.prog) w c 0 66 (c4 l).toList _ (fun j v hj => by rw [Nat.zero_add]; exact hb.cell hj) Tryd.underlying66 rfl (by rw [info_4, Array.length_toList, c4_size hl])
  rw [Array.toArray_toList] at this
  have hp' : tmps[t]?.getD undef = .pointer (some ⟨c, 0, none⟩) := by simpa using hp
  simp [results, h, hp', this, Sem.run_bind, asAddr]
theorem c4_zero : c4 [0, 0, 0, 0] = #[.int .u8 0, .int .u8 0, .int .u8 0, .int .u8 0] := rfl

set_option maxRecDepth 4000 in
set_option maxHeartbeats 1000000 in
theorem parse4_any (s : ByteArray) (w : World) (henv : Env w) (hs : s.size < 4294967281) :
    Calls Tryd.prog 50 #[.string s] w fun e w' => ∃ l : List Int, l.length = 4 ∧ (∀ x ∈ l, 0 ≤ x ∧ x < 256) ∧ e = .returned (.tuple #[.agg (c4 l), .bool (parse4 s).isSome]) ∧ (∀ b, parse4 s = some b → b = l) ∧ Ext w w' := by
  have hpz : ∀ x ∈ parts 46 s, x.size ≤ maxLen := fun x hx => Nat.le_trans (parts_size hx) (by unfold maxLen; omega)
  have hsplit := fun w he => split_any s 46 w he hs
  have hpe := @parse4_eq s
  generalize parts 46 s = ps at *
  have HPE := Lib.hid hpe; have HS := Lib.hid hsplit; have HPZ := Lib.hid hpz
  clear hpe hsplit hpz
  go_enter Tryd.func50, Tryd.ntmps50
  go_upto_region 2 with fail
  rw [← c4_zero]
  have hx := ((Ext.refl w).alloc (.cells (c4 [0, 0, 0, 0]) 66)).alloc (.cells (c4 [0, 0, 0, 0]) 66)
  have hr := (Blk.new w (c4 [0, 0, 0, 0]) 66).ext ((Ext.refl _).alloc (.cells (c4 [0, 0, 0, 0]) 66))
  have hb := Blk.new (w.alloc (.cells (c4 [0, 0, 0, 0]) 66)) (c4 [0, 0, 0, 0]) 66
  rw [World.size_alloc] at hb
  generalize (w.alloc (.cells (c4 [0, 0, 0, 0]) 66)).alloc (.cells (c4 [0, 0, 0, 0]) 66) = w2 at *
  go_wp2_with (go_at_call 26; refine (HS.out _ (henv.ext hx)).mono ?_; rintro e w3 ⟨b, cap, rfl, hbl, hsc, hcap, hx3⟩; refine Hid.out ?_)
  have hr3 := hr.ext hx3
  have hb3 := hb.ext hx3
  have hw2 := hb.lt
  have hx33 := hx.trans hx3
  clear hr hb hx hx3
  refine Lib.hid ?_
  by_cases h4 : ps.length = 4
  · have hn4 : ((ps.length : Int) != 4) = false := by rw [bne_eq_false_iff_eq]; omega
    have hn5 : (ps.length : Int) = 4 := by omega
    have HN5 := Lib.hid hn5; clear hn5
    have H4 := Lib.hid h4; clear h4
    have hcp : ps.length ≤ cap := hcap
    have hlen4 : (ps.length : Int) ≤ 4 := by have := H4.out; omega
    have hlen4' : (4 : Int) ≤ ps.length := by have := H4.out; omega
    have hrs : w.heap.size + 1 < w3.heap.size := hb3.lt
    go_wp2_with fail
    go_loopw [3, 6, 7, 8, 9, 18] (fun _ _ _ _ _ c wr => ∃ k : Nat, k ≤ 4 ∧ c = .int .i64 k ∧ okDec (ps.take k) = true ∧ Blk wr w.heap.size (c4 [0, 0, 0, 0]).toList 66 ∧ Blk wr (w.heap.size + 1) (c4 (arr4 ps k)).toList 66 ∧ StrCells wr b ps ∧ Ext w wr) (fun _ _ _ _ _ c _ => 4 - (intOf c).toNat)
    case atStart => exact ⟨0, Nat.zero_le _, rfl, rfl, hr3, hb3, hsc, hx33⟩
    case round =>
      obtain ⟨k, hk, rfl, hok, hr, hb, hsc, hx⟩ := hrel
      have HOK := Lib.hid hok; clear hok
      by_cases hlt : k < 4
      · have hlt' : (k : Int) < ps.length := by omega
        obtain ⟨x, hxk⟩ : ∃ x, ps[k]? = some x := ⟨ps[k]'(by have := H4.out; omega), List.getElem?_eq_getElem _⟩
        have hcell := hsc.2 k x hxk
        have HX := Lib.hid hxk; clear hxk
        have hxz := HPZ.out x (List.mem_of_getElem? HX.out)
        have hcell2 : wr.cell? ⟨w.heap.size + 1, k, none⟩ = some (.int .u8 0) := hb.cell (by have := arr4_at H4.out hlt; simp [c4, this])
        have hfr2 := hb.free k
        by_cases hd : dec x < 0
        · have hcall : Calls Tryd.prog 24 #[.string x, .int .i64 0, .int .i64 255] wr fun e w' => e = .returned (.tuple #[.int .i64 0, .bool false]) ∧ wr = w' := by
            have := num_any x 0 255 wr hxz
            rw [num_dec, if_pos hd] at this; exact this
          have e : parse4 s = none := by rw [HPE.out, if_neg (fun h => by rw [okDec_not HX.out hd] at h; simp at h)]
          have E := Lib.hid e; clear e
          have HC := Lib.hid hcall; clear hcall
          go_wp2_with (first | (go_at_call 24; refine HC.out.mono ?_; rintro e w' ⟨rfl, rfl⟩) | refine wpList_load_4 rfl _ rfl (l := arr4 ps k) (arr4_len H4.out hk) hb rfl ?_ | refine wpList_store_4 rfl _ _ rfl (l0 := [0, 0, 0, 0]) rfl (l := arr4 ps k) (arr4_len H4.out hk) hr rfl rfl ?_)
          refine bodyPost_ret (res_42 rfl rfl (l := arr4 ps k) (arr4_len H4.out hk) (hr.row _)) rfl ⟨arr4 ps k, arr4_len H4.out hk, arr4_bd HOK.out, by rw [E.out]; rfl, fun b hb => ?_, hx.setRow (Nat.le_refl _) _⟩
          rw [E.out] at hb; cases hb
        · have hcall : Calls Tryd.prog 24 #[.string x, .int .i64 0, .int .i64 255] wr fun e w' => e = .returned (.tuple #[.int .i64 (dec x), .bool true]) ∧ wr = w' := by
            have := num_any x 0 255 wr hxz
            rw [num_dec, if_neg hd] at this; exact this
          have HC := Lib.hid hcall; clear hcall
          have hdb := dec_bd x
          have e8 : IntKind.u8.wrap (dec x) = dec x := by
            have : ∀ n : Int, IntKind.u8.wrap n = n % 256 := fun n => by simp [IntKind.wrap, IntKind.bits, IntKind.signed]
            rw [this]; omega
          go_wp2_with (first | (go_at_call 24; refine HC.out.mono ?_; rintro e w' ⟨rfl, rfl⟩))
          go_roundw
          case rel =>
            have hne : w.heap.size ≠ w.heap.size + 1 := by omega
            refine ⟨k + 1, by omega, by go_num, okDec_take HOK.out HX.out (by omega), hr.set_ne ⟨w.heap.size + 1, k, none⟩ (fun e => hne e.symm) _, ?_, hsc.set (p := ⟨w.heap.size + 1, k, none⟩) ?_ _, hx.setCell (p := ⟨w.heap.size + 1, k, none⟩) (Nat.le_add_right _ _) _⟩
            · have := hb.set k (.int .u8 (dec x))
              rw [← arr4_set H4.out hlt HX.out]
              simpa [c4] using this
            · show w.heap.size + 1 ≠ b
              omega
          case measure => simp [intOf]; omega
      · obtain rfl : k = 4 := by omega
        have e : parse4 s = some (ps.map dec) := by rw [HPE.out, if_pos ⟨H4.out, okDec_all H4.out HOK.out⟩]
        have E := Lib.hid e; clear e
        have hbd := arr4_bd HOK.out
        rw [arr4_all H4.out] at hb hbd
        have hml : (ps.map dec).length = 4 := by simp [H4.out]
        have HB := Lib.hid hbd; have HML := Lib.hid hml; clear hbd hml
        go_wp2_with (first | refine wpList_load_4 rfl _ rfl (l := ps.map dec) HML.out hb rfl ?_ | refine wpList_store_4 rfl _ _ rfl (l0 := [0, 0, 0, 0]) rfl (l := ps.map dec) HML.out hr rfl rfl ?_)
        refine bodyPost_ret (res_42 rfl rfl (l := ps.map dec) HML.out (hr.row _)) rfl ⟨ps.map dec, HML.out, HB.out, by rw [E.out]; rfl, fun b hb => ?_, hx.setRow (Nat.le_refl _) _⟩
        rw [E.out] at hb; exact (Option.some.inj hb).symm
  · have hn4 : ((ps.length : Int) != 4) = true := by rw [bne_iff_ne]; omega
    have e : parse4 s = none := by rw [HPE.out, if_neg (fun h => h4 h.1)]
    have E := Lib.hid e; clear e
    go_wp2_with (first | refine wpList_load_4 rfl _ rfl (l := [0, 0, 0, 0]) rfl hb3 rfl ?_ | refine wpList_store_4 rfl _ _ rfl (l0 := [0, 0, 0, 0]) rfl (l := [0, 0, 0, 0]) rfl hr3 rfl rfl ?_)
    refine bodyPost_ret (res_42 rfl rfl (l := [0, 0, 0, 0]) rfl (hr3.row _)) rfl ⟨[0, 0, 0, 0], rfl, by decide, by rw [E.out]; rfl, fun b hb => ?_, hx33.setRow (Nat.le_refl _) _⟩
    rw [E.out] at hb; cases hb

def p4A (s : ByteArray) : Adr × Bool := match parse4 s with
  | some b => (v4 (b.getD 0 0) (b.getD 1 0) (b.getD 2 0) (b.getD 3 0), true)
  | none => (zadr, false)
def adr4 (ps : List ByteArray) (k : Nat) : Adr := (false, arr4 ps k ++ [0, 0, 0, 0, 0, 0, 0, 0, 0, 0, 0, 0])
theorem okA_adr4 {ps : List ByteArray} (h : ps.length = 4) {k : Nat} (hk : k ≤ 4) (ho : okDec (ps.take k) = true) : okA (adr4 ps k) := by
  refine ⟨by simp [adr4, arr4_len h hk], fun x hx => ?_⟩
  rcases List.mem_append.1 hx with hx | hx
  · exact arr4_bd ho x hx
  · simp at hx; omega
theorem adr4_set {ps : List ByteArray} (h : ps.length = 4) {k : Nat} (hk : k < 4) {x : ByteArray} (hx : ps[k]? = some x) : (ac (adr4 ps k)).toList.set (1 + k) (.int .u8 (dec x)) = (ac (adr4 ps (k + 1))).toList := by
  have hl := arr4_len h (Nat.le_of_lt hk)
  unfold ac adr4
  rw [← arr4_set h hk hx]
  simp only [Nat.add_comm 1 k, List.set_cons_succ, List.map_append]
  rw [List.set_append_left _ _ (by simp [hl]; omega), List.map_set]
theorem v4_getD {l : List Int} (h : l.length = 4) : v4 (l.getD 0 0) (l.getD 1 0) (l.getD 2 0) (l.getD 3 0) = (false, l ++ [0, 0, 0, 0, 0, 0, 0, 0, 0, 0, 0, 0]) := by
  match l, h with
  | [a, b, c, d], _ => rfl
theorem adr4_zero {ps : List ByteArray} : adr4 ps 0 = zadr := rfl

end Go.Proofs.YtpdoddelnahlnaaDoor
