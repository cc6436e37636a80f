/-
  Several texts joined: IpV, IpM.
-/
import Derived.Deep.WholeRow
import Derived.Test.YtpdoddelnahlnaaGreatDoorK03
import Derived.Laws.AppendOwn
import Derived.Laws.CopyRow
import Derived.Test.YtpdoddelnahlnaaGreatDoorK01
/-
  Contracts of V6, of the program and of the reference.
-/
set_option linter.unusedSimpArgs false
set_option linter.unusedVariables false
namespace Go.Proofs.YtpdoddelnahlnaaGreatDoor
open Go.RowKit

def ok16 (gs : List Int) : Prop := ∀ x ∈ gs, 0 ≤ x ∧ x < 65536
/-- the address as far as the first k groups are laid -/
def adr6 (gs : List Int) (k : Nat) : Adr := (true, hilo (gs.take k) ++ List.replicate (16 - 2 * k) 0)
theorem hilo_len (l : List Int) : (hilo l).length = 2 * l.length := by
  induction l with
  | nil => rfl
  | cons x l ih => simp only [hilo, List.flatMap_cons, List.length_append] at *; simp at *; omega
theorem hilo_app (a b : List Int) : hilo (a ++ b) = hilo a ++ hilo b := by simp [hilo]
theorem hilo_ok {l : List Int} (h : ok16 l) : ∀ x ∈ hilo l, 0 ≤ x ∧ x < 256 := by
  intro x hx
  simp only [hilo, List.mem_flatMap] at hx
  obtain ⟨y, hy, hx⟩ := hx
  have := h y hy
  simp at hx
  rcases hx with rfl | rfl <;> omega
theorem okA_adr6 {gs : List Int} (h : ok16 gs) (hl : gs.length = 8) {k : Nat} (hk : k ≤ 8) : okA (adr6 gs k) := by
  refine ⟨by simp [adr6, hilo_len]; omega, fun x hx => ?_⟩
  rcases List.mem_append.1 hx with hx | hx
  · exact hilo_ok (fun y hy => h y (List.mem_of_mem_take hy)) x hx
  · have := List.eq_of_mem_replicate hx; omega
theorem adr6_set {gs : List Int} (hl : gs.length = 8) {k : Nat} (hk : k < 8) {x : Int} (hx : gs[k]? = some x) :
    ((ac (adr6 gs k)).toList.set (1 + 2 * k) (.int .u8 (x / 256))).set (1 + (2 * k + 1)) (.int .u8 (x % 256)) = (ac (adr6 gs (k + 1))).toList := by
  have e0 : (hilo (gs.take k)).length = 2 * k := by rw [hilo_len, List.length_take]; omega
  unfold ac adr6
  rw [List.take_add_one, hx, Option.toList_some, hilo_app, show 16 - 2 * k = (16 - 2 * (k + 1)) + 1 + 1 by omega, List.replicate_succ, List.replicate_succ]
  simp only [Nat.add_comm 1, List.set_cons_succ, List.map_append, List.map_cons]
  have e1 : ((hilo (gs.take k)).map (Value.int .u8)).length = 2 * k := by rw [List.length_map, e0]
  rw [List.set_append_right _ _ (by omega), e1, Nat.sub_self, List.set_cons_zero, List.set_append_right _ _ (by omega), e1, show 2 * k + 1 - 2 * k = 1 by omega, List.set_cons_succ, List.set_cons_zero, List.append_assoc]
  rfl
theorem adr6_all {gs : List Int} (hl : gs.length = 8) : adr6 gs 8 = (true, hilo gs) := by unfold adr6; rw [List.take_of_length_le (by omega)]; simp
theorem v6_ok {gs : List Int} (hl : gs.length = 8) : v6 gs = (adr6 gs 8, true) := by unfold v6; rw [if_pos hl, adr6_all hl]
theorem v6_no {gs : List Int} (hl : ¬ gs.length = 8) : v6 gs = (zadr, false) := by unfold v6; rw [if_neg hl]
/-- a slice of groups: its value and what can be read -/
def Grps (w : World) (v : Value) (gs : List Int) : Prop := ∃ a cap, v = .slice a gs.length cap ∧ gs.length ≤ cap ∧ ok16 gs ∧ (gs.length = 8 → ∃ b off, a = some ⟨b, off, none⟩ ∧ b < w.heap.size ∧ ∀ j x, gs[j]? = some x → w.cell? ⟨b, off + j, none⟩ = some (.int .u16 x))
theorem u8_div {x : Int} (h : 0 ≤ x) (h1 : x < 65536) : IntKind.u8.wrap (x / 256) = x / 256 := by
  have : ∀ n : Int, IntKind.u8.wrap n = n % 256 := fun n => by simp [IntKind.wrap, IntKind.bits, IntKind.signed]
  rw [this]; omega
theorem u8_mod {x : Int} : IntKind.u8.wrap x = x % 256 := by simp [IntKind.wrap, IntKind.bits, IntKind.signed]

set_option maxRecDepth 4000 in
set_option maxHeartbeats 1000000 in
theorem V6_any (v : Value) (gs : List Int) (w : World) (hv : Grps w v gs) (hn : gs.length ≤ 140737488351232) :
    Calls Tryz.prog 81 #[v] w fun e w' => e = .returned (.tuple #[av (v6 gs).1, .bool (v6 gs).2]) ∧ Ext w w' := by
  obtain ⟨a, cap, rfl, hcap, h16, hcells⟩ := hv
  go_enter Tryz.func81, Tryz.ntmps81
  go_upto_region 1 with fail
  rw [← ac_zadr]
  have hx := (Ext.refl w).alloc (.cells (ac zadr) 30)
  have hr := Blk.new w (ac zadr) 30
  generalize hw2 : w.alloc (.cells (ac zadr) 30) = w2 at *
  clear hw2
  by_cases h8 : gs.length = 8
  · obtain ⟨b, off, rfl, hb, hc⟩ := hcells h8
    have hn4 : ((gs.length : Int) != 8) = false := by rw [bne_eq_false_iff_eq]; omega
    have hC : ∀ j x, gs[j]? = some x → w2.cell? ⟨b, off + j, none⟩ = some (.int .u16 x) := fun j x hj => by rw [hx.cell hb]; exact hc j x hj
    have hA0 : okA (adr6 gs 0) := okA_adr6 h16 h8 (Nat.zero_le _)
    have hb4 := Blk.new w2 (ac zadr) 30
    have H16 := Lib.hid h16; have H8 := Lib.hid h8; have HC := Lib.hid hC; clear hcells h16 hc hC h8
    have hg8 : (gs.length : Int) ≤ 8 := by have := H8.out; omega
    have hg8' : (8 : Int) ≤ gs.length := by have := H8.out; omega
    have hr2 := hr.lt
    go_upto_region 4 with (refine wpList_store_A rfl _ _ rfl okA_zadr hA0 hb4 rfl rfl ?_)
    change Code.wp _ _ _ _ ((w2.alloc (.cells (ac zadr) 30)).setRow w2.heap.size (ac (adr6 gs 0)))
    rw [World.setRow_alloc_new]
    have hb5 := Blk.new w2 (ac (adr6 gs 0)) 30
    have hr5 := hr.ext ((Ext.refl w2).alloc (.cells (ac (adr6 gs 0)) 30))
    have hx5 := hx.alloc (.cells (ac (adr6 gs 0)) 30)
    have hC5 : ∀ j x, gs[j]? = some x → (w2.alloc (.cells (ac (adr6 gs 0)) 30)).cell? ⟨b, off + j, none⟩ = some (.int .u16 x) := fun j x hj => by
      rw [((Ext.refl w2).alloc _).cell (show b < w2.heap.size from Nat.lt_of_lt_of_le hb hx.size)]; exact HC.out j x hj
    have hbc : b ≠ w2.heap.size := by have := hx.size; omega
    have hwc : w.heap.size ≤ w2.heap.size := hx.size
    have hrc : w.heap.size ≠ w2.heap.size := by omega
    have HC5 := Lib.hid hC5; clear hC5 hb4 HC hr hx hr2
    generalize w2.alloc (.cells (ac (adr6 gs 0)) 30) = w5 at *
    generalize w2.heap.size = c at *
    go_wp2_with fail
    go_loopw [5, 6, 14] (fun _ _ i wr => ∃ k : Nat, k ≤ 8 ∧ i = .int .i64 k ∧ Blk wr w.heap.size (ac zadr).toList 30 ∧ Blk wr c (ac (adr6 gs k)).toList 30 ∧ Hid (∀ j x, gs[j]? = some x → wr.cell? ⟨b, off + j, none⟩ = some (.int .u16 x)) ∧ Ext w wr) (fun _ _ i _ => 8 - (intOf i).toNat)
    case atStart => exact ⟨0, Nat.zero_le _, rfl, hr5, hb5, HC5, hx5⟩
    case round =>
      obtain ⟨k, hk, rfl, hr, hb, hC, hx⟩ := hrel
      have hA := okA_adr6 H16.out H8.out hk
      by_cases hlt : k < 8
      · have hlt' : (k : Int) < gs.length := by omega
        obtain ⟨x, hxk⟩ : ∃ x, gs[k]? = some x := ⟨gs[k]'(by have := H8.out; omega), List.getElem?_eq_getElem _⟩
        have hcell := hC.out k x hxk
        have hxb := H16.out x (List.mem_of_getElem? hxk)
        have HX := Lib.hid hxk; clear hxk
        have e1 := u8_div hxb.1 hxb.2
        have e2 := @u8_mod x
        have hcell2 := hb.cell (i := 1 + 2 * k) (by rw [Array.getElem?_toList]; exact ac_at hA (by omega))
        have hcell3 := hb.cell (i := 1 + (2 * k + 1)) (by rw [Array.getElem?_toList]; exact ac_at hA (by omega))
        have hf2 := hb.free (1 + 2 * k)
        have hf3 := hb.free (1 + (2 * k + 1))
        go_wp2_with fail
        go_roundw
        case rel =>
          refine ⟨k + 1, by omega, by go_num, (hr.set_ne ⟨c, _, none⟩ (fun e => hrc e.symm) _).set_ne ⟨c, _, none⟩ (fun e => hrc e.symm) _, ?_, Lib.hid fun j y hj => ?_, (hx.setCell (p := ⟨c, _, none⟩) hwc _).setCell (p := ⟨c, _, none⟩) hwc _⟩
          · rw [← adr6_set H8.out hlt HX.out]; exact (hb.set (1 + 2 * k) (.int .u8 (x / 256))).set (1 + (2 * k + 1)) (.int .u8 (x % 256))
          · rw [World.cell?_of_block (Below.heap_setCell _ _ _ b hbc), World.cell?_of_block (Below.heap_setCell _ _ _ b hbc)]; exact hC.out j y hj
        case measure => simp [intOf]; omega
      · obtain rfl : k = 8 := by omega
        have E := Lib.hid (v6_ok H8.out)
        go_wp2_with (first | refine wpList_load_A rfl _ rfl hA hb rfl ?_ | refine wpList_store_A rfl _ _ rfl okA_zadr hA hr rfl rfl ?_)
        refine bodyPost_ret (res_A2 rfl rfl hA (hr.row _)) rfl ⟨by rw [E.out]; rfl, hx.setRow (Nat.le_refl _) _⟩
  · have hn4 : ((gs.length : Int) != 8) = true := by rw [bne_iff_ne]; omega
    have E := Lib.hid (v6_no h8)
    clear h8 hcells h16
    go_wp2_with (refine wpList_store_A rfl _ _ rfl okA_zadr okA_zadr hr rfl rfl ?_)
    refine bodyPost_ret (res_A2 rfl rfl okA_zadr (hr.row _)) rfl ⟨by rw [E.out]; rfl, hx.setRow (Nat.le_refl _) _⟩
set_option maxRecDepth 4000 in
set_option maxHeartbeats 4000000 in
theorem rV6_any (v : Value) (gs : List Int) (w : World) (hv : Grps w v gs) (hn : gs.length ≤ 140737488351232) :
    Calls Tryz.prog 93 #[v] w fun e w' => e = .returned (.tuple #[av (v6 gs).1, .bool (v6 gs).2]) ∧ Ext w w' := by
  obtain ⟨a, cap, rfl, hcap, h16, hcells⟩ := hv
  go_enter Tryz.func93, Tryz.ntmps93
  go_upto_region 1 with fail
  rw [← ac_zadr]
  have hx := (Ext.refl w).alloc (.cells (ac zadr) 30)
  have hr := Blk.new w (ac zadr) 30
  generalize hw2 : w.alloc (.cells (ac zadr) 30) = w2 at *
  clear hw2
  by_cases h8 : gs.length = 8
  · obtain ⟨b, off, rfl, hb, hc⟩ := hcells h8
    have hn4 : ((gs.length : Int) != 8) = false := by rw [bne_eq_false_iff_eq]; omega
    have hC : ∀ j x, gs[j]? = some x → w2.cell? ⟨b, off + j, none⟩ = some (.int .u16 x) := fun j x hj => by rw [hx.cell hb]; exact hc j x hj
    have hA0 : okA (adr6 gs 0) := okA_adr6 h16 h8 (Nat.zero_le _)
    have hb4 := Blk.new w2 (ac zadr) 30
    have H16 := Lib.hid h16; have H8 := Lib.hid h8; have HC := Lib.hid hC; clear hcells h16 hc hC h8
    have hg8 : (gs.length : Int) ≤ 8 := by have := H8.out; omega
    have hg8' : (8 : Int) ≤ gs.length := by have := H8.out; omega
    have hr2 := hr.lt
    go_upto_region 4 with (refine wpList_store_A rfl _ _ rfl okA_zadr hA0 hb4 rfl rfl ?_)
    change Code.wp _ _ _ _ ((w2.alloc (.cells (ac zadr) 30)).setRow w2.heap.size (ac (adr6 gs 0)))
    rw [World.setRow_alloc_new]
    have hb5 := Blk.new w2 (ac (adr6 gs 0)) 30
    have hr5 := hr.ext ((Ext.refl w2).alloc (.cells (ac (adr6 gs 0)) 30))
    have hx5 := hx.alloc (.cells (ac (adr6 gs 0)) 30)
    have hC5 : ∀ j x, gs[j]? = some x → (w2.alloc (.cells (ac (adr6 gs 0)) 30)).cell? ⟨b, off + j, none⟩ = some (.int .u16 x) := fun j x hj => by
      rw [((Ext.refl w2).alloc _).cell (show b < w2.heap.size from Nat.lt_of_lt_of_le hb hx.size)]; exact HC.out j x hj
    have hbc : b ≠ w2.heap.size := by have := hx.size; omega
    have hwc : w.heap.size ≤ w2.heap.size := hx.size
    have hrc : w.heap.size ≠ w2.heap.size := by omega
    have HC5 := Lib.hid hC5; clear hC5 hb4 HC hr hx hr2
    generalize w2.alloc (.cells (ac (adr6 gs 0)) 30) = w5 at *
    generalize w2.heap.size = c at *
    go_wp2_with fail
    go_loopw [5] (fun i wr => ∃ k : Nat, k ≤ 8 ∧ i = .int .i64 k ∧ Blk wr w.heap.size (ac zadr).toList 30 ∧ Blk wr c (ac (adr6 gs k)).toList 30 ∧ Hid (∀ j x, gs[j]? = some x → wr.cell? ⟨b, off + j, none⟩ = some (.int .u16 x)) ∧ Ext w wr) (fun i _ => 8 - (intOf i).toNat)
    case atStart => exact ⟨0, Nat.zero_le _, rfl, hr5, hb5, HC5, hx5⟩
    case round =>
      obtain ⟨k, hk, rfl, hr, hb, hC, hx⟩ := hrel
      have hA := okA_adr6 H16.out H8.out hk
      by_cases hlt : k < 8
      · have hlt' : (k : Int) < gs.length := by omega
        obtain ⟨x, hxk⟩ : ∃ x, gs[k]? = some x := ⟨gs[k]'(by have := H8.out; omega), List.getElem?_eq_getElem _⟩
        have hcell := hC.out k x hxk
        have hxb := H16.out x (List.mem_of_getElem? hxk)
        have HX := Lib.hid hxk; clear hxk
        have e1 := u8_div hxb.1 hxb.2
        have e2 := @u8_mod x
        have hcell2 := hb.cell (i := 1 + 2 * k) (by rw [Array.getElem?_toList]; exact ac_at hA (by omega))
        have hcell3 := hb.cell (i := 1 + (2 * k + 1)) (by rw [Array.getElem?_toList]; exact ac_at hA (by omega))
        have hf2 := hb.free (1 + 2 * k)
        have hf3 := hb.free (1 + (2 * k + 1))
        go_wp2_with fail
        go_region
        go_wp2_with fail
        go_roundw
        case rel =>
          refine ⟨k + 1, by omega, by go_num, (hr.set_ne ⟨c, _, none⟩ (fun e => hrc e.symm) _).set_ne ⟨c, _, none⟩ (fun e => hrc e.symm) _, ?_, Lib.hid fun j y hj => ?_, ((hx.setCell (p := ⟨c, _, none⟩) hwc _).setCell (p := ⟨c, _, none⟩) hwc _).drew⟩
          · rw [← adr6_set H8.out hlt HX.out]; exact (hb.set (1 + 2 * k) (.int .u8 (x / 256))).set (1 + (2 * k + 1)) (.int .u8 (x % 256))
          · show ((wr.setCell ⟨c, 1 + 2 * k, none⟩ _).setCell ⟨c, 1 + (2 * k + 1), none⟩ _).cell? _ = _
            rw [World.cell?_of_block (Below.heap_setCell _ _ _ b hbc), World.cell?_of_block (Below.heap_setCell _ _ _ b hbc)]; exact hC.out j y hj
        case measure => simp [intOf]; omega
      · obtain rfl : k = 8 := by omega
        have E := Lib.hid (v6_ok H8.out)
        go_wp2_with (first | refine wpList_load_A rfl _ rfl hA hb rfl ?_ | refine wpList_store_A rfl _ _ rfl okA_zadr hA hr rfl rfl ?_)
        refine bodyPost_ret (res_A2 rfl rfl hA (hr.row _)) rfl ⟨by rw [E.out]; rfl, hx.setRow (Nat.le_refl _) _⟩
  · have hn4 : ((gs.length : Int) != 8) = true := by rw [bne_iff_ne]; omega
    have E := Lib.hid (v6_no h8)
    clear h8 hcells h16
    go_wp2_with (refine wpList_store_A rfl _ _ rfl okA_zadr okA_zadr hr rfl rfl ?_)
    refine bodyPost_ret (res_A2 rfl rfl okA_zadr (hr.row _)) rfl ⟨by rw [E.out]; rfl, hx.setRow (Nat.le_refl _) _⟩
end Go.Proofs.YtpdoddelnahlnaaGreatDoor
/-
  append(s, make([]T, n)...): onto a slice that the call owns.
-/
set_option linter.unusedSimpArgs false
set_option linter.unusedVariables false
namespace Go.Proofs.YtpdoddelnahlnaaGreatDoor
open Go.RowKit

theorem zeroCells_list (v : Value) (m : Nat) : (Builtin.zeroCells #[v] m).toList = List.replicate m v := by
  unfold Builtin.zeroCells
  apply List.ext_getElem?
  intro j
  simp [Nat.mod_one, List.getElem?_replicate]
  by_cases h : j < m
  · simp [h, List.getElem?_range]
  · simp [h]
section
variable {P : Program} (w : World)
theorem run_append_made (base : Nat) (t tx ty e : TypeId) (i : TypeInfo) (z : Value) (bytes : Nat) (ht : P.underlying t = some (.slice e)) (hk : P.underlying tx = some (.int .i64)) (hi : P.info? e = some i) (hz : i.zero = some z)
    (hsize : i.size = 1) (hby : i.bytes = bytes) (hzs : z.cells = #[z]) (hz1 : z.oneCell' = true)
    (v : Value) (n : Nat) (xs : List Value) (hown : w.ownsRow base e 1 v n xs) (m : Nat) (hm : 0 < m) (hml : m * bytes ≤ 281474976710656) (hm6 : m ≤ 9223372036854775807)
    (h63 : n + m ≤ maxLen) (hbytes : (n + m) * bytes ≤ 140737488355328) (hbase : base ≤ w.heap.size) :
    ∃ v' w', (Builtin.append_ #[t, tx] ty #[v, .int .i64 m]).run P w = .ok v' w' ∧ w'.ownsRow base e 1 v' (n + m) (xs ++ List.replicate m z) ∧ w.grownBy w' v.ownBlock ∧ v' ≠ .slice none 0 0 := by
  subst hby
  have hsmall : n + m ≤ 9223372036854775807 := by simp only [maxLen] at h63; omega
  have hlen : (xs ++ List.replicate m z).length = n + m := by rw [List.length_append, hown.1, List.length_replicate, Nat.mul_one]
  have hw : wrap64 (m : Int) = m := IntWalk.wrap64_in _ (by omega)
  have hw2 : IntKind.i64.wrap (m : Int) = m := IntWalk.i64_in _ (by omega)
  have h48 : ¬ ((281474976710656 : Int) < (m : Int) * (i.bytes : Int)) := by
    have h1 := Int.natCast_mul m i.bytes
    rw [← h1]; generalize m * i.bytes = q at *; omega
  have hzl := zeroCells_list z m
  have grown : ∀ (old : Nat), old < n + m → ∀ (row : Option Nat),
      (w.drew.alloc (.cells (xs.toArray ++ (List.replicate m z).toArray ++ Builtin.zeroCells z.cells (grownCap w (n + m) old e - (n + m))) e)).ownsRow base e 1
        (.slice (some ⟨w.heap.size, 0, none⟩) (n + m) (grownCap w (n + m) old e)) (n + m) (xs ++ List.replicate m z) ∧
      w.grownBy (w.drew.alloc (.cells (xs.toArray ++ (List.replicate m z).toArray ++ Builtin.zeroCells z.cells (grownCap w (n + m) old e - (n + m))) e)) row := by
    intro old ho row
    have hge := grownCap_ge w (n + m) old e
    have hcm : grownCap w (n + m) old e ≤ maxLen := grownCap_le_maxLen w (n + m) old e h63
    refine ⟨⟨by rw [hlen, Nat.mul_one], .inr ⟨w.heap.size, _, _, rfl, hbase, heap_alloc_new w.drew _, hge, hcm, ?_, ?_⟩⟩, (have hg := World.grownBy_alloc w.drew (.cells (xs.toArray ++ (List.replicate m z).toArray ++ Builtin.zeroCells z.cells (grownCap w (n + m) old e - (n + m))) e) row; ⟨hg.os, hg.tape, hg.output, hg.size, hg.block⟩)⟩
    · simp only [Array.size_append, List.size_toArray, size_zeroCells, hzs, hown.1, List.length_replicate, Nat.mul_one, List.size_toArray, List.length_cons, List.length_nil]
      simp
      omega
    · simp only [Array.toList_append, List.append_assoc]
      rw [← List.append_assoc, Nat.mul_one, ← hlen]
      exact List.take_left
  have hm0 : ¬ m = 0 := by omega
  have hm1 : ¬ ((m : Int) < 0) := by omega
  have hzl2 : Builtin.zeroCells #[z] m = (List.replicate m z).toArray := by apply Array.ext'; rw [hzl]
  rcases hown.2 with ⟨rfl, rfl⟩ | ⟨g, cap, cur, rfl, hbg, hg, hnc, hcm, hcs, htake⟩
  · have hx : xs = [] := List.eq_nil_of_length_eq_zero (by simpa using hown.1)
    subst hx
    have h48' : ¬ (281474976710656 < Builtin.nextslicecap m 0 * i.bytes) := by rw [nextslicecap_zero hm]; omega
    have hgr := grown 0 (by omega) (Value.ownBlock (.slice none 0 0))
    simp only [Nat.zero_add, List.nil_append] at hgr ⊢
    refine ⟨.slice (some ⟨w.heap.size, 0, none⟩) m (grownCap w m 0 e), _, ?_, hgr.1, hgr.2, by simp⟩
    have h63' : ¬ (9223372036854775807 < (m : Int)) := by omega
    simp [Builtin.append_, run_underlying ht, run_underlying hk, sizeOf, typeInfo, zeroValue, hi, hz, hsize, hzs, asInt, asIntOf, hw, hw2, hm0, hm1, h48, h48', h63', Question.forced, run_firstCells_none, newRow, grownCap, hzl2]
  · by_cases hroom : n + m ≤ cap
    · have hfit : n * 1 + (List.replicate m z).length ≤ cur.size := by rw [List.length_replicate, hcs, Nat.mul_one, Nat.mul_one]; exact hroom
      have hst := run_storeCells_at P g (n * 1) e (List.replicate m z) 0 cur w hg (by simpa using hfit) (fun u hu => by rw [List.eq_of_mem_replicate hu]; exact hz1)
      simp only [Nat.add_zero, Nat.mul_one] at hst
      refine ⟨.slice (some ⟨g, 0, none⟩) (n + m) cap, w.setRow g (cur.toList.take n ++ List.replicate m z ++ cur.toList.drop (n + (List.replicate m z).length)).toArray, ?_, ⟨by rw [hlen, Nat.mul_one], .inr ⟨g, cap, _, rfl, hbg, setRow_heap w g cur _ e _ hg, hroom, hcm, ?_, ?_⟩⟩, ⟨rfl, rfl, rfl, by simp, fun k _ hk => setRow_other w g k _ (fun e => hk (by simp [Value.ownBlock, e]))⟩, by simp⟩
      · simp [Builtin.append_, run_underlying ht, run_underlying hk, sizeOf, typeInfo, zeroValue, hi, hz, hsize, hzs, asInt, asIntOf, hw, hw2, hm0, hm1, h48, hroom, Addr.add_lit, hzl, hst]
      · simp only [List.size_toArray, List.length_append, List.length_take, List.length_drop, Array.length_toList, List.length_replicate] at *
        omega
      · have e1 : cur.toList.take n = xs := by simpa using htake
        rw [e1, Nat.mul_one, ← hlen]
        exact List.take_left
    · have hfo := run_firstCells_some (P := P) w.drew 1 n ⟨g, 0, none⟩ n cap xs (by simpa using hown.1) (fun j u hj => by simpa using hown.cells (g := g) rfl j u hj)
      have h48' : ¬ (281474976710656 < Builtin.nextslicecap (n + m) cap * i.bytes) := by have := growslice_fits (old := cap) (by omega) hbytes; omega
      have h63' : ¬ (9223372036854775807 < ((n : Int) + (m : Int))) := by omega
      have hgr := grown cap (by omega) (Value.ownBlock (.slice (some ⟨g, 0, none⟩) n cap))
      refine ⟨.slice (some ⟨w.heap.size, 0, none⟩) (n + m) (grownCap w (n + m) cap e), _, ?_, hgr.1, hgr.2, by simp⟩
      simp [Builtin.append_, run_underlying ht, run_underlying hk, sizeOf, typeInfo, zeroValue, hi, hz, hsize, hzs, asInt, asIntOf, hw, hw2, hm0, hm1, h48, h48', h63', hroom, Question.forced, hfo, newRow, grownCap, hzl2]

theorem wpList_append_made {ops : Array Oper} {rest : List Oper} {o : Oper} {a : Act} {Q : Exit → Act → World → Prop} (hgd : o.guard = none) (s x : Operand) (t tx : TypeId)
    (ho : o.op = .call { callee := .builtin .append, args := #[s, x], argTypes := #[t, tx] })
    (base : Nat) (e : TypeId) (i : TypeInfo) (z : Value) (bytes : Nat) (ht : P.underlying t = some (.slice e)) (hk : P.underlying tx = some (.int .i64)) (hi : P.info? e = some i) (hz : i.zero = some z)
    (hsize : i.size = 1) (hby : i.bytes = bytes) (hzs : z.cells = #[z]) (hz1 : z.oneCell' = true)
    (v : Value) (n : Nat) (xs : List Value) (hs : a.eval s = v) (hown : w.ownsRow base e 1 v n xs) (m : Nat) (hx : a.eval x = .int .i64 m) (hm : 0 < m) (hml : m * bytes ≤ 281474976710656) (hm6 : m ≤ 9223372036854775807)
    (h63 : n + m ≤ maxLen) (hbytes : (n + m) * bytes ≤ 140737488355328) (hbase : base ≤ w.heap.size)
    (h : ∀ v' w', w'.ownsRow base e 1 v' (n + m) (xs ++ List.replicate m z) → w.grownBy w' v.ownBlock → v' ≠ .slice none 0 0 → wpList P ops Q rest (a.put o.dst v') w') : wpList P ops Q (o :: rest) a w := by
  obtain ⟨v', w', hr, h2, h3, h4⟩ := run_append_made (P := P) w base t tx o.type e i z bytes ht hk hi hz hsize hby hzs hz1 v n xs hown m hm hml hm6 h63 hbytes hbase
  refine wpList_plain hgd fun _ hK => ?_
  unfold Oper.wp execOp
  simp only [ho, resolve, invoke, builtin, Sem.run_bind, Sem.run_pure, Result.andThen_ok, List.map_toArray, List.map_cons, List.map_nil, hs, hx, hr]
  exact hK _ _ (h v' w' h2 h3 h4)
end
end Go.Proofs.YtpdoddelnahlnaaGreatDoor
