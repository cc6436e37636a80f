/-
  Contracts of V6, of the program and of the reference.
-/
import Derived.Test.YtpdoddelnahlnaaDoorIpA
import Derived.Deep.WholeRow
set_option linter.unusedSimpArgs false
set_option linter.unusedVariables false
namespace Go.Proofs.YtpdoddelnahlnaaDoor
open Go.RowKit

def ok16 (gs : List Int) : Prop := ∀ x ∈ gs, 0 ≤ x ∧ x < 65536
/-- the address as far as the first k groups are laid -/
def adr6 (gs : List Int) (k : Nat) : Adr := (true, hilo (gs.take k) ++ List.replicate (16 - 2 * k) 0)
theorem hilo_len (l : List Int) : (hilo l).length = 2 * l.length := by
  induction l with
  | nil => rfl
  | cons x l ih => simp only [hilo, List.flatMap_cons, List.length_append] at *; simp at *; omega
theorem hilo_app (a b : List Int) : hilo (a ++ b) = hilo a ++ hilo b := by simp [hilo]
theorem hilo_ok {l : List Int} (h : ok16 l) : ∀ x ∈ hilo l, 0 ≤ x ∧ x < 256 := by
  intro x hx
  simp only [hilo, List.mem_flatMap] at hx
  obtain ⟨y, hy, hx⟩ := hx
  have := h y hy
  simp at hx
  rcases hx with rfl | rfl <;> omega
theorem okA_adr6 {gs : List Int} (h : ok16 gs) (hl : gs.length = 8) {k : Nat} (hk : k ≤ 8) : okA (adr6 gs k) := by
  refine ⟨by simp [adr6, hilo_len]; omega, fun x hx => ?_⟩
  rcases List.mem_append.1 hx with hx | hx
  · exact hilo_ok (fun y hy => h y (List.mem_of_mem_take hy)) x hx
  · have := List.eq_of_mem_replicate hx; omega
theorem adr6_set {gs : List Int} (hl : gs.length = 8) {k : Nat} (hk : k < 8) {x : Int} (hx : gs[k]? = some x) :
    ((ac (adr6 gs k)).toList.set (1 + 2 * k) (.int .u8 (x / 256))).set (1 + (2 * k + 1)) (.int .u8 (x % 256)) = (ac (adr6 gs (k + 1))).toList := by
  have e0 : (hilo (gs.take k)).length = 2 * k := by rw [hilo_len, List.length_take]; omega
  unfold ac adr6
  rw [List.take_add_one, hx, Option.toList_some, hilo_app, show 16 - 2 * k = (16 - 2 * (k + 1)) + 1 + 1 by omega, List.replicate_succ, List.replicate_succ]
  simp only [Nat.add_comm 1, List.set_cons_succ, List.map_append, List.map_cons]
  have e1 : ((hilo (gs.take k)).map (Value.int .u8)).length = 2 * k := by rw [List.length_map, e0]
  rw [List.set_append_right _ _ (by omega), e1, Nat.sub_self, List.set_cons_zero, List.set_append_right _ _ (by omega), e1, show 2 * k + 1 - 2 * k = 1 by omega, List.set_cons_succ, List.set_cons_zero, List.append_assoc]
  rfl
theorem adr6_all {gs : List Int} (hl : gs.length = 8) : adr6 gs 8 = (true, hilo gs) := by unfold adr6; rw [List.take_of_length_le (by omega)]; simp
theorem v6_ok {gs : List Int} (hl : gs.length = 8) : v6 gs = (adr6 gs 8, true) := by unfold v6; rw [if_pos hl, adr6_all hl]
theorem v6_no {gs : List Int} (hl : ¬ gs.length = 8) : v6 gs = (zadr, false) := by unfold v6; rw [if_neg hl]
/-- a slice of groups: its value and what can be read -/
def Grps (w : World) (v : Value) (gs : List Int) : Prop := ∃ a cap, v = .slice a gs.length cap ∧ gs.length ≤ cap ∧ ok16 gs ∧ (gs.length = 8 → ∃ b off, a = some ⟨b, off, none⟩ ∧ b < w.heap.size ∧ ∀ j x, gs[j]? = some x → w.cell? ⟨b, off + j, none⟩ = some (.int .u16 x))
theorem u8_div {x : Int} (h : 0 ≤ x) (h1 : x < 65536) : IntKind.u8.wrap (x / 256) = x / 256 := by
  have : ∀ n : Int, IntKind.u8.wrap n = n % 256 := fun n => by simp [IntKind.wrap, IntKind.bits, IntKind.signed]
  rw [this]; omega
theorem u8_mod {x : Int} : IntKind.u8.wrap x = x % 256 := by simp [IntKind.wrap, IntKind.bits, IntKind.signed]

set_option maxRecDepth 4000 in
set_option maxHeartbeats 1000000 in
theorem V6_any (v : Value) (gs : List Int) (w : World) (hv : Grps w v gs) (hn : gs.length ≤ 140737488351232) :
    Calls Tryd.prog 54 #[v] w fun e w' => e = .returned (.tuple #[av (v6 gs).1, .bool (v6 gs).2]) ∧ Ext w w' := by
  obtain ⟨a, cap, rfl, hcap, h16, hcells⟩ := hv
  go_enter Tryd.func54, Tryd.ntmps54
  go_upto_region 1 with fail
  rw [← ac_zadr]
  have hx := (Ext.refl w).alloc (.cells (ac zadr) 37)
  have hr := Blk.new w (ac zadr) 37
  generalize hw2 : w.alloc (.cells (ac zadr) 37) = w2 at *
  clear hw2
  by_cases h8 : gs.length = 8
  · obtain ⟨b, off, rfl, hb, hc⟩ := hcells h8
    have hn4 : ((gs.length : Int) != 8) = false := by rw [bne_eq_false_iff_eq]; omega
    have hC : ∀ j x, gs[j]? = some x → w2.cell? ⟨b, off + j, none⟩ = some (.int .u16 x) := fun j x hj => by rw [hx.cell hb]; exact hc j x hj
    have hA0 : okA (adr6 gs 0) := okA_adr6 h16 h8 (Nat.zero_le _)
    have hb4 := Blk.new w2 (ac zadr) 37
    have H16 := Lib.hid h16; have H8 := Lib.hid h8; have HC := Lib.hid hC; clear hcells h16 hc hC h8
    have hg8 : (gs.length : Int) ≤ 8 := by have := H8.out; omega
    have hg8' : (8 : Int) ≤ gs.length := by have := H8.out; omega
    have hr2 := hr.lt
    go_upto_region 4 with (refine wpList_store_A rfl _ _ rfl okA_zadr hA0 hb4 rfl rfl ?_)
    change Code.wp _ _ _ _ ((w2.alloc (.cells (ac zadr) 37)).setRow w2.heap.size (ac (adr6 gs 0)))
    rw [World.setRow_alloc_new]
    have hb5 := Blk.new w2 (ac (adr6 gs 0)) 37
    have hr5 := hr.ext ((Ext.refl w2).alloc (.cells (ac (adr6 gs 0)) 37))
    have hx5 := hx.alloc (.cells (ac (adr6 gs 0)) 37)
    have hC5 : ∀ j x, gs[j]? = some x → (w2.alloc (.cells (ac (adr6 gs 0)) 37)).cell? ⟨b, off + j, none⟩ = some (.int .u16 x) := fun j x hj => by
      rw [((Ext.refl w2).alloc _).cell (show b < w2.heap.size from Nat.lt_of_lt_of_le hb hx.size)]; exact HC.out j x hj
    have hbc : b ≠ w2.heap.size := by have := hx.size; omega
    have hwc : w.heap.size ≤ w2.heap.size := hx.size
    have hrc : w.heap.size ≠ w2.heap.size := by omega
    have HC5 := Lib.hid hC5; clear hC5 hb4 HC hr hx hr2
    generalize w2.alloc (.cells (ac (adr6 gs 0)) 37) = w5 at *
    generalize w2.heap.size = c at *
    go_wp2_with fail
    go_loopw [5, 6, 14] (fun _ _ i wr => ∃ k : Nat, k ≤ 8 ∧ i = .int .i64 k ∧ Blk wr w.heap.size (ac zadr).toList 37 ∧ Blk wr c (ac (adr6 gs k)).toList 37 ∧ Hid (∀ j x, gs[j]? = some x → wr.cell? ⟨b, off + j, none⟩ = some (.int .u16 x)) ∧ Ext w wr) (fun _ _ i _ => 8 - (intOf i).toNat)
    case atStart => exact ⟨0, Nat.zero_le _, rfl, hr5, hb5, HC5, hx5⟩
    case round =>
      obtain ⟨k, hk, rfl, hr, hb, hC, hx⟩ := hrel
      have hA := okA_adr6 H16.out H8.out hk
      by_cases hlt : k < 8
      · have hlt' : (k : Int) < gs.length := by omega
        obtain ⟨x, hxk⟩ : ∃ x, gs[k]? = some x := ⟨gs[k]'(by have := H8.out; omega), List.getElem?_eq_getElem _⟩
        have hcell := hC.out k x hxk
        have hxb := H16.out x (List.mem_of_getElem? hxk)
        have HX := Lib.hid hxk; clear hxk
        have e1 := u8_div hxb.1 hxb.2
        have e2 := @u8_mod x
        have hcell2 := hb.cell (i := 1 + 2 * k) (by rw [Array.getElem?_toList]; exact ac_at hA (by omega))
        have hcell3 := hb.cell (i := 1 + (2 * k + 1)) (by rw [Array.getElem?_toList]; exact ac_at hA (by omega))
        have hf2 := hb.free (1 + 2 * k)
        have hf3 := hb.free (1 + (2 * k + 1))
        go_wp2_with fail
        go_roundw
        case rel =>
          refine ⟨k + 1, by omega, by go_num, (hr.set_ne ⟨c, _, none⟩ (fun e => hrc e.symm) _).set_ne ⟨c, _, none⟩ (fun e => hrc e.symm) _, ?_, Lib.hid fun j y hj => ?_, (hx.setCell (p := ⟨c, _, none⟩) hwc _).setCell (p := ⟨c, _, none⟩) hwc _⟩
          · rw [← adr6_set H8.out hlt HX.out]; exact (hb.set (1 + 2 * k) (.int .u8 (x / 256))).set (1 + (2 * k + 1)) (.int .u8 (x % 256))
          · rw [World.cell?_of_block (Below.heap_setCell _ _ _ b hbc), World.cell?_of_block (Below.heap_setCell _ _ _ b hbc)]; exact hC.out j y hj
        case measure => simp [intOf]; omega
      · obtain rfl : k = 8 := by omega
        have E := Lib.hid (v6_ok H8.out)
        go_wp2_with (first | refine wpList_load_A rfl _ rfl hA hb rfl ?_ | refine wpList_store_A rfl _ _ rfl okA_zadr hA hr rfl rfl ?_)
        refine bodyPost_ret (res_A2 rfl rfl hA (hr.row _)) rfl ⟨by rw [E.out]; rfl, hx.setRow (Nat.le_refl _) _⟩
  · have hn4 : ((gs.length : Int) != 8) = true := by rw [bne_iff_ne]; omega
    have E := Lib.hid (v6_no h8)
    clear h8 hcells h16
    go_wp2_with (refine wpList_store_A rfl _ _ rfl okA_zadr okA_zadr hr rfl rfl ?_)
    refine bodyPost_ret (res_A2 rfl rfl okA_zadr (hr.row _)) rfl ⟨by rw [E.out]; rfl, hx.setRow (Nat.le_refl _) _⟩
end Go.Proofs.YtpdoddelnahlnaaDoor
