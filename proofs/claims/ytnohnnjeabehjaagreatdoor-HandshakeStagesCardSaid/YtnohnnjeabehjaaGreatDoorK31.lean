/-
  Several texts joined: HsP, HuD, HuE.
-/
import Derived.Test.YtnohnnjeabehjaaGreatDoorK30
import Derived.Test.YtnohnnjeabehjaaGreatDoorK27
import Derived.Test.YtnohnnjeabehjaaGreatDoorK26
set_option maxHeartbeats 8000000
set_option maxRecDepth 8000
set_option linter.unusedVariables false
set_option linter.unusedSimpArgs false
namespace Go.Proofs.YtnohnnjeabehjaaGreatDoor
theorem fmtC_back8 {t : Tgt} (ht : okT t) {u p : ByteArray} (e : (fmtC (t, true, u, p)).2 = true) (r : ByteArray) : fin ((fmtC (t, true, u, p)).1 ++ r) = ((t, true, u, p), ((fmtC (t, true, u, p)).1.size : Int), 1) := by
 by_cases q : okFm (t, true, u, p) = true /\ (hdT (t, true, u, p)).size <= 512
 ·rw [fmtC_yes q.1 q.2]
  have h1 := q.1
  unfold okFm at h1
  simp only [Bool.and_eq_true] at h1
  exact fin_fmt ht h1.1.1 (noC_mem.1 h1.1.2) q.2 r
 ·unfold fmtC at e; rw [if_neg q] at e; cases e
def usr (i : Nat) : ByteArray := str1 (97 + (i : Int))
def pwd (i : Nat) : ByteArray := ⟨#[112]⟩ ++ usr i
def tn3 : Tns := [(usr 0, pwd 0), (usr 1, pwd 1), (usr 2, pwd 2)]
def grB : ByteArray := str2 5 1 ++ ⟨#[2]⟩
def upB (i : Nat) : ByteArray := str2 1 1 ++ usr i ++ str1 2 ++ pwd i
def rqB (t : Tgt) : ByteArray := str3 5 1 0 ++ (encTg t).1
def skB (i : Nat) (t : Tgt) : ByteArray := grB ++ upB i ++ rqB t
def hs1 : Hst := (1, 0, 1, -1, ztgt, 0)
def hs2 : Hst := (2, 0, 1, -1, ztgt, 0)
def hs3 (i : Nat) : Hst := (3, 0, 1, (i : Int), ztgt, 0)
def hs5 (i : Nat) (t : Tgt) : Hst := (5, 1, 1, (i : Int), t, 0)
theorem auth3 {i : Nat} (hi : i < 3) : authT (usr i) (pwd i) tn3 0 = some i := by
 have key : ∀ j : Fin 3, authT (usr j.1) (pwd j.1) tn3 0 = some j.1 := by decide +kernel
 exact key ⟨i, hi⟩
theorem st_gr (x : Txt) (tn : Tns) : hstep x tn hs1 grB = some (3, str2 5 2, hs2) := by
 have h1 : gparse grB = (⟨#[2]⟩, 3, 1) := by decide +kernel
 have h2 : gsel ⟨#[2]⟩ 2 = 2 := by decide +kernel
 unfold hstep hs1
 simp only
 rw [h1]
 simp only
 rw [h2]
 rfl
theorem st_up (x : Txt) {i : Nat} (hi : i < 3) : hstep x tn3 hs2 (upB i) = some (6, str2 1 0, hs3 i) := by
 have key : ∀ j : Fin 3, uparse (upB j.1) = (usr j.1, pwd j.1, 6, 1) := by decide +kernel
 have h1 := key ⟨i, hi⟩
 simp only at h1
 have h2 := auth3 hi
 unfold hstep hs2
 simp only
 rw [h1]
 simp only
 rw [h2]
 rfl
theorem st_rqs (x : Txt) (tn : Tns) {t : Tgt} (ht : okT t) (hv : validT t = true) (i : Nat) : hstep x tn (hs3 i) (rqB t) = some (((rqB t).size : Int), ⟨#[]⟩, hs5 i t) := by
 unfold hstep hs3
 simp only
 have h1 := rqp_enc ht hv
 unfold rqB
 rw [h1]
 simp only
 rfl
theorem up_size (i : Nat) : (upB i).size = 6 := by
 unfold upB pwd usr; simp only [size_app, size_str1, size_str2]; rfl
theorem skB_fed (x : Txt) {t : Tgt} (ht : okT t) (hv : validT t = true) {i : Nat} (hi : i < 3) (raw : ByteArray) : Fed x tn3 zhst (skB i t ++ raw) (skB i t).size (str2 5 2 ++ str2 1 0) (hs5 i t) := by
 have e : skB i t ++ raw = grB ++ (upB i ++ (rqB t ++ raw)) := by unfold skB; simp only [ByteArray.append_assoc]
 have hz : (skB i t).size = 3 + (6 + (rqB t).size) := by
  unfold skB; rw [size_app, size_app, up_size]; show 3 + 6 + _ = _; omega
 have g0 : hstep x tn3 zhst (grB ++ (upB i ++ (rqB t ++ raw))) = some (0, ⟨#[]⟩, hs1) := by
  have b0 : B (grB ++ (upB i ++ (rqB t ++ raw))) 0 = 5 := by rw [B_append_left _ _ _ (by decide)]; decide +kernel
  have bz : (grB ++ (upB i ++ (rqB t ++ raw))).size ≠ 0 := by rw [size_app]; show 3 + _ ≠ 0; omega
  unfold hstep zhst
  simp only
  rw [b0, if_neg bz]
  rfl
 have g1 := hstep_app (upB i ++ (rqB t ++ raw)) (st_gr x tn3)
 have g2 := hstep_app (rqB t ++ raw) (st_up x hi)
 have g3 := hstep_app raw (st_rqs x tn3 ht hv i)
 have x1 : (grB ++ (upB i ++ (rqB t ++ raw))).extract 3 (grB ++ (upB i ++ (rqB t ++ raw))).size = upB i ++ (rqB t ++ raw) := ext_right grB _ _ rfl
 have x2 : (upB i ++ (rqB t ++ raw)).extract 6 (upB i ++ (rqB t ++ raw)).size = rqB t ++ raw := by
  have := ext_right (upB i) (rqB t ++ raw) _ rfl
  rw [up_size] at this; exact this
 have s3 : Steps x tn3 (hs3 i) (rqB t ++ raw) ((rqB t).size + 0) (⟨#[]⟩ ++ ⟨#[]⟩) (hs5 i t) := .step (by unfold hs3; show (3 : Int) ≠ 5; decide) g3 (.refl _ _)
 have s2 : Steps x tn3 hs2 (upB i ++ (rqB t ++ raw)) (6 + ((rqB t).size + 0)) (str2 1 0 ++ (⟨#[]⟩ ++ ⟨#[]⟩)) (hs5 i t) := .step (by unfold hs2; decide) g2 (by
  show Steps x tn3 (hs3 i) ((upB i ++ (rqB t ++ raw)).extract 6 _) _ _ _
  rw [x2]; exact s3)
 have s1 : Steps x tn3 hs1 (grB ++ (upB i ++ (rqB t ++ raw))) (3 + (6 + ((rqB t).size + 0))) (str2 5 2 ++ (str2 1 0 ++ (⟨#[]⟩ ++ ⟨#[]⟩))) (hs5 i t) := .step (by unfold hs1; decide) g1 (by
  show Steps x tn3 hs2 ((grB ++ (upB i ++ (rqB t ++ raw))).extract 3 _) _ _ _
  rw [x1]; exact s2)
 have s0 : Steps x tn3 zhst (grB ++ (upB i ++ (rqB t ++ raw))) (0 + (3 + (6 + ((rqB t).size + 0)))) (⟨#[]⟩ ++ (str2 5 2 ++ (str2 1 0 ++ (⟨#[]⟩ ++ ⟨#[]⟩)))) (hs5 i t) := .step (by unfold zhst; decide) g0 (by
  show Steps x tn3 hs1 ((grB ++ (upB i ++ (rqB t ++ raw))).extract 0 _) _ _ _
  rw [ext_zero]; exact s1)
 have e0 : (⟨#[]⟩ ++ (str2 5 2 ++ (str2 1 0 ++ (⟨#[]⟩ ++ ⟨#[]⟩))) : ByteArray) = str2 5 2 ++ str2 1 0 := by decide +kernel
 rw [e0] at s0
 refine ⟨?_, .inl rfl⟩
 rw [e, hz]
 have : 0 + (3 + (6 + ((rqB t).size + 0))) = 3 + (6 + (rqB t).size) := by omega
 rw [this] at s0
 exact s0
def cnC (i : Nat) (t : Tgt) : Cr := (t, true, usr i, pwd i)
def hs5c (i : Nat) (t : Tgt) : Hst := (5, 1, 2, (i : Int), t, 0)
theorem pwd_size (i : Nat) : (pwd i).size = 2 := by unfold pwd usr; rw [size_app, size_str1]; rfl
theorem cnC_fmt {t : Tgt} (ht : okT t) (hv : validT t = true) {i : Nat} (hi : i < 3) : fmtC (cnC i t) = (hdT (cnC i t), true) /\ (hdT (cnC i t)).size <= 512 := by
 have hu : noC (usr i) = true := by
  have key : ∀ j : Fin 3, noC (usr j.1) = true := by decide +kernel
  exact key ⟨i, hi⟩
 have hz : (hdT (cnC i t)).size <= 512 := by
  have := rqL_size ht
  have e1 : (usr i).size = 1 := rfl
  unfold cnC
  rw [hdT_size_yes, pwd_size, e1]; omega
 exact ⟨fmtC_yes (okFm_yes hv hu) hz, hz⟩
theorem cnB_fed (x : Txt) {t : Tgt} (ht : okT t) (hv : validT t = true) {i : Nat} (hi : i < 3) (raw : ByteArray) : Fed x tn3 zhst (hdT (cnC i t) ++ raw) (hdT (cnC i t)).size ⟨#[]⟩ (hs5c i t) := by
 obtain ⟨hf, hz⟩ := cnC_fmt ht hv hi
 have hb := fmtC_back8 (u := usr i) (p := pwd i) ht (by show (fmtC (cnC i t)).2 = true; rw [hf]) raw
 have hf' : fmtC (t, true, usr i, pwd i) = (hdT (cnC i t), true) := hf
 rw [hf'] at hb
 simp only at hb
 have ez : (hdT (cnC i t)).size ≠ 0 := by
  have e1 : (usr i).size = 1 := rfl
  unfold cnC
  rw [hdT_size_yes, pwd_size, e1]; omega
 have b0 : B (hdT (cnC i t) ++ raw) 0 = 67 := by
  have e : hdT (cnC i t) = connS ++ ((fmtT t ++ (⟨#[32]⟩ ++ v11)) ++ (crlf ++ (authL (usr i) (pwd i) ++ (crlf ++ crlf)))) := by
   unfold hdT cnC rqL
   rw [if_pos rfl]
   simp only [ByteArray.append_assoc]
  rw [e, ByteArray.append_assoc, B_append_left _ _ _ (by decide)]; decide +kernel
 have g0 : hstep x tn3 zhst (hdT (cnC i t) ++ raw) = some (0, ⟨#[]⟩, (4, 0, 2, -1, ztgt, 0)) := by
  unfold hstep zhst
  simp only
  rw [b0, if_neg (show ¬ (hdT (cnC i t) ++ raw).size = 0 by rw [size_app]; omega)]
  rfl
 have g1 : hstep x tn3 (4, 0, 2, -1, ztgt, 0) (hdT (cnC i t) ++ raw) = some (((hdT (cnC i t)).size : Int), ⟨#[]⟩, hs5c i t) := by
  unfold hstep
  simp only
  rw [hb]
  simp only
  rw [if_pos trivial, auth3 hi]
  rfl
 have s1 : Steps x tn3 (4, 0, 2, -1, ztgt, 0) (hdT (cnC i t) ++ raw) ((hdT (cnC i t)).size + 0) (⟨#[]⟩ ++ ⟨#[]⟩) (hs5c i t) := .step (by decide) g1 (.refl _ _)
 have s0 : Steps x tn3 zhst (hdT (cnC i t) ++ raw) (0 + ((hdT (cnC i t)).size + 0)) (⟨#[]⟩ ++ (⟨#[]⟩ ++ ⟨#[]⟩)) (hs5c i t) := .step (by unfold zhst; decide) g0 (by
  show Steps x tn3 (4, 0, 2, -1, ztgt, 0) ((hdT (cnC i t) ++ raw).extract 0 _) _ _ _
  rw [ext_zero]; exact s1)
 refine ⟨?_, .inl rfl⟩
 have e0 : (⟨#[]⟩ ++ (⟨#[]⟩ ++ ⟨#[]⟩) : ByteArray) = ⟨#[]⟩ := by decide +kernel
 rw [e0, Nat.zero_add, Nat.add_zero] at s0
 exact s0
theorem done_fed (x : Txt) (tn : Tns) {s : Hst} (h : s.1 = 5) (z : ByteArray) : Fed x tn s z 0 ⟨#[]⟩ s := ⟨.refl _ _, .inl h⟩
theorem other_fed (x : Txt) (tn : Tns) {z : ByteArray} (h0 : z.size ≠ 0) (h1 : B z 0 ≠ 5) (h2 : B z 0 ≠ 67) : Fed x tn zhst z 0 x.t400 (5, 2, 0, -1, ztgt, 10) := by
 have g0 : hstep x tn zhst z = some (0, x.t400, (5, 2, 0, -1, ztgt, 10)) := by
  unfold hstep zhst
  simp only
  rw [if_neg h0, if_neg h1, if_neg h2]
  rfl
 have s0 : Steps x tn zhst z (0 + 0) (x.t400 ++ ⟨#[]⟩) (5, 2, 0, -1, ztgt, 10) := .step (by unfold zhst; decide) g0 (.refl _ _)
 have e : x.t400 ++ (⟨#[]⟩ : ByteArray) = x.t400 := ByteArray.append_empty
 rw [e] at s0
 exact ⟨s0, .inl rfl⟩
open Go.RowKit Go.Joins
theorem usr_size (i : Nat) : (usr i).size = 1 := rfl
theorem modI_nat {i n : Nat} (h : i < n) (hn : n <= 1000) : modI (i : Int) n = i := by
 unfold modI
 have e1 : IntKind.u64.wrap (n : Int) = n := by rw [IntKind.wrap_u64]; omega
 have e2 : IntKind.u64.wrap (i : Int) = i := by rw [IntKind.wrap_u64]; omega
 rw [e1, e2, Int.tmod_eq_of_lt (by omega) (by omega)]
 exact IntWalk.wrap64_in _ (by omega)
theorem gusr_any (i : Nat) (hi : i < 8) (w : World) : Calls Tryz.prog 14 #[.int .i64 i] w fun e w' => e = .returned (.string (usr i)) /\ Ext w w' := by
 have KM0 := fun w => mod_any i 8 w (by decide)
 rw [show modI (i : Int) 8 = i from modI_nat (n := 8) hi (by omega)] at KM0
 have KM := Lib.hid KM0
 clear KM0
 have e1 : IntKind.u8.wrap (i : Int) = i := by rw [u8w]; omega
 have e2 : IntKind.u8.wrap (97 + (i : Int)) = 97 + i := by rw [u8w]; omega
 go_enter Tryz.func14, Tryz.ntmps14
 go_wp2_with (first | (go_at_call 21; refine (KM.out _).mono ?_; rintro e w3 ⟨rfl, hx3⟩))
 go_ret
 exact ⟨rfl, hx3.alloc _⟩
theorem gpwd_any (i : Nat) (hi : i < 8) (w : World) : Calls Tryz.prog 15 #[.int .i64 i] w fun e w' => e = .returned (.string (pwd i)) /\ Ext w w' := by
 have KU := Lib.hid (fun w => gusr_any i hi w)
 have hz := usr_size i
 have hz2 : (usr i).size <= 1 := Nat.le_of_eq hz
 clear hz
 unfold pwd
 generalize usr i = u at *
 go_enter Tryz.func15, Tryz.ntmps15
 go_wp2_with (first | (go_at_call 14; refine (KU.out _).mono ?_; rintro e w3 ⟨rfl, hx3⟩))
 go_ret
 exact ⟨rfl, hx3⟩
theorem vcred_any (s : ByteArray) (h1 : 1 <= s.size) (h2 : s.size <= 255) (w : World) : Calls Tryz.prog 68 #[.string s] w fun e w' => e = .returned (.bool true) /\ w = w' := by
 have q1 : (1 : Int) <= s.size := by omega
 have q2 : (s.size : Int) <= 255 := by omega
 go_enter Tryz.func68, Tryz.ntmps68
 go_wp2_with fail
 go_ret
 exact ⟨rfl, rfl⟩
theorem bnew_any (n : Int) (hn : 0 <= n /\ n <= 1000) (d : Int) (hd : 1 <= d /\ d <= 1099511627776) (w : World) : Calls Tryz.prog 71 #[.int .i64 n, .int .u64 d] w fun e w' => e = .returned (.tuple #[.pointer (some ⟨w.heap.size, 0, none⟩), .int .i64 0]) /\ Ext w w' := by
 have q1 : ¬ n < 0 := by omega
 have q2 : ¬ 1000 < n := by omega
 have q3 : ¬ d < 1 := by omega
 have q4 : ¬ 1099511627776 < d := by omega
 go_enter Tryz.func71, Tryz.ntmps71
 go_wp2_with fail
 exact bodyPost_ret (res2t rfl) rfl ⟨rfl, (Ext.refl w).alloc _⟩
def tnL (i : Nat) (v : Value) : List Value := [.string (usr i), .string (pwd i), v, .int .i64 0, .int .u64 1, .int .i64 2]
theorem info_Tn : (Tryz.prog.info? 63).map (·.size) = some 6 := by kernel_rfl
theorem usr_no (i : Nat) (hi : i < 8) : decide (0 <= Lib.indexByte (usr i).data.toList 58) = false := by
 have key : ∀ j : Fin 8, decide (0 <= Lib.indexByte (usr j.1).data.toList 58) = false := by decide +kernel
 exact key ⟨i, hi⟩
def NewEntP (i : Nat) (w : World) (e : Ending) (w' : World) : Prop := ∃ b : Nat, e = .returned (.pointer (some ⟨b, 0, none⟩)) /\ Ext w w' /\ w.heap.size <= b /\ ∃ cs, Blk w' b cs 123 /\ cs[0]? = some (.string (usr i)) /\ cs[1]? = some (.string (pwd i))
theorem nent_any (i : Nat) (hi : i < 8) (v : Value) {w : World} {base : Nat} (hv : RlV w base v) : Calls Tryz.prog 51 #[.agg (tnL i v).toArray] w fun e w' => NewEntP i w e w' := by
 have KU := Lib.hid (fun w => vcred_any (usr i) (by rw [usr_size]; omega) (by rw [usr_size]; omega) w)
 have KP := Lib.hid (fun w => vcred_any (pwd i) (by rw [pwd_size]; omega) (by rw [pwd_size]; omega) w)
 have KS0 := fun w => Tryz.strings_Contains_one (usr i) 58 w
 rw [usr_no i hi] at KS0
 have KS : Hid (∀ w, Calls Tryz.prog 69 #[.string (usr i), .string ⟨#[58]⟩] w fun e w' => e = .returned (.bool false) /\ w = w') := Lib.hid (fun w => (KS0 w).mono fun e w' h => ⟨h.1, h.2.symm⟩)
 have KA := Lib.hid (fun w h => aclnew_any (w := w) (base := base) v h)
 have KB := Lib.hid (fun w => bnew_any 0 (by omega) 1 (by omega) w)
 have HV := Lib.hid hv
 obtain ⟨g, cap, hve, _⟩ := hv
 clear KS0
 generalize hus : usr i = us at *
 generalize hps : pwd i = ps at *
 have HUS := Lib.hid hus
 have HPS := Lib.hid hps
 have htl : tnL i v = [.string us, .string ps, .slice (some ⟨g, 0, none⟩) 2 cap, .int .i64 0, .int .u64 1, .int .i64 2] := by unfold tnL; rw [hus, hps, hve]
 rw [htl]
 have HVE := Lib.hid hve
 clear hus hps htl hve
 go_enter Tryz.func51, Tryz.ntmps51
 go_upto_region 1 with fail
 have hb : Blk _ w.heap.size [.string us, .string ps, .slice (some ⟨g, 0, none⟩) 2 cap, .int .i64 0, .int .u64 1, .int .i64 2] 63 := Blk.new w #[.string us, .string ps, .slice (some ⟨g, 0, none⟩) 2 cap, .int .i64 0, .int .u64 1, .int .i64 2] 63
 have hx := (Ext.refl w).alloc (.cells #[.string us, .string ps, .slice (some ⟨g, 0, none⟩) 2 cap, .int .i64 0, .int .u64 1, .int .i64 2] 63)
 generalize w.alloc (.cells #[.string us, .string ps, .slice (some ⟨g, 0, none⟩) 2 cap, .int .i64 0, .int .u64 1, .int .i64 2] 63) = w0 at *
 have hwb : w.heap.size <= w.heap.size := Nat.le_refl _
 generalize hbb : w.heap.size = b at hb ⊢
 have HBB := Lib.hid hbb
 clear hbb
 have KA1 := Lib.hid (KA.out _ (HV.out.ext hx))
 rw [HVE.out] at KA1
 have c0 : w0.cell? ⟨b, 0, none⟩ = some (.string us) := hb.cell rfl
 have c1 : w0.cell? ⟨b, 1, none⟩ = some (.string ps) := hb.cell rfl
 have c2 : w0.cell? ⟨b, 2, none⟩ = some (.slice (some ⟨g, 0, none⟩) 2 cap) := hb.cell rfl
 have c5 : w0.cell? ⟨b, 5, none⟩ = some (.int .i64 2) := hb.cell rfl
 go_upto_region 4 with (first | (go_at_call 68; with_reducible refine (KU.out _).mono ?_; rintro e w1 ⟨rfl, rfl⟩) | (go_at_call 68; with_reducible refine (KP.out _).mono ?_; rintro e w1 ⟨rfl, rfl⟩) | (go_at_call 69; refine (KS.out _).mono ?_; rintro e w1 ⟨rfl, rfl⟩) | (go_at_call 70; refine KA1.out.mono ?_; rintro e w2 ⟨x, rfl, hx2⟩))
 clear c0 c1 c2 c5
 replace hb := Blk.ext hb hx2
 replace hx := hx.trans hx2
 have c3 : w2.cell? ⟨b, 3, none⟩ = some (.int .i64 0) := hb.cell rfl
 have c4 : w2.cell? ⟨b, 4, none⟩ = some (.int .u64 1) := hb.cell rfl
 go_upto_region 9 with (first | (go_at_call 71; refine (KB.out _).mono ?_; rintro e w3 ⟨rfl, hx3⟩))
 clear c3 c4
 replace hb := Blk.ext hb hx3
 replace hx := hx.trans hx3
 have f2 := Blk.free hb 2
 have c2 : w3.cell? ⟨b, 2, none⟩ = some (.slice (some ⟨g, 0, none⟩) 2 cap) := hb.cell rfl
 have hb4 : Blk (w3.setCell ⟨b, 2, none⟩ (.slice none 0 0)) b [.string us, .string ps, .slice none 0 0, .int .i64 0, .int .u64 1, .int .i64 2] 63 := Blk.set hb 2 (.slice none 0 0)
 have hx4 : Ext w (w3.setCell ⟨b, 2, none⟩ (.slice none 0 0)) := Ext.setCell hx (Nat.le_of_eq HBB.out) _
 go_upto_region 10 with fail
 clear f2 c2 hb hx
 generalize w3.setCell ⟨b, 2, none⟩ (.slice none 0 0) = w5 at *
 have hr : w5.rangeAt b 0 [.string us, .string ps, .slice none 0 0, .int .i64 0, .int .u64 1, .int .i64 2] := Blk.mid (pre := []) (mid := [.string us, .string ps, .slice none 0 0, .int .i64 0, .int .u64 1, .int .i64 2]) (post := []) hb4 rfl
 go_wp2_with (refine wpList_load_mid rfl 63 _ rfl b 0 rfl [.string us, .string ps, .slice none 0 0, .int .i64 0, .int .u64 1, .int .i64 2] _ hr Tryz.underlying63 rfl (by rw [info_Tn]; rfl) ?_)
 go_ret
 refine ⟨_, rfl, hx4.alloc _, hx4.size, _, Blk.new w5 _ _, ?_, ?_⟩
 ·rw [HUS.out]; rfl
 ·rw [HPS.out]; rfl
open Go.RowKit Go.Joins
def tnZ : List Value := [.string ⟨#[]⟩, .string ⟨#[]⟩, .slice none 0 0, .int .i64 0, .int .u64 0, .int .i64 0]
def tn1 : List Value := [.string ⟨#[]⟩, .string ⟨#[]⟩, .slice none 0 0, .int .i64 0, .int .u64 0, .int .i64 1]
theorem wpList_store_Tn {ops : Array Oper} {rest : List Oper} {o : Oper} {a : Act} {w : World} {Q : Exit -> Act -> World -> Prop} (hgd : o.guard = none) (x y : Operand) (ho : o.op = .store 63 x y)
  {c : Nat} {z cs : List Value} (hz : z.length = 6) (hcs : cs.length = 6) (h1 : cs.toArray.all (·.oneCell') = true) (hb : Blk w c z 63) (hx : a.eval x = .pointer (some ⟨c, 0, none⟩)) (hy : a.eval y = .agg cs.toArray) (h : wpList Tryz.prog ops Q rest (a.put o.dst undef) (w.setRow c cs.toArray)) : wpList Tryz.prog ops Q (o :: rest) a w :=
 wpList_plain hgd fun _ hK => wp_store_row 63 x y ho c cs.toArray hx hy 63 z.toArray hb (by rw [info_Tn, List.size_toArray, hcs]) (by rw [List.size_toArray, List.size_toArray, hcs, hz]) h1 (hK _ _ h)
theorem wpList_load_Tn {ops : Array Oper} {rest : List Oper} {o : Oper} {a : Act} {w : World} {Q : Exit -> Act -> World -> Prop} (hgd : o.guard = none) (x : Operand) (ho : o.op = .load 63 x)
  {b k : Nat} {cs : List Value} (hcs : cs.length = 6) (hr : w.rangeAt b k cs) (hx : a.eval x = .pointer (some ⟨b, k, none⟩)) (hn : wpList Tryz.prog ops Q rest (a.put o.dst (.agg cs.toArray)) w) : wpList Tryz.prog ops Q (o :: rest) a w :=
 wpList_load_mid hgd 63 x ho b k hx cs _ hr Tryz.underlying63 rfl (by rw [info_Tn, hcs]) hn
theorem Blk.all {w : World} {b : Nat} {cs : List Value} {t : TypeId} (h : Blk w b cs t) : w.rangeAt b 0 cs := Blk.mid (pre := []) (mid := cs) (post := []) (by simpa using h) rfl
theorem res_Tn {fn : Func} {t : Tmp} (h : fn.results = #[.cell t 63]) {tmps : Array Value} {c : Nat} (hq : tmps.getD t undef = .pointer (some ⟨c, 0, none⟩)) {w : World} {cs : List Value} (hcs : cs.length = 6) (hb : Blk w c cs 63) :
  (results fn tmps).run Tryz.prog w = .ok (.agg cs.toArray) w := by
 have := run_loadVar_mid (P := Tryz.prog) w c 0 63 cs _ (Blk.all hb) Tryz.underlying63 rfl (by rw [info_Tn, hcs])
 have hq' : tmps[t]?.getD undef = .pointer (some ⟨c, 0, none⟩) := by simpa using hq
 simp [results, h, hq', this, Sem.run_bind, asAddr]
theorem RlV.mono {w : World} {a b : Nat} {v : Value} (h : RlV w b v) (hab : a <= b) : RlV w a v := by
 obtain ⟨g, cap, hv, ho⟩ := h
 refine ⟨g, cap, hv, ho.1, ?_⟩
 rcases ho.2 with h1 | ⟨g', cap', cur, h1, h2, h3⟩
 ·exact .inl h1
 ·exact .inr ⟨g', cap', cur, h1, Nat.le_trans hab h2, h3⟩
def VRl (b : Nat) : Value -> World -> Prop := fun u w => RlV w b u
theorem VRl.ext {b : Nat} {u : Value} {w w' : World} (h : VRl b u w) (k : Ext w w') : VRl b u w' := RlV.ext h k
def V19 (b : Nat) (us ps : ByteArray) : Value -> World -> Prop := fun u w => ∃ v, RlV w b v /\ u = .agg #[.string us, .string ps, v, .int .i64 30, .int .u64 1, .int .i64 2]
theorem V19.ext {b : Nat} {us ps : ByteArray} {u : Value} {w w' : World} (h : V19 b us ps u w) (k : Ext w w') : V19 b us ps u w' := by
 obtain ⟨v, h1, h2⟩ := h
 exact ⟨v, h1.ext k, h2⟩
def VNewTn (base : Nat) : Value -> World -> Prop := fun u w => ∃ b, u = .pointer (some ⟨b, 0, none⟩) /\ base <= b /\ Blk w b tnZ 63
theorem VNewTn.ext {base : Nat} {u : Value} {w w' : World} (h : VNewTn base u w) (k : Ext w w') : VNewTn base u w' := by
 obtain ⟨b, h1, h2, h3⟩ := h
 exact ⟨b, h1, h2, h3.ext k⟩
section
variable {P : Program} {ops : Array Oper} {Q : Exit -> Act -> World -> Prop} {md : Region.Mode} {w0 : World}
theorem goV_callR {o : Oper} {rest : List Oper} {i : Nat} {plan : List Yld} {A : (Nat -> Value) -> Act} {f : FuncId} {args : Array Value} (V : Value -> World -> Prop) (hV : ∀ u w w', V u w -> Ext w w' -> V u w') (hw : ∀ u, Region.wanted o (yielded ops (A u).tmps) = true)
  (hc : ∀ w, Ext w0 w -> Calls P f args w fun e w' => ∃ u, e = .returned u /\ Ext w w' /\ V u w')
  (h : ∀ u w, Ext w0 w -> holdsAt plan u w (depsOf md o) -> (execOp (A u).eval o).run P w = .ok (.enter f args) w) (k : goV P ops Q md w0 rest (i + 1) (plan ++ [.rel V]) (fun u => (A u).put o.dst (u i))) : goV P ops Q md w0 (o :: rest) i plan A :=
 goV_rel V hV hw (fun u w hx hh => by rw [h u w hx hh]; exact ⟨Ext.refl _, hc w hx⟩) k
theorem build_Tn (us ps : ByteArray) (a : Option Addr) (n c : Nat) (w : World) : (Instr.build 63 #[(0, .string us), (1, .string ps), (2, .slice a n c), (3, .int .i64 30), (4, .int .u64 1), (5, .int .i64 2)]).run Tryz.prog w = .ok (.agg #[.string us, .string ps, .slice a n c, .int .i64 30, .int .u64 1, .int .i64 2]) w :=
 run_build w 63 _ _ (by kernel_rfl)
theorem goV_buildTn {ops : Array Oper} {Q : Exit -> Act -> World -> Prop} {o : Oper} {rest : List Oper} {i j : Nat} {plan : List Yld} {A : (Nat -> Value) -> Act} (x y z p q : Operand) (ho : o.op = .build 63 #[(0, x), (1, y), (2, z), (3, .const (.int .i64 30)), (4, p), (5, q)]) (b : Nat) (us ps : ByteArray)
  (hw : ∀ u, Region.wanted o (yielded ops (A u).tmps) = true) (hx : ∀ u, (A u).eval x = .string us) (hy : ∀ u, (A u).eval y = .string ps) (hz : ∀ u, (A u).eval z = u j) (hp : ∀ u, (A u).eval p = .int .u64 1) (hq : ∀ u, (A u).eval q = .int .i64 2)
  (hj : j ∈ depsOf md o) (hpl : plan[j]? = some (Yld.rel (VRl b))) (k : goV Tryz.prog ops Q md w0 rest (i + 1) (plan ++ [.rel (V19 b us ps)]) (fun u => (A u).put o.dst (u i))) : goV Tryz.prog ops Q md w0 (o :: rest) i plan A :=
 goV_rel (V19 b us ps) (fun u w1 w2 h k => h.ext k) hw (fun u w hx' hF => by
  obtain ⟨g, cap, e, hown⟩ := holdsAt_get8 (V := VRl b) (j := j) hF hj hpl
  have hr : (execOp (A u).eval o).run Tryz.prog w = .ok (.value (.agg #[.string us, .string ps, .slice (some ⟨g, 0, none⟩) 2 cap, .int .i64 30, .int .u64 1, .int .i64 2])) w := by
   unfold execOp
   rw [ho]
   have eb := build_Tn us ps (some ⟨g, 0, none⟩) 2 cap w
   have ec : (A u).eval (.const (.int .i64 30)) = .int .i64 30 := rfl
   simp only [List.map_toArray, List.map_cons, List.map_nil, hx, hy, hz, hp, hq, ec, e, Sem.run_bind, eb, Result.andThen_ok, Sem.run_pure]
  rw [hr]
  rw [e] at hown
  exact ⟨Ext.refl _, _, ⟨g, cap, rfl, hown⟩, rfl⟩) k
end
theorem tn6_one (us ps : ByteArray) (a : Option Addr) (n c : Nat) (x y z : Int) : ([.string us, .string ps, .slice a n c, .int .i64 x, .int .u64 y, .int .i64 z] : List Value).toArray.all (·.oneCell') = true := all_oneCell_toArray fun v hv => by
 simp only [List.mem_cons, List.not_mem_nil, or_false] at hv
 rcases hv with rfl | rfl | rfl | rfl | rfl | rfl <;> rfl
def GtnP (i : Nat) (w : World) (e : Ending) (w' : World) : Prop := ∃ v, e = .returned (.agg (tnL i v).toArray) /\ RlV w' w.heap.size v /\ Ext w w'
theorem gtn_any (i : Nat) (hi : i < 8) (w : World) : Calls Tryz.prog 29 #[.agg tn1.toArray, .int .i64 i] w fun e w' => GtnP i w e w' := by
 have KU := Lib.hid (fun w => gusr_any i hi w)
 have KP := Lib.hid (fun w => gpwd_any i hi w)
 have M8 : Hid (∀ w, Calls Tryz.prog 21 #[.int .i64 1, .int .i64 8] w fun e w' => e = .returned (.int .i64 1) /\ Ext w w') := Lib.hid (fun w => by have := mod_any 1 8 w (by decide); rw [show modI 1 8 = 1 from modI_nat (i := 1) (n := 8) (by omega) (by omega)] at this; exact this)
 have M5 : Hid (∀ w, Calls Tryz.prog 21 #[.int .i64 1, .int .i64 5] w fun e w' => e = .returned (.int .i64 1) /\ Ext w w') := Lib.hid (fun w => by have := mod_any 1 5 w (by decide); rw [show modI 1 5 = 1 from modI_nat (i := 1) (n := 5) (by omega) (by omega)] at this; exact this)
 have Z3 : Hid (∀ w, Calls Tryz.prog 21 #[.int .i64 0, .int .i64 3] w fun e w' => e = .returned (.int .i64 0) /\ Ext w w') := Lib.hid (fun w => by have := mod_any 0 3 w (by decide); rw [show modI 0 3 = 0 from modI_nat (i := 0) (n := 3) (by omega) (by omega)] at this; exact this)
 have Z5 : Hid (∀ w, Calls Tryz.prog 21 #[.int .i64 0, .int .i64 5] w fun e w' => e = .returned (.int .i64 0) /\ Ext w w') := Lib.hid (fun w => by have := mod_any 0 5 w (by decide); rw [show modI 0 5 = 0 from modI_nat (i := 0) (n := 5) (by omega) (by omega)] at this; exact this)
 have KR := Lib.hid grules_any
 have hte : ∀ v, tnL i v = [.string (usr i), .string (pwd i), v, .int .i64 0, .int .u64 1, .int .i64 2] := fun v => rfl
 have HTE := Lib.hid hte
 clear hte
 generalize usr i = us at *
 generalize pwd i = ps at *
 unfold tn1
 go_enter Tryz.func29, Tryz.ntmps29
 go_upto_region 1 with fail
 have hb : Blk _ w.heap.size tn1 63 := Blk.ext (Blk.new w tn1.toArray 63) ((Ext.refl _).alloc (.cells tnZ.toArray 63))
 have hr := Blk.new (w.alloc (.cells tn1.toArray 63)) tnZ.toArray 63
 have hx := ((Ext.refl w).alloc (.cells tn1.toArray 63)).alloc (.cells tnZ.toArray 63)
 rw [World.size_alloc] at hr
 change Code.wp _ _ _ _ ((w.alloc (.cells tn1.toArray 63)).alloc (.cells tnZ.toArray 63))
 generalize (w.alloc (.cells tn1.toArray 63)).alloc (.cells tnZ.toArray 63) = w0 at *
 have hbw : w.heap.size <= w.heap.size := Nat.le_refl _
 have F2 : ∀ w' : World, Ext w0 w' -> w'.cell? ⟨w.heap.size, 2, none⟩ = some (.slice none 0 0) := fun w' h => Blk.cell (Blk.ext hb h) rfl
 have F4 : ∀ w' : World, Ext w0 w' -> w'.cell? ⟨w.heap.size, 4, none⟩ = some (.int .u64 0) := fun w' h => Blk.cell (Blk.ext hb h) rfl
 have F5 : ∀ w' : World, Ext w0 w' -> w'.cell? ⟨w.heap.size, 5, none⟩ = some (.int .i64 1) := fun w' h => Blk.cell (Blk.ext hb h) rfl
 have CU := fun (w' : World) (h : Ext w0 w') => KU.out w'
 have CP := fun (w' : World) (h : Ext w0 w') => KP.out w'
 have C8 := fun (w' : World) (h : Ext w0 w') => M8.out w'
 have C5 := fun (w' : World) (h : Ext w0 w') => M5.out w'
 have CR : ∀ w' : World, Ext w0 w' -> Calls Tryz.prog 50 #[.slice none 0 0, .int .i64 4, .bool true] w' fun e w'' => ∃ u, e = .returned u /\ Ext w' w'' /\ VRl w.heap.size u w'' := fun w' h => (KR.out w').mono fun e w'' he => by
  obtain ⟨v, h1, h2, h3⟩ := he
  exact ⟨v, h1, h3, h2.mono (Nat.le_trans hx.size h.size)⟩
 go_upto_region 1 with fail
 refine wp_region_rgu 21 w0 (by kernel_rfl) (by kernel_rfl) (Ext.refl _) ?_
 simp only [List.take_succ_cons, List.take_zero]
 first
  | (apply goV_skip (by intro u; rfl))
  | (apply goV_val _ (by intro u; rfl); · (intro u w hSw hF; go_simp; try with_reducible rfl))
 try simp only [aput, List.set]
 first
  | (apply goV_skip (by intro u; rfl))
  | (apply goV_call (by intro u; rfl) CU; · (intro u w hSw hF; go_simp; try with_reducible rfl))
 try simp only [aput, List.set]
 first
  | (apply goV_skip (by intro u; rfl))
  | (apply goV_val _ (by intro u; rfl); · (intro u w hSw hF; go_simp; try with_reducible rfl))
 try simp only [aput, List.set]
 first
  | (apply goV_skip (by intro u; rfl))
  | (apply goV_call (by intro u; rfl) CP; · (intro u w hSw hF; go_simp; try with_reducible rfl))
 try simp only [aput, List.set]
 first
  | (apply goV_skip (by intro u; rfl))
  | (apply goV_val _ (by intro u; rfl); · (intro u w hSw hF; go_simp; try with_reducible rfl))
 try simp only [aput, List.set]
 first
  | (apply goV_skip (by intro u; rfl))
  | (apply goV_val (.slice none 0 0) (by intro u; rfl); · (intro u w hSw hF; have c0 := F2 w hSw; go_simp))
 try simp only [aput, List.set]
 first
  | (apply goV_skip (by intro u; rfl))
  | (apply goV_val _ (by intro u; rfl); · (intro u w hSw hF; go_simp; try with_reducible rfl))
 try simp only [aput, List.set]
 first
  | (apply goV_skip (by intro u; rfl))
  | (apply goV_val (.int .i64 1) (by intro u; rfl); · (intro u w hSw hF; have c0 := F5 w hSw; go_simp))
 try simp only [aput, List.set]
 first
  | (apply goV_skip (by intro u; rfl))
  | (apply goV_call (by intro u; rfl) C8; · (intro u w hSw hF; go_simp; try with_reducible rfl))
 try simp only [aput, List.set]
 first
  | (apply goV_skip (by intro u; rfl))
  | (apply goV_val _ (by intro u; rfl); · (intro u w hSw hF; go_simp; try with_reducible rfl))
 try simp only [aput, List.set]
 apply goV_callR (VRl w.heap.size) (fun u w1 w2 h k => h.ext k) (by intro u; rfl) CR
 ·(intro u w1 hSw hF; go_simp; try with_reducible rfl)
 try simp only [aput, List.set]
 first
  | (apply goV_skip (by intro u; rfl))
  | (apply goV_val _ (by intro u; rfl); · (intro u w hSw hF; go_simp; try with_reducible rfl))
 try simp only [aput, List.set]
 first
  | (apply goV_skip (by intro u; rfl))
  | (apply goV_val (.int .u64 0) (by intro u; rfl); · (intro u w hSw hF; have c0 := F4 w hSw; go_simp))
 try simp only [aput, List.set]
 iterate 3
  first
   | (apply goV_skip (by intro u; rfl))
   | (apply goV_val _ (by intro u; rfl); · (intro u w hSw hF; go_simp; try with_reducible rfl))
  try simp only [aput, List.set]
 first
  | (apply goV_skip (by intro u; rfl))
  | (apply goV_val (.int .i64 1) (by intro u; rfl); · (intro u w hSw hF; have c0 := F5 w hSw; go_simp))
 try simp only [aput, List.set]
 first
  | (apply goV_skip (by intro u; rfl))
  | (apply goV_call (by intro u; rfl) C5; · (intro u w hSw hF; go_simp; try with_reducible rfl))
 try simp only [aput, List.set]
 first
  | (apply goV_skip (by intro u; rfl))
  | (apply goV_val _ (by intro u; rfl); · (intro u w hSw hF; go_simp; try with_reducible rfl))
 try simp only [aput, List.set]
 apply goV_buildTn (j := 10) _ _ _ _ _ rfl w.heap.size us ps (by intro u; rfl) (by intro u; rfl) (by intro u; rfl) (by intro u; rfl) (by intro u; rfl) (by intro u; rfl) (by decide) rfl
 try simp only [aput, List.set]
 apply goV_rel (VNewTn w0.heap.size) (fun u w1 w2 h k => h.ext k) (by intro u; rfl)
 ·intro u w1 hSw hF
  go_simp
  exact ⟨(Ext.refl _).alloc _, w1.heap.size, rfl, hSw.size, Blk.new _ tnZ.toArray _⟩
 try simp only [aput, List.set]
 intro u w1 hx1 hh
 obtain ⟨v, hv, e19⟩ := holdsAt_get8 (V := V19 w.heap.size us ps) (j := 19) hh (by decide) (by kernel_rfl)
 obtain ⟨c, e20, hc, hB⟩ := holdsAt_get8 (V := VNewTn w0.heap.size) (j := 20) hh (by decide) (by kernel_rfl)
 clear hh
 dsimp only
 rw [e19, e20]
 clear e19 e20
 simp only [List.drop_succ_cons, List.drop_zero]
 obtain ⟨g, cap, rfl, hown⟩ := hv
 refine wpList_store_Tn rfl _ _ rfl (z := tnZ) (cs := [.string us, .string ps, .slice (some ⟨g, 0, none⟩) 2 cap, .int .i64 30, .int .u64 1, .int .i64 2]) rfl rfl (tn6_one _ _ _ _ _ _ _ _) hB rfl rfl ?_
 have hsz := hx.size
 have hl0 := Blk.lt hr
 have hB2 := Blk.row hB #[.string us, .string ps, .slice (some ⟨g, 0, none⟩) 2 cap, .int .i64 30, .int .u64 1, .int .i64 2]
 have hown2 := own_keep1 hown (Keep.setRow (S := [c]) (Keep.refl _ w1) (c := c) (.inl (by simp)) #[.string us, .string ps, .slice (some ⟨g, 0, none⟩) 2 cap, .int .i64 30, .int .u64 1, .int .i64 2]) hB (by decide)
 have hb2 := Blk.row_ne (Blk.ext hb hx1) (c := c) (by omega) #[.string us, .string ps, .slice (some ⟨g, 0, none⟩) 2 cap, .int .i64 30, .int .u64 1, .int .i64 2]
 have hr2 := Blk.row_ne (Blk.ext hr hx1) (c := c) (by omega) #[.string us, .string ps, .slice (some ⟨g, 0, none⟩) 2 cap, .int .i64 30, .int .u64 1, .int .i64 2]
 have hx2 := Ext.setRow (hx.trans hx1) (c := c) (by omega) #[.string us, .string ps, .slice (some ⟨g, 0, none⟩) 2 cap, .int .i64 30, .int .u64 1, .int .i64 2]
 have hcr : w.heap.size + 1 ≠ c := by omega
 have hcw : w.heap.size <= c := by omega
 clear hx hx1 hb hr hB hown hsz hl0 hc F2 F4 F5 CU CP C8 C5 CR KU KP M8 M5 KR
 change wpList _ _ _ [] _ (w1.setRow c #[.string us, .string ps, .slice (some ⟨g, 0, none⟩) 2 cap, .int .i64 30, .int .u64 1, .int .i64 2])
 generalize w1.setRow c #[.string us, .string ps, .slice (some ⟨g, 0, none⟩) 2 cap, .int .i64 30, .int .u64 1, .int .i64 2] = w2 at *
 have c3 : w2.cell? ⟨w.heap.size, 3, none⟩ = some (.int .i64 0) := hb2.cell rfl
 go_upto_region 3 with (first | (go_at_call 21; refine (Z3.out _).mono ?_; rintro e w3 ⟨rfl, hx3⟩))
 clear c3
 replace hb2 := Blk.ext hb2 hx3
 replace hB2 := Blk.ext hB2 hx3
 replace hr2 := Blk.ext hr2 hx3
 replace hown2 := own_ext hown2 hx3
 replace hx2 := hx2.trans hx3
 have c3 : w3.cell? ⟨w.heap.size, 3, none⟩ = some (.int .i64 0) := hb2.cell rfl
 go_upto_region 4 with (first | (go_at_call 21; refine (Z5.out _).mono ?_; rintro e w4 ⟨rfl, hx4⟩; have hB4 := Blk.ext hB2 hx4; have d3 : w4.cell? ⟨c, 3, none⟩ = some (.int .i64 30) := hB4.cell rfl; have f3 := Blk.free hB4 3))
 have hk5 : Keep [c] w4 (w4.setCell ⟨c, 3, none⟩ (.int .i64 0)) := Keep.setCell (Keep.refl _ w4) (.inl (by simp)) _
 have hown5 := own_keep1 (own_ext hown2 hx4) hk5 hB4 (by decide)
 have hr5 := Blk.set_ne (Blk.ext hr2 hx4) ⟨c, 3, none⟩ (Ne.symm hcr) (.int .i64 0)
 have hB5 : Blk (w4.setCell ⟨c, 3, none⟩ (.int .i64 0)) c [.string us, .string ps, .slice (some ⟨g, 0, none⟩) 2 cap, .int .i64 0, .int .u64 1, .int .i64 2] 63 := Blk.set hB4 3 (.int .i64 0)
 have hx5 : Ext w (w4.setCell ⟨c, 3, none⟩ (.int .i64 0)) := Ext.setCell (hx2.trans hx4) hcw _
 clear c3 d3 f3 hB4 hk5 hx4 hx2 hr2 hB2 hb2 hown2 hx3
 generalize w4.setCell ⟨c, 3, none⟩ (.int .i64 0) = w5 at *
 have hra := Blk.all hB5
 go_wp2_with (first | refine wpList_load_Tn rfl _ rfl (cs := [.string us, .string ps, .slice (some ⟨g, 0, none⟩) 2 cap, .int .i64 0, .int .u64 1, .int .i64 2]) rfl hra rfl ?_ | refine wpList_store_Tn rfl _ _ rfl (z := tnZ) (cs := [.string us, .string ps, .slice (some ⟨g, 0, none⟩) 2 cap, .int .i64 0, .int .u64 1, .int .i64 2]) rfl rfl (tn6_one _ _ _ _ _ _ _ _) hr5 rfl rfl ?_)
 have hkr : Keep [w.heap.size + 1] w5 (w5.setRow (w.heap.size + 1) #[.string us, .string ps, .slice (some ⟨g, 0, none⟩) 2 cap, .int .i64 0, .int .u64 1, .int .i64 2]) := Keep.setRow (Keep.refl _ w5) (c := w.heap.size + 1) (.inl (by simp)) _
 refine bodyPost_ret (res_Tn rfl rfl (cs := [.string us, .string ps, .slice (some ⟨g, 0, none⟩) 2 cap, .int .i64 0, .int .u64 1, .int .i64 2]) rfl (Blk.row hr5 _)) rfl ⟨.slice (some ⟨g, 0, none⟩) 2 cap, ?_, ⟨g, cap, rfl, own_keep1 hown5 hkr hr5 (by decide)⟩, Ext.setRow hx5 (by omega) _⟩
 rw [HTE.out]
end Go.Proofs.YtnohnnjeabehjaaGreatDoor
