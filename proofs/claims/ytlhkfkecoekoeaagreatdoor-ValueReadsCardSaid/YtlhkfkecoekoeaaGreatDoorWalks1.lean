/- For each function: called, it does its work where its condition is so. Printed by program. -/
import Derived.Test.YtlhkfkecoekoeaaGreatDoorFacts
import Derived.Test.YtlhkfkecoekoeaaGreatDoorConds
import Derived.Test.YtlhkfkecoekoeaaGreatDoorShv
import Derived.Test.YtlhkfkecoekoeaaGreatDoorTold
set_option linter.unusedVariables false
set_option linter.unusedSimpArgs false
set_option maxRecDepth 100000
set_option maxHeartbeats 1000000
namespace Go.Proofs.YtlhkfkecoekoeaaGreatDoor
open Go.Vc _root_.Go.Proofs.Tryz _root_.Go.Proofs.YtlhkfkecoekoeaaGreatDoor.Tryz
theorem S_rankT {w0 : World} {H : View} {L : Seg} {w : World} {c_1 : Bool} {Q : Int → Prop}  (hS : St w0 H (L) w) (hV : V_rankT c_1 Q) :
 Calls Tryz.prog 272 #[.bool c_1] w fun e w' => ∃ (r1 : Int), Q r1 ∧ e = .returned (i6 r1) ∧ I64 r1 ∧ St w0 H (L) w' := by
 unfold V_rankT at hV
 refine enter func272 rfl ntmps272 rfl (lk_args_cons (d := 0) (v := .bool c_1) rfl (lk_args_nil _)) (WC.sr (R hS ?_))
 refine WL.nx (WC.sr (R hS ?_))
 refine WL.nx (WC.ret ?_)
 exact leave1 rfl rfl (⟨(1 : Int), hV, rfl, (show I64 (1 : Int) by unfold I64; omega), hS⟩)
theorem S_rankN {w0 : World} {H : View} {L : Seg} {w : World} {c_1 : Int} {Q : Int → Prop} (hr_2 : I64 c_1) (hS : St w0 H (L) w) (hV : V_rankN c_1 Q) :
 Calls Tryz.prog 277 #[i6 c_1] w fun e w' => ∃ (r1 : Int), Q r1 ∧ e = .returned (i6 r1) ∧ I64 r1 ∧ St w0 H (L) w' := by
 unfold V_rankN at hV
 refine enter func277 rfl ntmps277 rfl (lk_args_cons (d := 0) (v := i6 c_1) rfl (lk_args_nil _)) (WC.sr (R hS ?_))
 refine WL.nx (WC.sr (R hS ?_))
 refine WL.nx (WC.ret ?_)
 exact leave1 rfl rfl (⟨(2 : Int), hV, rfl, (show I64 (2 : Int) by unfold I64; omega), hS⟩)
theorem S_rankX {w0 : World} {H : View} {L : Seg} {w : World} {c_1 : Str} {Q : Int → Prop}  (hS : St w0 H (L) w) (hV : V_rankX c_1 Q) :
 Calls Tryz.prog 283 #[sv c_1] w fun e w' => ∃ (r1 : Int), Q r1 ∧ e = .returned (i6 r1) ∧ I64 r1 ∧ St w0 H (L) w' := by
 unfold V_rankX at hV
 refine enter func283 rfl ntmps283 rfl (lk_args_cons (d := 0) (v := sv c_1) rfl (lk_args_nil _)) (WC.sr (R hS ?_))
 refine WL.nx (WC.sr (R hS ?_))
 refine WL.nx (WC.ret ?_)
 exact leave1 rfl rfl (⟨(3 : Int), hV, rfl, (show I64 (3 : Int) by unfold I64; omega), hS⟩)
theorem S_rankA {w0 : World} {H : View} {L : Seg} {w : World} {c_1 : Str} {Q : Int → Prop}  (hS : St w0 H (L) w) (hV : V_rankA c_1 Q) :
 Calls Tryz.prog 286 #[sv c_1] w fun e w' => ∃ (r1 : Int), Q r1 ∧ e = .returned (i6 r1) ∧ I64 r1 ∧ St w0 H (L) w' := by
 unfold V_rankA at hV
 refine enter func286 rfl ntmps286 rfl (lk_args_cons (d := 0) (v := sv c_1) rfl (lk_args_nil _)) (WC.sr (R hS ?_))
 refine WL.nx (WC.sr (R hS ?_))
 refine WL.nx (WC.ret ?_)
 exact leave1 rfl rfl (⟨(4 : Int), hV, rfl, (show I64 (4 : Int) by unfold I64; omega), hS⟩)
theorem S_rankS {w0 : World} {H : View} {L : Seg} {w : World} {c_1 : Val} {u_2 : Value} {Q : Int → Prop} (h_3 : IsPS H u_2 c_1) (hS : St w0 H (L) w) (hV : V_rankS c_1 Q) :
 Calls Tryz.prog 289 #[u_2] w fun e w' => ∃ (r1 : Int), Q r1 ∧ e = .returned (i6 r1) ∧ I64 r1 ∧ St w0 H (L) w' := by
 unfold V_rankS at hV
 refine enter func289 rfl ntmps289 rfl (lk_args_cons (d := 0) (v := u_2) rfl (lk_args_nil _)) (WC.sr (R hS ?_))
 refine WL.nx (WC.sr (R hS ?_))
 refine WL.nx (WC.ret ?_)
 exact leave1 rfl rfl (⟨(5 : Int), hV, rfl, (show I64 (5 : Int) by unfold I64; omega), hS⟩)
theorem S_rankF {w0 : World} {H : View} {L : Seg} {w : World} {c_1 : Val} {u_2 : Value} {Q : Int → Prop} (h_3 : IsPF H u_2 c_1) (hS : St w0 H (L) w) (hV : V_rankF c_1 Q) :
 Calls Tryz.prog 294 #[u_2] w fun e w' => ∃ (r1 : Int), Q r1 ∧ e = .returned (i6 r1) ∧ I64 r1 ∧ St w0 H (L) w' := by
 unfold V_rankF at hV
 refine enter func294 rfl ntmps294 rfl (lk_args_cons (d := 0) (v := u_2) rfl (lk_args_nil _)) (WC.sr (R hS ?_))
 refine WL.nx (WC.sr (R hS ?_))
 refine WL.nx (WC.ret ?_)
 exact leave1 rfl rfl (⟨(6 : Int), hV, rfl, (show I64 (6 : Int) by unfold I64; omega), hS⟩)
theorem Tryz.m_rankT (v : Value) (args : Array Value) (w : World) : (callMethod (.iface 86 v) "sextant/value.rank" args).run Tryz.prog w = .ok (.enter 272 (#[v] ++ args)) w := by kernel_rfl
theorem Tryz.m_rankN (v : Value) (args : Array Value) (w : World) : (callMethod (.iface 87 v) "sextant/value.rank" args).run Tryz.prog w = .ok (.enter 277 (#[v] ++ args)) w := by kernel_rfl
theorem Tryz.m_rankX (v : Value) (args : Array Value) (w : World) : (callMethod (.iface 89 v) "sextant/value.rank" args).run Tryz.prog w = .ok (.enter 283 (#[v] ++ args)) w := by kernel_rfl
theorem Tryz.m_rankA (v : Value) (args : Array Value) (w : World) : (callMethod (.iface 91 v) "sextant/value.rank" args).run Tryz.prog w = .ok (.enter 286 (#[v] ++ args)) w := by kernel_rfl
theorem Tryz.m_rankS (v : Value) (args : Array Value) (w : World) : (callMethod (.iface 93 v) "sextant/value.rank" args).run Tryz.prog w = .ok (.enter 289 (#[v] ++ args)) w := by kernel_rfl
theorem Tryz.m_rankF (v : Value) (args : Array Value) (w : World) : (callMethod (.iface 97 v) "sextant/value.rank" args).run Tryz.prog w = .ok (.enter 294 (#[v] ++ args)) w := by kernel_rfl
theorem S_irank {w0 : World} {H : View} {L : Seg} {w : World} {x : Val} {u : Value} {Q : Int → Prop} (hx : IsW H u x)  (hS : St w0 H (L) w) (hV : V_irank x Q) :
    ∃ (f : Nat) (args : Array Value), (∀ w, (callMethod u "sextant/value.rank" ([] : List Value).toArray).run Tryz.prog w = .ok (.enter f args) w) ∧ Calls Tryz.prog f args w fun e w' => ∃ (r1 : Int), Q r1 ∧ e = .returned (.int .i64 r1) ∧ I64 r1 ∧ St w0 H (L) w' := by
  cases x with
  | nil => exact hV.elim
  | truth t => obtain rfl := hx; exact ⟨_, _, Tryz.m_rankT (.bool t) _, S_rankT  hS hV⟩
  | num n => obtain ⟨rfl, hr⟩ := hx; exact ⟨_, _, Tryz.m_rankN (.int .i64 n) _, S_rankN hr  hS hV⟩
  | text s => obtain rfl := hx; exact ⟨_, _, Tryz.m_rankX (sv s) _, S_rankX  hS hV⟩
  | atom s => obtain rfl := hx; exact ⟨_, _, Tryz.m_rankA (sv s) _, S_rankA  hS hV⟩
  | set l h => have hx2 := hx; obtain ⟨b, v, fz, rfl, h2⟩ := hx; exact ⟨_, _, Tryz.m_rankS _ _, S_rankS (IsPS.mk hx2)  hS hV⟩
  | fn k v h => have hx2 := hx; obtain ⟨b, v1, v2, fz, rfl, h2⟩ := hx; exact ⟨_, _, Tryz.m_rankF _ _, S_rankF (IsPF.mk hx2)  hS hV⟩
theorem S_weightT {w0 : World} {H : View} {L : Seg} {w : World} {c_1 : Bool} {Q : Int → Prop}  (hS : St w0 H (L) w) (hV : V_weightT c_1 Q) :
 Calls Tryz.prog 274 #[.bool c_1] w fun e w' => ∃ (r1 : Int), Q r1 ∧ e = .returned (i6 r1) ∧ I64 r1 ∧ St w0 H (L) w' := by
 unfold V_weightT at hV
 refine enter func274 rfl ntmps274 rfl (lk_args_cons (d := 0) (v := .bool c_1) rfl (lk_args_nil _)) (WC.sr (R hS ?_))
 refine WL.nx (WC.sr (R hS ?_))
 refine WL.nx (WC.ret ?_)
 exact leave1 rfl rfl (⟨(1 : Int), hV, rfl, (show I64 (1 : Int) by unfold I64; omega), hS⟩)
theorem S_weightN {w0 : World} {H : View} {L : Seg} {w : World} {c_1 : Int} {Q : Int → Prop} (hr_2 : I64 c_1) (hS : St w0 H (L) w) (hV : V_weightN c_1 Q) :
 Calls Tryz.prog 279 #[i6 c_1] w fun e w' => ∃ (r1 : Int), Q r1 ∧ e = .returned (i6 r1) ∧ I64 r1 ∧ St w0 H (L) w' := by
 unfold V_weightN at hV
 refine enter func279 rfl ntmps279 rfl (lk_args_cons (d := 0) (v := i6 c_1) rfl (lk_args_nil _)) (WC.sr (R hS ?_))
 refine WL.nx (WC.sr (R hS ?_))
 refine WL.nx (WC.ret ?_)
 exact leave1 rfl rfl (⟨(1 : Int), hV, rfl, (show I64 (1 : Int) by unfold I64; omega), hS⟩)
theorem S_weightX {w0 : World} {H : View} {L : Seg} {w : World} {c_1 : Str} {Q : Int → Prop}  (hS : St w0 H (L) w) (hV : V_weightX c_1 Q) :
 Calls Tryz.prog 285 #[sv c_1] w fun e w' => ∃ (r1 : Int), Q r1 ∧ e = .returned (i6 r1) ∧ I64 r1 ∧ St w0 H (L) w' := by
 unfold V_weightX at hV
 refine enter func285 rfl ntmps285 rfl (lk_args_cons (d := 0) (v := sv c_1) rfl (lk_args_nil _)) (WC.sr (R hS ?_))
 refine WL.nx (WC.sr (R hS ?_))
 refine WL.nx (WC.ret ?_)
 exact leave1 rfl rfl (⟨(1 : Int), hV, rfl, (show I64 (1 : Int) by unfold I64; omega), hS⟩)
theorem S_weightA {w0 : World} {H : View} {L : Seg} {w : World} {c_1 : Str} {Q : Int → Prop}  (hS : St w0 H (L) w) (hV : V_weightA c_1 Q) :
 Calls Tryz.prog 288 #[sv c_1] w fun e w' => ∃ (r1 : Int), Q r1 ∧ e = .returned (i6 r1) ∧ I64 r1 ∧ St w0 H (L) w' := by
 unfold V_weightA at hV
 refine enter func288 rfl ntmps288 rfl (lk_args_cons (d := 0) (v := sv c_1) rfl (lk_args_nil _)) (WC.sr (R hS ?_))
 refine WL.nx (WC.sr (R hS ?_))
 refine WL.nx (WC.ret ?_)
 exact leave1 rfl rfl (⟨(1 : Int), hV, rfl, (show I64 (1 : Int) by unfold I64; omega), hS⟩)
theorem S_weightS {w0 : World} {H : View} {L : Seg} {w : World} {s_1 : Val} {u_2 : Value} {Q : Int → Prop} (h_3 : IsPS H u_2 s_1) (hS : St w0 H (L) w) (hV : V_weightS s_1 Q) :
 Calls Tryz.prog 291 #[u_2] w fun e w' => ∃ (r1 : Int), Q r1 ∧ e = .returned (i6 r1) ∧ I64 r1 ∧ St w0 H (L) w' := by
 unfold V_weightS at hV
 refine enter func291 rfl ntmps291 rfl (lk_args_cons (d := 0) (v := u_2) rfl (lk_args_nil _)) (WC.sr (R hS ?_))
 refine WL.nx (WC.sr (R hS ?_))
 obtain ⟨hk_4, hV⟩ := hV
 refine Rn hS (ex_nc_set rfl h_3 hk_4) ?_
 refine Rx hS (ex_set_h underlying96 rfl sizeOf3 rfl rfl h_3 hk_4) ?_
 intro p_5 hp_6
 refine Rx hS (ex_load isAgg3 rfl rfl hp_6) ?_
 intro u_9 hu_10
 obtain ⟨rfl, hr_11⟩ := cInt_rep hu_10
 replace hr_11 := has_I64 hr_11
 replace hV := hV hr_11
 refine R hS ?_
 refine WL.nx (WC.ret ?_)
 exact leave1 rfl rfl (⟨(s_1.setH), hV, rfl, hr_11, hS⟩)
theorem S_weightF {w0 : World} {H : View} {L : Seg} {w : World} {f_1 : Val} {u_2 : Value} {Q : Int → Prop} (h_3 : IsPF H u_2 f_1) (hS : St w0 H (L) w) (hV : V_weightF f_1 Q) :
 Calls Tryz.prog 296 #[u_2] w fun e w' => ∃ (r1 : Int), Q r1 ∧ e = .returned (i6 r1) ∧ I64 r1 ∧ St w0 H (L) w' := by
 unfold V_weightF at hV
 refine enter func296 rfl ntmps296 rfl (lk_args_cons (d := 0) (v := u_2) rfl (lk_args_nil _)) (WC.sr (R hS ?_))
 refine WL.nx (WC.sr (R hS ?_))
 obtain ⟨hk_4, hV⟩ := hV
 refine Rn hS (ex_nc_fn rfl h_3 hk_4) ?_
 refine Rx hS (ex_fn_h underlying100 rfl sizeOf3 rfl rfl h_3 hk_4) ?_
 intro p_5 hp_6
 refine Rx hS (ex_load isAgg3 rfl rfl hp_6) ?_
 intro u_9 hu_10
 obtain ⟨rfl, hr_11⟩ := cInt_rep hu_10
 replace hr_11 := has_I64 hr_11
 replace hV := hV hr_11
 refine R hS ?_
 refine WL.nx (WC.ret ?_)
 exact leave1 rfl rfl (⟨(f_1.fnH), hV, rfl, hr_11, hS⟩)
theorem Tryz.m_weightT (v : Value) (args : Array Value) (w : World) : (callMethod (.iface 86 v) "sextant/value.weight" args).run Tryz.prog w = .ok (.enter 274 (#[v] ++ args)) w := by kernel_rfl
theorem Tryz.m_weightN (v : Value) (args : Array Value) (w : World) : (callMethod (.iface 87 v) "sextant/value.weight" args).run Tryz.prog w = .ok (.enter 279 (#[v] ++ args)) w := by kernel_rfl
theorem Tryz.m_weightX (v : Value) (args : Array Value) (w : World) : (callMethod (.iface 89 v) "sextant/value.weight" args).run Tryz.prog w = .ok (.enter 285 (#[v] ++ args)) w := by kernel_rfl
theorem Tryz.m_weightA (v : Value) (args : Array Value) (w : World) : (callMethod (.iface 91 v) "sextant/value.weight" args).run Tryz.prog w = .ok (.enter 288 (#[v] ++ args)) w := by kernel_rfl
theorem Tryz.m_weightS (v : Value) (args : Array Value) (w : World) : (callMethod (.iface 93 v) "sextant/value.weight" args).run Tryz.prog w = .ok (.enter 291 (#[v] ++ args)) w := by kernel_rfl
theorem Tryz.m_weightF (v : Value) (args : Array Value) (w : World) : (callMethod (.iface 97 v) "sextant/value.weight" args).run Tryz.prog w = .ok (.enter 296 (#[v] ++ args)) w := by kernel_rfl
theorem S_iweight {w0 : World} {H : View} {L : Seg} {w : World} {x : Val} {u : Value} {Q : Int → Prop} (hx : IsW H u x)  (hS : St w0 H (L) w) (hV : V_iweight x Q) :
    ∃ (f : Nat) (args : Array Value), (∀ w, (callMethod u "sextant/value.weight" ([] : List Value).toArray).run Tryz.prog w = .ok (.enter f args) w) ∧ Calls Tryz.prog f args w fun e w' => ∃ (r1 : Int), Q r1 ∧ e = .returned (.int .i64 r1) ∧ I64 r1 ∧ St w0 H (L) w' := by
  cases x with
  | nil => exact hV.elim
  | truth t => obtain rfl := hx; exact ⟨_, _, Tryz.m_weightT (.bool t) _, S_weightT  hS hV⟩
  | num n => obtain ⟨rfl, hr⟩ := hx; exact ⟨_, _, Tryz.m_weightN (.int .i64 n) _, S_weightN hr  hS hV⟩
  | text s => obtain rfl := hx; exact ⟨_, _, Tryz.m_weightX (sv s) _, S_weightX  hS hV⟩
  | atom s => obtain rfl := hx; exact ⟨_, _, Tryz.m_weightA (sv s) _, S_weightA  hS hV⟩
  | set l h => have hx2 := hx; obtain ⟨b, v, fz, rfl, h2⟩ := hx; exact ⟨_, _, Tryz.m_weightS _ _, S_weightS (IsPS.mk hx2)  hS hV⟩
  | fn k v h => have hx2 := hx; obtain ⟨b, v1, v2, fz, rfl, h2⟩ := hx; exact ⟨_, _, Tryz.m_weightF _ _, S_weightF (IsPF.mk hx2)  hS hV⟩
theorem S_rank {w0 : World} {H : View} {L : Seg} {w : World} {v_1 : Val} {u_2 : Value} {Q : Int → Prop} (h_3 : IsW H u_2 v_1) (hS : St w0 H (L) w) (hV : V_rank v_1 Q) :
 Calls Tryz.prog 48 #[.agg #[u_2]] w fun e w' => ∃ (r1 : Int), Q r1 ∧ e = .returned (i6 r1) ∧ I64 r1 ∧ St w0 H (L) w' := by
 unfold V_rank at hV
 refine enter func48 rfl ntmps48 rfl (lk_args_cons (d := 0) (v := .agg #[u_2]) rfl (lk_args_nil _)) (WC.sr (WL.box (arr := #[u_2]) rfl rfl rfl hS ?_))
 clear hS
 intro b_4 w hS
 refine R hS ?_
 refine WL.nx (WC.seq (WC.sr ?_))
 iterate 2 refine R hS ?_
 refine Rn hS (ex_v_eql iface23 rfl h_3) ?_
 refine WL.nx ?_
 refine Cd ?_ ?_
 intro hc_13
 replace hV := hV.1 hc_13
 refine WC.sr (R hS ?_)
 refine WL.nx ?_
 replace hS := hS.drop
 refine WC.ret (Wp ?_)
 exact leave1 rfl rfl (⟨(0 : Int), hV, rfl, i0, hS⟩)
 intro hc_13
 replace hV := hV.2 hc_13
 refine WC.skip (WQ.next (WC.sr ?_))
 iterate 2 refine R hS ?_
 obtain ⟨f_8, g_9, he_10, hc_11⟩ := S_irank h_3 hS hV
 refine Rc (enters_i (vs := []) rfl trivial he_10) (hc_11) ?_
 clear hV hS
 rintro _ w ⟨r_6, hV, rfl, hr_7, hS⟩
 refine ⟨_, rfl, ?_⟩
 refine R hS ?_
 refine WL.nx ?_
 replace hS := hS.drop
 refine WC.ret ?_
 exact leave1 rfl rfl (⟨r_6, hV, rfl, hr_7, hS⟩)
theorem S_Weight {w0 : World} {H : View} {L : Seg} {w : World} {v_1 : Val} {u_2 : Value} {Q : Int → Prop} (h_3 : IsW H u_2 v_1) (hS : St w0 H (L) w) (hV : V_Weight v_1 Q) :
 Calls Tryz.prog 13 #[.agg #[u_2]] w fun e w' => ∃ (r1 : Int), Q r1 ∧ e = .returned (i6 r1) ∧ I64 r1 ∧ St w0 H (L) w' := by
 unfold V_Weight at hV
 refine enter func13 rfl ntmps13 rfl (lk_args_cons (d := 0) (v := .agg #[u_2]) rfl (lk_args_nil _)) (WC.sr (WL.box (arr := #[u_2]) rfl rfl rfl hS ?_))
 clear hS
 intro b_4 w hS
 refine R hS ?_
 refine WL.nx (WC.seq (WC.sr ?_))
 iterate 2 refine R hS ?_
 refine Rn hS (ex_v_eql iface23 rfl h_3) ?_
 refine WL.nx ?_
 refine Cd ?_ ?_
 intro hc_13
 replace hV := hV.1 hc_13
 refine WC.sr (R hS ?_)
 refine WL.nx ?_
 replace hS := hS.drop
 refine WC.ret (Wp ?_)
 exact leave1 rfl rfl (⟨(1 : Int), hV, rfl, (show I64 (1 : Int) by unfold I64; omega), hS⟩)
 intro hc_13
 replace hV := hV.2 hc_13
 refine WC.skip (WQ.next (WC.sr ?_))
 iterate 2 refine R hS ?_
 obtain ⟨f_8, g_9, he_10, hc_11⟩ := S_iweight h_3 hS hV
 refine Rc (enters_i (vs := []) rfl trivial he_10) (hc_11) ?_
 clear hV hS
 rintro _ w ⟨r_6, hV, rfl, hr_7, hS⟩
 refine ⟨_, rfl, ?_⟩
 refine R hS ?_
 refine WL.nx ?_
 replace hS := hS.drop
 refine WC.ret ?_
 exact leave1 rfl rfl (⟨r_6, hV, rfl, hr_7, hS⟩)
theorem S_appBool0 {w0 : World} {H : View} {L : Seg} {w : World} {v_2 : Value} {dst_1 : List UInt8} {fp_4 : Seg} {b_6 : Bool} {Q : (List UInt8) → Prop} (h_3 : OwnSl H cB8 5 v_2 dst_1 fp_4) (hS : St w0 H (fp_4 ++ L) w) (hV : V_appBool0 dst_1 b_6 Q) :
 Calls Tryz.prog 276 #[v_2, .bool b_6] w fun e w' => ∃ (r1 : List UInt8) (v1 : Value) (fp1 : Seg), Q r1 ∧ e = .returned (v1) ∧ OwnSl H cB8 5 v1 r1 fp1 ∧ St w0 H (fp1 ++ L) w' := by
 unfold V_appBool0 at hV
 refine enter func276 rfl ntmps276 rfl (lk_args_cons (d := 0) (v := v_2) rfl (lk_args_cons (d := 1) (v := .bool b_6) rfl (lk_args_nil _))) (WC.sr (R hS ?_))
 refine WL.nx (WC.seq (WC.sr (R hS ?_)))
 refine WL.nx ?_
 refine Cd ?_ ?_
 intro hc_18
 replace hV := hV.1 hc_18
 refine WC.sr (R hS ?_)
 obtain ⟨hr_8, hV⟩ := hV
 refine WL.appends (xs := dst_1) (s := ([116, 114, 117, 101] : Str)) rfl underlying71 underlying9 info5 rfl rfl rfl hS h_3 hr_8.1 hr_8.2 ?_
 clear hS
 intro v_9 w fp_10 h_11 hS
 refine R hS ?_
 refine WL.nx (WC.ret (Wp ?_))
 exact leave1 rfl rfl (⟨(dst_1 ++ ([116, 114, 117, 101] : Str)), v_9, fp_10, hV, rfl, h_11, hS⟩)
 intro hc_18
 replace hV := hV.2 hc_18
 refine WC.skip (WQ.next (WC.sr (R hS ?_)))
 obtain ⟨hr_13, hV⟩ := hV
 refine WL.appends (xs := dst_1) (s := ([102, 97, 108, 115, 101] : Str)) rfl underlying71 underlying9 info5 rfl rfl rfl hS h_3 hr_13.1 hr_13.2 ?_
 clear hS
 intro v_14 w fp_15 h_16 hS
 refine R hS ?_
 refine WL.nx (WC.ret ?_)
 exact leave1 rfl rfl (⟨(dst_1 ++ ([102, 97, 108, 115, 101] : Str)), v_14, fp_15, hV, rfl, h_16, hS⟩)
theorem S_appBool {w0 : World} {H : View} {L : Seg} {w : World} {v_2 : Value} {dst_1 : List UInt8} {fp_4 : Seg} {b_6 : Bool} {Q : (List UInt8) → Prop} (h_3 : OwnSl H cB8 5 v_2 dst_1 fp_4) (hS : St w0 H (fp_4 ++ L) w) (hV : V_appBool dst_1 b_6 Q) :
 Calls Tryz.prog 275 #[v_2, .bool b_6] w fun e w' => ∃ (r1 : List UInt8) (v1 : Value) (fp1 : Seg), Q r1 ∧ e = .returned (v1) ∧ OwnSl H cB8 5 v1 r1 fp1 ∧ St w0 H (fp1 ++ L) w' := by
 unfold V_appBool at hV
 refine enter func275 rfl ntmps275 rfl (lk_args_cons (d := 0) (v := v_2) rfl (lk_args_cons (d := 1) (v := .bool b_6) rfl (lk_args_nil _))) (WC.sr (R hS ?_))
 refine WL.nx (WC.sr ?_)
 iterate 2 refine R hS ?_
 refine Rc (enters0 (vs := [v_2, .bool b_6]) call276 ⟨rfl, rfl, trivial⟩) (S_appBool0 h_3 hS hV) ?_
 clear hV hS
 rintro _ w ⟨r_8, v_9, fp_10, hV, rfl, h_11, hS⟩
 refine ⟨_, rfl, ?_⟩
 refine R hS ?_
 refine WL.nx (WC.ret ?_)
 exact leave1 rfl rfl (⟨r_8, v_9, fp_10, hV, rfl, h_11, hS⟩)
theorem S_appInt0 {w0 : World} {H : View} {L : Seg} {w : World} {v_2 : Value} {dst_1 : List UInt8} {fp_4 : Seg} {i_6 : Int} {base_8 : Int} {Q : (List UInt8) → Prop} (h_3 : OwnSl H cB8 5 v_2 dst_1 fp_4) (hr_7 : I64 i_6) (hr_9 : I64 base_8) (hN : GlobN w0 H) (hS : St w0 H (fp_4 ++ L) w) (hV : V_appInt0 dst_1 i_6 base_8 Q) :
 Calls Tryz.prog 281 #[v_2, i6 i_6, i6 base_8] w fun e w' => ∃ (r1 : List UInt8) (v1 : Value) (fp1 : Seg), Q r1 ∧ e = .returned (v1) ∧ OwnSl H cB8 5 v1 r1 fp1 ∧ St w0 H (fp1 ++ L) w' := by
 unfold V_appInt0 at hV
 refine enter func281 rfl ntmps281 rfl (lk_args_cons (d := 0) (v := v_2) rfl (lk_args_cons (d := 1) (v := i6 i_6) rfl (lk_args_cons (d := 2) (v := i6 base_8) rfl (lk_args_nil _)))) (WC.sr (R hS ?_))
 refine WL.nx (WC.sr ?_)
 iterate 3 refine R hS ?_
 refine WL.nx ?_
 obtain ⟨J_29, hJ_30, hV⟩ := hV
 refine WC.meet (fun a w => ∃ (dst_23 : List UInt8) (u_27 : Int) (v_24 : Value) (fp_25 : Seg), J_29 (dst_23, u_27) ∧ OwnSl H cB8 5 v_24 dst_23 fp_25 ∧ IntKind.u64.has u_27 ∧ St w0 H (fp_25 ++ L) w ∧ Fr 21 [(0, v_24), (2, i6 base_8), (7, .int .u64 u_27)] a) ?_ ?_
 rintro a w ⟨dst_23, u_27, v_24, fp_25, hI, h_26, hr_28, hS, ha⟩
 refine in_frame ha ?_
 clear ha hV
 have hV := hJ_30 _ hI
 clear hI hJ_30
 refine WC.sr ?_
 iterate 3 refine R hS ?_
 refine Rc (enters0 (vs := [v_24, .int .u64 u_27, i6 base_8]) call282 ⟨rfl, rfl, rfl, trivial⟩) (S_appUint h_26 hr_28 hr_9 hN hS hV) ?_
 clear hV hS
 rintro _ w ⟨r_42, v_43, fp_44, hV, rfl, h_45, hS⟩
 refine ⟨_, rfl, ?_⟩
 refine R hS ?_
 refine WL.nx (WC.ret ?_)
 exact leave1 rfl rfl (⟨r_42, v_43, fp_44, hV, rfl, h_45, hS⟩)
 clear hJ_30
 refine WC.sr ?_
 iterate 2 refine R hS ?_
 refine WL.nx ?_
 refine Cd ?_ ?_
 intro hc_41
 replace hV := hV.1 (od hc_41)
 refine WC.sr (R hS ?_)
 refine WL.build1 (c := cB8) (y := u8 (45 : Int)) rfl underlying71 info5 rfl rfl (cB8_mk (has_u8 ⟨by omega, by omega⟩)) hS ?_
 clear hS
 intro v_33 w fp_34 h_35 hS
 obtain ⟨hr_36, hV⟩ := hV
 replace hS := hS.f2
 refine WL.append (c := cB8) (xs := dst_1) (ys := ([u8 (45 : Int)])) rfl underlying71 info5 rfl rfl rfl hS h_3 (h_35.src hS.f2) hr_36.1 hr_36.2 ?_
 clear hS
 intro v_37 w fp_38 h_39 hS
 refine R hS ?_
 refine WL.nx ?_
 replace hS := hS.f2.drop
 refine WC.region (R hS ?_)
 refine Rn hS (ex_wrap_neg rfl) ?_
 refine R hS ?_
 refine WL.nil ?_
 exact Wt fun a ha => ⟨(dst_1 ++ ([u8 (45 : Int)])), (IntKind.u64.wrap (-(IntKind.u64.wrap i_6))), v_37, fp_38, hV, h_39, (wrap_has _ _), hS, ha.os⟩
 intro hc_41
 replace hV := hV.2 (ov hc_41)
 refine WC.skip ?_
 exact Wt fun a ha => ⟨dst_1, (IntKind.u64.wrap i_6), v_2, fp_4, hV, h_3, (wrap_has _ _), hS, ha.os⟩
theorem S_appInt {w0 : World} {H : View} {L : Seg} {w : World} {v_2 : Value} {dst_1 : List UInt8} {fp_4 : Seg} {i_6 : Int} {base_8 : Int} {Q : (List UInt8) → Prop} (h_3 : OwnSl H cB8 5 v_2 dst_1 fp_4) (hr_7 : I64 i_6) (hr_9 : I64 base_8) (hN : GlobN w0 H) (hS : St w0 H (fp_4 ++ L) w) (hV : V_appInt dst_1 i_6 base_8 Q) :
 Calls Tryz.prog 280 #[v_2, i6 i_6, i6 base_8] w fun e w' => ∃ (r1 : List UInt8) (v1 : Value) (fp1 : Seg), Q r1 ∧ e = .returned (v1) ∧ OwnSl H cB8 5 v1 r1 fp1 ∧ St w0 H (fp1 ++ L) w' := by
 unfold V_appInt at hV
 refine enter func280 rfl ntmps280 rfl (lk_args_cons (d := 0) (v := v_2) rfl (lk_args_cons (d := 1) (v := i6 i_6) rfl (lk_args_cons (d := 2) (v := i6 base_8) rfl (lk_args_nil _)))) (WC.sr (R hS ?_))
 refine WL.nx (WC.sr ?_)
 iterate 3 refine R hS ?_
 refine Rc (enters0 (vs := [v_2, i6 i_6, i6 base_8]) call281 ⟨rfl, rfl, rfl, trivial⟩) (S_appInt0 h_3 hr_7 hr_9 hN hS hV) ?_
 clear hV hS
 rintro _ w ⟨r_11, v_12, fp_13, hV, rfl, h_14, hS⟩
 refine ⟨_, rfl, ?_⟩
 refine R hS ?_
 refine WL.nx (WC.ret ?_)
 exact leave1 rfl rfl (⟨r_11, v_12, fp_13, hV, rfl, h_14, hS⟩)
theorem S_showT {w0 : World} {H : View} {L : Seg} {w : World} {t_1 : Bool} {v_3 : Value} {b_2 : List UInt8} {fp_5 : Seg} {Q : (List UInt8) → Prop} (h_4 : OwnSl H cB8 5 v_3 b_2 fp_5) (hS : St w0 H (fp_5 ++ L) w) (hV : V_showT t_1 b_2 Q) :
 Calls Tryz.prog 273 #[.bool t_1, v_3] w fun e w' => ∃ (r1 : List UInt8) (v1 : Value) (fp1 : Seg), Q r1 ∧ e = .returned (v1) ∧ OwnSl H cB8 5 v1 r1 fp1 ∧ St w0 H (fp1 ++ L) w' := by
 unfold V_showT at hV
 refine enter func273 rfl ntmps273 rfl (lk_args_cons (d := 0) (v := .bool t_1) rfl (lk_args_cons (d := 1) (v := v_3) rfl (lk_args_nil _))) (WC.sr (R hS ?_))
 refine WL.nx (WC.sr ?_)
 iterate 2 refine R hS ?_
 refine Rc (enters0 (vs := [v_3, .bool t_1]) call275 ⟨rfl, rfl, trivial⟩) (S_appBool h_4 hS hV) ?_
 clear hV hS
 rintro _ w ⟨r_8, v_9, fp_10, hV, rfl, h_11, hS⟩
 refine ⟨_, rfl, ?_⟩
 refine R hS ?_
 refine WL.nx (WC.ret ?_)
 exact leave1 rfl rfl (⟨r_8, v_9, fp_10, hV, rfl, h_11, hS⟩)
theorem S_showN {w0 : World} {H : View} {L : Seg} {w : World} {n_1 : Int} {v_4 : Value} {b_3 : List UInt8} {fp_6 : Seg} {Q : (List UInt8) → Prop} (hr_2 : I64 n_1) (h_5 : OwnSl H cB8 5 v_4 b_3 fp_6) (hN : GlobN w0 H) (hS : St w0 H (fp_6 ++ L) w) (hV : V_showN n_1 b_3 Q) :
 Calls Tryz.prog 278 #[i6 n_1, v_4] w fun e w' => ∃ (r1 : List UInt8) (v1 : Value) (fp1 : Seg), Q r1 ∧ e = .returned (v1) ∧ OwnSl H cB8 5 v1 r1 fp1 ∧ St w0 H (fp1 ++ L) w' := by
 unfold V_showN at hV
 refine enter func278 rfl ntmps278 rfl (lk_args_cons (d := 0) (v := i6 n_1) rfl (lk_args_cons (d := 1) (v := v_4) rfl (lk_args_nil _))) (WC.sr (R hS ?_))
 refine WL.nx (WC.sr ?_)
 iterate 2 refine R hS ?_
 refine Rc (enters0 (vs := [v_4, i6 n_1, i6 (10 : Int)]) call280 ⟨rfl, rfl, rfl, trivial⟩) (S_appInt h_5 hr_2 (show I64 (10 : Int) by unfold I64; omega) hN hS hV) ?_
 clear hV hS
 rintro _ w ⟨r_9, v_10, fp_11, hV, rfl, h_12, hS⟩
 refine ⟨_, rfl, ?_⟩
 refine R hS ?_
 refine WL.nx (WC.ret ?_)
 exact leave1 rfl rfl (⟨r_9, v_10, fp_11, hV, rfl, h_12, hS⟩)
theorem S_showX {w0 : World} {H : View} {L : Seg} {w : World} {t_1 : Str} {v_3 : Value} {b_2 : List UInt8} {fp_5 : Seg} {Q : (List UInt8) → Prop} (h_4 : OwnSl H cB8 5 v_3 b_2 fp_5) (hS : St w0 H (fp_5 ++ L) w) (hV : V_showX t_1 b_2 Q) :
 Calls Tryz.prog 284 #[sv t_1, v_3] w fun e w' => ∃ (r1 : List UInt8) (v1 : Value) (fp1 : Seg), Q r1 ∧ e = .returned (v1) ∧ OwnSl H cB8 5 v1 r1 fp1 ∧ St w0 H (fp1 ++ L) w' := by
 unfold V_showX at hV
 refine enter func284 rfl ntmps284 rfl (lk_args_cons (d := 0) (v := sv t_1) rfl (lk_args_cons (d := 1) (v := v_3) rfl (lk_args_nil _))) (WC.sr (R hS ?_))
 refine WL.nx (WC.sr (R hS ?_))
 refine WL.build1 (c := cB8) (y := u8 (34 : Int)) rfl underlying71 info5 rfl rfl (cB8_mk (has_u8 ⟨by omega, by omega⟩)) hS ?_
 clear hS
 intro v_9 w fp_10 h_11 hS
 obtain ⟨hr_12, hV⟩ := hV
 replace hS := hS.f2
 refine WL.append (c := cB8) (xs := b_2) (ys := ([u8 (34 : Int)])) rfl underlying71 info5 rfl rfl rfl hS h_4 (h_11.src hS.f2) hr_12.1 hr_12.2 ?_
 clear hS
 intro v_13 w fp_14 h_15 hS
 refine R hS ?_
 obtain ⟨hr_17, hV⟩ := hV
 refine WL.appends (xs := (b_2 ++ ([u8 (34 : Int)]))) (s := t_1) rfl underlying71 underlying89 info5 rfl rfl rfl hS h_15 hr_17.1 hr_17.2 ?_
 clear hS
 intro v_18 w fp_19 h_20 hS
 refine WL.build1 (c := cB8) (y := u8 (34 : Int)) rfl underlying71 info5 rfl rfl (cB8_mk (has_u8 ⟨by omega, by omega⟩)) hS ?_
 clear hS
 intro v_23 w fp_24 h_25 hS
 obtain ⟨hr_26, hV⟩ := hV
 replace hS := hS.f2
 refine WL.append (c := cB8) (xs := ((b_2 ++ ([u8 (34 : Int)])) ++ t_1)) (ys := ([u8 (34 : Int)])) rfl underlying71 info5 rfl rfl rfl hS h_20 (h_25.src hS.f2) hr_26.1 hr_26.2 ?_
 clear hS
 intro v_27 w fp_28 h_29 hS
 refine R hS ?_
 refine WL.nx ?_
 replace hS := hS.f3.drop
 replace hS := hS.f2.drop
 refine WC.ret ?_
 exact leave1 rfl rfl (⟨(((b_2 ++ ([u8 (34 : Int)])) ++ t_1) ++ ([u8 (34 : Int)])), v_27, fp_28, hV, rfl, h_29, hS⟩)
theorem S_showA {w0 : World} {H : View} {L : Seg} {w : World} {a_1 : Str} {v_3 : Value} {b_2 : List UInt8} {fp_5 : Seg} {Q : (List UInt8) → Prop} (h_4 : OwnSl H cB8 5 v_3 b_2 fp_5) (hS : St w0 H (fp_5 ++ L) w) (hV : V_showA a_1 b_2 Q) :
 Calls Tryz.prog 287 #[sv a_1, v_3] w fun e w' => ∃ (r1 : List UInt8) (v1 : Value) (fp1 : Seg), Q r1 ∧ e = .returned (v1) ∧ OwnSl H cB8 5 v1 r1 fp1 ∧ St w0 H (fp1 ++ L) w' := by
 unfold V_showA at hV
 refine enter func287 rfl ntmps287 rfl (lk_args_cons (d := 0) (v := sv a_1) rfl (lk_args_cons (d := 1) (v := v_3) rfl (lk_args_nil _))) (WC.sr (R hS ?_))
 refine WL.nx (WC.sr ?_)
 iterate 2 refine R hS ?_
 obtain ⟨hr_8, hV⟩ := hV
 refine WL.appends (xs := b_2) (s := a_1) rfl underlying71 underlying91 info5 rfl rfl rfl hS h_4 hr_8.1 hr_8.2 ?_
 clear hS
 intro v_9 w fp_10 h_11 hS
 refine R hS ?_
 refine WL.nx (WC.ret ?_)
 exact leave1 rfl rfl (⟨(b_2 ++ a_1), v_9, fp_10, hV, rfl, h_11, hS⟩)
def H_put (G : Val → (List UInt8) → ((List UInt8) → Prop) → Prop) : Prop := ∀ {w0 : World} {H : View} {L : Seg} {w : World} {v_1 : Val} {u_2 : Value} {v_5 : Value} {b_4 : List UInt8} {fp_7 : Seg} {Q : (List UInt8) → Prop} (h_3 : IsW H u_2 v_1) (h_6 : OwnSl H cB8 5 v_5 b_4 fp_7) (hN : GlobN w0 H) (hS : St w0 H (fp_7 ++ L) w) (hV : G v_1 b_4 Q), Calls Tryz.prog 30 #[.agg #[u_2], v_5] w fun e w' => ∃ (r1 : List UInt8) (v1 : Value) (fp1 : Seg), Q r1 ∧ e = .returned (v1) ∧ OwnSl H cB8 5 v1 r1 fp1 ∧ St w0 H (fp1 ++ L) w'
theorem S_showS1 {G : Val → (List UInt8) → ((List UInt8) → Prop) → Prop} (hG : H_put G) {w0 : World} {H : View} {L : Seg} {w : World} {v_2 : Value} {b_1 : List UInt8} {fp_4 : Seg} {i_6 : Int} {b_9 : Nat} {c_8_11 : Val} {u_12 : Value} {Q : (List UInt8) → Prop} (h_3 : OwnSl H cB8 5 v_2 b_1 fp_4) (hr_7 : I64 i_6) (h_13 : IsPS H u_12 c_8_11) (hN : GlobN w0 H) (hS : St w0 H (fp_4 ++ ([(b_9, oc #[u_12] 93)] ++ L)) w) (hV : V_showS1 G b_1 i_6 c_8_11 Q) :
 Calls Tryz.prog 293 #[v_2, i6 i_6, (pq b_9)] w fun e w' => ∃ (r1 : List UInt8) (v1 : Value) (fp1 : Seg), Q r1 ∧ e = .returned (v1) ∧ OwnSl H cB8 5 v1 r1 fp1 ∧ St w0 H (fp1 ++ ([(b_9, oc #[u_12] 93)] ++ L)) w' := by
 unfold V_showS1 at hV
 refine enter func293 rfl ntmps293 rfl (lk_args_cons (d := 0) (v := v_2) rfl (lk_args_cons (d := 1) (v := i6 i_6) rfl (lk_args_cons (d := 2) (v := (pq b_9)) rfl (lk_args_nil _)))) (WC.sr (R hS ?_))
 refine WL.nx (WC.sr ?_)
 replace hS := hS.f2
 refine R hS ?_
 obtain ⟨hk_15, hV⟩ := hV
 refine Rn hS (ex_nc_set rfl h_13 hk_15) ?_
 refine Rx hS (ex_set_l underlying96 rfl sizeOf42 rfl rfl h_13 hk_15) ?_
 intro p_16 hp_17
 refine Rx hS (ex_load isAgg42 rfl rfl hp_17) ?_
 intro u_20 hu_21
 replace hu_21 := cSl_rep hu_21
 refine R hS ?_
 obtain ⟨hin_22, hV⟩ := hV
 refine Rx hS (ex_index underlying42 sizeOf25 rfl rfl hu_21 hin_22) ?_
 intro p_23 hp_24
 refine Rx hS (ex_load_agg isAgg25 sizeOf25 rfl hp_24) ?_
 rintro u_25 ⟨_, rfl, hu⟩
 obtain ⟨u_26, rfl, h_27⟩ := cV_one hu
 refine R hS ?_
 replace hS := hS.f2
 refine Rc (enters0 (vs := [.agg #[u_26], v_2]) call30 ⟨rfl, rfl, trivial⟩) (hG h_27 h_3 hN hS hV) ?_
 clear hV hS
 rintro _ w ⟨r_28, v_29, fp_30, hV, rfl, h_31, hS⟩
 refine ⟨_, rfl, ?_⟩
 refine R hS ?_
 refine WL.nx (Sb [(5, v_29)] ?_)
 refine WC.ret ?_
 replace hS := hS.f2.f2
 exact leave1 rfl rfl (⟨r_28, v_29, fp_30, hV, rfl, h_31, hS⟩)
theorem S_showF1 {G : Val → (List UInt8) → ((List UInt8) → Prop) → Prop} (hG : H_put G) {w0 : World} {H : View} {L : Seg} {w : World} {v_2 : Value} {b_1 : List UInt8} {fp_4 : Seg} {i_6 : Int} {b_9 : Nat} {c_8_11 : Val} {u_12 : Value} {Q : (List UInt8) → Prop} (h_3 : OwnSl H cB8 5 v_2 b_1 fp_4) (hr_7 : I64 i_6) (h_13 : IsPF H u_12 c_8_11) (hN : GlobN w0 H) (hS : St w0 H (fp_4 ++ ([(b_9, oc #[u_12] 97)] ++ L)) w) (hV : V_showF1 G b_1 i_6 c_8_11 Q) :
 Calls Tryz.prog 297 #[v_2, i6 i_6, (pq b_9)] w fun e w' => ∃ (r1 : List UInt8) (v1 : Value) (fp1 : Seg), Q r1 ∧ e = .returned (v1) ∧ OwnSl H cB8 5 v1 r1 fp1 ∧ St w0 H (fp1 ++ ([(b_9, oc #[u_12] 97)] ++ L)) w' := by
 unfold V_showF1 at hV
 refine enter func297 rfl ntmps297 rfl (lk_args_cons (d := 0) (v := v_2) rfl (lk_args_cons (d := 1) (v := i6 i_6) rfl (lk_args_cons (d := 2) (v := (pq b_9)) rfl (lk_args_nil _)))) (WC.sr (R hS ?_))
 refine WL.nx (WC.sr ?_)
 replace hS := hS.f2
 refine R hS ?_
 obtain ⟨hk_15, hV⟩ := hV
 refine Rn hS (ex_nc_fn rfl h_13 hk_15) ?_
 refine Rx hS (ex_fn_v underlying100 rfl sizeOf42 rfl rfl h_13 hk_15) ?_
 intro p_16 hp_17
 refine Rx hS (ex_load isAgg42 rfl rfl hp_17) ?_
 intro u_20 hu_21
 replace hu_21 := cSl_rep hu_21
 refine R hS ?_
 obtain ⟨hin_22, hV⟩ := hV
 refine Rx hS (ex_index underlying42 sizeOf25 rfl rfl hu_21 hin_22) ?_
 intro p_23 hp_24
 refine Rx hS (ex_load_agg isAgg25 sizeOf25 rfl hp_24) ?_
 rintro u_25 ⟨_, rfl, hu⟩
 obtain ⟨u_26, rfl, h_27⟩ := cV_one hu
 refine R hS ?_
 replace hS := hS.f2
 refine Rc (enters0 (vs := [.agg #[u_26], v_2]) call30 ⟨rfl, rfl, trivial⟩) (hG h_27 h_3 hN hS hV) ?_
 clear hV hS
 rintro _ w ⟨r_28, v_29, fp_30, hV, rfl, h_31, hS⟩
 refine ⟨_, rfl, ?_⟩
 refine R hS ?_
 refine WL.nx (Sb [(5, v_29)] ?_)
 refine WC.ret ?_
 replace hS := hS.f2.f2
 exact leave1 rfl rfl (⟨r_28, v_29, fp_30, hV, rfl, h_31, hS⟩)
theorem S_showF2 {G : Val → (List UInt8) → ((List UInt8) → Prop) → Prop} (hG : H_put G) {w0 : World} {H : View} {L : Seg} {w : World} {v_2 : Value} {b_1 : List UInt8} {fp_4 : Seg} {i_6 : Int} {b_9 : Nat} {c_8_11 : Val} {u_12 : Value} {Q : (List UInt8) → Prop} (h_3 : OwnSl H cB8 5 v_2 b_1 fp_4) (hr_7 : I64 i_6) (h_13 : IsPF H u_12 c_8_11) (hN : GlobN w0 H) (hS : St w0 H (fp_4 ++ ([(b_9, oc #[u_12] 97)] ++ L)) w) (hV : V_showF2 G b_1 i_6 c_8_11 Q) :
 Calls Tryz.prog 298 #[v_2, i6 i_6, (pq b_9)] w fun e w' => ∃ (r1 : List UInt8) (v1 : Value) (fp1 : Seg), Q r1 ∧ e = .returned (v1) ∧ OwnSl H cB8 5 v1 r1 fp1 ∧ St w0 H (fp1 ++ ([(b_9, oc #[u_12] 97)] ++ L)) w' := by
 unfold V_showF2 at hV
 refine enter func298 rfl ntmps298 rfl (lk_args_cons (d := 0) (v := v_2) rfl (lk_args_cons (d := 1) (v := i6 i_6) rfl (lk_args_cons (d := 2) (v := (pq b_9)) rfl (lk_args_nil _)))) (WC.sr (R hS ?_))
 refine WL.nx (WC.seq (WC.drawn (σ := [0, 1, 2, 3, 4, 5, 6, 7, 8, 9, 10, 11, 12, 13, 14, 15, 16, 17, 18]) (C := St w0 H (fp_4 ++ ([(b_9, oc #[u_12] 97)] ++ L))) [[], [0], [0, 1], [0, 1, 2], [], [0, 1, 2, 3, 4], [0, 1, 2, 3, 4, 5], [], [7], [7, 8], [7, 8, 9], [], [7, 8, 9, 10, 11], [7, 8, 9, 10, 11, 12], [], [7, 8, 9, 10, 11, 12, 13, 14], [7, 8, 9, 10, 11, 12, 13, 14, 15], [0, 1, 2, 3, 4, 5, 6, 7, 8, 9, 10, 11, 12, 13, 14, 15, 16], [0, 1, 2, 3, 4, 5, 6, 7, 8, 9, 10, 11, 12, 13, 14, 15, 16, 17]] [15, 16, 17] mixed (by kernel_rfl) (hS.drawn _) ?_))
 clear hS w
 refine Wd.runb (off := 0) rfl rfl rfl rfl (fun _ _ _ h => ex_load_box isAgg97 rfl h) rfl (fun _ h => St.f2 h) fun q_16 hq_15 => ?_
 obtain ⟨hk_19, hV⟩ := hV
 refine Wd.run rfl rfl rfl rfl (fun _ => ex_nc_fn rfl h_13 hk_19) fun q_18 hq_17 => ?_
 refine Wd.runx rfl rfl rfl rfl (exAll (ex_fn_v underlying100 rfl sizeOf42 rfl rfl h_13 hk_19)) ?_
 intro p_22 hp_23
 intro q_21 hq_20
 refine Wd.runs (fp := ([] : Seg)) (L := fp_4 ++ ([(b_9, oc #[u_12] 97)] ++ L)) rfl rfl rfl rfl (ex_load_s isAgg42 rfl rfl hp_23) (fun _ h => h) ?_
 intro u_28 hu_29
 replace hu_29 := cSl_rep hu_29
 intro q_25 hq_24
 refine Dm fun q_31 hq_30 => ?_
 obtain ⟨hin_34, hV⟩ := hV
 refine Wd.runx rfl rfl rfl rfl (exAll (ex_index underlying42 sizeOf25 rfl rfl hu_29 hin_34)) ?_
 intro p_35 hp_36
 intro q_33 hq_32
 refine Wd.runs (fp := ([] : Seg)) (L := fp_4 ++ ([(b_9, oc #[u_12] 97)] ++ L)) rfl rfl rfl rfl (ex_load_agg_s isAgg25 sizeOf25 rfl hp_36) (fun _ h => h) ?_
 rintro u_39 ⟨_, rfl, hu⟩
 obtain ⟨u_40, rfl, h_41⟩ := cV_one hu
 intro q_38 hq_37
 refine Wd.runb (off := 0) rfl rfl rfl rfl (fun _ _ _ h => ex_load_box isAgg97 rfl h) rfl (fun _ h => St.f2 h) fun q_43 hq_42 => ?_
 obtain ⟨hk_46, hV⟩ := hV
 refine Wd.run rfl rfl rfl rfl (fun _ => ex_nc_fn rfl h_13 hk_46) fun q_45 hq_44 => ?_
 refine Wd.runx rfl rfl rfl rfl (exAll (ex_fn_k underlying100 rfl sizeOf42 rfl rfl h_13 hk_46)) ?_
 intro p_49 hp_50
 intro q_48 hq_47
 refine Wd.runs (fp := ([] : Seg)) (L := fp_4 ++ ([(b_9, oc #[u_12] 97)] ++ L)) rfl rfl rfl rfl (ex_load_s isAgg42 rfl rfl hp_50) (fun _ h => h) ?_
 intro u_55 hu_56
 replace hu_56 := cSl_rep hu_56
 intro q_52 hq_51
 refine Dm fun q_58 hq_57 => ?_
 obtain ⟨hin_61, hV⟩ := hV
 refine Wd.runx rfl rfl rfl rfl (exAll (ex_index underlying42 sizeOf25 rfl rfl hu_56 hin_61)) ?_
 intro p_62 hp_63
 intro q_60 hq_59
 refine Wd.runs (fp := ([] : Seg)) (L := fp_4 ++ ([(b_9, oc #[u_12] 97)] ++ L)) rfl rfl rfl rfl (ex_load_agg_s isAgg25 sizeOf25 rfl hp_63) (fun _ h => h) ?_
 rintro u_66 ⟨_, rfl, hu⟩
 obtain ⟨u_67, rfl, h_68⟩ := cV_one hu
 intro q_65 hq_64
 refine Dm fun q_70 hq_69 => ?_
 refine Wd.turn rfl rfl rfl fun w hS => ?_
 refine Rc (enters0 (vs := [.agg #[u_67], v_2]) call30 ⟨rfl, rfl, trivial⟩) (hG h_68 h_3 hN hS hV) ?_
 clear hV hS
 rintro _ w ⟨r_71, v_72, fp_73, hV, rfl, h_74, hS⟩
 refine ⟨_, rfl, ?_⟩
 refine WL.nil (DQ.mk2 (C' := St w0 H (fp_73 ++ ([(b_9, oc #[u_12] 97)] ++ L))) hS ⟨il, il, il, il, il, il, il, il, .inr (hq_37 H (fp_73 ++ ([(b_9, oc #[u_12] 97)] ++ L)) _ (View.le.refl _) (fun _ h => h)), .inr (hq_32 _), .inr (hq_30 _), .inr (hq_24 H (fp_73 ++ ([(b_9, oc #[u_12] 97)] ++ L)) _ (View.le.refl _) (fun _ h => h)), .inr (hq_20 _), .inr (hq_17 _), .inr (hq_15 H (fp_73 ++ L) #[u_12] _ rfl (fun _ h => St.f2 h)), trivial⟩ ?_)
 clear hS w
 refine Wd.turn rfl rfl rfl fun w hS => ?_
 obtain ⟨hr_77, hV⟩ := hV
 refine WL.appends (xs := r_71) (s := ([58, 32] : Str)) rfl underlying71 underlying9 info5 rfl rfl rfl hS h_74 hr_77.1 hr_77.2 ?_
 clear hS
 intro v_78 w fp_79 h_80 hS
 refine WL.nil (DQ.mk2 (C' := St w0 H (fp_79 ++ ([(b_9, oc #[u_12] 97)] ++ L))) hS ⟨il, il, il, il, il, il, il, il, .inr (hq_37 H (fp_79 ++ ([(b_9, oc #[u_12] 97)] ++ L)) _ (View.le.refl _) (fun _ h => h)), .inr (hq_32 _), .inr (hq_30 _), .inr (hq_24 H (fp_79 ++ ([(b_9, oc #[u_12] 97)] ++ L)) _ (View.le.refl _) (fun _ h => h)), .inr (hq_20 _), .inr (hq_17 _), .inr (hq_15 H (fp_79 ++ L) #[u_12] _ rfl (fun _ h => St.f2 h)), trivial⟩ ?_)
 clear hS w
 refine Wd.turn rfl rfl rfl fun w hS => ?_
 refine Rc (enters0 (vs := [.agg #[u_40], v_78]) call30 ⟨rfl, rfl, trivial⟩) (hG h_41 h_80 hN hS hV) ?_
 clear hV hS
 rintro _ w ⟨r_82, v_83, fp_84, hV, rfl, h_85, hS⟩
 refine ⟨_, rfl, ?_⟩
 refine WL.nil (DQ.mk2 (C' := St w0 H (fp_84 ++ ([(b_9, oc #[u_12] 97)] ++ L))) hS ⟨il, il, il, il, il, il, il, il, il, il, il, il, il, il, il, trivial⟩ ?_)
 clear hS w
 refine Wd.run rfl rfl rfl rfl (fun _ => ex_assign rfl) fun q_89 hq_88 => ?_
 refine Wd.nil fun w hS => ?_
 refine WQ.next (Sb [(5, v_83)] ?_)
 refine WC.ret ?_
 replace hS := hS.f2.f2
 exact leave1 rfl rfl (⟨r_82, v_83, fp_84, hV, rfl, h_85, hS⟩)
theorem S_listedS {G : Val → (List UInt8) → ((List UInt8) → Prop) → Prop} (hG : H_put G) {w0 : World} {H : View} {L : Seg} {w : World} {v_2 : Value} {b_1 : List UInt8} {fp_4 : Seg} {n_6 : Int} {b_10 : Nat} {c_9_12 : Val} {u_13 : Value} {Q : (List UInt8) → Prop} (h_3 : OwnSl H cB8 5 v_2 b_1 fp_4) (hr_7 : I64 n_6) (h_14 : IsPS H u_13 c_9_12) (hN : GlobN w0 H) (hS : St w0 H (fp_4 ++ ([(b_10, oc #[u_13] 93)] ++ L)) w) (hV : V_listedS G b_1 n_6 c_9_12 Q) :
 Calls Tryz.prog 292 #[v_2, i6 n_6, .func (.func 293) #[] #[(pq b_10)]] w fun e w' => ∃ (r1 : List UInt8) (v1 : Value) (fp1 : Seg), Q r1 ∧ e = .returned (v1) ∧ OwnSl H cB8 5 v1 r1 fp1 ∧ St w0 H (fp1 ++ ([(b_10, oc #[u_13] 93)] ++ L)) w' := by
 unfold V_listedS at hV
 refine enter func292 rfl ntmps292 rfl (lk_args_cons (d := 0) (v := v_2) rfl (lk_args_cons (d := 1) (v := i6 n_6) rfl (lk_args_cons (d := 2) (v := .func (.func 293) #[] #[(pq b_10)]) rfl (lk_args_nil _)))) (WC.sr (R hS ?_))
 refine WL.nx (WC.seq (WC.sr ?_))
 iterate 2 refine R hS ?_
 refine WL.nx (WC.block ?_)
 replace hS := hS.f2.f2
 obtain ⟨I_85, mu_86, hI_119, hV⟩ := hV
 refine WC.loop (σ := (List UInt8) × Int) (fun s a w => ∃ (b_48 : List UInt8) (x_52 : Int) (v_49 : Value) (fp_50 : Seg), s = (b_48, x_52) ∧ I_85 (b_48, x_52) ∧ OwnSl H cB8 5 v_49 b_48 fp_50 ∧ I64 x_52 ∧ St w0 H (fp_50 ++ ([(b_10, oc #[u_13] 93)] ++ L)) w ∧ Fr 22 [(0, v_49), (2, .func (.func 293) #[] #[(pq b_10)]), (8, i6 n_6), (9, i6 x_52)] a) mu_86 (b_1, (0 : Int)) ?_ ?_
 exact fun a ha => ⟨b_1, (0 : Int), v_2, fp_4, rfl, hI_119, h_3, i0, hS, ha.os⟩
 clear hS hI_119
 rintro _ a w ⟨b_48, x_52, v_49, fp_50, rfl, hI, h_51, hr_53, hS, ha⟩
 refine in_frame ha ?_
 clear ha
 replace hV := hV _ hI
 clear hI
 refine WC.sr (R hS ?_)
 refine WL.nx (WC.seq ?_)
 refine Cd ?_ ?_
 intro hc_118
 replace hV := hV.1 (od hc_118)
 refine WC.skip (WQ.next (WC.seq (WC.block (WC.sr ?_))))
 iterate 2 refine R hS ?_
 refine WL.nx ?_
 obtain ⟨J_101, hJ_102, hV⟩ := hV
 refine WC.meet (fun a w => ∃ (b_97 : List UInt8) (v_98 : Value) (fp_99 : Seg), J_101 b_97 ∧ OwnSl H cB8 5 v_98 b_97 fp_99 ∧ St w0 H (fp_99 ++ ([(b_10, oc #[u_13] 93)] ++ L)) w ∧ Fr 22 [(0, v_98), (2, .func (.func 293) #[] #[(pq b_10)]), (7, i6 x_52), (8, i6 n_6), (9, i6 x_52)] a) ?_ ?_
 rintro a w ⟨b_97, v_98, fp_99, hI, h_100, hS, ha⟩
 refine in_frame ha ?_
 clear ha hV
 have hV := hJ_102 _ hI
 clear hI hJ_102
 refine WC.region ?_
 iterate 3 refine R hS ?_
 replace hS := hS.f2.f2
 refine Rc (enters_c (vs := [v_98, i6 x_52]) (caps := [(pq b_10)]) rfl call293 ⟨rfl, rfl, trivial⟩) (S_showS1 (@hG) h_100 hr_53 h_14 hN hS hV) ?_
 clear hV hS
 rintro _ w ⟨r_110, v_111, fp_112, hV, rfl, h_113, hS⟩
 refine ⟨_, rfl, ?_⟩
 refine R hS ?_
 refine WL.nil (WQ.out nofun (WQ.next (WC.region ?_)))
 obtain ⟨hi_117, hV⟩ := hV
 iterate 2 refine R hS ?_
 refine WL.nil ?_
 replace hS := hS.f2.f2
 exact Wt fun a ha => ⟨(r_110, (x_52 + (1 : Int))), ⟨r_110, (x_52 + (1 : Int)), v_111, fp_112, rfl, hV.1, h_113, hi_117, hS, ha.os⟩, hV.2⟩
 clear hJ_102
 refine WC.sr ?_
 iterate 2 refine R hS ?_
 refine WL.nx ?_
 refine Cd ?_ ?_
 intro hc_109
 replace hV := hV.1 (od hc_109)
 refine WC.region (R hS ?_)
 obtain ⟨hr_104, hV⟩ := hV
 refine WL.appends (xs := b_48) (s := ([44, 32] : Str)) rfl underlying71 underlying9 info5 rfl rfl rfl hS h_51 hr_104.1 hr_104.2 ?_
 clear hS
 intro v_105 w fp_106 h_107 hS
 refine R hS ?_
 refine WL.nil ?_
 replace hS := hS.f2.f2
 exact Wt fun a ha => ⟨(b_48 ++ ([44, 32] : Str)), v_105, fp_106, hV, h_107, hS, ha.os⟩
 intro hc_109
 replace hV := hV.2 (ov hc_109)
 refine WC.skip ?_
 replace hS := hS.f2.f2
 exact Wt fun a ha => ⟨b_48, v_49, fp_50, hV, h_51, hS, ha.os⟩
 intro hc_118
 replace hV := hV.2 (ov hc_118)
 refine WC.exit (Wp ?_)
 refine Wp ?_
 refine WQ.hit (WQ.next (WC.sr ?_))
 iterate 2 refine R hS ?_
 refine WL.nx (WC.ret ?_)
 replace hS := hS.f2.f2
 exact leave1 rfl rfl (⟨b_48, v_49, fp_50, hV, rfl, h_51, hS⟩)
theorem S_listedF1 {G : Val → (List UInt8) → ((List UInt8) → Prop) → Prop} (hG : H_put G) {w0 : World} {H : View} {L : Seg} {w : World} {v_2 : Value} {b_1 : List UInt8} {fp_4 : Seg} {n_6 : Int} {b_10 : Nat} {c_9_12 : Val} {u_13 : Value} {Q : (List UInt8) → Prop} (h_3 : OwnSl H cB8 5 v_2 b_1 fp_4) (hr_7 : I64 n_6) (h_14 : IsPF H u_13 c_9_12) (hN : GlobN w0 H) (hS : St w0 H (fp_4 ++ ([(b_10, oc #[u_13] 97)] ++ L)) w) (hV : V_listedF1 G b_1 n_6 c_9_12 Q) :
 Calls Tryz.prog 292 #[v_2, i6 n_6, .func (.func 297) #[] #[(pq b_10)]] w fun e w' => ∃ (r1 : List UInt8) (v1 : Value) (fp1 : Seg), Q r1 ∧ e = .returned (v1) ∧ OwnSl H cB8 5 v1 r1 fp1 ∧ St w0 H (fp1 ++ ([(b_10, oc #[u_13] 97)] ++ L)) w' := by
 unfold V_listedF1 at hV
 refine enter func292 rfl ntmps292 rfl (lk_args_cons (d := 0) (v := v_2) rfl (lk_args_cons (d := 1) (v := i6 n_6) rfl (lk_args_cons (d := 2) (v := .func (.func 297) #[] #[(pq b_10)]) rfl (lk_args_nil _)))) (WC.sr (R hS ?_))
 refine WL.nx (WC.seq (WC.sr ?_))
 iterate 2 refine R hS ?_
 refine WL.nx (WC.block ?_)
 replace hS := hS.f2.f2
 obtain ⟨I_85, mu_86, hI_119, hV⟩ := hV
 refine WC.loop (σ := (List UInt8) × Int) (fun s a w => ∃ (b_48 : List UInt8) (x_52 : Int) (v_49 : Value) (fp_50 : Seg), s = (b_48, x_52) ∧ I_85 (b_48, x_52) ∧ OwnSl H cB8 5 v_49 b_48 fp_50 ∧ I64 x_52 ∧ St w0 H (fp_50 ++ ([(b_10, oc #[u_13] 97)] ++ L)) w ∧ Fr 22 [(0, v_49), (2, .func (.func 297) #[] #[(pq b_10)]), (8, i6 n_6), (9, i6 x_52)] a) mu_86 (b_1, (0 : Int)) ?_ ?_
 exact fun a ha => ⟨b_1, (0 : Int), v_2, fp_4, rfl, hI_119, h_3, i0, hS, ha.os⟩
 clear hS hI_119
 rintro _ a w ⟨b_48, x_52, v_49, fp_50, rfl, hI, h_51, hr_53, hS, ha⟩
 refine in_frame ha ?_
 clear ha
 replace hV := hV _ hI
 clear hI
 refine WC.sr (R hS ?_)
 refine WL.nx (WC.seq ?_)
 refine Cd ?_ ?_
 intro hc_118
 replace hV := hV.1 (od hc_118)
 refine WC.skip (WQ.next (WC.seq (WC.block (WC.sr ?_))))
 iterate 2 refine R hS ?_
 refine WL.nx ?_
 obtain ⟨J_101, hJ_102, hV⟩ := hV
 refine WC.meet (fun a w => ∃ (b_97 : List UInt8) (v_98 : Value) (fp_99 : Seg), J_101 b_97 ∧ OwnSl H cB8 5 v_98 b_97 fp_99 ∧ St w0 H (fp_99 ++ ([(b_10, oc #[u_13] 97)] ++ L)) w ∧ Fr 22 [(0, v_98), (2, .func (.func 297) #[] #[(pq b_10)]), (7, i6 x_52), (8, i6 n_6), (9, i6 x_52)] a) ?_ ?_
 rintro a w ⟨b_97, v_98, fp_99, hI, h_100, hS, ha⟩
 refine in_frame ha ?_
 clear ha hV
 have hV := hJ_102 _ hI
 clear hI hJ_102
 refine WC.region ?_
 iterate 3 refine R hS ?_
 replace hS := hS.f2.f2
 refine Rc (enters_c (vs := [v_98, i6 x_52]) (caps := [(pq b_10)]) rfl call297 ⟨rfl, rfl, trivial⟩) (S_showF1 (@hG) h_100 hr_53 h_14 hN hS hV) ?_
 clear hV hS
 rintro _ w ⟨r_110, v_111, fp_112, hV, rfl, h_113, hS⟩
 refine ⟨_, rfl, ?_⟩
 refine R hS ?_
 refine WL.nil (WQ.out nofun (WQ.next (WC.region ?_)))
 obtain ⟨hi_117, hV⟩ := hV
 iterate 2 refine R hS ?_
 refine WL.nil ?_
 replace hS := hS.f2.f2
 exact Wt fun a ha => ⟨(r_110, (x_52 + (1 : Int))), ⟨r_110, (x_52 + (1 : Int)), v_111, fp_112, rfl, hV.1, h_113, hi_117, hS, ha.os⟩, hV.2⟩
 clear hJ_102
 refine WC.sr ?_
 iterate 2 refine R hS ?_
 refine WL.nx ?_
 refine Cd ?_ ?_
 intro hc_109
 replace hV := hV.1 (od hc_109)
 refine WC.region (R hS ?_)
 obtain ⟨hr_104, hV⟩ := hV
 refine WL.appends (xs := b_48) (s := ([44, 32] : Str)) rfl underlying71 underlying9 info5 rfl rfl rfl hS h_51 hr_104.1 hr_104.2 ?_
 clear hS
 intro v_105 w fp_106 h_107 hS
 refine R hS ?_
 refine WL.nil ?_
 replace hS := hS.f2.f2
 exact Wt fun a ha => ⟨(b_48 ++ ([44, 32] : Str)), v_105, fp_106, hV, h_107, hS, ha.os⟩
 intro hc_109
 replace hV := hV.2 (ov hc_109)
 refine WC.skip ?_
 replace hS := hS.f2.f2
 exact Wt fun a ha => ⟨b_48, v_49, fp_50, hV, h_51, hS, ha.os⟩
 intro hc_118
 replace hV := hV.2 (ov hc_118)
 refine WC.exit (Wp ?_)
 refine Wp ?_
 refine WQ.hit (WQ.next (WC.sr ?_))
 iterate 2 refine R hS ?_
 refine WL.nx (WC.ret ?_)
 replace hS := hS.f2.f2
 exact leave1 rfl rfl (⟨b_48, v_49, fp_50, hV, rfl, h_51, hS⟩)
theorem S_listedF2 {G : Val → (List UInt8) → ((List UInt8) → Prop) → Prop} (hG : H_put G) {w0 : World} {H : View} {L : Seg} {w : World} {v_2 : Value} {b_1 : List UInt8} {fp_4 : Seg} {n_6 : Int} {b_10 : Nat} {c_9_12 : Val} {u_13 : Value} {Q : (List UInt8) → Prop} (h_3 : OwnSl H cB8 5 v_2 b_1 fp_4) (hr_7 : I64 n_6) (h_14 : IsPF H u_13 c_9_12) (hN : GlobN w0 H) (hS : St w0 H (fp_4 ++ ([(b_10, oc #[u_13] 97)] ++ L)) w) (hV : V_listedF2 G b_1 n_6 c_9_12 Q) :
 Calls Tryz.prog 292 #[v_2, i6 n_6, .func (.func 298) #[] #[(pq b_10)]] w fun e w' => ∃ (r1 : List UInt8) (v1 : Value) (fp1 : Seg), Q r1 ∧ e = .returned (v1) ∧ OwnSl H cB8 5 v1 r1 fp1 ∧ St w0 H (fp1 ++ ([(b_10, oc #[u_13] 97)] ++ L)) w' := by
 unfold V_listedF2 at hV
 refine enter func292 rfl ntmps292 rfl (lk_args_cons (d := 0) (v := v_2) rfl (lk_args_cons (d := 1) (v := i6 n_6) rfl (lk_args_cons (d := 2) (v := .func (.func 298) #[] #[(pq b_10)]) rfl (lk_args_nil _)))) (WC.sr (R hS ?_))
 refine WL.nx (WC.seq (WC.sr ?_))
 iterate 2 refine R hS ?_
 refine WL.nx (WC.block ?_)
 replace hS := hS.f2.f2
 obtain ⟨I_85, mu_86, hI_119, hV⟩ := hV
 refine WC.loop (σ := (List UInt8) × Int) (fun s a w => ∃ (b_48 : List UInt8) (x_52 : Int) (v_49 : Value) (fp_50 : Seg), s = (b_48, x_52) ∧ I_85 (b_48, x_52) ∧ OwnSl H cB8 5 v_49 b_48 fp_50 ∧ I64 x_52 ∧ St w0 H (fp_50 ++ ([(b_10, oc #[u_13] 97)] ++ L)) w ∧ Fr 22 [(0, v_49), (2, .func (.func 298) #[] #[(pq b_10)]), (8, i6 n_6), (9, i6 x_52)] a) mu_86 (b_1, (0 : Int)) ?_ ?_
 exact fun a ha => ⟨b_1, (0 : Int), v_2, fp_4, rfl, hI_119, h_3, i0, hS, ha.os⟩
 clear hS hI_119
 rintro _ a w ⟨b_48, x_52, v_49, fp_50, rfl, hI, h_51, hr_53, hS, ha⟩
 refine in_frame ha ?_
 clear ha
 replace hV := hV _ hI
 clear hI
 refine WC.sr (R hS ?_)
 refine WL.nx (WC.seq ?_)
 refine Cd ?_ ?_
 intro hc_118
 replace hV := hV.1 (od hc_118)
 refine WC.skip (WQ.next (WC.seq (WC.block (WC.sr ?_))))
 iterate 2 refine R hS ?_
 refine WL.nx ?_
 obtain ⟨J_101, hJ_102, hV⟩ := hV
 refine WC.meet (fun a w => ∃ (b_97 : List UInt8) (v_98 : Value) (fp_99 : Seg), J_101 b_97 ∧ OwnSl H cB8 5 v_98 b_97 fp_99 ∧ St w0 H (fp_99 ++ ([(b_10, oc #[u_13] 97)] ++ L)) w ∧ Fr 22 [(0, v_98), (2, .func (.func 298) #[] #[(pq b_10)]), (7, i6 x_52), (8, i6 n_6), (9, i6 x_52)] a) ?_ ?_
 rintro a w ⟨b_97, v_98, fp_99, hI, h_100, hS, ha⟩
 refine in_frame ha ?_
 clear ha hV
 have hV := hJ_102 _ hI
 clear hI hJ_102
 refine WC.region ?_
 iterate 3 refine R hS ?_
 replace hS := hS.f2.f2
 refine Rc (enters_c (vs := [v_98, i6 x_52]) (caps := [(pq b_10)]) rfl call298 ⟨rfl, rfl, trivial⟩) (S_showF2 (@hG) h_100 hr_53 h_14 hN hS hV) ?_
 clear hV hS
 rintro _ w ⟨r_110, v_111, fp_112, hV, rfl, h_113, hS⟩
 refine ⟨_, rfl, ?_⟩
 refine R hS ?_
 refine WL.nil (WQ.out nofun (WQ.next (WC.region ?_)))
 obtain ⟨hi_117, hV⟩ := hV
 iterate 2 refine R hS ?_
 refine WL.nil ?_
 replace hS := hS.f2.f2
 exact Wt fun a ha => ⟨(r_110, (x_52 + (1 : Int))), ⟨r_110, (x_52 + (1 : Int)), v_111, fp_112, rfl, hV.1, h_113, hi_117, hS, ha.os⟩, hV.2⟩
 clear hJ_102
 refine WC.sr ?_
 iterate 2 refine R hS ?_
 refine WL.nx ?_
 refine Cd ?_ ?_
 intro hc_109
 replace hV := hV.1 (od hc_109)
 refine WC.region (R hS ?_)
 obtain ⟨hr_104, hV⟩ := hV
 refine WL.appends (xs := b_48) (s := ([44, 32] : Str)) rfl underlying71 underlying9 info5 rfl rfl rfl hS h_51 hr_104.1 hr_104.2 ?_
 clear hS
 intro v_105 w fp_106 h_107 hS
 refine R hS ?_
 refine WL.nil ?_
 replace hS := hS.f2.f2
 exact Wt fun a ha => ⟨(b_48 ++ ([44, 32] : Str)), v_105, fp_106, hV, h_107, hS, ha.os⟩
 intro hc_109
 replace hV := hV.2 (ov hc_109)
 refine WC.skip ?_
 replace hS := hS.f2.f2
 exact Wt fun a ha => ⟨b_48, v_49, fp_50, hV, h_51, hS, ha.os⟩
 intro hc_118
 replace hV := hV.2 (ov hc_118)
 refine WC.exit (Wp ?_)
 refine Wp ?_
 refine WQ.hit (WQ.next (WC.sr ?_))
 iterate 2 refine R hS ?_
 refine WL.nx (WC.ret ?_)
 replace hS := hS.f2.f2
 exact leave1 rfl rfl (⟨b_48, v_49, fp_50, hV, rfl, h_51, hS⟩)
theorem S_sequential {w0 : World} {H : View} {L : Seg} {w : World} {v_2 : Value} {keys_1 : List (Val)} {Q : Bool → Prop} (h_3 : IsSl H cV v_2 keys_1) (hS : St w0 H (L) w) (hV : V_sequential keys_1 Q) :
 Calls Tryz.prog 209 #[v_2] w fun e w' => ∃ (r1 : Bool), Q r1 ∧ e = .returned (.bool r1) ∧ St w0 H (L) w' := by
 unfold V_sequential at hV
 refine enter func209 rfl ntmps209 rfl (lk_args_cons (d := 0) (v := v_2) rfl (lk_args_nil _)) (WC.sr (R hS ?_))
 refine WL.nx (WC.seq (WC.sr (R hS ?_)))
 have hl_4 : Len keys_1 := h_3.bound
 replace hV := hV hl_4
 refine Rn hS (ex_len_sl underlying42 rfl h_3) ?_
 refine R hS ?_
 refine WL.nx (WC.block ?_)
 obtain ⟨I_55, mu_56, hI_82, hV⟩ := hV
 refine WC.loop (σ := Int) (fun s a w => ∃ (x_29 : Int), s = x_29 ∧ I_55 x_29 ∧ I64 x_29 ∧ St w0 H (L) w ∧ Fr 29 [(7, v_2), (8, i6 (keys_1.length : Int)), (9, i6 x_29)] a) mu_56 (0 : Int) ?_ ?_
 exact fun a ha => ⟨(0 : Int), rfl, hI_82, i0, hS, ha.os⟩
 clear hS hI_82
 rintro x_29 a w ⟨_, rfl, hI, hr_30, hS, ha⟩
 refine in_frame ha ?_
 clear ha
 replace hV := hV _ hI
 clear hI
 refine WC.sr (R hS ?_)
 refine WL.nx (WC.seq ?_)
 refine Cd ?_ ?_
 intro hc_81
 replace hV := hV.1 (od hc_81)
 refine WC.skip (WQ.next (WC.seq (WC.block (WC.sr (R hS ?_)))))
 obtain ⟨hin_59, hV⟩ := hV
 refine Rx hS (ex_index underlying42 sizeOf25 rfl rfl h_3 hin_59) ?_
 intro p_60 hp_61
 refine Rx hS (ex_load_agg isAgg25 sizeOf25 rfl hp_61) ?_
 rintro u_62 ⟨_, rfl, hu⟩
 obtain ⟨u_63, rfl, h_64⟩ := cV_one hu
 refine WL.alloc (arr := #[.nilIface]) rfl zeroValue25 rfl hS ?_
 clear hS
 intro b_65 w hS
 refine R hS ?_
 refine St1 #[u_63] sizeOf25 hS ?_ (cs := [u_63]) (hone := ⟨(IsW.one h_64), trivial⟩)
 clear hS
 intro w hS
 refine WL.nx (WC.sr ?_)
 iterate 2 refine R hS ?_
 refine Rn hS (ex_as_num concrete87 zeroValue87 rfl h_64) ?_
 iterate 5 refine R hS ?_
 refine WL.nx (Sb [(3, i6 x_29), (5, i6 ((ix keys_1 x_29).numD)), (6, .bool ((ix keys_1 x_29).isNum)), (7, v_2), (8, i6 (keys_1.length : Int)), (9, i6 x_29)] ?_)
 replace hS := hS.drop
 obtain ⟨J_72, hJ_73, hV⟩ := hV
 refine WC.meet (fun a w => ∃ (x_71 : Bool), J_72 x_71 ∧ St w0 H (L) w ∧ Fr 29 [(7, v_2), (8, i6 (keys_1.length : Int)), (9, i6 x_29), (27, .bool x_71)] a) ?_ ?_
 rintro a w ⟨x_71, hI, hS, ha⟩
 refine in_frame ha ?_
 clear ha hV
 have hV := hJ_73 _ hI
 clear hI hJ_73
 refine Cd ?_ ?_
 intro hc_80
 replace hV := hV.1 hc_80
 refine WC.sr (R hS ?_)
 refine WL.nx (WC.ret (WQ.out nofun (Wp ?_)))
 refine Wp ?_
 refine WQ.out nofun (Wp ?_)
 exact leave1 rfl rfl (⟨false, hV, rfl, hS⟩)
 intro hc_80
 replace hV := hV.2 hc_80
 refine WC.skip (WQ.out nofun (WQ.next (WC.region ?_)))
 obtain ⟨hi_79, hV⟩ := hV
 iterate 2 refine R hS ?_
 refine WL.nil ?_
 exact Wt fun a ha => ⟨(x_29 + (1 : Int)), ⟨(x_29 + (1 : Int)), rfl, hV.1, hi_79, hS, ha.os⟩, hV.2⟩
 clear hJ_73
 refine WC.region ?_
 iterate 3 refine R hS ?_
 rcases bft (!((ix keys_1 x_29).isNum)) with hg_74 | hg_74
 replace hV := hV.1 hg_74
 iterate 5 refine R hS ?_
 refine WL.nil ?_
 exact Wt fun a ha => ⟨true, hV, hS, ha.os⟩
 replace hV := hV.2 hg_74
 iterate 2 refine R hS ?_
 refine Ug hg_74 ?_
 obtain ⟨hi_76, hV⟩ := hV
 iterate 3 refine R hS ?_
 refine WL.nil ?_
 exact Wt fun a ha => ⟨decide ((ix keys_1 x_29).numD ≠ (x_29 + (1 : Int))), hV, hS, ha.os⟩
 intro hc_81
 replace hV := hV.2 (ov hc_81)
 refine WC.exit (Wp ?_)
 refine Wp ?_
 refine WQ.hit (WQ.next (WC.sr (R hS ?_)))
 refine WL.nx (WC.ret ?_)
 exact leave1 rfl rfl (⟨true, hV, rfl, hS⟩)
theorem S_showS {G : Val → (List UInt8) → ((List UInt8) → Prop) → Prop} (hG : H_put G) {w0 : World} {H : View} {L : Seg} {w : World} {s_1 : Val} {u_2 : Value} {v_5 : Value} {b_4 : List UInt8} {fp_7 : Seg} {Q : (List UInt8) → Prop} (h_3 : IsPS H u_2 s_1) (h_6 : OwnSl H cB8 5 v_5 b_4 fp_7) (hN : GlobN w0 H) (hS : St w0 H (fp_7 ++ L) w) (hV : V_showS G s_1 b_4 Q) :
 Calls Tryz.prog 290 #[u_2, v_5] w fun e w' => ∃ (r1 : List UInt8) (v1 : Value) (fp1 : Seg), Q r1 ∧ e = .returned (v1) ∧ OwnSl H cB8 5 v1 r1 fp1 ∧ St w0 H (fp1 ++ L) w' := by
 unfold V_showS at hV
 refine enter func290 rfl ntmps290 rfl (lk_args_cons (d := 0) (v := u_2) rfl (lk_args_cons (d := 1) (v := v_5) rfl (lk_args_nil _))) (WC.sr (WL.box (arr := #[u_2]) rfl rfl (cells_one (IsPS.one h_3)) hS ?_))
 clear hS
 intro b_9 w hS
 refine R hS ?_
 refine WL.nx (WC.sr (R hS ?_))
 refine WL.build1 (c := cB8) (y := u8 (123 : Int)) rfl underlying71 info5 rfl rfl (cB8_mk (has_u8 ⟨by omega, by omega⟩)) hS ?_
 clear hS
 intro v_13 w fp_14 h_15 hS
 obtain ⟨hr_16, hV⟩ := hV
 replace hS := hS.f3
 refine WL.append (c := cB8) (xs := b_4) (ys := ([u8 (123 : Int)])) rfl underlying71 info5 rfl rfl rfl hS h_6 (h_15.src hS.f2) hr_16.1 hr_16.2 ?_
 clear hS
 intro v_17 w fp_18 h_19 hS
 refine R hS ?_
 refine WL.nx ?_
 replace hS := hS.f2.drop
 refine WC.sr (R hS ?_)
 replace hS := hS.f2
 refine R hS ?_
 obtain ⟨hk_21, hV⟩ := hV
 refine Rn hS (ex_nc_set rfl h_3 hk_21) ?_
 refine Rx hS (ex_set_l underlying96 rfl sizeOf42 rfl rfl h_3 hk_21) ?_
 intro p_22 hp_23
 refine Rx hS (ex_load isAgg42 rfl rfl hp_23) ?_
 intro u_26 hu_27
 replace hu_27 := cSl_rep hu_27
 have hl_28 : Len (s_1.setL) := hu_27.bound
 replace hV := hV hl_28
 refine Rn hS (ex_len_sl underlying42 rfl hu_27) ?_
 refine Rn hS (ex_makeFunc (vs := [(pq b_9)]) ⟨rfl, trivial⟩) ?_
 replace hS := hS.f2
 refine Rc (enters0 (vs := [v_17, i6 ((s_1.setL).length : Int), .func (.func 293) #[] #[(pq b_9)]]) call292 ⟨rfl, rfl, rfl, trivial⟩) (S_listedS (@hG) h_19 (Len.i64 hl_28) h_3 hN hS hV) ?_
 clear hV hS
 rintro _ w ⟨r_29, v_30, fp_31, hV, rfl, h_32, hS⟩
 refine ⟨_, rfl, ?_⟩
 refine R hS ?_
 refine WL.nx (Sb [(1, v_30)] ?_)
 replace hS := hS.f2.drop
 refine WC.sr (R hS ?_)
 refine WL.build1 (c := cB8) (y := u8 (125 : Int)) rfl underlying71 info5 rfl rfl (cB8_mk (has_u8 ⟨by omega, by omega⟩)) hS ?_
 clear hS
 intro v_36 w fp_37 h_38 hS
 obtain ⟨hr_39, hV⟩ := hV
 replace hS := hS.f2
 refine WL.append (c := cB8) (xs := r_29) (ys := ([u8 (125 : Int)])) rfl underlying71 info5 rfl rfl rfl hS h_32 (h_38.src hS.f2) hr_39.1 hr_39.2 ?_
 clear hS
 intro v_40 w fp_41 h_42 hS
 refine R hS ?_
 refine WL.nx ?_
 replace hS := hS.f2.drop
 refine WC.ret ?_
 exact leave1 rfl rfl (⟨(r_29 ++ ([u8 (125 : Int)])), v_40, fp_41, hV, rfl, h_42, hS⟩)
theorem S_showF {G : Val → (List UInt8) → ((List UInt8) → Prop) → Prop} (hG : H_put G) {w0 : World} {H : View} {L : Seg} {w : World} {f_1 : Val} {u_2 : Value} {v_5 : Value} {b_4 : List UInt8} {fp_7 : Seg} {Q : (List UInt8) → Prop} (h_3 : IsPF H u_2 f_1) (h_6 : OwnSl H cB8 5 v_5 b_4 fp_7) (hN : GlobN w0 H) (hS : St w0 H (fp_7 ++ L) w) (hV : V_showF G f_1 b_4 Q) :
 Calls Tryz.prog 295 #[u_2, v_5] w fun e w' => ∃ (r1 : List UInt8) (v1 : Value) (fp1 : Seg), Q r1 ∧ e = .returned (v1) ∧ OwnSl H cB8 5 v1 r1 fp1 ∧ St w0 H (fp1 ++ L) w' := by
 unfold V_showF at hV
 refine enter func295 rfl ntmps295 rfl (lk_args_cons (d := 0) (v := u_2) rfl (lk_args_cons (d := 1) (v := v_5) rfl (lk_args_nil _))) (WC.sr (WL.box (arr := #[u_2]) rfl rfl (cells_one (IsPF.one h_3)) hS ?_))
 clear hS
 intro b_9 w hS
 refine R hS ?_
 refine WL.nx (WC.seq (WC.sr (R hS ?_)))
 obtain ⟨hk_12, hV⟩ := hV
 refine Rn hS (ex_nc_fn rfl h_3 hk_12) ?_
 refine Rx hS (ex_fn_k underlying100 rfl sizeOf42 rfl rfl h_3 hk_12) ?_
 intro p_13 hp_14
 refine Rx hS (ex_load isAgg42 rfl rfl hp_14) ?_
 intro u_17 hu_18
 replace hu_18 := cSl_rep hu_18
 refine Rc (enters0 (vs := [u_17]) call209 ⟨rfl, trivial⟩) (S_sequential hu_18 hS hV) ?_
 clear hV hS
 rintro _ w ⟨r_19, hV, rfl, hS⟩
 refine ⟨_, rfl, ?_⟩
 refine WL.nx ?_
 refine Cd ?_ ?_
 intro hc_77
 replace hV := hV.1 hc_77
 refine WC.sr (R hS ?_)
 obtain ⟨hr_21, hV⟩ := hV
 replace hS := hS.f2
 refine WL.appends (xs := b_4) (s := ([60, 60] : Str)) rfl underlying71 underlying9 info5 rfl rfl rfl hS h_6 hr_21.1 hr_21.2 ?_
 clear hS
 intro v_22 w fp_23 h_24 hS
 refine R hS ?_
 refine WL.nx (WC.sr (R hS ?_))
 replace hS := hS.f2
 refine R hS ?_
 obtain ⟨hk_26, hV⟩ := hV
 refine Rn hS (ex_nc_fn rfl h_3 hk_26) ?_
 refine Rx hS (ex_fn_v underlying100 rfl sizeOf42 rfl rfl h_3 hk_26) ?_
 intro p_27 hp_28
 refine Rx hS (ex_load isAgg42 rfl rfl hp_28) ?_
 intro u_31 hu_32
 replace hu_32 := cSl_rep hu_32
 have hl_33 : Len (f_1.fnV) := hu_32.bound
 replace hV := hV hl_33
 refine Rn hS (ex_len_sl underlying42 rfl hu_32) ?_
 refine Rn hS (ex_makeFunc (vs := [(pq b_9)]) ⟨rfl, trivial⟩) ?_
 replace hS := hS.f2
 refine Rc (enters0 (vs := [v_22, i6 ((f_1.fnV).length : Int), .func (.func 297) #[] #[(pq b_9)]]) call292 ⟨rfl, rfl, rfl, trivial⟩) (S_listedF1 (@hG) h_24 (Len.i64 hl_33) h_3 hN hS hV) ?_
 clear hV hS
 rintro _ w ⟨r_34, v_35, fp_36, hV, rfl, h_37, hS⟩
 refine ⟨_, rfl, ?_⟩
 refine R hS ?_
 refine WL.nx (Sb [(1, v_35)] ?_)
 replace hS := hS.f2.drop
 refine WC.sr (R hS ?_)
 obtain ⟨hr_40, hV⟩ := hV
 refine WL.appends (xs := r_34) (s := ([62, 62] : Str)) rfl underlying71 underlying9 info5 rfl rfl rfl hS h_37 hr_40.1 hr_40.2 ?_
 clear hS
 intro v_41 w fp_42 h_43 hS
 refine R hS ?_
 refine WL.nx (WC.ret (Wp ?_))
 exact leave1 rfl rfl (⟨(r_34 ++ ([62, 62] : Str)), v_41, fp_42, hV, rfl, h_43, hS⟩)
 intro hc_77
 replace hV := hV.2 hc_77
 refine WC.skip (WQ.next (WC.sr (R hS ?_)))
 refine WL.build1 (c := cB8) (y := u8 (91 : Int)) rfl underlying71 info5 rfl rfl (cB8_mk (has_u8 ⟨by omega, by omega⟩)) hS ?_
 clear hS
 intro v_46 w fp_47 h_48 hS
 obtain ⟨hr_49, hV⟩ := hV
 replace hS := hS.f3
 refine WL.append (c := cB8) (xs := b_4) (ys := ([u8 (91 : Int)])) rfl underlying71 info5 rfl rfl rfl hS h_6 (h_48.src hS.f2) hr_49.1 hr_49.2 ?_
 clear hS
 intro v_50 w fp_51 h_52 hS
 refine R hS ?_
 refine WL.nx ?_
 replace hS := hS.f2.drop
 refine WC.sr (R hS ?_)
 replace hS := hS.f2
 refine R hS ?_
 obtain ⟨hk_54, hV⟩ := hV
 refine Rn hS (ex_nc_fn rfl h_3 hk_54) ?_
 refine Rx hS (ex_fn_k underlying100 rfl sizeOf42 rfl rfl h_3 hk_54) ?_
 intro p_55 hp_56
 refine Rx hS (ex_load isAgg42 rfl rfl hp_56) ?_
 intro u_59 hu_60
 replace hu_60 := cSl_rep hu_60
 have hl_61 : Len (f_1.fnK) := hu_60.bound
 replace hV := hV hl_61
 refine Rn hS (ex_len_sl underlying42 rfl hu_60) ?_
 refine Rn hS (ex_makeFunc (vs := [(pq b_9)]) ⟨rfl, trivial⟩) ?_
 replace hS := hS.f2
 refine Rc (enters0 (vs := [v_50, i6 ((f_1.fnK).length : Int), .func (.func 298) #[] #[(pq b_9)]]) call292 ⟨rfl, rfl, rfl, trivial⟩) (S_listedF2 (@hG) h_52 (Len.i64 hl_61) h_3 hN hS hV) ?_
 clear hV hS
 rintro _ w ⟨r_62, v_63, fp_64, hV, rfl, h_65, hS⟩
 refine ⟨_, rfl, ?_⟩
 refine R hS ?_
 refine WL.nx (Sb [(1, v_63)] ?_)
 replace hS := hS.f2.drop
 refine WC.sr (R hS ?_)
 refine WL.build1 (c := cB8) (y := u8 (93 : Int)) rfl underlying71 info5 rfl rfl (cB8_mk (has_u8 ⟨by omega, by omega⟩)) hS ?_
 clear hS
 intro v_69 w fp_70 h_71 hS
 obtain ⟨hr_72, hV⟩ := hV
 replace hS := hS.f2
 refine WL.append (c := cB8) (xs := r_62) (ys := ([u8 (93 : Int)])) rfl underlying71 info5 rfl rfl rfl hS h_65 (h_71.src hS.f2) hr_72.1 hr_72.2 ?_
 clear hS
 intro v_73 w fp_74 h_75 hS
 refine R hS ?_
 refine WL.nx ?_
 replace hS := hS.f2.drop
 refine WC.ret ?_
 exact leave1 rfl rfl (⟨(r_62 ++ ([u8 (93 : Int)])), v_73, fp_74, hV, rfl, h_75, hS⟩)
theorem Tryz.m_showT (v : Value) (args : Array Value) (w : World) : (callMethod (.iface 86 v) "sextant/value.show" args).run Tryz.prog w = .ok (.enter 273 (#[v] ++ args)) w := by kernel_rfl
theorem Tryz.m_showN (v : Value) (args : Array Value) (w : World) : (callMethod (.iface 87 v) "sextant/value.show" args).run Tryz.prog w = .ok (.enter 278 (#[v] ++ args)) w := by kernel_rfl
theorem Tryz.m_showX (v : Value) (args : Array Value) (w : World) : (callMethod (.iface 89 v) "sextant/value.show" args).run Tryz.prog w = .ok (.enter 284 (#[v] ++ args)) w := by kernel_rfl
theorem Tryz.m_showA (v : Value) (args : Array Value) (w : World) : (callMethod (.iface 91 v) "sextant/value.show" args).run Tryz.prog w = .ok (.enter 287 (#[v] ++ args)) w := by kernel_rfl
theorem Tryz.m_showS (v : Value) (args : Array Value) (w : World) : (callMethod (.iface 93 v) "sextant/value.show" args).run Tryz.prog w = .ok (.enter 290 (#[v] ++ args)) w := by kernel_rfl
theorem Tryz.m_showF (v : Value) (args : Array Value) (w : World) : (callMethod (.iface 97 v) "sextant/value.show" args).run Tryz.prog w = .ok (.enter 295 (#[v] ++ args)) w := by kernel_rfl
theorem S_ishow {G : Val → List UInt8 → (List UInt8 → Prop) → Prop} (hG : H_put G) {w0 : World} {H : View} {L : Seg} {w : World} {x : Val} {u : Value} {v0 : Value} {b : Str} {fp : Seg} {Q : Str → Prop} (hx : IsW H u x) (hb : OwnSl H cB8 5 v0 b fp) (hN : GlobN w0 H) (hS : St w0 H (fp ++ L) w) (hV : V_ishow G x b Q) :
    ∃ (f : Nat) (args : Array Value), (∀ w, (callMethod u "sextant/value.show" ([v0] : List Value).toArray).run Tryz.prog w = .ok (.enter f args) w) ∧ Calls Tryz.prog f args w fun e w' => ∃ (r1 : List UInt8) (v1 : Value) (fp1 : Seg), Q r1 ∧ e = .returned (v1) ∧ OwnSl H cB8 5 v1 r1 fp1 ∧ St w0 H (fp1 ++ L) w' := by
  cases x with
  | nil => exact hV.elim
  | truth t => obtain rfl := hx; exact ⟨_, _, Tryz.m_showT (.bool t) _, S_showT hb hS hV⟩
  | num n => obtain ⟨rfl, hr⟩ := hx; exact ⟨_, _, Tryz.m_showN (.int .i64 n) _, S_showN hr hb hN hS hV⟩
  | text s => obtain rfl := hx; exact ⟨_, _, Tryz.m_showX (sv s) _, S_showX hb hS hV⟩
  | atom s => obtain rfl := hx; exact ⟨_, _, Tryz.m_showA (sv s) _, S_showA hb hS hV⟩
  | set l h => have hx2 := hx; obtain ⟨b, v, fz, rfl, h2⟩ := hx; exact ⟨_, _, Tryz.m_showS _ _, S_showS (@hG) (IsPS.mk hx2) hb hN hS hV⟩
  | fn k v h => have hx2 := hx; obtain ⟨b, v1, v2, fz, rfl, h2⟩ := hx; exact ⟨_, _, Tryz.m_showF _ _, S_showF (@hG) (IsPF.mk hx2) hb hN hS hV⟩
theorem S_put (m0 : Nat) : ∀ {w0 : World} {H : View} {L : Seg} {w : World} {v_1 : Val} {u_2 : Value} {v_5 : Value} {b_4 : List UInt8} {fp_7 : Seg} {Q : (List UInt8) → Prop} (h_3 : IsW H u_2 v_1) (h_6 : OwnSl H cB8 5 v_5 b_4 fp_7) (hN : GlobN w0 H) (hS : St w0 H (fp_7 ++ L) w) (hV : V_put m0 v_1 b_4 Q),
 Calls Tryz.prog 30 #[.agg #[u_2], v_5] w fun e w' => ∃ (r1 : List UInt8) (v1 : Value) (fp1 : Seg), Q r1 ∧ e = .returned (v1) ∧ OwnSl H cB8 5 v1 r1 fp1 ∧ St w0 H (fp1 ++ L) w' := by
 induction m0 with
 | zero => intro w0 H L w v_1 u_2 v_5 b_4 fp_7 Q h_3 h_6 hN hS hV; exact hV.elim
 | succ m0 ih =>
  intro w0 H L w v_1 u_2 v_5 b_4 fp_7 Q h_3 h_6 hN hS hV
  unfold V_put at hV
  refine enter func30 rfl ntmps30 rfl (lk_args_cons (d := 0) (v := .agg #[u_2]) rfl (lk_args_cons (d := 1) (v := v_5) rfl (lk_args_nil _))) (WC.sr (WL.box (arr := #[u_2]) rfl rfl rfl hS ?_))
  clear hS
  intro b_9 w hS
  refine R hS ?_
  refine WL.nx (WC.seq (WC.sr ?_))
  iterate 2 refine R hS ?_
  refine Rn hS (ex_v_eql iface23 rfl h_3) ?_
  refine WL.nx ?_
  refine Cd ?_ ?_
  intro hc_27
  replace hV := hV.1 hc_27
  refine WC.sr (R hS ?_)
  obtain ⟨hr_12, hV⟩ := hV
  replace hS := hS.f2
  refine WL.appends (xs := b_4) (s := ([110, 105, 108] : Str)) rfl underlying71 underlying9 info5 rfl rfl rfl hS h_6 hr_12.1 hr_12.2 ?_
  clear hS
  intro v_13 w fp_14 h_15 hS
  refine R hS ?_
  refine WL.nx ?_
  replace hS := hS.f2.drop
  refine WC.ret (Wp ?_)
  exact leave1 rfl rfl (⟨(b_4 ++ ([110, 105, 108] : Str)), v_13, fp_14, hV, rfl, h_15, hS⟩)
  intro hc_27
  replace hV := hV.2 hc_27
  refine WC.skip (WQ.next (WC.sr ?_))
  iterate 3 refine R hS ?_
  replace hS := hS.f2
  obtain ⟨f_22, g_23, he_24, hc_25⟩ := S_ishow (@ih) h_3 h_6 hN hS hV
  refine Rc (enters_i (vs := [v_5]) rfl ⟨rfl, trivial⟩ he_24) (hc_25) ?_
  clear hV hS
  rintro _ w ⟨r_17, v_18, fp_19, hV, rfl, h_20, hS⟩
  refine ⟨_, rfl, ?_⟩
  refine R hS ?_
  refine WL.nx ?_
  replace hS := hS.f2.drop
  refine WC.ret ?_
  exact leave1 rfl rfl (⟨r_17, v_18, fp_19, hV, rfl, h_20, hS⟩)
theorem S_Show {w0 : World} {H : View} {L : Seg} {w : World} {v_1 : Val} {u_2 : Value} {Q : Str → Prop} (h_3 : IsW H u_2 v_1) (hN : GlobN w0 H) (hS : St w0 H (L) w) (hV : V_Show v_1 Q) :
 Calls Tryz.prog 11 #[.agg #[u_2]] w fun e w' => ∃ (r1 : Str), Q r1 ∧ e = .returned (sv r1) ∧ St w0 H (L) w' := by
 unfold V_Show at hV
 refine enter func11 rfl ntmps11 rfl (lk_args_cons (d := 0) (v := .agg #[u_2]) rfl (lk_args_nil _)) (WC.sr (WL.box (arr := #[u_2]) rfl rfl rfl hS ?_))
 clear hS
 intro b_4 w hS
 refine R hS ?_
 refine WL.nx (WC.sr (Rn hS (ex_load_box_agg (cs := [u_2]) isAgg25 sizeOf25 rfl rfl rfl) ?_))
 replace hS := hS.nilseg
 obtain ⟨mf, hV⟩ := hV
 refine Rc (enters0 (vs := [.agg #[u_2], ns]) call30 ⟨rfl, rfl, trivial⟩) (S_put mf h_3 OwnSl.nil hN hS hV) ?_
 clear hV hS
 rintro _ w ⟨r_7, v_8, fp_9, hV, rfl, h_10, hS⟩
 refine ⟨_, rfl, ?_⟩
 refine Rn hS (ex_conv_own (L := [(b_4, oc #[u_2] 25)] ++ L) underlying71 underlying5 underlying9 rfl h_10) ?_
 refine R hS ?_
 refine WL.nx ?_
 replace hS := hS.f2.drop
 replace hS := hS.drop
 refine WC.ret ?_
 exact leave1 rfl rfl (⟨r_7, hV, rfl, hS⟩)
theorem S_isNaN {w0 : World} {H : View} {L : Seg} {w : World} {x_1 : Int} {Q : Bool → Prop} (hr_2 : I64 x_1) (hS : St w0 H (L) w) (hV : V_isNaN x_1 Q) :
 Calls Tryz.prog 89 #[i6 x_1] w fun e w' => ∃ (r1 : Bool), Q r1 ∧ e = .returned (.bool r1) ∧ St w0 H (L) w' := by
 unfold V_isNaN at hV
 refine enter func89 rfl ntmps89 rfl (lk_args_cons (d := 0) (v := i6 x_1) rfl (lk_args_nil _)) (WC.sr (R hS ?_))
 refine WL.nx (WC.sr ?_)
 iterate 4 refine R hS ?_
 refine WL.nx (WC.ret ?_)
 exact leave1 rfl rfl (⟨decide (x_1 ≠ x_1), hV, rfl, hS⟩)
theorem S_isNaNN {w0 : World} {H : View} {L : Seg} {w : World} {x_1 : Int} {Q : Bool → Prop} (hr_2 : I64 x_1) (hS : St w0 H (L) w) (hV : V_isNaNN x_1 Q) :
 Calls Tryz.prog 90 #[i6 x_1] w fun e w' => ∃ (r1 : Bool), Q r1 ∧ e = .returned (.bool r1) ∧ St w0 H (L) w' := by
 unfold V_isNaNN at hV
 refine enter func90 rfl ntmps90 rfl (lk_args_cons (d := 0) (v := i6 x_1) rfl (lk_args_nil _)) (WC.sr (R hS ?_))
 refine WL.nx (WC.sr ?_)
 iterate 4 refine R hS ?_
 refine WL.nx (WC.ret ?_)
 exact leave1 rfl rfl (⟨decide (x_1 ≠ x_1), hV, rfl, hS⟩)
theorem S_isNaNX {w0 : World} {H : View} {L : Seg} {w : World} {x_1 : Str} {Q : Bool → Prop}  (hS : St w0 H (L) w) (hV : V_isNaNX x_1 Q) :
 Calls Tryz.prog 91 #[sv x_1] w fun e w' => ∃ (r1 : Bool), Q r1 ∧ e = .returned (.bool r1) ∧ St w0 H (L) w' := by
 unfold V_isNaNX at hV
 refine enter func91 rfl ntmps91 rfl (lk_args_cons (d := 0) (v := sv x_1) rfl (lk_args_nil _)) (WC.sr (R hS ?_))
 refine WL.nx (WC.sr ?_)
 iterate 4 refine R hS ?_
 refine WL.nx (WC.ret ?_)
 exact leave1 rfl rfl (⟨decide (x_1 ≠ x_1), hV, rfl, hS⟩)
theorem S_isNaNA {w0 : World} {H : View} {L : Seg} {w : World} {x_1 : Str} {Q : Bool → Prop}  (hS : St w0 H (L) w) (hV : V_isNaNA x_1 Q) :
 Calls Tryz.prog 92 #[sv x_1] w fun e w' => ∃ (r1 : Bool), Q r1 ∧ e = .returned (.bool r1) ∧ St w0 H (L) w' := by
 unfold V_isNaNA at hV
 refine enter func92 rfl ntmps92 rfl (lk_args_cons (d := 0) (v := sv x_1) rfl (lk_args_nil _)) (WC.sr (R hS ?_))
 refine WL.nx (WC.sr ?_)
 iterate 4 refine R hS ?_
 refine WL.nx (WC.ret ?_)
 exact leave1 rfl rfl (⟨decide (x_1 ≠ x_1), hV, rfl, hS⟩)
theorem S_cmpI {w0 : World} {H : View} {L : Seg} {w : World} {x_1 : Int} {y_3 : Int} {Q : Int → Prop} (hr_2 : I64 x_1) (hr_4 : I64 y_3) (hS : St w0 H (L) w) (hV : V_cmpI x_1 y_3 Q) :
 Calls Tryz.prog 47 #[i6 x_1, i6 y_3] w fun e w' => ∃ (r1 : Int), Q r1 ∧ e = .returned (i6 r1) ∧ I64 r1 ∧ St w0 H (L) w' := by
 unfold V_cmpI at hV
 refine enter func47 rfl ntmps47 rfl (lk_args_cons (d := 0) (v := i6 x_1) rfl (lk_args_cons (d := 1) (v := i6 y_3) rfl (lk_args_nil _))) (WC.sr (R hS ?_))
 refine WL.nx (WC.sr (R hS ?_))
 refine Rc (enters0 (vs := [i6 x_1]) call89 ⟨rfl, trivial⟩) (S_isNaN hr_2 hS hV) ?_
 clear hV hS
 rintro _ w ⟨r_5, hV, rfl, hS⟩
 refine ⟨_, rfl, ?_⟩
 refine R hS ?_
 refine WL.nx (WC.sr (R hS ?_))
 refine Rc (enters0 (vs := [i6 y_3]) call89 ⟨rfl, trivial⟩) (S_isNaN hr_4 hS hV) ?_
 clear hV hS
 rintro _ w ⟨r_7, hV, rfl, hS⟩
 refine ⟨_, rfl, ?_⟩
 refine R hS ?_
 refine WL.nx (WC.seq (WC.sr (R hS ?_)))
 refine WL.nx ?_
 refine Cd ?_ ?_
 intro hc_15
 replace hV := hV.1 hc_15
 refine WC.seq (WC.sr (R hS ?_))
 refine WL.nx (Sb [(12, .bool r_7)] ?_)
 refine Cd ?_ ?_
 intro hc_9
 replace hV := hV.1 hc_9
 refine WC.sr (R hS ?_)
 refine WL.nx (WC.ret (Wp ?_))
 refine Wp ?_
 exact leave1 rfl rfl (⟨(0 : Int), hV, rfl, i0, hS⟩)
 intro hc_9
 replace hV := hV.2 hc_9
 refine WC.skip (WQ.next (WC.sr (R hS ?_)))
 refine WL.nx (WC.ret (Wp ?_))
 exact leave1 rfl rfl (⟨(-1), hV, rfl, (show I64 ((-1) : Int) by unfold I64; omega), hS⟩)
 intro hc_15
 replace hV := hV.2 hc_15
 refine WC.skip (WQ.next (WC.seq (WC.sr (R hS ?_))))
 refine WL.nx ?_
 refine Cd ?_ ?_
 intro hc_14
 replace hV := hV.1 hc_14
 refine WC.sr (R hS ?_)
 refine WL.nx (Sb [(4, i6 (1 : Int))] ?_)
 refine WC.ret (Wp ?_)
 exact leave1 rfl rfl (⟨(1 : Int), hV, rfl, (show I64 (1 : Int) by unfold I64; omega), hS⟩)
 intro hc_14
 replace hV := hV.2 hc_14
 refine WC.skip (WQ.next (WC.seq (WC.sr ?_)))
 iterate 3 refine R hS ?_
 refine WL.nx (Sb [(0, i6 x_1), (1, i6 y_3), (16, .bool (decide (x_1 < y_3)))] ?_)
 refine Cd ?_ ?_
 intro hc_13
 replace hV := hV.1 (od hc_13)
 refine WC.sr (R hS ?_)
 refine WL.nx (WC.ret (Wp ?_))
 exact leave1 rfl rfl (⟨(-1), hV, rfl, (show I64 ((-1) : Int) by unfold I64; omega), hS⟩)
 intro hc_13
 replace hV := hV.2 (ov hc_13)
 refine WC.skip (WQ.next (WC.seq (WC.sr ?_)))
 iterate 3 refine R hS ?_
 refine WL.nx ?_
 refine Cd ?_ ?_
 intro hc_12
 replace hV := hV.1 (od hc_12)
 refine WC.sr (R hS ?_)
 refine WL.nx (WC.ret (Wp ?_))
 exact leave1 rfl rfl (⟨(1 : Int), hV, rfl, (show I64 (1 : Int) by unfold I64; omega), hS⟩)
 intro hc_12
 replace hV := hV.2 (ov hc_12)
 refine WC.skip (WQ.next (WC.sr (R hS ?_)))
 refine WL.nx (WC.ret ?_)
 exact leave1 rfl rfl (⟨(0 : Int), hV, rfl, i0, hS⟩)
theorem S_cmpN {w0 : World} {H : View} {L : Seg} {w : World} {x_1 : Int} {y_3 : Int} {Q : Int → Prop} (hr_2 : I64 x_1) (hr_4 : I64 y_3) (hS : St w0 H (L) w) (hV : V_cmpN x_1 y_3 Q) :
 Calls Tryz.prog 49 #[i6 x_1, i6 y_3] w fun e w' => ∃ (r1 : Int), Q r1 ∧ e = .returned (i6 r1) ∧ I64 r1 ∧ St w0 H (L) w' := by
 unfold V_cmpN at hV
 refine enter func49 rfl ntmps49 rfl (lk_args_cons (d := 0) (v := i6 x_1) rfl (lk_args_cons (d := 1) (v := i6 y_3) rfl (lk_args_nil _))) (WC.sr (R hS ?_))
 refine WL.nx (WC.sr (R hS ?_))
 refine Rc (enters0 (vs := [i6 x_1]) call90 ⟨rfl, trivial⟩) (S_isNaNN hr_2 hS hV) ?_
 clear hV hS
 rintro _ w ⟨r_5, hV, rfl, hS⟩
 refine ⟨_, rfl, ?_⟩
 refine R hS ?_
 refine WL.nx (WC.sr (R hS ?_))
 refine Rc (enters0 (vs := [i6 y_3]) call90 ⟨rfl, trivial⟩) (S_isNaNN hr_4 hS hV) ?_
 clear hV hS
 rintro _ w ⟨r_7, hV, rfl, hS⟩
 refine ⟨_, rfl, ?_⟩
 refine R hS ?_
 refine WL.nx (WC.seq (WC.sr (R hS ?_)))
 refine WL.nx ?_
 refine Cd ?_ ?_
 intro hc_15
 replace hV := hV.1 hc_15
 refine WC.seq (WC.sr (R hS ?_))
 refine WL.nx (Sb [(12, .bool r_7)] ?_)
 refine Cd ?_ ?_
 intro hc_9
 replace hV := hV.1 hc_9
 refine WC.sr (R hS ?_)
 refine WL.nx (WC.ret (Wp ?_))
 refine Wp ?_
 exact leave1 rfl rfl (⟨(0 : Int), hV, rfl, i0, hS⟩)
 intro hc_9
 replace hV := hV.2 hc_9
 refine WC.skip (WQ.next (WC.sr (R hS ?_)))
 refine WL.nx (WC.ret (Wp ?_))
 exact leave1 rfl rfl (⟨(-1), hV, rfl, (show I64 ((-1) : Int) by unfold I64; omega), hS⟩)
 intro hc_15
 replace hV := hV.2 hc_15
 refine WC.skip (WQ.next (WC.seq (WC.sr (R hS ?_))))
 refine WL.nx ?_
 refine Cd ?_ ?_
 intro hc_14
 replace hV := hV.1 hc_14
 refine WC.sr (R hS ?_)
 refine WL.nx (Sb [(4, i6 (1 : Int))] ?_)
 refine WC.ret (Wp ?_)
 exact leave1 rfl rfl (⟨(1 : Int), hV, rfl, (show I64 (1 : Int) by unfold I64; omega), hS⟩)
 intro hc_14
 replace hV := hV.2 hc_14
 refine WC.skip (WQ.next (WC.seq (WC.sr ?_)))
 iterate 3 refine R hS ?_
 refine WL.nx (Sb [(0, i6 x_1), (1, i6 y_3), (16, .bool (decide (x_1 < y_3)))] ?_)
 refine Cd ?_ ?_
 intro hc_13
 replace hV := hV.1 (od hc_13)
 refine WC.sr (R hS ?_)
 refine WL.nx (WC.ret (Wp ?_))
 exact leave1 rfl rfl (⟨(-1), hV, rfl, (show I64 ((-1) : Int) by unfold I64; omega), hS⟩)
 intro hc_13
 replace hV := hV.2 (ov hc_13)
 refine WC.skip (WQ.next (WC.seq (WC.sr ?_)))
 iterate 3 refine R hS ?_
 refine WL.nx ?_
 refine Cd ?_ ?_
 intro hc_12
 replace hV := hV.1 (od hc_12)
 refine WC.sr (R hS ?_)
 refine WL.nx (WC.ret (Wp ?_))
 exact leave1 rfl rfl (⟨(1 : Int), hV, rfl, (show I64 (1 : Int) by unfold I64; omega), hS⟩)
 intro hc_12
 replace hV := hV.2 (ov hc_12)
 refine WC.skip (WQ.next (WC.sr (R hS ?_)))
 refine WL.nx (WC.ret ?_)
 exact leave1 rfl rfl (⟨(0 : Int), hV, rfl, i0, hS⟩)
theorem S_cmpX {w0 : World} {H : View} {L : Seg} {w : World} {x_1 : Str} {y_2 : Str} {Q : Int → Prop}  (hS : St w0 H (L) w) (hV : V_cmpX x_1 y_2 Q) :
 Calls Tryz.prog 50 #[sv x_1, sv y_2] w fun e w' => ∃ (r1 : Int), Q r1 ∧ e = .returned (i6 r1) ∧ I64 r1 ∧ St w0 H (L) w' := by
 unfold V_cmpX at hV
 refine enter func50 rfl ntmps50 rfl (lk_args_cons (d := 0) (v := sv x_1) rfl (lk_args_cons (d := 1) (v := sv y_2) rfl (lk_args_nil _))) (WC.sr (R hS ?_))
 refine WL.nx (WC.sr (R hS ?_))
 refine Rc (enters0 (vs := [sv x_1]) call91 ⟨rfl, trivial⟩) (S_isNaNX  hS hV) ?_
 clear hV hS
 rintro _ w ⟨r_3, hV, rfl, hS⟩
 refine ⟨_, rfl, ?_⟩
 refine R hS ?_
 refine WL.nx (WC.sr (R hS ?_))
 refine Rc (enters0 (vs := [sv y_2]) call91 ⟨rfl, trivial⟩) (S_isNaNX  hS hV) ?_
 clear hV hS
 rintro _ w ⟨r_5, hV, rfl, hS⟩
 refine ⟨_, rfl, ?_⟩
 refine R hS ?_
 refine WL.nx (WC.seq (WC.sr (R hS ?_)))
 refine WL.nx ?_
 refine Cd ?_ ?_
 intro hc_11
 replace hV := hV.1 hc_11
 refine WC.seq (WC.sr (R hS ?_))
 refine WL.nx (Sb [(12, .bool r_5)] ?_)
 refine Cd ?_ ?_
 intro hc_7
 replace hV := hV.1 hc_7
 refine WC.sr (R hS ?_)
 refine WL.nx (WC.ret (Wp ?_))
 refine Wp ?_
 exact leave1 rfl rfl (⟨(0 : Int), hV, rfl, i0, hS⟩)
 intro hc_7
 replace hV := hV.2 hc_7
 refine WC.skip (WQ.next (WC.sr (R hS ?_)))
 refine WL.nx (WC.ret (Wp ?_))
 exact leave1 rfl rfl (⟨(-1), hV, rfl, (show I64 ((-1) : Int) by unfold I64; omega), hS⟩)
 intro hc_11
 replace hV := hV.2 hc_11
 refine WC.skip (WQ.next (WC.seq (WC.sr (R hS ?_))))
 refine WL.nx ?_
 refine Cd ?_ ?_
 intro hc_10
 replace hV := hV.1 hc_10
 refine WC.sr (R hS ?_)
 refine WL.nx (Sb [(4, i6 (1 : Int))] ?_)
 refine WC.ret (Wp ?_)
 exact leave1 rfl rfl (⟨(1 : Int), hV, rfl, (show I64 (1 : Int) by unfold I64; omega), hS⟩)
 intro hc_10
 replace hV := hV.2 hc_10
 refine WC.skip (WQ.next (WC.seq (WC.sr ?_)))
 iterate 3 refine R hS ?_
 refine WL.nx (Sb [(0, sv x_1), (1, sv y_2), (16, .bool (sLt x_1 y_2))] ?_)
 refine Cd ?_ ?_
 intro hc_9
 replace hV := hV.1 hc_9
 refine WC.sr (R hS ?_)
 refine WL.nx (WC.ret (Wp ?_))
 exact leave1 rfl rfl (⟨(-1), hV, rfl, (show I64 ((-1) : Int) by unfold I64; omega), hS⟩)
 intro hc_9
 replace hV := hV.2 hc_9
 refine WC.skip (WQ.next (WC.seq (WC.sr ?_)))
 iterate 3 refine R hS ?_
 refine WL.nx ?_
 refine Cd ?_ ?_
 intro hc_8
 replace hV := hV.1 hc_8
 refine WC.sr (R hS ?_)
 refine WL.nx (WC.ret (Wp ?_))
 exact leave1 rfl rfl (⟨(1 : Int), hV, rfl, (show I64 (1 : Int) by unfold I64; omega), hS⟩)
 intro hc_8
 replace hV := hV.2 hc_8
 refine WC.skip (WQ.next (WC.sr (R hS ?_)))
 refine WL.nx (WC.ret ?_)
 exact leave1 rfl rfl (⟨(0 : Int), hV, rfl, i0, hS⟩)
theorem S_cmpA {w0 : World} {H : View} {L : Seg} {w : World} {x_1 : Str} {y_2 : Str} {Q : Int → Prop}  (hS : St w0 H (L) w) (hV : V_cmpA x_1 y_2 Q) :
 Calls Tryz.prog 51 #[sv x_1, sv y_2] w fun e w' => ∃ (r1 : Int), Q r1 ∧ e = .returned (i6 r1) ∧ I64 r1 ∧ St w0 H (L) w' := by
 unfold V_cmpA at hV
 refine enter func51 rfl ntmps51 rfl (lk_args_cons (d := 0) (v := sv x_1) rfl (lk_args_cons (d := 1) (v := sv y_2) rfl (lk_args_nil _))) (WC.sr (R hS ?_))
 refine WL.nx (WC.sr (R hS ?_))
 refine Rc (enters0 (vs := [sv x_1]) call92 ⟨rfl, trivial⟩) (S_isNaNA  hS hV) ?_
 clear hV hS
 rintro _ w ⟨r_3, hV, rfl, hS⟩
 refine ⟨_, rfl, ?_⟩
 refine R hS ?_
 refine WL.nx (WC.sr (R hS ?_))
 refine Rc (enters0 (vs := [sv y_2]) call92 ⟨rfl, trivial⟩) (S_isNaNA  hS hV) ?_
 clear hV hS
 rintro _ w ⟨r_5, hV, rfl, hS⟩
 refine ⟨_, rfl, ?_⟩
 refine R hS ?_
 refine WL.nx (WC.seq (WC.sr (R hS ?_)))
 refine WL.nx ?_
 refine Cd ?_ ?_
 intro hc_11
 replace hV := hV.1 hc_11
 refine WC.seq (WC.sr (R hS ?_))
 refine WL.nx (Sb [(12, .bool r_5)] ?_)
 refine Cd ?_ ?_
 intro hc_7
 replace hV := hV.1 hc_7
 refine WC.sr (R hS ?_)
 refine WL.nx (WC.ret (Wp ?_))
 refine Wp ?_
 exact leave1 rfl rfl (⟨(0 : Int), hV, rfl, i0, hS⟩)
 intro hc_7
 replace hV := hV.2 hc_7
 refine WC.skip (WQ.next (WC.sr (R hS ?_)))
 refine WL.nx (WC.ret (Wp ?_))
 exact leave1 rfl rfl (⟨(-1), hV, rfl, (show I64 ((-1) : Int) by unfold I64; omega), hS⟩)
 intro hc_11
 replace hV := hV.2 hc_11
 refine WC.skip (WQ.next (WC.seq (WC.sr (R hS ?_))))
 refine WL.nx ?_
 refine Cd ?_ ?_
 intro hc_10
 replace hV := hV.1 hc_10
 refine WC.sr (R hS ?_)
 refine WL.nx (Sb [(4, i6 (1 : Int))] ?_)
 refine WC.ret (Wp ?_)
 exact leave1 rfl rfl (⟨(1 : Int), hV, rfl, (show I64 (1 : Int) by unfold I64; omega), hS⟩)
 intro hc_10
 replace hV := hV.2 hc_10
 refine WC.skip (WQ.next (WC.seq (WC.sr ?_)))
 iterate 3 refine R hS ?_
 refine WL.nx (Sb [(0, sv x_1), (1, sv y_2), (16, .bool (sLt x_1 y_2))] ?_)
 refine Cd ?_ ?_
 intro hc_9
 replace hV := hV.1 hc_9
 refine WC.sr (R hS ?_)
 refine WL.nx (WC.ret (Wp ?_))
 exact leave1 rfl rfl (⟨(-1), hV, rfl, (show I64 ((-1) : Int) by unfold I64; omega), hS⟩)
 intro hc_9
 replace hV := hV.2 hc_9
 refine WC.skip (WQ.next (WC.seq (WC.sr ?_)))
 iterate 3 refine R hS ?_
 refine WL.nx ?_
 refine Cd ?_ ?_
 intro hc_8
 replace hV := hV.1 hc_8
 refine WC.sr (R hS ?_)
 refine WL.nx (WC.ret (Wp ?_))
 exact leave1 rfl rfl (⟨(1 : Int), hV, rfl, (show I64 (1 : Int) by unfold I64; omega), hS⟩)
 intro hc_8
 replace hV := hV.2 hc_8
 refine WC.skip (WQ.next (WC.sr (R hS ?_)))
 refine WL.nx (WC.ret ?_)
 exact leave1 rfl rfl (⟨(0 : Int), hV, rfl, i0, hS⟩)
theorem S_cmpOr {w0 : World} {H : View} {L : Seg} {w : World} {v_2 : Value} {vals_1 : LI} {Q : Int → Prop} (h_3 : IsSl H (cInt .i64) v_2 vals_1) (hS : St w0 H (L) w) (hV : V_cmpOr vals_1 Q) :
 Calls Tryz.prog 53 #[v_2] w fun e w' => ∃ (r1 : Int), Q r1 ∧ e = .returned (i6 r1) ∧ I64 r1 ∧ St w0 H (L) w' := by
 unfold V_cmpOr at hV
 refine enter func53 rfl ntmps53 rfl (lk_args_cons (d := 0) (v := v_2) rfl (lk_args_nil _)) (WC.sr (R hS ?_))
 refine WL.nx (WC.sr (R hS ?_))
 refine WL.nx (WC.seq (WC.sr (R hS ?_)))
 have hl_4 : Len vals_1 := h_3.bound
 replace hV := hV hl_4
 refine Rn hS (ex_len_sl underlying130 rfl h_3) ?_
 refine R hS ?_
 refine WL.nx (WC.block ?_)
 obtain ⟨I_35, mu_36, hI_52, hV⟩ := hV
 refine WC.loop (σ := Int) (fun s a w => ∃ (x_19 : Int), s = x_19 ∧ I_35 x_19 ∧ I64 x_19 ∧ St w0 H (L) w ∧ Fr 18 [(3, i6 (0 : Int)), (6, v_2), (7, i6 (vals_1.length : Int)), (8, i6 x_19)] a) mu_36 (0 : Int) ?_ ?_
 exact fun a ha => ⟨(0 : Int), rfl, hI_52, i0, hS, ha.os⟩
 clear hS hI_52
 rintro x_19 a w ⟨_, rfl, hI, hr_20, hS, ha⟩
 refine in_frame ha ?_
 clear ha
 replace hV := hV _ hI
 clear hI
 refine WC.sr (R hS ?_)
 refine WL.nx (WC.seq ?_)
 refine Cd ?_ ?_
 intro hc_51
 replace hV := hV.1 (od hc_51)
 refine WC.skip (WQ.next (WC.seq (WC.block (WC.sr ?_))))
 obtain ⟨hin_39, hV⟩ := hV
 refine Rx hS (ex_index underlying130 sizeOf3 rfl rfl h_3 hin_39) ?_
 intro p_40 hp_41
 refine Rx hS (ex_load isAgg3 rfl rfl hp_41) ?_
 intro u_44 hu_45
 obtain ⟨rfl, hr_46⟩ := cInt_rep hu_45
 replace hr_46 := has_I64 hr_46
 replace hV := hV hr_46
 refine R hS ?_
 refine WL.nx (WC.sr ?_)
 iterate 3 refine R hS ?_
 refine WL.nx ?_
 refine Cd ?_ ?_
 intro hc_50
 replace hV := hV.1 (od hc_50)
 refine WC.sr ?_
 iterate 2 refine R hS ?_
 refine WL.nx (Sb [(2, i6 (ix vals_1 x_19))] ?_)
 refine WC.ret (WQ.out nofun (Wp ?_))
 refine Wp ?_
 refine WQ.out nofun (Wp ?_)
 exact leave1 rfl rfl (⟨(ix vals_1 x_19), hV, rfl, hr_46, hS⟩)
 intro hc_50
 replace hV := hV.2 (ov hc_50)
 refine WC.skip (WQ.out nofun (WQ.next (WC.region ?_)))
 obtain ⟨hi_49, hV⟩ := hV
 iterate 2 refine R hS ?_
 refine WL.nil ?_
 exact Wt fun a ha => ⟨(x_19 + (1 : Int)), ⟨(x_19 + (1 : Int)), rfl, hV.1, hi_49, hS, ha.os⟩, hV.2⟩
 intro hc_51
 replace hV := hV.2 (ov hc_51)
 refine WC.exit (Wp ?_)
 refine Wp ?_
 refine WQ.hit (WQ.next (WC.sr ?_))
 iterate 2 refine R hS ?_
 refine WL.nx (WC.ret ?_)
 exact leave1 rfl rfl (⟨(0 : Int), hV, rfl, i0, hS⟩)
def H_Compare (G : Val → Val → (Int → Prop) → Prop) : Prop := ∀ {w0 : World} {H : View} {L : Seg} {w : World} {a_1 : Val} {u_2 : Value} {b_4 : Val} {u_5 : Value} {Q : Int → Prop} (h_3 : IsW H u_2 a_1) (h_6 : IsW H u_5 b_4) (hS : St w0 H (L) w) (hV : G a_1 b_4 Q), Calls Tryz.prog 19 #[.agg #[u_2], .agg #[u_5]] w fun e w' => ∃ (r1 : Int), Q r1 ∧ e = .returned (i6 r1) ∧ I64 r1 ∧ St w0 H (L) w'
theorem S_CompareFunc {G : Val → Val → (Int → Prop) → Prop} (hG : H_Compare G) {w0 : World} {H : View} {L : Seg} {w : World} {v_2 : Value} {s1_1 : List (Val)} {v_5 : Value} {s2_4 : List (Val)} {Q : Int → Prop} (h_3 : IsSl H cV v_2 s1_1) (h_6 : IsSl H cV v_5 s2_4) (hS : St w0 H (L) w) (hV : V_CompareFunc G s1_1 s2_4 Q) :
 Calls Tryz.prog 93 #[v_2, v_5, .func (.func 19) #[] #[]] w fun e w' => ∃ (r1 : Int), Q r1 ∧ e = .returned (i6 r1) ∧ I64 r1 ∧ St w0 H (L) w' := by
 unfold V_CompareFunc at hV
 refine enter func93 rfl ntmps93 rfl (lk_args_cons (d := 0) (v := v_2) rfl (lk_args_cons (d := 1) (v := v_5) rfl (lk_args_cons (d := 2) (v := .func (.func 19) #[] #[]) rfl (lk_args_nil _)))) (WC.sr (R hS ?_))
 refine WL.nx (WC.seq (WC.sr (R hS ?_)))
 have hl_8 : Len s1_1 := h_3.bound
 replace hV := hV hl_8
 refine Rn hS (ex_len_sl underlying42 rfl h_3) ?_
 refine R hS ?_
 refine WL.nx (WC.block ?_)
 obtain ⟨I_67, mu_68, hI_102, hV⟩ := hV
 refine WC.loop (σ := Int) (fun s a w => ∃ (x_37 : Int), s = x_37 ∧ I_67 x_37 ∧ I64 x_37 ∧ St w0 H (L) w ∧ Fr 39 [(0, v_2), (1, v_5), (2, .func (.func 19) #[] #[]), (11, v_2), (12, i6 (s1_1.length : Int)), (13, i6 x_37)] a) mu_68 (0 : Int) ?_ ?_
 exact fun a ha => ⟨(0 : Int), rfl, hI_102, i0, hS, ha.os⟩
 clear hS hI_102
 rintro x_37 a w ⟨_, rfl, hI, hr_38, hS, ha⟩
 refine in_frame ha ?_
 clear ha
 replace hV := hV _ hI
 clear hI
 refine WC.sr (R hS ?_)
 refine WL.nx (WC.seq ?_)
 refine Cd ?_ ?_
 intro hc_101
 replace hV := hV.1 (od hc_101)
 refine WC.skip (WQ.next (WC.seq (WC.block (WC.sr (R hS ?_)))))
 obtain ⟨hin_71, hV⟩ := hV
 refine Rx hS (ex_index underlying42 sizeOf25 rfl rfl h_3 hin_71) ?_
 intro p_72 hp_73
 refine Rx hS (ex_load_agg isAgg25 sizeOf25 rfl hp_73) ?_
 rintro u_74 ⟨_, rfl, hu⟩
 obtain ⟨u_75, rfl, h_76⟩ := cV_one hu
 refine WL.alloc (arr := #[.nilIface]) rfl zeroValue25 rfl hS ?_
 clear hS
 intro b_77 w hS
 refine R hS ?_
 refine St1 #[u_75] sizeOf25 hS ?_ (cs := [u_75]) (hone := ⟨(IsW.one h_76), trivial⟩)
 clear hS
 intro w hS
 refine WL.nx (WC.seq (WC.sr ?_))
 iterate 2 refine R hS ?_
 have hl_79 : Len s2_4 := h_6.bound
 replace hV := hV hl_79
 refine Rn hS (ex_len_sl underlying42 rfl h_6) ?_
 refine R hS ?_
 refine WL.nx ?_
 refine Cd ?_ ?_
 intro hc_96
 replace hV := hV.1 (od hc_96)
 refine WC.sr (R hS ?_)
 refine WL.nx (Sb [(6, i6 (1 : Int))] ?_)
 replace hS := hS.drop
 refine WC.ret (Wp ?_)
 refine WQ.out nofun (Wp ?_)
 refine Wp ?_
 refine WQ.out nofun (Wp ?_)
 exact leave1 rfl rfl (⟨(1 : Int), hV, rfl, (show I64 (1 : Int) by unfold I64; omega), hS⟩)
 intro hc_96
 replace hV := hV.2 (ov hc_96)
 refine WC.skip (WQ.next (WC.sr ?_))
 iterate 2 refine R hS ?_
 obtain ⟨hin_81, hV⟩ := hV
 refine Rx hS (ex_index underlying42 sizeOf25 rfl rfl h_6 hin_81) ?_
 intro p_82 hp_83
 refine Rx hS (ex_load_agg isAgg25 sizeOf25 rfl hp_83) ?_
 rintro u_84 ⟨_, rfl, hu⟩
 obtain ⟨u_85, rfl, h_86⟩ := cV_one hu
 refine WL.alloc (arr := #[.nilIface]) rfl zeroValue25 rfl hS ?_
 clear hS
 intro b_87 w hS
 refine St1 #[u_85] sizeOf25 hS ?_ (cs := [u_85]) (hone := ⟨(IsW.one h_86), trivial⟩)
 clear hS
 intro w hS
 refine WL.nx (Sb [(0, v_2), (1, v_5), (2, .func (.func 19) #[] #[]), (8, (pq b_77)), (9, (pq b_87)), (11, v_2), (12, i6 (s1_1.length : Int)), (13, i6 x_37)] ?_)
 refine WC.sr (R hS ?_)
 replace hS := hS.f2
 refine Rn hS (ex_load_box_agg (cs := [u_75]) isAgg25 sizeOf25 rfl rfl rfl) ?_
 replace hS := hS.f2
 refine Rn hS (ex_load_box_agg (cs := [u_85]) isAgg25 sizeOf25 rfl rfl rfl) ?_
 refine Rc (enters_c (vs := [.agg #[u_75], .agg #[u_85]]) (caps := []) rfl call19 ⟨rfl, rfl, trivial⟩) (hG h_76 h_86 hS hV) ?_
 clear hV hS
 rintro _ w ⟨r_89, hV, rfl, hr_90, hS⟩
 refine ⟨_, rfl, ?_⟩
 refine R hS ?_
 refine WL.nx ?_
 replace hS := hS.f2.drop
 replace hS := hS.drop
 refine WC.sr ?_
 iterate 2 refine R hS ?_
 refine WL.nx ?_
 refine Cd ?_ ?_
 intro hc_95
 replace hV := hV.1 (od hc_95)
 refine WC.sr ?_
 iterate 2 refine R hS ?_
 refine WL.nx (Sb [(6, i6 r_89)] ?_)
 refine WC.ret (WQ.out nofun (Wp ?_))
 refine Wp ?_
 refine WQ.out nofun (Wp ?_)
 exact leave1 rfl rfl (⟨r_89, hV, rfl, hr_90, hS⟩)
 intro hc_95
 replace hV := hV.2 (ov hc_95)
 refine WC.skip (WQ.out nofun (WQ.next (WC.region ?_)))
 obtain ⟨hi_94, hV⟩ := hV
 iterate 2 refine R hS ?_
 refine WL.nil ?_
 exact Wt fun a ha => ⟨(x_37 + (1 : Int)), ⟨(x_37 + (1 : Int)), rfl, hV.1, hi_94, hS, ha.os⟩, hV.2⟩
 intro hc_101
 replace hV := hV.2 (ov hc_101)
 refine WC.exit (Wp ?_)
 refine Wp ?_
 refine WQ.hit (WQ.next (WC.seq (WC.sr (R hS ?_))))
 have hl_97 : Len s1_1 := h_3.bound
 replace hV := hV hl_97
 refine Rn hS (ex_len_sl underlying42 rfl h_3) ?_
 refine R hS ?_
 have hl_98 : Len s2_4 := h_6.bound
 replace hV := hV hl_98
 refine Rn hS (ex_len_sl underlying42 rfl h_6) ?_
 refine R hS ?_
 refine WL.nx (Sb [(38, .bool (decide ((s1_1.length : Int) < (s2_4.length : Int))))] ?_)
 refine Cd ?_ ?_
 intro hc_100
 replace hV := hV.1 (od hc_100)
 refine WC.sr (R hS ?_)
 refine WL.nx (WC.ret (Wp ?_))
 exact leave1 rfl rfl (⟨(-1), hV, rfl, (show I64 ((-1) : Int) by unfold I64; omega), hS⟩)
 intro hc_100
 replace hV := hV.2 (ov hc_100)
 refine WC.skip (WQ.next (WC.sr (R hS ?_)))
 refine WL.nx (WC.ret ?_)
 exact leave1 rfl rfl (⟨(0 : Int), hV, rfl, i0, hS⟩)
theorem S_cmpLists {G : Val → Val → (Int → Prop) → Prop} (hG : H_Compare G) {w0 : World} {H : View} {L : Seg} {w : World} {v_2 : Value} {a_1 : List (Val)} {v_5 : Value} {b_4 : List (Val)} {Q : Int → Prop} (h_3 : IsSl H cV v_2 a_1) (h_6 : IsSl H cV v_5 b_4) (hS : St w0 H (L) w) (hV : V_cmpLists G a_1 b_4 Q) :
 Calls Tryz.prog 52 #[v_2, v_5] w fun e w' => ∃ (r1 : Int), Q r1 ∧ e = .returned (i6 r1) ∧ I64 r1 ∧ St w0 H (L) w' := by
 unfold V_cmpLists at hV
 refine enter func52 rfl ntmps52 rfl (lk_args_cons (d := 0) (v := v_2) rfl (lk_args_cons (d := 1) (v := v_5) rfl (lk_args_nil _))) (WC.sr (R hS ?_))
 refine WL.nx (WC.seq (WC.sr (R hS ?_)))
 have hl_7 : Len a_1 := h_3.bound
 replace hV := hV hl_7
 refine Rn hS (ex_len_sl underlying42 rfl h_3) ?_
 refine R hS ?_
 have hl_8 : Len b_4 := h_6.bound
 replace hV := hV hl_8
 refine Rn hS (ex_len_sl underlying42 rfl h_6) ?_
 refine Rc (enters0 (vs := [i6 (a_1.length : Int), i6 (b_4.length : Int)]) call47 ⟨rfl, rfl, trivial⟩) (S_cmpI (Len.i64 hl_7) (Len.i64 hl_8) hS hV) ?_
 clear hV hS
 rintro _ w ⟨r_9, hV, rfl, hr_10, hS⟩
 refine ⟨_, rfl, ?_⟩
 refine R hS ?_
 refine WL.nx (WC.sr ?_)
 iterate 2 refine R hS ?_
 refine WL.nx ?_
 refine Cd ?_ ?_
 intro hc_16
 replace hV := hV.1 (od hc_16)
 refine WC.sr ?_
 iterate 2 refine R hS ?_
 refine WL.nx (Sb [(4, i6 r_9)] ?_)
 refine WC.ret (Wp ?_)
 exact leave1 rfl rfl (⟨r_9, hV, rfl, hr_10, hS⟩)
 intro hc_16
 replace hV := hV.2 (ov hc_16)
 refine WC.skip (WQ.next (WC.sr ?_))
 iterate 2 refine R hS ?_
 refine Rc (enters0 (vs := [v_2, v_5, .func (.func 19) #[] #[]]) call93 ⟨rfl, rfl, rfl, trivial⟩) (S_CompareFunc (@hG) h_3 h_6 hS hV) ?_
 clear hV hS
 rintro _ w ⟨r_13, hV, rfl, hr_14, hS⟩
 refine ⟨_, rfl, ?_⟩
 refine R hS ?_
 refine WL.nx (Sb [(4, i6 r_13)] ?_)
 refine WC.ret ?_
 exact leave1 rfl rfl (⟨r_13, hV, rfl, hr_14, hS⟩)
theorem S_Compare (m0 : Nat) : ∀ {w0 : World} {H : View} {L : Seg} {w : World} {a_1 : Val} {u_2 : Value} {b_4 : Val} {u_5 : Value} {Q : Int → Prop} (h_3 : IsW H u_2 a_1) (h_6 : IsW H u_5 b_4) (hS : St w0 H (L) w) (hV : V_Compare m0 a_1 b_4 Q),
 Calls Tryz.prog 19 #[.agg #[u_2], .agg #[u_5]] w fun e w' => ∃ (r1 : Int), Q r1 ∧ e = .returned (i6 r1) ∧ I64 r1 ∧ St w0 H (L) w' := by
 induction m0 with
 | zero => intro w0 H L w a_1 u_2 b_4 u_5 Q h_3 h_6 hS hV; exact hV.elim
 | succ m0 ih =>
  intro w0 H L w a_1 u_2 b_4 u_5 Q h_3 h_6 hS hV
  unfold V_Compare at hV
  refine enter func19 rfl ntmps19 rfl (lk_args_cons (d := 0) (v := .agg #[u_2]) rfl (lk_args_cons (d := 1) (v := .agg #[u_5]) rfl (lk_args_nil _))) (WC.sr (WL.box (arr := #[u_2]) rfl rfl rfl hS ?_))
  clear hS
  intro b_7 w hS
  refine WL.box (arr := #[u_5]) rfl rfl rfl hS ?_
  clear hS
  intro b_9 w hS
  refine R hS ?_
  refine WL.nx (WC.seq (WC.seq (WC.drawn (σ := [0, 2, 1, 3, 4, 5]) (C := St w0 H ([(b_9, oc #[u_5] 25)] ++ ([(b_7, oc #[u_2] 25)] ++ L))) [[], [0], [], [0, 1, 2], [0, 1, 2, 3], [0, 1, 2, 3, 4]] [1, 3, 4] mixed (by kernel_rfl) (hS.drawn _) ?_)))
  clear hS w
  refine Wd.runbs (off := 0) (k := 1) (cs := [u_2]) rfl rfl rfl rfl (fun _ _ _ h => ex_load_box_agg isAgg25 sizeOf25 rfl h rfl) rfl (fun _ h => St.f2 h) fun q_12 hq_11 => ?_
  refine Wd.runbs (off := 0) (k := 1) (cs := [u_5]) rfl rfl rfl rfl (fun _ _ _ h => ex_load_box_agg isAgg25 sizeOf25 rfl h rfl) rfl (fun _ h => h) fun q_14 hq_13 => ?_
  refine Wd.turn rfl rfl rfl fun w hS => ?_
  refine Rc (enters0 (vs := [.agg #[u_2]]) call48 ⟨rfl, trivial⟩) (S_rank h_3 hS hV) ?_
  clear hV hS
  rintro _ w ⟨r_15, hV, rfl, hr_16, hS⟩
  refine ⟨_, rfl, ?_⟩
  refine WL.nil (DQ.mk2 (C' := St w0 H ([(b_9, oc #[u_5] 25)] ++ ([(b_7, oc #[u_2] 25)] ++ L))) hS ⟨.inr (hq_13 H ([(b_7, oc #[u_2] 25)] ++ L) #[u_5] _ rfl (fun _ h => h)), il, trivial⟩ ?_)
  clear hS w
  refine Wd.turn rfl rfl rfl fun w hS => ?_
  refine Rc (enters0 (vs := [.agg #[u_5]]) call48 ⟨rfl, trivial⟩) (S_rank h_6 hS hV) ?_
  clear hV hS
  rintro _ w ⟨r_18, hV, rfl, hr_19, hS⟩
  refine ⟨_, rfl, ?_⟩
  refine WL.nil (DQ.mk2 (C' := St w0 H ([(b_9, oc #[u_5] 25)] ++ ([(b_7, oc #[u_2] 25)] ++ L))) hS ⟨il, il, trivial⟩ ?_)
  clear hS w
  refine Wd.turn rfl rfl rfl fun w hS => ?_
  refine Rc (enters0 (vs := [i6 r_15, i6 r_18]) call47 ⟨rfl, rfl, trivial⟩) (S_cmpI hr_16 hr_19 hS hV) ?_
  clear hV hS
  rintro _ w ⟨r_21, hV, rfl, hr_22, hS⟩
  refine ⟨_, rfl, ?_⟩
  refine WL.nil (DQ.mk2 (C' := St w0 H ([(b_9, oc #[u_5] 25)] ++ ([(b_7, oc #[u_2] 25)] ++ L))) hS ⟨il, il, trivial⟩ ?_)
  clear hS w
  refine Wd.run rfl rfl rfl rfl (fun _ => ex_assign rfl) fun q_25 hq_24 => ?_
  refine Wd.nil fun w hS => ?_
  refine WQ.next ?_
  obtain ⟨J_29, hJ_30, hV⟩ := hV
  refine WC.meet (fun a w => ∃ (x_28 : Bool), J_29 x_28 ∧ St w0 H ([(b_7, oc #[u_2] 25)] ++ ([(b_9, oc #[u_5] 25)] ++ L)) w ∧ Fr 105 [(2, (pq b_7)), (3, (pq b_9)), (5, i6 r_21), (25, .bool x_28)] a) ?_ ?_
  rintro a w ⟨x_28, hI, hS, ha⟩
  refine in_frame ha ?_
  clear ha hV
  have hV := hJ_30 _ hI
  clear hI hJ_30
  refine Cd ?_ ?_
  intro hc_181
  replace hV := hV.1 hc_181
  refine WC.sr ?_
  iterate 2 refine R hS ?_
  refine WL.nx ?_
  replace hS := hS.drop
  replace hS := hS.drop
  refine WC.ret (Wp ?_)
  exact leave1 rfl rfl (⟨r_21, hV, rfl, hr_22, hS⟩)
  intro hc_181
  replace hV := hV.2 hc_181
  refine WC.skip (WQ.next (WC.seq (WC.sr ?_)))
  iterate 2 refine R hS ?_
  refine WL.nx ?_
  replace hS := hS.drop
  refine WC.block (WC.sr (Rn hS (ex_as_truth concrete86 zeroValue86 rfl h_3) ?_))
  iterate 2 refine R hS ?_
  refine WL.nx ?_
  refine Cd ?_ ?_
  intro hc_180
  replace hV := hV.1 hc_180
  refine WC.sr (R hS ?_)
  refine WL.nx (WC.sr ?_)
  iterate 2 refine R hS ?_
  obtain ⟨hk_33, hV⟩ := hV
  refine Rn hS (ex_at_truth concrete86 rfl h_6 hk_33) ?_
  refine R hS ?_
  refine WL.nx (Sb [(6, .bool a_1.truthD), (7, .bool b_4.truthD)] ?_)
  replace hS := hS.drop
  refine WC.seq (WC.block (WC.sr ?_))
  iterate 2 refine R hS ?_
  refine Rn hS (ex_beql underlying86 rfl rfl) ?_
  refine R hS ?_
  refine WL.nx ?_
  refine Cd ?_ ?_
  intro hc_35
  replace hV := hV.1 hc_35
  refine WC.sr (R hS ?_)
  refine WL.nx (WC.ret (WQ.out nofun (Wp ?_)))
  refine WQ.out nofun (Wp ?_)
  exact leave1 rfl rfl (⟨(0 : Int), hV, rfl, i0, hS⟩)
  intro hc_35
  replace hV := hV.2 hc_35
  refine WC.sr ?_
  iterate 2 refine R hS ?_
  refine WL.nx ?_
  refine Cd ?_ ?_
  intro hc_34
  replace hV := hV.1 hc_34
  refine WC.sr (R hS ?_)
  refine WL.nx (WC.ret (WQ.out nofun (Wp ?_)))
  refine WQ.out nofun (Wp ?_)
  exact leave1 rfl rfl (⟨(-1), hV, rfl, (show I64 ((-1) : Int) by unfold I64; omega), hS⟩)
  intro hc_34
  replace hV := hV.2 hc_34
  refine WC.skip (WQ.out nofun (WQ.next (WC.sr (R hS ?_))))
  refine WL.nx (WC.ret (WQ.out nofun (Wp ?_)))
  exact leave1 rfl rfl (⟨(1 : Int), hV, rfl, (show I64 (1 : Int) by unfold I64; omega), hS⟩)
  intro hc_180
  replace hV := hV.2 hc_180
  refine WC.sr (Rn hS (ex_as_num concrete87 zeroValue87 rfl h_3) ?_)
  iterate 2 refine R hS ?_
  refine WL.nx ?_
  refine Cd ?_ ?_
  intro hc_179
  replace hV := hV.1 hc_179
  refine WC.sr (R hS ?_)
  refine WL.nx (Sb [(3, (pq b_9)), (8, i6 a_1.numD)] ?_)
  refine WC.sr ?_
  iterate 3 refine R hS ?_
  obtain ⟨hk_36, hV⟩ := hV
  refine Rn hS (ex_at_num concrete87 rfl h_6 hk_36) ?_
  refine Rc (enters0 (vs := [i6 a_1.numD, i6 b_4.numD]) call49 ⟨rfl, rfl, trivial⟩) (S_cmpN (I64.num h_3) (I64.num h_6) hS hV) ?_
  clear hV hS
  rintro _ w ⟨r_37, hV, rfl, hr_38, hS⟩
  refine ⟨_, rfl, ?_⟩
  refine R hS ?_
  refine WL.nx ?_
  replace hS := hS.drop
  refine WC.ret (WQ.out nofun (Wp ?_))
  exact leave1 rfl rfl (⟨r_37, hV, rfl, hr_38, hS⟩)
  intro hc_179
  replace hV := hV.2 hc_179
  refine WC.sr (Rn hS (ex_as_text concrete89 zeroValue89 rfl h_3) ?_)
  iterate 2 refine R hS ?_
  refine WL.nx (Sb [(3, (pq b_9)), (28, u_2), (50, .bool a_1.isText), (51, sv a_1.textD)] ?_)
  refine Cd ?_ ?_
  intro hc_178
  replace hV := hV.1 hc_178
  refine WC.sr (R hS ?_)
  refine WL.nx (WC.sr ?_)
  iterate 3 refine R hS ?_
  obtain ⟨hk_40, hV⟩ := hV
  refine Rn hS (ex_at_text concrete89 rfl h_6 hk_40) ?_
  refine Rc (enters0 (vs := [sv a_1.textD, sv b_4.textD]) call50 ⟨rfl, rfl, trivial⟩) (S_cmpX  hS hV) ?_
  clear hV hS
  rintro _ w ⟨r_41, hV, rfl, hr_42, hS⟩
  refine ⟨_, rfl, ?_⟩
  refine R hS ?_
  refine WL.nx (Sb [(4, i6 r_41)] ?_)
  replace hS := hS.drop
  refine WC.ret (WQ.out nofun (Wp ?_))
  exact leave1 rfl rfl (⟨r_41, hV, rfl, hr_42, hS⟩)
  intro hc_178
  replace hV := hV.2 hc_178
  refine WC.sr (Rn hS (ex_as_atom concrete91 zeroValue91 rfl h_3) ?_)
  iterate 2 refine R hS ?_
  refine WL.nx ?_
  refine Cd ?_ ?_
  intro hc_177
  replace hV := hV.1 hc_177
  refine WC.sr (R hS ?_)
  refine WL.nx (WC.sr ?_)
  iterate 3 refine R hS ?_
  obtain ⟨hk_44, hV⟩ := hV
  refine Rn hS (ex_at_atom concrete91 rfl h_6 hk_44) ?_
  refine Rc (enters0 (vs := [sv a_1.atomD, sv b_4.atomD]) call51 ⟨rfl, rfl, trivial⟩) (S_cmpA  hS hV) ?_
  clear hV hS
  rintro _ w ⟨r_45, hV, rfl, hr_46, hS⟩
  refine ⟨_, rfl, ?_⟩
  refine R hS ?_
  refine WL.nx (Sb [(4, i6 r_45)] ?_)
  replace hS := hS.drop
  refine WC.ret (WQ.out nofun (Wp ?_))
  exact leave1 rfl rfl (⟨r_45, hV, rfl, hr_46, hS⟩)
  intro hc_177
  replace hV := hV.2 hc_177
  refine WC.sr (Rx hS (ex_as_set concrete93 zeroValue93 rfl h_3) ?_)
  rintro _ ⟨u_48, rfl, hu_49⟩
  iterate 2 refine R hS ?_
  refine WL.nx ?_
  refine Cd ?_ ?_
  intro hc_176
  replace hV := hV.1 hc_176
  refine WC.sr (R hS ?_)
  refine WL.nx (WC.seq (WC.drawn (σ := [0, 1, 2, 3, 4, 5, 6, 7, 8, 9, 10, 11]) (C := St w0 H ([(b_9, oc #[u_5] 25)] ++ L)) [[], [0], [0, 1], [0, 1, 2], [], [4], [4, 5], [4, 5, 6], [4, 5, 6, 7], [4, 5, 6, 7, 8], [0, 1, 2, 3, 4, 5, 6, 7, 8, 9], [0, 1, 2, 3, 4, 5, 6, 7, 8, 9, 10]] [10] mixed (by kernel_rfl) (hS.drawn _) ?_))
  clear hS w
  refine Dm fun q_51 hq_50 => ?_
  obtain ⟨hk_54, hV⟩ := hV
  refine Wd.run rfl rfl rfl rfl (fun _ => ex_nc_set rfl hu_49 hk_54) fun q_53 hq_52 => ?_
  refine Wd.runx rfl rfl rfl rfl (exAll (ex_set_l underlying96 rfl sizeOf42 rfl rfl hu_49 hk_54)) ?_
  intro p_57 hp_58
  intro q_56 hq_55
  refine Wd.runs (fp := ([] : Seg)) (L := [(b_9, oc #[u_5] 25)] ++ L) rfl rfl rfl rfl (ex_load_s isAgg42 rfl rfl hp_58) (fun _ h => h) ?_
  intro u_63 hu_64
  replace hu_64 := cSl_rep hu_64
  intro q_60 hq_59
  refine Wd.run rfl rfl rfl rfl (fun _ => ex_fieldAddr (o' := 0) underlying25 rfl sizeOf23 rfl rfl) fun q_66 hq_65 => ?_
  refine Wd.runb (off := 0) rfl rfl rfl rfl (fun _ _ _ h => ex_load_box isAgg23 rfl h) rfl (fun _ h => h) fun q_68 hq_67 => ?_
  obtain ⟨hk_73, hV⟩ := hV
  refine Wd.runx rfl rfl rfl rfl (exAll (ex_at_set concrete93 rfl h_6 hk_73)) ?_
  intro u_71 hu_72
  intro q_70 hq_69
  obtain ⟨hk_76, hV⟩ := hV
  refine Wd.run rfl rfl rfl rfl (fun _ => ex_nc_set rfl hu_72 hk_76) fun q_75 hq_74 => ?_
  refine Wd.runx rfl rfl rfl rfl (exAll (ex_set_l underlying96 rfl sizeOf42 rfl rfl hu_72 hk_76)) ?_
  intro p_79 hp_80
  intro q_78 hq_77
  refine Wd.runs (fp := ([] : Seg)) (L := [(b_9, oc #[u_5] 25)] ++ L) rfl rfl rfl rfl (ex_load_s isAgg42 rfl rfl hp_80) (fun _ h => h) ?_
  intro u_85 hu_86
  replace hu_86 := cSl_rep hu_86
  intro q_82 hq_81
  refine Wd.turn rfl rfl rfl fun w hS => ?_
  refine Rc (enters0 (vs := [u_63, u_85]) call52 ⟨rfl, rfl, trivial⟩) (S_cmpLists (@ih) hu_64 hu_86 hS hV) ?_
  clear hV hS
  rintro _ w ⟨r_87, hV, rfl, hr_88, hS⟩
  refine ⟨_, rfl, ?_⟩
  refine WL.nil (DQ.mk2 (C' := St w0 H ([(b_9, oc #[u_5] 25)] ++ L)) hS ⟨il, il, il, il, il, il, il, il, il, il, trivial⟩ ?_)
  clear hS w
  refine Wd.run rfl rfl rfl rfl (fun _ => ex_assign rfl) fun q_91 hq_90 => ?_
  refine Wd.nil fun w hS => ?_
  refine WQ.next (Sb [(4, i6 r_87)] ?_)
  replace hS := hS.drop
  refine WC.ret (WQ.out nofun (Wp ?_))
  exact leave1 rfl rfl (⟨r_87, hV, rfl, hr_88, hS⟩)
  intro hc_176
  replace hV := hV.2 hc_176
  refine WC.sr (Rx hS (ex_as_fn concrete97 zeroValue97 rfl h_3) ?_)
  rintro _ ⟨u_92, rfl, hu_93⟩
  iterate 2 refine R hS ?_
  refine WL.nx (Sb [(3, (pq b_9)), (80, .bool a_1.isFn), (81, u_92)] ?_)
  refine Cd ?_ ?_
  intro hc_175
  replace hV := hV.1 hc_175
  refine WC.sr (R hS ?_)
  refine WL.nx (WC.sr ?_)
  iterate 2 refine R hS ?_
  obtain ⟨hk_96, hV⟩ := hV
  refine Rx hS (ex_at_fn concrete97 rfl h_6 hk_96) ?_
  intro u_94 hu_95
  refine R hS ?_
  refine WL.nx ?_
  replace hS := hS.drop
  refine WC.seq (WC.drawn (σ := [0, 1, 2, 3, 4, 5, 6, 7, 9, 10, 11, 12, 13, 14, 15, 16, 8, 17, 18, 19, 20]) (C := St w0 H (L)) [[], [0], [0, 1], [0, 1, 2], [], [4], [4, 5], [4, 5, 6], [0, 1, 2, 3, 4, 5, 6, 7], [], [9], [9, 10], [9, 10, 11], [], [13], [13, 14], [13, 14, 15], [0, 1, 2, 3, 4, 5, 6, 7, 8, 9, 10, 11, 12, 13, 14, 15, 16], [0, 1, 2, 3, 4, 5, 6, 7, 8, 9, 10, 11, 12, 13, 14, 15, 16, 17], [0, 1, 2, 3, 4, 5, 6, 7, 8, 9, 10, 11, 12, 13, 14, 15, 16, 17, 18], [0, 1, 2, 3, 4, 5, 6, 7, 8, 9, 10, 11, 12, 13, 14, 15, 16, 17, 18, 19]] [8, 17, 18, 19] mixed (by kernel_rfl) (hS.drawn _) ?_)
  clear hS w
  refine Dm fun q_98 hq_97 => ?_
  obtain ⟨hk_101, hV⟩ := hV
  refine Wd.run rfl rfl rfl rfl (fun _ => ex_nc_fn rfl hu_93 hk_101) fun q_100 hq_99 => ?_
  refine Wd.runx rfl rfl rfl rfl (exAll (ex_fn_k underlying100 rfl sizeOf42 rfl rfl hu_93 hk_101)) ?_
  intro p_104 hp_105
  intro q_103 hq_102
  refine Wd.runs (fp := ([] : Seg)) (L := L) rfl rfl rfl rfl (ex_load_s isAgg42 rfl rfl hp_105) (fun _ h => h) ?_
  intro u_110 hu_111
  replace hu_111 := cSl_rep hu_111
  intro q_107 hq_106
  refine Dm fun q_113 hq_112 => ?_
  obtain ⟨hk_116, hV⟩ := hV
  refine Wd.run rfl rfl rfl rfl (fun _ => ex_nc_fn rfl hu_95 hk_116) fun q_115 hq_114 => ?_
  refine Wd.runx rfl rfl rfl rfl (exAll (ex_fn_k underlying100 rfl sizeOf42 rfl rfl hu_95 hk_116)) ?_
  intro p_119 hp_120
  intro q_118 hq_117
  refine Wd.runs (fp := ([] : Seg)) (L := L) rfl rfl rfl rfl (ex_load_s isAgg42 rfl rfl hp_120) (fun _ h => h) ?_
  intro u_125 hu_126
  replace hu_126 := cSl_rep hu_126
  intro q_122 hq_121
  refine Dm fun q_128 hq_127 => ?_
  obtain ⟨hk_131, hV⟩ := hV
  refine Wd.run rfl rfl rfl rfl (fun _ => ex_nc_fn rfl hu_93 hk_131) fun q_130 hq_129 => ?_
  refine Wd.runx rfl rfl rfl rfl (exAll (ex_fn_v underlying100 rfl sizeOf42 rfl rfl hu_93 hk_131)) ?_
  intro p_134 hp_135
  intro q_133 hq_132
  refine Wd.runs (fp := ([] : Seg)) (L := L) rfl rfl rfl rfl (ex_load_s isAgg42 rfl rfl hp_135) (fun _ h => h) ?_
  intro u_140 hu_141
  replace hu_141 := cSl_rep hu_141
  intro q_137 hq_136
  refine Dm fun q_143 hq_142 => ?_
  obtain ⟨hk_146, hV⟩ := hV
  refine Wd.run rfl rfl rfl rfl (fun _ => ex_nc_fn rfl hu_95 hk_146) fun q_145 hq_144 => ?_
  refine Wd.runx rfl rfl rfl rfl (exAll (ex_fn_v underlying100 rfl sizeOf42 rfl rfl hu_95 hk_146)) ?_
  intro p_149 hp_150
  intro q_148 hq_147
  refine Wd.runs (fp := ([] : Seg)) (L := L) rfl rfl rfl rfl (ex_load_s isAgg42 rfl rfl hp_150) (fun _ h => h) ?_
  intro u_155 hu_156
  replace hu_156 := cSl_rep hu_156
  intro q_152 hq_151
  refine Wd.turn rfl rfl rfl fun w hS => ?_
  refine Rc (enters0 (vs := [u_110, u_125]) call52 ⟨rfl, rfl, trivial⟩) (S_cmpLists (@ih) hu_111 hu_126 hS hV) ?_
  clear hV hS
  rintro _ w ⟨r_157, hV, rfl, hr_158, hS⟩
  refine ⟨_, rfl, ?_⟩
  refine WL.nil (DQ.mk2 (C' := St w0 H (L)) hS ⟨.inr (hq_151 H L _ (View.le.refl _) (fun _ h => h)), .inr (hq_147 _), .inr (hq_144 _), .inr (hq_142 _), .inr (hq_136 H L _ (View.le.refl _) (fun _ h => h)), .inr (hq_132 _), .inr (hq_129 _), .inr (hq_127 _), il, il, il, il, il, il, il, il, trivial⟩ ?_)
  clear hS w
  refine Wd.turn rfl rfl rfl fun w hS => ?_
  refine Rc (enters0 (vs := [u_140, u_155]) call52 ⟨rfl, rfl, trivial⟩) (S_cmpLists (@ih) hu_141 hu_156 hS hV) ?_
  clear hV hS
  rintro _ w ⟨r_160, hV, rfl, hr_161, hS⟩
  refine ⟨_, rfl, ?_⟩
  refine WL.nil (DQ.mk2 (C' := St w0 H (L)) hS ⟨il, il, il, il, il, il, il, il, il, il, il, il, il, il, il, il, trivial⟩ ?_)
  clear hS w
  refine Wd.turn rfl rfl rfl fun w hS => ?_
  refine WL.buildn (c := (cInt .i64)) (xs := [r_157, r_160]) (vs := [i6 r_157, i6 r_160]) rfl underlying130 info3 rfl rfl ⟨rfl, rfl, trivial⟩ rfl ⟨_, _, rfl, (cInt_mk (I64.has hr_158)), ⟨_, _, rfl, (cInt_mk (I64.has hr_161)), rfl⟩⟩ hS rfl ?_
  clear hS
  intro v_164 w fp_165 h_166 hS
  refine WL.nil (DQ.mk2 (C' := St w0 H (fp_165 ++ L)) hS ⟨il, il, il, il, il, il, il, il, il, il, il, il, il, il, il, il, trivial⟩ ?_)
  clear hS w
  refine Wd.turn rfl rfl rfl fun w hS => ?_
  have hL_167 := hS.freeze
  refine Rc (enters0 (vs := [v_164]) call53 ⟨rfl, trivial⟩) (S_cmpOr (h_166.share hS.put_le) hL_167 hV) ?_
  clear hV
  rintro _ w ⟨r_168, hV, rfl, hr_169, hL_170⟩
  refine ⟨_, rfl, ?_⟩
  have hB_172 := hS.back hL_170
  replace hS := hB_172
  clear hL_170 hL_167 hB_172
  refine WL.nil (DQ.mk2 (C' := St w0 H (fp_165 ++ L)) hS ⟨il, il, il, il, il, il, il, il, il, il, il, il, il, il, il, il, trivial⟩ ?_)
  clear hS w
  refine Wd.run rfl rfl rfl rfl (fun _ => ex_assign rfl) fun q_174 hq_173 => ?_
  refine Wd.nil fun w hS => ?_
  refine WQ.next (Sb [(4, i6 r_168)] ?_)
  replace hS := hS.drop
  refine WC.ret (WQ.out nofun (Wp ?_))
  exact leave1 rfl rfl (⟨r_168, hV, rfl, hr_169, hS⟩)
  intro hc_175
  replace hV := hV.2 hc_175
  refine WC.skip (WQ.out nofun (WQ.next ?_))
  replace hS := hS.drop
  refine WC.sr (R hS ?_)
  refine WL.nx (WC.ret ?_)
  exact leave1 rfl rfl (⟨(0 : Int), hV, rfl, i0, hS⟩)
  clear hJ_30
  refine WC.region ?_
  iterate 3 refine R hS ?_
  rcases bft (decide (r_21 ≠ (0 : Int))) with hg_32 | hg_32
  replace hV := hV.1 (od hg_32)
  iterate 4 refine R hS ?_
  refine WL.nil ?_
  replace hS := hS.f2
  exact Wt fun a ha => ⟨true, hV, hS, ha.os⟩
  replace hV := hV.2 (ov hg_32)
  refine R hS ?_
  refine Ug hg_32 ?_
  replace hS := hS.f2
  refine R hS ?_
  refine Ug hg_32 ?_
  refine Rn hS (ex_v_eql iface23 rfl h_3) ?_
  refine R hS ?_
  refine WL.nil ?_
  replace hS := hS.f2.f2
  exact Wt fun a ha => ⟨a_1.isNil, hV, hS, ha.os⟩
theorem S_Truth {w0 : World} {H : View} {L : Seg} {w : World} {b_1 : Bool} {Q : Val → Prop}  (hS : St w0 H (L) w) (hV : V_Truth b_1 Q) :
 Calls Tryz.prog 106 #[.bool b_1] w fun e w' => ∃ (r1 : Val) (u1 : Value) (H' : View), Q r1 ∧ e = .returned (.agg #[u1]) ∧ View.le H H' ∧ IsW H' u1 r1 ∧ St w0 H' (L) w' := by
 unfold V_Truth at hV
 refine enter func106 rfl ntmps106 rfl (lk_args_cons (d := 0) (v := .bool b_1) rfl (lk_args_nil _)) (WC.sr (WL.alloc (arr := #[.nilIface]) rfl zeroValue25 rfl hS ?_))
 clear hS
 intro b_2 w hS
 refine WL.nx (WC.sr (R hS ?_))
 refine Rn hS (ex_makeIface concrete86 rfl) ?_
 refine Rn hS (ex_build (vs := [.iface 86 (.bool b_1)]) (zc := #[.nilIface]) (cs := #[.iface 86 (.bool b_1)]) (places := #[(0, 1)]) underlying25 zeroValue25 (fun w => by simp [sizeOf23]) rfl ⟨rfl, trivial⟩ rfl (by simp [Instr.fill, cells_int, cells_bool, cells_iface, cells_niliface, cells_slice, str_cells])) ?_
 refine St1 #[.iface 86 (.bool b_1)] sizeOf25 hS ?_
 clear hS
 intro w hS
 refine WL.nx (WC.ret ?_)
 have hl_4 := load_own_agg (P := Tryz.prog) (cs := [.iface 86 (.bool b_1)]) isAgg25 sizeOf25 hS rfl
 replace hS := hS.drop
 exact leavec1 (il) rfl rfl hl_4 (⟨(Val.truth b_1), (.iface 86 (.bool b_1)), H, hV, rfl, (View.le.refl _), IsW.truth, hS⟩)
theorem S_Number {w0 : World} {H : View} {L : Seg} {w : World} {n_1 : Int} {Q : Val → Prop} (hr_2 : I64 n_1) (hS : St w0 H (L) w) (hV : V_Number n_1 Q) :
 Calls Tryz.prog 100 #[i6 n_1] w fun e w' => ∃ (r1 : Val) (u1 : Value) (H' : View), Q r1 ∧ e = .returned (.agg #[u1]) ∧ View.le H H' ∧ IsW H' u1 r1 ∧ St w0 H' (L) w' := by
 unfold V_Number at hV
 refine enter func100 rfl ntmps100 rfl (lk_args_cons (d := 0) (v := i6 n_1) rfl (lk_args_nil _)) (WC.sr (WL.alloc (arr := #[.nilIface]) rfl zeroValue25 rfl hS ?_))
 clear hS
 intro b_3 w hS
 refine WL.nx (WC.sr (R hS ?_))
 refine Rn hS (ex_makeIface concrete87 rfl) ?_
 refine Rn hS (ex_build (vs := [.iface 87 (i6 n_1)]) (zc := #[.nilIface]) (cs := #[.iface 87 (i6 n_1)]) (places := #[(0, 1)]) underlying25 zeroValue25 (fun w => by simp [sizeOf23]) rfl ⟨rfl, trivial⟩ rfl (by simp [Instr.fill, cells_int, cells_bool, cells_iface, cells_niliface, cells_slice, str_cells])) ?_
 refine St1 #[.iface 87 (i6 n_1)] sizeOf25 hS ?_
 clear hS
 intro w hS
 refine WL.nx (WC.ret ?_)
 have hl_5 := load_own_agg (P := Tryz.prog) (cs := [.iface 87 (i6 n_1)]) isAgg25 sizeOf25 hS rfl
 replace hS := hS.drop
 exact leavec1 (il) rfl rfl hl_5 (⟨(Val.num n_1), (.iface 87 (i6 n_1)), H, hV, rfl, (View.le.refl _), (IsW.num hr_2), hS⟩)
theorem S_Text {w0 : World} {H : View} {L : Seg} {w : World} {s_1 : Str} {Q : Val → Prop}  (hS : St w0 H (L) w) (hV : V_Text s_1 Q) :
 Calls Tryz.prog 103 #[sv s_1] w fun e w' => ∃ (r1 : Val) (u1 : Value) (H' : View), Q r1 ∧ e = .returned (.agg #[u1]) ∧ View.le H H' ∧ IsW H' u1 r1 ∧ St w0 H' (L) w' := by
 unfold V_Text at hV
 refine enter func103 rfl ntmps103 rfl (lk_args_cons (d := 0) (v := sv s_1) rfl (lk_args_nil _)) (WC.sr (WL.alloc (arr := #[.nilIface]) rfl zeroValue25 rfl hS ?_))
 clear hS
 intro b_2 w hS
 refine WL.nx (WC.sr (R hS ?_))
 refine Rn hS (ex_makeIface concrete89 rfl) ?_
 refine Rn hS (ex_build (vs := [.iface 89 (sv s_1)]) (zc := #[.nilIface]) (cs := #[.iface 89 (sv s_1)]) (places := #[(0, 1)]) underlying25 zeroValue25 (fun w => by simp [sizeOf23]) rfl ⟨rfl, trivial⟩ rfl (by simp [Instr.fill, cells_int, cells_bool, cells_iface, cells_niliface, cells_slice, str_cells])) ?_
 refine St1 #[.iface 89 (sv s_1)] sizeOf25 hS ?_
 clear hS
 intro w hS
 refine WL.nx (WC.ret ?_)
 have hl_4 := load_own_agg (P := Tryz.prog) (cs := [.iface 89 (sv s_1)]) isAgg25 sizeOf25 hS rfl
 replace hS := hS.drop
 exact leavec1 (il) rfl rfl hl_4 (⟨(Val.text s_1), (.iface 89 (sv s_1)), H, hV, rfl, (View.le.refl _), IsW.text, hS⟩)
theorem S_Atom {w0 : World} {H : View} {L : Seg} {w : World} {s_1 : Str} {Q : Val → Prop}  (hS : St w0 H (L) w) (hV : V_Atom s_1 Q) :
 Calls Tryz.prog 108 #[sv s_1] w fun e w' => ∃ (r1 : Val) (u1 : Value) (H' : View), Q r1 ∧ e = .returned (.agg #[u1]) ∧ View.le H H' ∧ IsW H' u1 r1 ∧ St w0 H' (L) w' := by
 unfold V_Atom at hV
 refine enter func108 rfl ntmps108 rfl (lk_args_cons (d := 0) (v := sv s_1) rfl (lk_args_nil _)) (WC.sr (WL.alloc (arr := #[.nilIface]) rfl zeroValue25 rfl hS ?_))
 clear hS
 intro b_2 w hS
 refine WL.nx (WC.sr (R hS ?_))
 refine Rn hS (ex_makeIface concrete91 rfl) ?_
 refine Rn hS (ex_build (vs := [.iface 91 (sv s_1)]) (zc := #[.nilIface]) (cs := #[.iface 91 (sv s_1)]) (places := #[(0, 1)]) underlying25 zeroValue25 (fun w => by simp [sizeOf23]) rfl ⟨rfl, trivial⟩ rfl (by simp [Instr.fill, cells_int, cells_bool, cells_iface, cells_niliface, cells_slice, str_cells])) ?_
 refine St1 #[.iface 91 (sv s_1)] sizeOf25 hS ?_
 clear hS
 intro w hS
 refine WL.nx (WC.ret ?_)
 have hl_4 := load_own_agg (P := Tryz.prog) (cs := [.iface 91 (sv s_1)]) isAgg25 sizeOf25 hS rfl
 replace hS := hS.drop
 exact leavec1 (il) rfl rfl hl_4 (⟨(Val.atom s_1), (.iface 91 (sv s_1)), H, hV, rfl, (View.le.refl _), IsW.atom, hS⟩)
theorem S_ascSet {w0 : World} {H : View} {L : Seg} {w : World} {v_2 : Value} {l_1 : List (Val)} {Q : Val → Prop} (h_3 : IsSl H cV v_2 l_1) (hS : St w0 H (L) w) (hV : V_ascSet l_1 Q) :
 Calls Tryz.prog 99 #[v_2] w fun e w' => ∃ (r1 : Val) (u1 : Value) (H' : View), Q r1 ∧ e = .returned (.agg #[u1]) ∧ View.le H H' ∧ IsW H' u1 r1 ∧ St w0 H' (L) w' := by
 unfold V_ascSet at hV
 refine enter func99 rfl ntmps99 rfl (lk_args_cons (d := 0) (v := v_2) rfl (lk_args_nil _)) (WC.sr (WL.alloc (arr := #[.nilIface]) rfl zeroValue25 rfl hS ?_))
 clear hS
 intro b_4 w hS
 refine WL.nx (WC.sr (R hS ?_))
 refine WL.nx (WC.seq (WC.sr (R hS ?_)))
 have hl_6 : Len l_1 := h_3.bound
 replace hV := hV hl_6
 refine Rn hS (ex_len_sl underlying42 rfl h_3) ?_
 refine R hS ?_
 refine WL.nx (WC.block ?_)
 obtain ⟨I_49, mu_50, hI_79, hV⟩ := hV
 refine WC.loop (σ := Int × Int) (fun s a w => ∃ (heavy_26 : Int) (x_28 : Int), s = (heavy_26, x_28) ∧ I_49 (heavy_26, x_28) ∧ I64 heavy_26 ∧ I64 x_28 ∧ St w0 H ([(b_4, oc #[.nilIface] 25)] ++ L) w ∧ Fr 26 [(0, v_2), (2, (pq b_4)), (3, i6 heavy_26), (6, v_2), (7, i6 (l_1.length : Int)), (8, i6 x_28)] a) mu_50 ((1 : Int), (0 : Int)) ?_ ?_
 exact fun a ha => ⟨(1 : Int), (0 : Int), rfl, hI_79, (show I64 (1 : Int) by unfold I64; omega), i0, hS, ha.os⟩
 clear hS hI_79
 rintro _ a w ⟨heavy_26, x_28, rfl, hI, hr_27, hr_29, hS, ha⟩
 refine in_frame ha ?_
 clear ha
 replace hV := hV _ hI
 clear hI
 refine WC.sr (R hS ?_)
 refine WL.nx (WC.seq ?_)
 refine Cd ?_ ?_
 intro hc_78
 replace hV := hV.1 (od hc_78)
 refine WC.skip (WQ.next (WC.seq (WC.block (WC.sr ?_))))
 obtain ⟨hin_53, hV⟩ := hV
 refine Rx hS (ex_index underlying42 sizeOf25 rfl rfl h_3 hin_53) ?_
 intro p_54 hp_55
 refine Rx hS (ex_load_agg isAgg25 sizeOf25 rfl hp_55) ?_
 rintro u_56 ⟨_, rfl, hu⟩
 obtain ⟨u_57, rfl, h_58⟩ := cV_one hu
 refine WL.alloc (arr := #[.nilIface]) rfl zeroValue25 rfl hS ?_
 clear hS
 intro b_59 w hS
 refine St1 #[u_57] sizeOf25 hS ?_ (cs := [u_57]) (hone := ⟨(IsW.one h_58), trivial⟩)
 clear hS
 intro w hS
 refine WL.nx (WC.sr (R hS ?_))
 refine Rn hS (ex_load_box_agg (cs := [u_57]) isAgg25 sizeOf25 rfl rfl rfl) ?_
 refine Rc (enters0 (vs := [.agg #[u_57]]) call13 ⟨rfl, trivial⟩) (S_Weight h_58 hS hV) ?_
 clear hV hS
 rintro _ w ⟨r_61, hV, rfl, hr_62, hS⟩
 refine ⟨_, rfl, ?_⟩
 obtain ⟨hi_65, hV⟩ := hV
 iterate 2 refine R hS ?_
 refine WL.nx ?_
 replace hS := hS.drop
 refine WC.sr ?_
 iterate 2 refine R hS ?_
 refine WL.nx ?_
 refine Cd ?_ ?_
 intro hc_70
 replace hV := hV.1 (od hc_70)
 refine WC.sr (Rn hS (ex_build (vs := []) (zc := #[.nilIface]) (cs := #[.nilIface]) (places := #[(0, 1)]) underlying25 zeroValue25 (fun w => by simp [sizeOf23]) rfl trivial rfl (by simp [Instr.fill, cells_int, cells_bool, cells_iface, cells_niliface, cells_slice, str_cells])) ?_)
 refine St1 #[.nilIface] sizeOf25 hS ?_
 clear hS
 intro w hS
 refine WL.nx (Sb [(2, (pq b_4))] ?_)
 refine WC.ret (WQ.out nofun (Wp ?_))
 refine Wp ?_
 refine WQ.out nofun (Wp ?_)
 have hl_67 := load_own_agg (P := Tryz.prog) (cs := [.nilIface]) isAgg25 sizeOf25 hS rfl
 replace hS := hS.drop
 exact leavec1 (il) rfl rfl hl_67 (⟨Val.nil, .nilIface, H, hV, rfl, (View.le.refl _), IsW.nil, hS⟩)
 intro hc_70
 replace hV := hV.2 (ov hc_70)
 refine WC.skip (WQ.out nofun (WQ.next (Sb [(0, v_2), (2, (pq b_4)), (3, i6 (heavy_26 + r_61)), (6, v_2), (7, i6 (l_1.length : Int)), (8, i6 x_28)] ?_)))
 refine WC.region ?_
 obtain ⟨hi_69, hV⟩ := hV
 iterate 2 refine R hS ?_
 refine WL.nil ?_
 exact Wt fun a ha => ⟨((heavy_26 + r_61), (x_28 + (1 : Int))), ⟨(heavy_26 + r_61), (x_28 + (1 : Int)), rfl, hV.1, hi_65, hi_69, hS, ha.os⟩, hV.2⟩
 intro hc_78
 replace hV := hV.2 (ov hc_78)
 refine WC.exit (Wp ?_)
 refine Wp ?_
 refine WQ.hit (WQ.next (WC.sr ?_))
 iterate 2 refine R hS ?_
 refine Rn hS (ex_build (vs := [v_2, i6 heavy_26]) (zc := #[ns, i6 0]) (cs := #[v_2, i6 heavy_26]) (places := #[(0, 1), (1, 1)]) underlying96 zeroValue96 (fun w => by simp [sizeOf3, sizeOf42]) rfl ⟨rfl, rfl, trivial⟩ rfl (by simp [Instr.fill, cells_int, cells_bool, cells_iface, cells_niliface, cells_slice, str_cells, cells_one (IsSl.one h_3)])) ?_
 refine WL.box (arr := #[v_2, i6 heavy_26]) rfl rfl rfl hS ?_
 clear hS
 intro b_72 w hS
 refine Rn hS (ex_makeIface concrete93 rfl) ?_
 obtain ⟨H_74, le_75, h_76, hS⟩ : ∃ K, View.le H K ∧ IsW K (.iface 93 ((pq b_72))) (Val.set l_1 heavy_26) ∧ St w0 K ([(b_4, oc #[.nilIface] 25)] ++ L) w := ⟨_, hS.put_le, IsW.mkset hS h_3 hr_27, hS.freeze⟩
 refine Rn hS (ex_build (vs := [.iface 93 ((pq b_72))]) (zc := #[.nilIface]) (cs := #[.iface 93 ((pq b_72))]) (places := #[(0, 1)]) underlying25 zeroValue25 (fun w => by simp [sizeOf23]) rfl ⟨rfl, trivial⟩ rfl (by simp [Instr.fill, cells_int, cells_bool, cells_iface, cells_niliface, cells_slice, str_cells, cells_ptr])) ?_
 refine St1 #[.iface 93 ((pq b_72))] sizeOf25 hS ?_
 clear hS
 intro w hS
 refine WL.nx (Sb [(2, (pq b_4))] ?_)
 refine WC.ret ?_
 have hl_77 := load_own_agg (P := Tryz.prog) (cs := [.iface 93 ((pq b_72))]) isAgg25 sizeOf25 hS rfl
 replace hS := hS.drop
 exact leavec1 (il) rfl rfl hl_77 (⟨(Val.set l_1 heavy_26), (.iface 93 ((pq b_72))), H_74, hV, rfl, ((View.le.refl _).trans le_75), h_76, hS⟩)
theorem S_SetOf1 {w0 : World} {H : View} {L : Seg} {w : World} {a_1 : Val} {u_2 : Value} {b_4 : Val} {u_5 : Value} {Q : Bool → Prop} (h_3 : IsW H u_2 a_1) (h_6 : IsW H u_5 b_4) (hS : St w0 H (L) w) (hV : V_SetOf1 a_1 b_4 Q) :
 Calls Tryz.prog 98 #[.agg #[u_2], .agg #[u_5]] w fun e w' => ∃ (r1 : Bool), Q r1 ∧ e = .returned (.bool r1) ∧ St w0 H (L) w' := by
 unfold V_SetOf1 at hV
 refine enter func98 rfl ntmps98 rfl (lk_args_cons (d := 0) (v := .agg #[u_2]) rfl (lk_args_cons (d := 1) (v := .agg #[u_5]) rfl (lk_args_nil _))) (WC.sr (WL.box (arr := #[u_2]) rfl rfl rfl hS ?_))
 clear hS
 intro b_7 w hS
 refine WL.box (arr := #[u_5]) rfl rfl rfl hS ?_
 clear hS
 intro b_9 w hS
 refine R hS ?_
 refine WL.nx (WC.sr ?_)
 replace hS := hS.f2
 refine Rn hS (ex_load_box_agg (cs := [u_2]) isAgg25 sizeOf25 rfl rfl rfl) ?_
 replace hS := hS.f2
 refine Rn hS (ex_load_box_agg (cs := [u_5]) isAgg25 sizeOf25 rfl rfl rfl) ?_
 obtain ⟨mf, hV⟩ := hV
 refine Rc (enters0 (vs := [.agg #[u_2], .agg #[u_5]]) call19 ⟨rfl, rfl, trivial⟩) (S_Compare mf h_3 h_6 hS hV) ?_
 clear hV hS
 rintro _ w ⟨r_11, hV, rfl, hr_12, hS⟩
 refine ⟨_, rfl, ?_⟩
 iterate 2 refine R hS ?_
 refine WL.nx ?_
 replace hS := hS.f2.drop
 replace hS := hS.drop
 refine WC.ret ?_
 exact leave1 rfl rfl (⟨decide (r_11 = (0 : Int)), hV, rfl, hS⟩)
open Go Go.Sort Go.Lib in
theorem S_SortV {w0 : World} {H : View} {L : Seg} {w : World} {v_2 : Value} {x_1 : List (Val)} {fp_4 : Seg} {Q : (List (Val)) → Prop} (h_3 : OwnSl H cV 25 v_2 x_1 fp_4) (hS : St w0 H (fp_4 ++ L) w) (hV : V_SortV x_1 Q) :
    Calls Tryz.prog 96 #[v_2, .func (.func 19) #[] #[]] w fun e w' => ∃ (r1 : List (Val)) (fp1 : Seg), Q r1 ∧ e = .returned (.tuple #[]) ∧ OwnSl H cV 25 v_2 r1 fp1 ∧ St w0 H (fp1 ++ L) w' := by
  obtain ⟨hlen, c, hc, h1, h2, h3, hQ⟩ := hV
  by_cases hx : x_1 = []
  · subst hx
    have hq := hQ [] (List.Perm.refl _) List.Pairwise.nil
    have hv : ∃ p cap, v_2 = .slice p 0 cap := by
      rcases h_3 with ⟨rfl, _, _⟩ | ⟨b, cap, arr, cs, rest, rfl, _⟩
      · exact ⟨_, _, rfl⟩
      · exact ⟨_, _, rfl⟩
    obtain ⟨p, cap, rfl⟩ := hv
    refine (Tryz.slices_SortFunc_none (α := Nat) p cap (.func (.func 19) #[] #[]) w).mono ?_
    rintro e w' ⟨rfl, rfl⟩
    exact ⟨[], fp_4, hq, rfl, h_3, hS⟩
  rcases h_3 with ⟨_, h, _⟩ | ⟨b, cap, arr, cs, rest, rfl, rfl, e3, e4, e5, e6, e7⟩
  · exact absurd h hx
  obtain ⟨S, hSx⟩ : ∃ S : Val → Prop, ∀ y, S y ↔ y ∈ x_1 := ⟨fun y => y ∈ x_1, fun _ => Iff.rfl⟩
  obtain ⟨l, l1, l2⟩ := reps_pairs (S := S) e7 fun y hy => (hSx y).2 hy
  have hlx : l.length = x_1.length := by rw [← l2]; simp
  obtain ⟨p0, hp0⟩ : ∃ p0, p0 ∈ l := by
    cases l with
    | nil => simp at hlx; exact absurd (List.length_eq_zero_iff.1 hlx.symm) hx
    | cons a l => exact ⟨a, by simp⟩
  letI : Inhabited { p : Value × Val // IsW H p.1 p.2 ∧ S p.2 } := ⟨p0⟩
  have hb := hS.own (b, .cells arr 25 (0, 0)) (by simp)
  simp only at hb
  have hHb := hS.sep (b, .cells arr 25 (0, 0)) (by simp)
  simp only at hHb
  have hbl : b < w.heap.size := (Array.getElem?_eq_some_iff.1 hb).1
  have hal : cs.length = x_1.length := by rw [← l1, ← l2]; simp
  have view : ∀ m os (dk : Array { p : Value × Val // IsW H p.1 p.2 ∧ S p.2 }), View.le H (fun k => (sortWorldK (fun p => [p.1.1]) 1 w b 0 m dk os).heap[k]?) := fun m os dk k o hk => by
    have hkw := hS.fits k o hk
    have hkb : k ≠ b := fun e => by rw [e, hHb] at hk; cases hk
    have hks : k < w.heap.size := (Array.getElem?_eq_some_iff.1 hkw).1
    show ((w.heap.modify b _) ++ os)[k]? = some o
    rw [Array.getElem?_append_left (by simpa using hks), Array.getElem?_modify, if_neg (fun e => hkb e.symm)]; exact hkw
  have hcmp : CmpLays Tryz.prog 19 #[] (fun p : { p : Value × Val // IsW H p.1 p.2 ∧ S p.2 } => [p.1.1]) 1 (fun p q => c p.1.2 q.1.2) b 0 l.toArray.size w := fun m os dk hs x y => by
    obtain ⟨mf, hcm⟩ := hc x.1.2 ((hSx _).1 x.2.2) y.1.2 ((hSx _).1 y.2.2)
    have hle := view m os dk
    refine (S_Compare mf (x.2.1.mono hle) (y.2.1.mono hle) (St.refl _) hcm).mono ?_
    rintro e w' ⟨r, hr, rfl, _, hst⟩
    exact ⟨by rw [hr], st_grown hst⟩
  have hO : SWO (ltOf fun p q : { p : Value × Val // IsW H p.1 p.2 ∧ S p.2 } => c p.1.2 q.1.2) := by
    refine ⟨fun x => ?_, fun x y z a b => ?_, fun x y z a b => ?_⟩
    · exact decide_eq_false (h1 _ ((hSx _).1 x.2.2))
    · exact decide_eq_true (h2 _ ((hSx _).1 x.2.2) _ ((hSx _).1 y.2.2) _ ((hSx _).1 z.2.2) (of_decide_eq_true a) (of_decide_eq_true b))
    · exact decide_eq_false (h3 _ ((hSx _).1 x.2.2) _ ((hSx _).1 y.2.2) _ ((hSx _).1 z.2.2) (of_decide_eq_false a) (of_decide_eq_false b))
  have flat : ∀ dk : Array { p : Value × Val // IsW H p.1 p.2 ∧ S p.2 }, ∀ j, j < dk.size → (flatK (fun p => [p.1.1]) 1 dk)[j]! = (dk[j]!).1.1 := fun dk j hj => by
    rw [get_flatK _ _ _ _ (by omega)]; simp [Nat.mod_one]
  have hH : HoldsK (fun p : { p : Value × Val // IsW H p.1 p.2 ∧ S p.2 } => [p.1.1]) 1 w b 0 l.toArray := fun j hj => by
    have hj : j < l.length := by simpa using hj
    have hjc : j < cs.length := by rw [hal, ← hlx]; exact hj
    constructor
    · rw [show (flatK (fun p : { p : Value × Val // IsW H p.1 p.2 ∧ S p.2 } => [p.1.1]) 1 l.toArray)[j]! = _ from flat _ j (by simpa using hj)]
      simp only [World.cell?, hb, Nat.zero_add]
      have : arr[j]? = cs[j]? := by rw [← Array.getElem?_toList, e3, List.getElem?_append_left hjc]
      simp only [Option.isSome_none, Bool.false_eq_true, if_false]
      rw [this]
      have : cs[j]? = some (l[j]).1.1 := by rw [← l1]; simp [hj]
      rw [this]; simp [hj]
    · simp [World.frozen?, hb]
  have main := Tryz.slices_SortFunc 1 (fun w => by kernel_rfl) (fun w => by kernel_rfl) (fun p : { p : Value × Val // IsW H p.1 p.2 ∧ S p.2 } => [p.1.1]) (fun _ => rfl) (fun p v hv => by rw [List.mem_singleton.1 hv]; exact p.2.1.one) _ hO 19 #[] b 0 cap l.toArray w (fun _ _ => by kernel_rfl) hcmp hH hbl (by simp; omega)
  rw [show l.toArray.size = x_1.length by simpa using hlx] at main
  refine main.mono ?_
  rintro e w' ⟨rfl, d', n, os, ⟨hp1, hp2, hp3⟩, hsd, rfl⟩
  have hds : d'.size = x_1.length := by rw [hp1]; simpa using hlx
  have hperm : d'.toList.Perm l := by
    have e1 : d'.extract 0 x_1.length = d' := by rw [← hds]; simp
    have e2 : l.toArray.extract 0 x_1.length = l.toArray := by rw [← hlx]; simp
    rw [e1, e2] at hp3; simpa using hp3
  let arr' := putCells id 0 (flatK (fun p : { p : Value × Val // IsW H p.1 p.2 ∧ S p.2 } => [p.1.1]) 1 d') arr
  have harr : arr'.toList = d'.toList.map (·.1.1) ++ rest := by
    apply List.ext_getElem?
    intro j
    have hes : arr.size = cs.length + rest.length := by rw [← Array.length_toList, e3]; simp
    rw [Array.getElem?_toList]
    show (putCells id 0 _ arr)[j]? = _
    simp only [putCells, Array.getElem?_mapIdx, size_flatK, Nat.mul_one, Nat.zero_add, Nat.zero_le, true_and, Nat.sub_zero, id]
    by_cases hj : j < d'.size
    · rw [List.getElem?_append_left (by simpa using hj)]
      rw [Array.getElem?_eq_getElem (by rw [hes, hal, ← hds]; omega)]
      simp only [Option.map_some, if_pos hj]
      rw [flat d' j hj]
      simp [hj]
    · rw [List.getElem?_append_right (by simpa using hj)]
      have : arr[j]? = rest[j - cs.length]? := by rw [← Array.getElem?_toList, e3, List.getElem?_append_right (by rw [hal, ← hds]; omega)]
      rw [this]
      have e : (d'.toList.map fun p => p.1.1).length = cs.length := by simp [hds, hal]
      rw [e]
      cases rest[j - cs.length]? <;> simp [hj]
  refine ⟨d'.toList.map (·.1.2), [(b, .cells arr' 25 (0, 0))], hQ _ ?_ ?_, rfl, Or.inr ⟨b, cap, arr', d'.toList.map (·.1.1), rest, by simp [hds], rfl, harr, ?_, by simpa [hds] using e5, e6, pairs_reps _⟩, ?_⟩
  · have := hperm.map (·.1.2); rw [l2] at this; exact this
  · rw [List.pairwise_map]
    rw [List.pairwise_iff_getElem]
    intro i j hi hj hij
    have hi' : i < d'.size := by simpa using hi
    have hj' : j < d'.size := by simpa using hj
    have := hsd i j (Nat.zero_le _) hij (by rw [← hds]; exact hj')
    have := of_decide_eq_false this
    simpa [hi', hj'] using this
  · show (putCells id 0 _ arr).size = _
    simp [putCells, e4]
  · have hmod : ∀ k : Nat, (sortWorldK (fun p : { p : Value × Val // IsW H p.1 p.2 ∧ S p.2 } => [p.1.1]) 1 w b 0 n d' os).heap[k]? = ((w.heap.modify b (onCells (putCells id 0 (flatK (fun p : { p : Value × Val // IsW H p.1 p.2 ∧ S p.2 } => [p.1.1]) 1 d')))) ++ os)[k]? := fun k => rfl
    have old : ∀ k : Nat, k < w.heap.size → k ≠ b → (sortWorldK (fun p : { p : Value × Val // IsW H p.1 p.2 ∧ S p.2 } => [p.1.1]) 1 w b 0 n d' os).heap[k]? = w.heap[k]? := fun k hk hkb => by
      rw [hmod, Array.getElem?_append_left (by simpa using hk), Array.getElem?_modify, if_neg (fun e => hkb e.symm)]
    have hnd := hS.nodup
    simp only [List.map_append, List.map_cons, List.map_nil, List.singleton_append, List.nodup_cons] at hnd
    refine ⟨hS.os, hS.tape, hS.output, ?_, fun k o hk => view n os d' k o hk, fun p hp => ?_, fun p hp => ?_, ?_, Nat.le_trans hS.ahead (Nat.le_add_right _ _)⟩
    · show w0.heap.size ≤ ((w.heap.modify b _) ++ os).size
      have := hS.size; simp; omega
    · rcases List.mem_append.1 hp with hp | hp
      · rw [List.mem_singleton.1 hp]
        show (sortWorldK _ 1 w b 0 n d' os).heap[b]? = some (.cells arr' 25 (0, 0))
        rw [hmod, Array.getElem?_append_left (by simpa using hbl), Array.getElem?_modify, if_pos rfl, hb]; rfl
      · have h5 := hS.own p (by simp [hp])
        rw [old p.1 (Array.getElem?_eq_some_iff.1 h5).1 (fun e => hnd.1 (by rw [← e]; exact List.mem_map_of_mem hp))]; exact h5
    · rcases List.mem_append.1 hp with hp | hp
      · rw [List.mem_singleton.1 hp]; exact hHb
      · exact hS.sep p (by simp [hp])
    · simpa using hnd
theorem S_CompactV {w0 : World} {H : View} {L : Seg} {w : World} {v_2 : Value} {s_1 : List (Val)} {fp_4 : Seg} {Q : (List (Val)) → Prop} (h_3 : OwnSl H cV 25 v_2 s_1 fp_4) (hS : St w0 H (fp_4 ++ L) w) (hV : V_CompactV s_1 Q) :
 Calls Tryz.prog 97 #[v_2, .func (.func 98) #[] #[]] w fun e w' => ∃ (r1 : List (Val)) (v1 : Value) (fp1 : Seg), Q r1 ∧ e = .returned (v1) ∧ OwnSl H cV 25 v1 r1 fp1 ∧ St w0 H (fp1 ++ L) w' := by
 unfold V_CompactV at hV
 refine enter func97 rfl ntmps97 rfl (lk_args_cons (d := 0) (v := v_2) rfl (lk_args_cons (d := 1) (v := .func (.func 98) #[] #[]) rfl (lk_args_nil _))) (WC.sr (R hS ?_))
 refine WL.nx (WC.seq (WC.sr (R hS ?_)))
 have hl_8 : Len s_1 := h_3.bound
 replace hV := hV hl_8
 refine Rn hS (ex_len_own underlying42 rfl h_3) ?_
 refine R hS ?_
 refine WL.nx ?_
 refine Cd ?_ ?_
 intro hc_1256
 replace hV := hV.1 (od hc_1256)
 refine WC.sr ?_
 iterate 2 refine R hS ?_
 refine WL.nx (WC.ret (Wp ?_))
 exact leave1 rfl rfl (⟨s_1, v_2, fp_4, hV, rfl, h_3, hS⟩)
 intro hc_1256
 replace hV := hV.2 (ov hc_1256)
 refine WC.skip (WQ.next (WC.seq (WC.sr (R hS ?_))))
 refine WL.nx (WC.block ?_)
 obtain ⟨I_838, mu_839, hI_1255, hV⟩ := hV
 refine WC.loop (σ := Int) (fun s a w => ∃ (k_423 : Int), s = k_423 ∧ I_838 k_423 ∧ I64 k_423 ∧ St w0 H (fp_4 ++ L) w ∧ Fr 66 [(0, v_2), (1, .func (.func 98) #[] #[]), (5, i6 k_423)] a) mu_839 (1 : Int) ?_ ?_
 exact fun a ha => ⟨(1 : Int), rfl, hI_1255, (show I64 (1 : Int) by unfold I64; omega), hS, ha.os⟩
 clear hS hI_1255
 rintro k_423 a w ⟨_, rfl, hI, hr_424, hS, ha⟩
 refine in_frame ha ?_
 clear ha
 replace hV := hV _ hI
 clear hI
 refine WC.seq (WC.sr ?_)
 iterate 2 refine R hS ?_
 have hl_841 : Len s_1 := h_3.bound
 replace hV := hV hl_841
 refine Rn hS (ex_len_own underlying42 rfl h_3) ?_
 refine R hS ?_
 refine WL.nx ?_
 refine Cd ?_ ?_
 intro hc_1254
 replace hV := hV.1 (od hc_1254)
 refine WC.skip (WQ.next (WC.seq (WC.block (WC.seq (WC.drawn (σ := [0, 1, 2, 3, 4, 5, 6, 7, 8, 9, 10]) (C := St w0 H (fp_4 ++ L)) [[], [], [], [1, 2], [1, 2, 3], [], [], [6], [5, 6, 7], [5, 6, 7, 8], [0, 1, 2, 3, 4, 5, 6, 7, 8, 9]] [10] mixed (by kernel_rfl) (hS.drawn _) ?_)))))
 clear hS w
 refine Dm fun q_844 hq_843 => ?_
 refine Dm fun q_846 hq_845 => ?_
 refine Dm fun q_848 hq_847 => ?_
 obtain ⟨hin_851, hV⟩ := hV
 refine Wd.runx rfl rfl rfl rfl (exAll (ex_index_own underlying42 sizeOf25 rfl rfl h_3 hin_851)) ?_
 intro p_852 hp_853
 intro q_850 hq_849
 refine Wd.runs (fp := fp_4) rfl rfl rfl rfl (ex_load_own_agg isAgg25 sizeOf25 rfl h_3 hp_853 hin_851) (fun _ h => h) ?_
 rintro u_856 ⟨_, rfl, hu⟩
 obtain ⟨u_857, rfl, h_858⟩ := cV_one hu
 intro q_855 hq_854
 refine Dm fun q_860 hq_859 => ?_
 refine Dm fun q_862 hq_861 => ?_
 obtain ⟨hi_866, hV⟩ := hV
 refine Wd.run rfl rfl rfl rfl (fun _ => ex_sub rfl rfl hi_866) fun q_864 hq_863 => ?_
 obtain ⟨hin_869, hV⟩ := hV
 refine Wd.runx rfl rfl rfl rfl (exAll (ex_index_own underlying42 sizeOf25 rfl rfl h_3 hin_869)) ?_
 intro p_870 hp_871
 intro q_868 hq_867
 refine Wd.runs (fp := fp_4) rfl rfl rfl rfl (ex_load_own_agg isAgg25 sizeOf25 rfl h_3 hp_871 hin_869) (fun _ h => h) ?_
 rintro u_874 ⟨_, rfl, hu⟩
 obtain ⟨u_875, rfl, h_876⟩ := cV_one hu
 intro q_873 hq_872
 refine Wd.turn rfl rfl rfl fun w hS => ?_
 refine Rc (enters_c (vs := [.agg #[u_857], .agg #[u_875]]) (caps := []) rfl call98 ⟨rfl, rfl, trivial⟩) (S_SetOf1 h_858 h_876 hS hV) ?_
 clear hV hS
 rintro _ w ⟨r_877, hV, rfl, hS⟩
 refine ⟨_, rfl, ?_⟩
 refine WL.nil (DQ.mk2 (C' := St w0 H (fp_4 ++ L)) hS ⟨il, il, il, il, il, il, il, il, il, il, trivial⟩ ?_)
 clear hS w
 refine Wd.nil fun w hS => ?_
 refine WQ.next (Sb [(0, v_2), (1, .func (.func 98) #[] #[]), (5, i6 k_423), (28, .bool r_877)] ?_)
 refine Cd ?_ ?_
 intro hc_1253
 replace hV := hV.1 hc_1253
 refine WC.sr ?_
 iterate 2 refine R hS ?_
 obtain ⟨hb_879, hV⟩ := hV
 refine Rx hS (ex_slice_al underlying42 sizeOf25 rfl rfl h_3 hb_879) ?_
 intro u_880 hu_881
 refine R hS ?_
 refine WL.nx (WC.seq (WC.sr (R hS ?_)))
 refine WL.nx (WC.block ?_)
 obtain ⟨I_1121, mu_1122, hI_1250, hV⟩ := hV
 refine WC.loop (σ := (List (Val)) × Int × Int) (fun s a w => ∃ (s_998 : List (Val)) (k_1001 : Int) (k2_1003 : Int) (fp_999 : Seg), s = (s_998, k_1001, k2_1003) ∧ I_1121 (s_998, k_1001, k2_1003) ∧ OwnSl H cV 25 v_2 s_998 fp_999 ∧ I64 k_1001 ∧ I64 k2_1003 ∧ St w0 H (fp_999 ++ L) w ∧ Fr 66 [(0, v_2), (1, .func (.func 98) #[] #[]), (5, i6 k_1001), (6, u_880), (7, i6 k2_1003)] a) mu_1122 (s_1, k_423, (1 : Int)) ?_ ?_
 exact fun a ha => ⟨s_1, k_423, (1 : Int), fp_4, rfl, hI_1250, h_3, hr_424, (show I64 (1 : Int) by unfold I64; omega), hS, ha.os⟩
 clear hS hI_1250
 rintro _ a w ⟨s_998, k_1001, k2_1003, fp_999, rfl, hI, h_1000, hr_1002, hr_1004, hS, ha⟩
 refine in_frame ha ?_
 clear ha
 replace hV := hV _ hI
 clear hI
 refine WC.seq (WC.sr ?_)
 iterate 2 refine R hS ?_
 obtain ⟨hl_1124, hV⟩ := hV
 refine Rn hS (ex_len_al underlying42 rfl h_1000 hu_881) ?_
 refine R hS ?_
 refine WL.nx ?_
 refine Cd ?_ ?_
 intro hc_1249
 replace hV := hV.1 (od hc_1249)
 refine WC.skip (WQ.next ?_)
 obtain ⟨J_1183, hJ_1184, hV⟩ := hV
 refine WC.meet (fun a w => ∃ (s_1178 : List (Val)) (k_1181 : Int) (fp_1179 : Seg), J_1183 (s_1178, k_1181) ∧ OwnSl H cV 25 v_2 s_1178 fp_1179 ∧ I64 k_1181 ∧ St w0 H (fp_1179 ++ L) w ∧ Fr 66 [(0, v_2), (1, .func (.func 98) #[] #[]), (5, i6 k_1181), (6, u_880), (7, i6 k2_1003)] a) ?_ ?_
 rintro a w ⟨s_1178, k_1181, fp_1179, hI, h_1180, hr_1182, hS, ha⟩
 refine in_frame ha ?_
 clear ha hV
 have hV := hJ_1184 _ hI
 clear hI hJ_1184
 refine WC.region (R hS ?_)
 obtain ⟨hi_1238, hV⟩ := hV
 iterate 2 refine R hS ?_
 refine WL.nil ?_
 exact Wt fun a ha => ⟨(s_1178, k_1181, (k2_1003 + (1 : Int))), ⟨s_1178, k_1181, (k2_1003 + (1 : Int)), fp_1179, rfl, hV.1, h_1180, hr_1182, hi_1238, hS, ha.os⟩, hV.2⟩
 clear hJ_1184
 refine WC.block (WC.seq (WC.drawn (σ := [0, 1, 2, 3, 4, 5, 6, 7, 8, 9, 10, 11]) (C := St w0 H (fp_999 ++ L)) [[], [], [], [1, 2], [1, 2, 3], [], [], [6], [5, 6, 7], [5, 6, 7, 8], [0, 1, 2, 3, 4, 5, 6, 7, 8, 9], [0, 1, 2, 3, 4, 5, 6, 7, 8, 9, 10]] [10] mixed (by kernel_rfl) (hS.drawn _) ?_))
 clear hS w
 refine Dm fun q_1186 hq_1185 => ?_
 refine Dm fun q_1188 hq_1187 => ?_
 refine Dm fun q_1190 hq_1189 => ?_
 obtain ⟨hin_1193, hV⟩ := hV
 refine Wd.runx rfl rfl rfl rfl (exAll (ex_index_al underlying42 sizeOf25 rfl rfl h_1000 hu_881 ⟨hin_1193.1, hin_1193.2.2⟩)) ?_
 intro p_1194 hp_1195
 intro q_1192 hq_1191
 refine Wd.runs (fp := fp_999) rfl rfl rfl rfl (ex_load_own_agg isAgg25 sizeOf25 rfl h_1000 hp_1195 hin_1193.2) (fun _ h => h) ?_
 rintro u_1198 ⟨_, rfl, hu⟩
 obtain ⟨u_1199, rfl, h_1200⟩ := cV_one hu
 intro q_1197 hq_1196
 refine Dm fun q_1202 hq_1201 => ?_
 refine Dm fun q_1204 hq_1203 => ?_
 obtain ⟨hi_1208, hV⟩ := hV
 refine Wd.run rfl rfl rfl rfl (fun _ => ex_sub rfl rfl hi_1208) fun q_1206 hq_1205 => ?_
 obtain ⟨hin_1211, hV⟩ := hV
 refine Wd.runx rfl rfl rfl rfl (exAll (ex_index_al underlying42 sizeOf25 rfl rfl h_1000 hu_881 ⟨hin_1211.1, hin_1211.2.2⟩)) ?_
 intro p_1212 hp_1213
 intro q_1210 hq_1209
 refine Wd.runs (fp := fp_999) rfl rfl rfl rfl (ex_load_own_agg isAgg25 sizeOf25 rfl h_1000 hp_1213 hin_1211.2) (fun _ h => h) ?_
 rintro u_1216 ⟨_, rfl, hu⟩
 obtain ⟨u_1217, rfl, h_1218⟩ := cV_one hu
 intro q_1215 hq_1214
 refine Wd.turn rfl rfl rfl fun w hS => ?_
 refine Rc (enters_c (vs := [.agg #[u_1199], .agg #[u_1217]]) (caps := []) rfl call98 ⟨rfl, rfl, trivial⟩) (S_SetOf1 h_1200 h_1218 hS hV) ?_
 clear hV hS
 rintro _ w ⟨r_1219, hV, rfl, hS⟩
 refine ⟨_, rfl, ?_⟩
 refine WL.nil (DQ.mk2 (C' := St w0 H (fp_999 ++ L)) hS ⟨il, il, il, il, il, il, il, il, il, il, trivial⟩ ?_)
 clear hS w
 refine Wd.run rfl rfl rfl rfl (fun _ => ex_not rfl) fun q_1222 hq_1221 => ?_
 refine Wd.nil fun w hS => ?_
 refine WQ.next (Sb [(0, v_2), (1, .func (.func 98) #[] #[]), (5, i6 k_1001), (6, u_880), (7, i6 k2_1003), (49, .bool (!r_1219))] ?_)
 refine Cd ?_ ?_
 intro hc_1236
 replace hV := hV.1 hc_1236
 refine WC.sr ?_
 iterate 4 refine R hS ?_
 obtain ⟨hin_1223, hV⟩ := hV
 refine Rx hS (ex_index_al underlying42 sizeOf25 rfl rfl h_1000 hu_881 ⟨hin_1223.1, hin_1223.2.2⟩) ?_
 intro p_1224 hp_1225
 refine Rx hS (exNow (H := H) (L := L) (ex_load_own_agg isAgg25 sizeOf25 rfl h_1000 hp_1225 hin_1223.2)) ?_
 rintro u_1226 ⟨_, rfl, hu⟩
 obtain ⟨u_1227, rfl, h_1228⟩ := cV_one hu
 obtain ⟨hin_1229, hV⟩ := hV
 refine Rx hS (ex_index_own underlying42 sizeOf25 rfl rfl h_1000 hin_1229) ?_
 intro p_1230 hp_1231
 refine WL.store_own_agg (c := cV) (z := (ix s_998 (k_423 + k2_1003))) (m' := [u_1227]) sizeOf25 rfl rfl rfl ⟨(IsW.one h_1228), trivial⟩ (cV_mk h_1228) hS h_1000 hp_1231 hin_1229 ?_
 clear hS
 intro w fp_1233 h_1232 hS
 refine WL.nx (WC.region (R hS ?_))
 obtain ⟨hi_1235, hV⟩ := hV
 iterate 2 refine R hS ?_
 refine WL.nil (WQ.out nofun ?_)
 exact Wt fun a ha => ⟨(s_998.set k_1001.toNat (ix s_998 (k_423 + k2_1003))), (k_1001 + (1 : Int)), fp_1233, hV, h_1232, hi_1235, hS, ha.os⟩
 intro hc_1236
 replace hV := hV.2 hc_1236
 refine WC.skip (WQ.out nofun ?_)
 exact Wt fun a ha => ⟨s_998, k_1001, fp_999, hV, h_1000, hr_1002, hS, ha.os⟩
 intro hc_1249
 replace hV := hV.2 (ov hc_1249)
 refine WC.exit (Wp ?_)
 refine Wp ?_
 refine WQ.hit (WQ.next (WC.sr ?_))
 iterate 2 refine R hS ?_
 obtain ⟨hb_1239, hV⟩ := hV
 refine Rx hS (ex_slice_al underlying42 sizeOf25 rfl rfl h_1000 hb_1239) ?_
 intro u_1240 hu_1241
 refine WL.clear_al (c := cV) (z0 := Val.nil) underlying42 zeroValue25 (cV_mk IsW.nil) rfl rfl hS h_1000 hu_1241 ?_
 clear hS
 intro w fp_1243 h_1242 hS
 refine WL.nx (Sb [(0, v_2), (5, i6 k_1001)] ?_)
 refine WC.sr ?_
 iterate 2 refine R hS ?_
 obtain ⟨hb_1244, hV⟩ := hV
 refine Rx hS (ex_slice_hi_own2 underlying42 sizeOf25 rfl rfl h_1242 hb_1244) ?_
 rintro v_1245 ⟨h_1246, ht_1247⟩
 refine R hS ?_
 refine WL.nx (WC.ret (WQ.out nofun (Wp ?_)))
 refine Wp ?_
 refine WQ.out nofun (Wp ?_)
 exact leave1 rfl rfl (⟨((s_998.take k_1001.toNat ++ List.replicate (s_998.length - k_1001.toNat) Val.nil).take k_1001.toNat), v_1245, fp_1243, hV, rfl, ht_1247, hS⟩)
 intro hc_1253
 replace hV := hV.2 hc_1253
 refine WC.skip (WQ.out nofun (WQ.next (WC.region (R hS ?_))))
 obtain ⟨hi_1252, hV⟩ := hV
 iterate 2 refine R hS ?_
 refine WL.nil ?_
 exact Wt fun a ha => ⟨(k_423 + (1 : Int)), ⟨(k_423 + (1 : Int)), rfl, hV.1, hi_1252, hS, ha.os⟩, hV.2⟩
 intro hc_1254
 replace hV := hV.2 (ov hc_1254)
 refine WC.exit (Wp ?_)
 refine Wp ?_
 refine WQ.hit (WQ.next (WC.sr ?_))
 iterate 2 refine R hS ?_
 refine WL.nx (WC.ret ?_)
 exact leave1 rfl rfl (⟨s_1, v_2, fp_4, hV, rfl, h_3, hS⟩)
theorem S_SetOf {w0 : World} {H : View} {L : Seg} {w : World} {v_2 : Value} {l_1 : List (Val)} {fp_4 : Seg} {Q : Val → Prop} (h_3 : OwnSl H cV 25 v_2 l_1 fp_4) (hS : St w0 H (fp_4 ++ L) w) (hV : V_SetOf l_1 Q) :
 Calls Tryz.prog 60 #[v_2] w fun e w' => ∃ (r1 : Val) (u1 : Value) (H' : View), Q r1 ∧ e = .returned (.agg #[u1]) ∧ View.le H H' ∧ IsW H' u1 r1 ∧ St w0 H' (L) w' := by
 unfold V_SetOf at hV
 refine enter func60 rfl ntmps60 rfl (lk_args_cons (d := 0) (v := v_2) rfl (lk_args_nil _)) (WC.sr (WL.alloc (arr := #[.nilIface]) rfl zeroValue25 rfl hS ?_))
 clear hS
 intro b_6 w hS
 refine WL.nx (WC.sr (R hS ?_))
 replace hS := hS.f2
 refine Rc (enters0 (vs := [v_2, .func (.func 19) #[] #[]]) call96 ⟨rfl, rfl, trivial⟩) (S_SortV h_3 hS hV) ?_
 clear hV hS
 rintro _ w ⟨c_8, fp_9, hV, rfl, h_10, hS⟩
 refine ⟨_, rfl, ?_⟩
 refine WL.nx (WC.sr (R hS ?_))
 refine Rc (enters0 (vs := [v_2, .func (.func 98) #[] #[]]) call97 ⟨rfl, rfl, trivial⟩) (S_CompactV h_10 hS hV) ?_
 clear hV hS
 rintro _ w ⟨r_12, v_13, fp_14, hV, rfl, h_15, hS⟩
 refine ⟨_, rfl, ?_⟩
 refine R hS ?_
 refine WL.nx (WC.sr (R hS ?_))
 obtain ⟨H_18, le_19, h_20, hS⟩ : ∃ K, View.le H K ∧ IsSl K cV v_13 r_12 ∧ St w0 K ([(b_6, oc #[.nilIface] 25)] ++ L) w := ⟨_, hS.put_le, h_15.share hS.put_le, hS.freeze⟩
 refine Rc (enters0 (vs := [v_13]) call99 ⟨rfl, trivial⟩) (S_ascSet h_20 hS hV) ?_
 clear hV hS
 rintro _ w ⟨r_21, u_22, H_24, hV, rfl, le_25, h_23, hS⟩
 refine ⟨_, rfl, ?_⟩
 refine St1 #[u_22] sizeOf25 hS ?_ (cs := [u_22]) (hone := ⟨(IsW.one h_23), trivial⟩)
 clear hS
 intro w hS
 refine WL.nx (WC.ret ?_)
 have hl_26 := load_own_agg (P := Tryz.prog) (cs := [u_22]) isAgg25 sizeOf25 hS rfl
 replace hS := hS.drop
 exact leavec1 (il) rfl rfl hl_26 (⟨r_21, u_22, H_24, hV, rfl, (((View.le.refl _).trans le_19).trans le_25), h_23, hS⟩)
theorem S_FunOf1 {w0 : World} {H : View} {L : Seg} {w : World} {i_1 : Int} {k_3 : Int} {b_6 : Nat} {v_9 : Value} {c_5_8 : List (Val)} {Q : Int → Prop} (hr_2 : I64 i_1) (hr_4 : I64 k_3) (h_10 : IsSl H cV v_9 c_5_8) (hS : St w0 H ([(b_6, oc #[v_9] 42)] ++ L) w) (hV : V_FunOf1 i_1 k_3 c_5_8 Q) :
 Calls Tryz.prog 102 #[i6 i_1, i6 k_3, (pq b_6)] w fun e w' => ∃ (r1 : Int), Q r1 ∧ e = .returned (i6 r1) ∧ I64 r1 ∧ St w0 H ([(b_6, oc #[v_9] 42)] ++ L) w' := by
 unfold V_FunOf1 at hV
 refine enter func102 rfl ntmps102 rfl (lk_args_cons (d := 0) (v := i6 i_1) rfl (lk_args_cons (d := 1) (v := i6 k_3) rfl (lk_args_cons (d := 2) (v := (pq b_6)) rfl (lk_args_nil _)))) (WC.sr (R hS ?_))
 refine WL.nx (WC.seq (WC.drawn (σ := [0, 1, 2, 3, 4, 5, 6, 7, 8, 9]) (C := St w0 H ([(b_6, oc #[v_9] 42)] ++ L)) [[], [], [0, 1], [0, 1, 2], [], [], [4, 5], [4, 5, 6], [0, 1, 2, 3, 4, 5, 6, 7], [0, 1, 2, 3, 4, 5, 6, 7, 8]] [8] mixed (by kernel_rfl) (hS.drawn _) ?_))
 clear hS w
 refine Wd.runb (off := 0) rfl rfl rfl rfl (fun _ _ _ h => ex_load_box isAgg42 rfl h) rfl (fun _ h => h) fun q_12 hq_11 => ?_
 refine Dm fun q_14 hq_13 => ?_
 obtain ⟨hin_17, hV⟩ := hV
 refine Wd.runx rfl rfl rfl rfl (exAll (ex_index underlying42 sizeOf25 rfl rfl h_10 hin_17)) ?_
 intro p_18 hp_19
 intro q_16 hq_15
 refine Wd.runs (fp := ([] : Seg)) (L := [(b_6, oc #[v_9] 42)] ++ L) rfl rfl rfl rfl (ex_load_agg_s isAgg25 sizeOf25 rfl hp_19) (fun _ h => h) ?_
 rintro u_22 ⟨_, rfl, hu⟩
 obtain ⟨u_23, rfl, h_24⟩ := cV_one hu
 intro q_21 hq_20
 refine Wd.runb (off := 0) rfl rfl rfl rfl (fun _ _ _ h => ex_load_box isAgg42 rfl h) rfl (fun _ h => h) fun q_26 hq_25 => ?_
 refine Dm fun q_28 hq_27 => ?_
 obtain ⟨hin_31, hV⟩ := hV
 refine Wd.runx rfl rfl rfl rfl (exAll (ex_index underlying42 sizeOf25 rfl rfl h_10 hin_31)) ?_
 intro p_32 hp_33
 intro q_30 hq_29
 refine Wd.runs (fp := ([] : Seg)) (L := [(b_6, oc #[v_9] 42)] ++ L) rfl rfl rfl rfl (ex_load_agg_s isAgg25 sizeOf25 rfl hp_33) (fun _ h => h) ?_
 rintro u_36 ⟨_, rfl, hu⟩
 obtain ⟨u_37, rfl, h_38⟩ := cV_one hu
 intro q_35 hq_34
 refine Wd.turn rfl rfl rfl fun w hS => ?_
 obtain ⟨mf, hV⟩ := hV
 refine Rc (enters0 (vs := [.agg #[u_23], .agg #[u_37]]) call19 ⟨rfl, rfl, trivial⟩) (S_Compare mf h_24 h_38 hS hV) ?_
 clear hV hS
 rintro _ w ⟨r_39, hV, rfl, hr_40, hS⟩
 refine ⟨_, rfl, ?_⟩
 refine WL.nil (DQ.mk2 (C' := St w0 H ([(b_6, oc #[v_9] 42)] ++ L)) hS ⟨il, il, il, il, il, il, il, il, trivial⟩ ?_)
 clear hS w
 refine Wd.run rfl rfl rfl rfl (fun _ => ex_assign rfl) fun q_43 hq_42 => ?_
 refine Wd.nil fun w hS => ?_
 refine WQ.next (Sb [(5, i6 r_39)] ?_)
 refine WC.ret ?_
 exact leave1 rfl rfl (⟨r_39, hV, rfl, hr_40, hS⟩)
theorem S_insSF {w0 : World} {H : View} {L : Seg} {w : World} {v_2 : Value} {data_1 : LI} {fp_4 : Seg} {a_6 : Int} {b_8 : Int} {b_12 : Nat} {v_15 : Value} {c_11_14 : List (Val)} {Q : LI → Prop} (h_3 : OwnSl H (cInt .i64) 3 v_2 data_1 fp_4) (hr_7 : I64 a_6) (hr_9 : I64 b_8) (h_16 : IsSl H cV v_15 c_11_14) (hS : St w0 H (fp_4 ++ ([(b_12, oc #[v_15] 42)] ++ L)) w) (hV : V_insSF data_1 a_6 b_8 c_11_14 Q) :
 Calls Tryz.prog 220 #[v_2, i6 a_6, i6 b_8, .func (.func 102) #[] #[(pq b_12)]] w fun e w' => ∃ (r1 : LI) (fp1 : Seg), Q r1 ∧ e = .returned (.tuple #[]) ∧ OwnSl H (cInt .i64) 3 v_2 r1 fp1 ∧ St w0 H (fp1 ++ ([(b_12, oc #[v_15] 42)] ++ L)) w' := by
 unfold V_insSF at hV
 refine enter func220 rfl ntmps220 rfl (lk_args_cons (d := 0) (v := v_2) rfl (lk_args_cons (d := 1) (v := i6 a_6) rfl (lk_args_cons (d := 2) (v := i6 b_8) rfl (lk_args_cons (d := 3) (v := .func (.func 102) #[] #[(pq b_12)]) rfl (lk_args_nil _))))) (WC.sr (R hS ?_))
 obtain ⟨hi_18, hV⟩ := hV
 iterate 2 refine R hS ?_
 refine WL.nx (WC.block ?_)
 replace hS := hS.f2.f2
 obtain ⟨I_794, mu_795, hI_1182, hV⟩ := hV
 refine WC.loop (σ := LI × Int) (fun s a w => ∃ (data_404 : LI) (i_407 : Int) (fp_405 : Seg), s = (data_404, i_407) ∧ I_794 (data_404, i_407) ∧ OwnSl H (cInt .i64) 3 v_2 data_404 fp_405 ∧ I64 i_407 ∧ St w0 H (fp_405 ++ ([(b_12, oc #[v_15] 42)] ++ L)) w ∧ Fr 53 [(0, v_2), (1, i6 a_6), (2, i6 b_8), (3, .func (.func 102) #[] #[(pq b_12)]), (8, i6 i_407)] a) mu_795 (data_1, (a_6 + (1 : Int))) ?_ ?_
 exact fun a ha => ⟨data_1, (a_6 + (1 : Int)), fp_4, rfl, hI_1182, h_3, hi_18, hS, ha.os⟩
 clear hS hI_1182
 rintro _ a w ⟨data_404, i_407, fp_405, rfl, hI, h_406, hr_408, hS, ha⟩
 refine in_frame ha ?_
 clear ha
 replace hV := hV _ hI
 clear hI
 refine WC.seq (WC.sr ?_)
 iterate 3 refine R hS ?_
 refine WL.nx ?_
 refine Cd ?_ ?_
 intro hc_1181
 replace hV := hV.1 (od hc_1181)
 refine WC.skip (WQ.next (WC.seq (WC.block (WC.sr ?_))))
 iterate 2 refine R hS ?_
 refine WL.nx (WC.block ?_)
 replace hS := hS.f2.f2
 obtain ⟨I_1051, mu_1052, hI_1180, hV⟩ := hV
 refine WC.loop (σ := LI × Int) (fun s a w => ∃ (data_922 : LI) (j_925 : Int) (fp_923 : Seg), s = (data_922, j_925) ∧ I_1051 (data_922, j_925) ∧ OwnSl H (cInt .i64) 3 v_2 data_922 fp_923 ∧ I64 j_925 ∧ St w0 H (fp_923 ++ ([(b_12, oc #[v_15] 42)] ++ L)) w ∧ Fr 53 [(0, v_2), (1, i6 a_6), (2, i6 b_8), (3, .func (.func 102) #[] #[(pq b_12)]), (8, i6 i_407), (9, i6 j_925)] a) mu_1052 (data_404, i_407) ?_ ?_
 exact fun a ha => ⟨data_404, i_407, fp_405, rfl, hI_1180, h_406, hr_408, hS, ha.os⟩
 clear hS hI_1180
 rintro _ a w ⟨data_922, j_925, fp_923, rfl, hI, h_924, hr_926, hS, ha⟩
 refine in_frame ha ?_
 clear ha
 replace hV := hV _ hI
 clear hI
 refine WC.seq ?_
 obtain ⟨J_1083, hJ_1084, hV⟩ := hV
 refine WC.meet (fun a w => ∃ (x_1082 : Bool), J_1083 x_1082 ∧ St w0 H (fp_923 ++ ([(b_12, oc #[v_15] 42)] ++ L)) w ∧ Fr 53 [(0, v_2), (1, i6 a_6), (2, i6 b_8), (3, .func (.func 102) #[] #[(pq b_12)]), (8, i6 i_407), (9, i6 j_925), (34, .bool x_1082)] a) ?_ ?_
 rintro a w ⟨x_1082, hI, hS, ha⟩
 refine in_frame ha ?_
 clear ha hV
 have hV := hJ_1084 _ hI
 clear hI hJ_1084
 refine Cd ?_ ?_
 intro hc_1179
 replace hV := hV.1 hc_1179
 refine WC.skip (WQ.next (WC.seq (WC.block (WC.drawn (σ := [0, 1, 2, 3, 4, 5, 6, 7, 8, 9, 10, 11, 12, 13, 14, 15, 16, 17]) (C := St w0 H (fp_923 ++ ([(b_12, oc #[v_15] 42)] ++ L))) [[], [], [], [], [3], [], [], [6], [5, 6, 7], [5, 6, 7, 8], [], [], [10, 11], [10, 11, 12], [0, 1, 5, 6, 7, 8, 9, 10, 11, 12, 13], [0, 1, 5, 6, 7, 8, 9, 10, 11, 12, 13, 14], [0, 1, 2, 3, 4, 5, 6, 7, 8, 9, 10, 11, 12, 13, 14, 15], [0, 1, 2, 3, 4, 5, 6, 7, 8, 9, 10, 11, 12, 13, 14, 15, 16]] [15, 17] mixed (by kernel_rfl) (hS.drawn _) ?_))))
 clear hS w
 refine Dm fun q_1114 hq_1113 => ?_
 refine Dm fun q_1116 hq_1115 => ?_
 refine Dm fun q_1118 hq_1117 => ?_
 refine Dm fun q_1120 hq_1119 => ?_
 obtain ⟨hi_1124, hV⟩ := hV
 refine Wd.run rfl rfl rfl rfl (fun _ => ex_sub rfl rfl hi_1124) fun q_1122 hq_1121 => ?_
 refine Dm fun q_1126 hq_1125 => ?_
 refine Dm fun q_1128 hq_1127 => ?_
 obtain ⟨hi_1132, hV⟩ := hV
 refine Wd.run rfl rfl rfl rfl (fun _ => ex_sub rfl rfl hi_1132) fun q_1130 hq_1129 => ?_
 obtain ⟨hin_1135, hV⟩ := hV
 refine Wd.runx rfl rfl rfl rfl (exAll (ex_index_own underlying130 sizeOf3 rfl rfl h_924 hin_1135)) ?_
 intro p_1136 hp_1137
 intro q_1134 hq_1133
 refine Wd.runs (fp := fp_923) rfl rfl rfl rfl (ex_load_own_s isAgg3 rfl rfl h_924 hp_1137 hin_1135) (fun _ h => h) ?_
 intro u_1142 hu_1143
 obtain ⟨rfl, hr_1144⟩ := cInt_rep hu_1143
 replace hr_1144 := has_I64 hr_1144
 replace hV := hV hr_1144
 intro q_1139 hq_1138
 refine Dm fun q_1146 hq_1145 => ?_
 refine Dm fun q_1148 hq_1147 => ?_
 obtain ⟨hin_1151, hV⟩ := hV
 refine Wd.runx rfl rfl rfl rfl (exAll (ex_index_own underlying130 sizeOf3 rfl rfl h_924 hin_1151)) ?_
 intro p_1152 hp_1153
 intro q_1150 hq_1149
 refine Wd.runs (fp := fp_923) rfl rfl rfl rfl (ex_load_own_s isAgg3 rfl rfl h_924 hp_1153 hin_1151) (fun _ h => h) ?_
 intro u_1158 hu_1159
 obtain ⟨rfl, hr_1160⟩ := cInt_rep hu_1159
 replace hr_1160 := has_I64 hr_1160
 replace hV := hV hr_1160
 intro q_1155 hq_1154
 obtain ⟨hin_1163, hV⟩ := hV
 refine Wd.runx rfl rfl rfl rfl (exAll (ex_index_own underlying130 sizeOf3 rfl rfl h_924 hin_1163)) ?_
 intro p_1164 hp_1165
 intro q_1162 hq_1161
 refine Wd.turn rfl rfl rfl fun w hS => ?_
 refine WL.store_own sizeOf3 rfl rfl rfl (cInt_mk (I64.has hr_1144)) hS h_924 hp_1165 hin_1163 ?_
 clear hS
 intro w fp_1167 h_1166 hS
 refine WL.nil (DQ.mk2 (C' := St w0 H (fp_1167 ++ ([(b_12, oc #[v_15] 42)] ++ L))) hS ⟨il, il, il, il, il, il, il, il, il, il, .inr (hq_1121 _), .inr (hq_1119 _), .inr (hq_1117 _), il, il, trivial⟩ ?_)
 clear hS w
 obtain ⟨hin_1170, hV⟩ := hV
 refine Wd.runx rfl rfl rfl rfl (exAll (ex_index_own underlying130 sizeOf3 rfl rfl h_1166 hin_1170)) ?_
 intro p_1171 hp_1172
 intro q_1169 hq_1168
 refine Wd.turn rfl rfl rfl fun w hS => ?_
 refine WL.store_own sizeOf3 rfl rfl rfl (cInt_mk (I64.has hr_1160)) hS h_1166 hp_1172 hin_1170 ?_
 clear hS
 intro w fp_1174 h_1173 hS
 refine WL.nil (DQ.mk2 (C' := St w0 H (fp_1174 ++ ([(b_12, oc #[v_15] 42)] ++ L))) hS ⟨il, il, il, il, il, il, il, il, il, il, il, il, il, il, il, il, trivial⟩ ?_)
 clear hS w
 refine Wd.nil fun w hS => ?_
 refine WQ.out nofun (WQ.next (Sb [(0, v_2), (1, i6 a_6), (2, i6 b_8), (3, .func (.func 102) #[] #[(pq b_12)]), (8, i6 i_407), (9, i6 j_925)] ?_))
 refine WC.region (R hS ?_)
 obtain ⟨hi_1176, hV⟩ := hV
 iterate 2 refine R hS ?_
 refine WL.nil ?_
 replace hS := hS.f2.f2
 exact Wt fun a ha => ⟨(((data_922.set j_925.toNat (ix data_922 (j_925 - (1 : Int)))).set (j_925 - (1 : Int)).toNat (ix data_922 j_925)), (j_925 - (1 : Int))), ⟨((data_922.set j_925.toNat (ix data_922 (j_925 - (1 : Int)))).set (j_925 - (1 : Int)).toNat (ix data_922 j_925)), (j_925 - (1 : Int)), fp_1174, rfl, hV.1, h_1173, hi_1176, hS, ha.os⟩, hV.2⟩
 intro hc_1179
 replace hV := hV.2 hc_1179
 refine WC.exit (Wp ?_)
 refine Wp ?_
 refine WQ.hit (WQ.out nofun (WQ.next (WC.region (R hS ?_))))
 obtain ⟨hi_1178, hV⟩ := hV
 iterate 2 refine R hS ?_
 refine WL.nil ?_
 replace hS := hS.f2.f2
 exact Wt fun a ha => ⟨(data_922, (i_407 + (1 : Int))), ⟨data_922, (i_407 + (1 : Int)), fp_923, rfl, hV.1, h_924, hi_1178, hS, ha.os⟩, hV.2⟩
 clear hJ_1084
 replace hS := hS.f2.f2
 have hL_1085 := hS.freeze
 have le_1086 := hS.put_le
 refine WC.quiet (C := St w0 (H.put fp_923) ([(b_12, oc #[v_15] 42)] ++ L)) mixed (by kernel_rfl) (hL_1085.drawn _) ?_
 have hS0 := hS
 clear hS
 iterate 4 refine Rq ?_
 rcases bft (decide (a_6 < j_925)) with hg_1088 | hg_1088
 replace hV := hV.1 (od hg_1088)
 iterate 3 refine Rq ?_
 refine Uq hg_1088 ?_
 obtain ⟨hin_1089, hV⟩ := hV
 refine Wq.runx rfl rfl rfl (ex_index underlying130 sizeOf3 rfl rfl (h_924.share le_1086) hin_1089) ?_
 intro p_1090 hp_1091
 refine Uq hg_1088 ?_
 refine Wq.runx rfl rfl rfl (ex_load isAgg3 rfl rfl hp_1091) ?_
 intro u_1094 hu_1095
 obtain ⟨rfl, hr_1096⟩ := cInt_rep hu_1095
 replace hr_1096 := has_I64 hr_1096
 replace hV := hV hr_1096
 iterate 2 refine Rq ?_
 refine Uq hg_1088 ?_
 obtain ⟨hi_1098, hV⟩ := hV
 refine Rq ?_
 refine Uq hg_1088 ?_
 obtain ⟨hin_1099, hV⟩ := hV
 refine Wq.runx rfl rfl rfl (ex_index underlying130 sizeOf3 rfl rfl (h_924.share le_1086) hin_1099) ?_
 intro p_1100 hp_1101
 refine Uq hg_1088 ?_
 refine Wq.runx rfl rfl rfl (ex_load isAgg3 rfl rfl hp_1101) ?_
 intro u_1104 hu_1105
 obtain ⟨rfl, hr_1106⟩ := cInt_rep hu_1105
 replace hr_1106 := has_I64 hr_1106
 replace hV := hV hr_1106
 refine Uq hg_1088 ?_
 obtain ⟨r_1107, h_1109, hr_1108, hV⟩ := hV
 refine Wq.call (v := i6 r_1107) rfl rfl rfl (fun w => enters_c (vs := [i6 (ix data_922 j_925), i6 (ix data_922 (j_925 - (1 : Int)))]) (caps := [(pq b_12)]) rfl call102 ⟨rfl, rfl, trivial⟩) (fun w hS => (S_FunOf1 (Q := fun y0 => y0 = r_1107) hr_1096 hr_1106 (h_16.mono le_1086) hS h_1109).mono ?_) ?_
 rintro e w' ⟨_, rfl, he, _, hS⟩
 exact ⟨he, hS⟩
 iterate 2 refine Rq ?_
 refine Wq.nil fun w hS => ?_
 have hB_1111 := hS0.back hS
 clear hS
 have hS := hB_1111
 clear hS0
 replace hS := hS.f2.f2
 exact Wt fun a ha => ⟨decide (r_1107 < (0 : Int)), hV, hS, ha.os⟩
 replace hV := hV.2 (ov hg_1088)
 iterate 13 refine Rq ?_
 refine Wq.nil fun w hS => ?_
 have hB_1112 := hS0.back hS
 clear hS
 have hS := hB_1112
 clear hS0
 replace hS := hS.f2.f2
 exact Wt fun a ha => ⟨false, hV, hS, ha.os⟩
 intro hc_1181
 replace hV := hV.2 (ov hc_1181)
 refine WC.exit (Wp ?_)
 refine Wp ?_
 refine WQ.hit ?_
 replace hS := hS.f2.f2
 exact leave0 (.inr rfl) rfl (⟨data_404, fp_405, hV, rfl, h_406, hS⟩)
theorem S_swapSF {w0 : World} {H : View} {L : Seg} {w : World} {v_2 : Value} {data_1 : LI} {fp_4 : Seg} {a_6 : Int} {b_8 : Int} {n_10 : Int} {b_14 : Nat} {v_17 : Value} {c_13_16 : List (Val)} {Q : LI → Prop} (h_3 : OwnSl H (cInt .i64) 3 v_2 data_1 fp_4) (hr_7 : I64 a_6) (hr_9 : I64 b_8) (hr_11 : I64 n_10) (h_18 : IsSl H cV v_17 c_13_16) (hS : St w0 H (fp_4 ++ ([(b_14, oc #[v_17] 42)] ++ L)) w) (hV : V_swapSF data_1 a_6 b_8 n_10 c_13_16 Q) :
 Calls Tryz.prog 238 #[v_2, i6 a_6, i6 b_8, i6 n_10, .func (.func 102) #[] #[(pq b_14)]] w fun e w' => ∃ (r1 : LI) (fp1 : Seg), Q r1 ∧ e = .returned (.tuple #[]) ∧ OwnSl H (cInt .i64) 3 v_2 r1 fp1 ∧ St w0 H (fp1 ++ ([(b_14, oc #[v_17] 42)] ++ L)) w' := by
 unfold V_swapSF at hV
 refine enter func238 rfl ntmps238 rfl (lk_args_cons (d := 0) (v := v_2) rfl (lk_args_cons (d := 1) (v := i6 a_6) rfl (lk_args_cons (d := 2) (v := i6 b_8) rfl (lk_args_cons (d := 3) (v := i6 n_10) rfl (lk_args_cons (d := 4) (v := .func (.func 102) #[] #[(pq b_14)]) rfl (lk_args_nil _)))))) (WC.sr (R hS ?_))
 refine WL.nx (WC.block ?_)
 replace hS := hS.f2.f2
 obtain ⟨I_188, mu_189, hI_273, hV⟩ := hV
 refine WC.loop (σ := LI × Int) (fun s a w => ∃ (data_101 : LI) (i_104 : Int) (fp_102 : Seg), s = (data_101, i_104) ∧ I_188 (data_101, i_104) ∧ OwnSl H (cInt .i64) 3 v_2 data_101 fp_102 ∧ I64 i_104 ∧ St w0 H (fp_102 ++ ([(b_14, oc #[v_17] 42)] ++ L)) w ∧ Fr 38 [(0, v_2), (1, i6 a_6), (2, i6 b_8), (3, i6 n_10), (10, i6 i_104)] a) mu_189 (data_1, (0 : Int)) ?_ ?_
 exact fun a ha => ⟨data_1, (0 : Int), fp_4, rfl, hI_273, h_3, i0, hS, ha.os⟩
 clear hS hI_273
 rintro _ a w ⟨data_101, i_104, fp_102, rfl, hI, h_103, hr_105, hS, ha⟩
 refine in_frame ha ?_
 clear ha
 replace hV := hV _ hI
 clear hI
 refine WC.seq (WC.sr ?_)
 iterate 3 refine R hS ?_
 refine WL.nx ?_
 refine Cd ?_ ?_
 intro hc_272
 replace hV := hV.1 (od hc_272)
 refine WC.skip (WQ.next (WC.seq (WC.block (WC.drawn (σ := [0, 1, 2, 3, 4, 5, 6, 7, 8, 9, 10, 11, 12, 13, 14, 15, 16, 17, 18, 19, 20, 21, 22, 23]) (C := St w0 H (fp_102 ++ ([(b_14, oc #[v_17] 42)] ++ L))) [[], [], [], [1, 2], [], [], [], [5, 6], [], [], [], [9, 10], [8, 9, 10, 11], [8, 9, 10, 11, 12], [], [], [], [15, 16], [14, 15, 16, 17], [14, 15, 16, 17, 18], [0, 1, 2, 3, 8, 9, 10, 11, 12, 13, 14, 15, 16, 17, 18, 19], [0, 1, 2, 3, 8, 9, 10, 11, 12, 13, 14, 15, 16, 17, 18, 19, 20], [0, 1, 2, 3, 4, 5, 6, 7, 8, 9, 10, 11, 12, 13, 14, 15, 16, 17, 18, 19, 20, 21], [0, 1, 2, 3, 4, 5, 6, 7, 8, 9, 10, 11, 12, 13, 14, 15, 16, 17, 18, 19, 20, 21, 22]] [21, 23] mixed (by kernel_rfl) (hS.drawn _) ?_))))
 clear hS w
 refine Dm fun q_193 hq_192 => ?_
 refine Dm fun q_195 hq_194 => ?_
 refine Dm fun q_197 hq_196 => ?_
 obtain ⟨hi_201, hV⟩ := hV
 refine Wd.run rfl rfl rfl rfl (fun _ => ex_add rfl rfl hi_201) fun q_199 hq_198 => ?_
 refine Dm fun q_203 hq_202 => ?_
 refine Dm fun q_205 hq_204 => ?_
 refine Dm fun q_207 hq_206 => ?_
 obtain ⟨hi_211, hV⟩ := hV
 refine Wd.run rfl rfl rfl rfl (fun _ => ex_add rfl rfl hi_211) fun q_209 hq_208 => ?_
 refine Dm fun q_213 hq_212 => ?_
 refine Dm fun q_215 hq_214 => ?_
 refine Dm fun q_217 hq_216 => ?_
 obtain ⟨hi_221, hV⟩ := hV
 refine Wd.run rfl rfl rfl rfl (fun _ => ex_add rfl rfl hi_221) fun q_219 hq_218 => ?_
 obtain ⟨hin_224, hV⟩ := hV
 refine Wd.runx rfl rfl rfl rfl (exAll (ex_index_own underlying130 sizeOf3 rfl rfl h_103 hin_224)) ?_
 intro p_225 hp_226
 intro q_223 hq_222
 refine Wd.runs (fp := fp_102) rfl rfl rfl rfl (ex_load_own_s isAgg3 rfl rfl h_103 hp_226 hin_224) (fun _ h => h) ?_
 intro u_231 hu_232
 obtain ⟨rfl, hr_233⟩ := cInt_rep hu_232
 replace hr_233 := has_I64 hr_233
 replace hV := hV hr_233
 intro q_228 hq_227
 refine Dm fun q_235 hq_234 => ?_
 refine Dm fun q_237 hq_236 => ?_
 refine Dm fun q_239 hq_238 => ?_
 obtain ⟨hi_243, hV⟩ := hV
 refine Wd.run rfl rfl rfl rfl (fun _ => ex_add rfl rfl hi_243) fun q_241 hq_240 => ?_
 obtain ⟨hin_246, hV⟩ := hV
 refine Wd.runx rfl rfl rfl rfl (exAll (ex_index_own underlying130 sizeOf3 rfl rfl h_103 hin_246)) ?_
 intro p_247 hp_248
 intro q_245 hq_244
 refine Wd.runs (fp := fp_102) rfl rfl rfl rfl (ex_load_own_s isAgg3 rfl rfl h_103 hp_248 hin_246) (fun _ h => h) ?_
 intro u_253 hu_254
 obtain ⟨rfl, hr_255⟩ := cInt_rep hu_254
 replace hr_255 := has_I64 hr_255
 replace hV := hV hr_255
 intro q_250 hq_249
 obtain ⟨hin_258, hV⟩ := hV
 refine Wd.runx rfl rfl rfl rfl (exAll (ex_index_own underlying130 sizeOf3 rfl rfl h_103 hin_258)) ?_
 intro p_259 hp_260
 intro q_257 hq_256
 refine Wd.turn rfl rfl rfl fun w hS => ?_
 refine WL.store_own sizeOf3 rfl rfl rfl (cInt_mk (I64.has hr_233)) hS h_103 hp_260 hin_258 ?_
 clear hS
 intro w fp_262 h_261 hS
 refine WL.nil (DQ.mk2 (C' := St w0 H (fp_262 ++ ([(b_14, oc #[v_17] 42)] ++ L))) hS ⟨il, il, il, il, il, il, il, il, il, il, il, il, il, .inr (hq_208 _), .inr (hq_206 _), .inr (hq_204 _), .inr (hq_202 _), il, il, il, il, trivial⟩ ?_)
 clear hS w
 obtain ⟨hin_265, hV⟩ := hV
 refine Wd.runx rfl rfl rfl rfl (exAll (ex_index_own underlying130 sizeOf3 rfl rfl h_261 hin_265)) ?_
 intro p_266 hp_267
 intro q_264 hq_263
 refine Wd.turn rfl rfl rfl fun w hS => ?_
 refine WL.store_own sizeOf3 rfl rfl rfl (cInt_mk (I64.has hr_255)) hS h_261 hp_267 hin_265 ?_
 clear hS
 intro w fp_269 h_268 hS
 refine WL.nil (DQ.mk2 (C' := St w0 H (fp_269 ++ ([(b_14, oc #[v_17] 42)] ++ L))) hS ⟨il, il, il, il, il, il, il, il, il, il, il, il, il, il, il, il, il, il, il, il, il, il, trivial⟩ ?_)
 clear hS w
 refine Wd.nil fun w hS => ?_
 refine WQ.out nofun (WQ.next (Sb [(0, v_2), (1, i6 a_6), (2, i6 b_8), (3, i6 n_10), (10, i6 i_104)] ?_))
 refine WC.region (R hS ?_)
 obtain ⟨hi_271, hV⟩ := hV
 iterate 2 refine R hS ?_
 refine WL.nil ?_
 replace hS := hS.f2.f2
 exact Wt fun a ha => ⟨(((data_101.set (a_6 + i_104).toNat (ix data_101 (b_8 + i_104))).set (b_8 + i_104).toNat (ix data_101 (a_6 + i_104))), (i_104 + (1 : Int))), ⟨((data_101.set (a_6 + i_104).toNat (ix data_101 (b_8 + i_104))).set (b_8 + i_104).toNat (ix data_101 (a_6 + i_104))), (i_104 + (1 : Int)), fp_269, rfl, hV.1, h_268, hi_271, hS, ha.os⟩, hV.2⟩
 intro hc_272
 replace hV := hV.2 (ov hc_272)
 refine WC.exit (Wp ?_)
 refine Wp ?_
 refine WQ.hit ?_
 replace hS := hS.f2.f2
 exact leave0 (.inr rfl) rfl (⟨data_101, fp_102, hV, rfl, h_103, hS⟩)
theorem S_rotSF {w0 : World} {H : View} {L : Seg} {w : World} {v_2 : Value} {data_1 : LI} {fp_4 : Seg} {a_6 : Int} {m_8 : Int} {b_10 : Int} {b_14 : Nat} {v_17 : Value} {c_13_16 : List (Val)} {Q : LI → Prop} (h_3 : OwnSl H (cInt .i64) 3 v_2 data_1 fp_4) (hr_7 : I64 a_6) (hr_9 : I64 m_8) (hr_11 : I64 b_10) (h_18 : IsSl H cV v_17 c_13_16) (hS : St w0 H (fp_4 ++ ([(b_14, oc #[v_17] 42)] ++ L)) w) (hV : V_rotSF data_1 a_6 m_8 b_10 c_13_16 Q) :
 Calls Tryz.prog 230 #[v_2, i6 a_6, i6 m_8, i6 b_10, .func (.func 102) #[] #[(pq b_14)]] w fun e w' => ∃ (r1 : LI) (fp1 : Seg), Q r1 ∧ e = .returned (.tuple #[]) ∧ OwnSl H (cInt .i64) 3 v_2 r1 fp1 ∧ St w0 H (fp1 ++ ([(b_14, oc #[v_17] 42)] ++ L)) w' := by
 unfold V_rotSF at hV
 refine enter func230 rfl ntmps230 rfl (lk_args_cons (d := 0) (v := v_2) rfl (lk_args_cons (d := 1) (v := i6 a_6) rfl (lk_args_cons (d := 2) (v := i6 m_8) rfl (lk_args_cons (d := 3) (v := i6 b_10) rfl (lk_args_cons (d := 4) (v := .func (.func 102) #[] #[(pq b_14)]) rfl (lk_args_nil _)))))) (WC.sr ?_)
 iterate 2 refine R hS ?_
 obtain ⟨hi_20, hV⟩ := hV
 iterate 2 refine R hS ?_
 refine WL.nx (WC.sr ?_)
 iterate 2 refine R hS ?_
 obtain ⟨hi_22, hV⟩ := hV
 iterate 2 refine R hS ?_
 refine WL.nx (WC.seq (WC.block ?_))
 replace hS := hS.f2.f2
 obtain ⟨I_78, mu_79, hI_111, hV⟩ := hV
 refine WC.loop (σ := LI × Int × Int) (fun s a w => ∃ (data_47 : LI) (i_50 : Int) (j_52 : Int) (fp_48 : Seg), s = (data_47, i_50, j_52) ∧ I_78 (data_47, i_50, j_52) ∧ OwnSl H (cInt .i64) 3 v_2 data_47 fp_48 ∧ I64 i_50 ∧ I64 j_52 ∧ St w0 H (fp_48 ++ ([(b_14, oc #[v_17] 42)] ++ L)) w ∧ Fr 58 [(0, v_2), (2, i6 m_8), (4, .func (.func 102) #[] #[(pq b_14)]), (10, i6 i_50), (11, i6 j_52)] a) mu_79 (data_1, (m_8 - a_6), (b_10 - m_8)) ?_ ?_
 exact fun a ha => ⟨data_1, (m_8 - a_6), (b_10 - m_8), fp_4, rfl, hI_111, h_3, hi_20, hi_22, hS, ha.os⟩
 clear hS hI_111
 rintro _ a w ⟨data_47, i_50, j_52, fp_48, rfl, hI, h_49, hr_51, hr_53, hS, ha⟩
 refine in_frame ha ?_
 clear ha
 replace hV := hV _ hI
 clear hI
 refine WC.seq (WC.sr ?_)
 iterate 3 refine R hS ?_
 refine WL.nx ?_
 refine Cd ?_ ?_
 intro hc_110
 replace hV := hV.1 (od hc_110)
 refine WC.skip (WQ.next (WC.block (WC.sr ?_)))
 iterate 3 refine R hS ?_
 refine WL.nx ?_
 refine Cd ?_ ?_
 intro hc_103
 replace hV := hV.1 (od hc_103)
 refine WC.sr ?_
 iterate 3 refine R hS ?_
 obtain ⟨hi_84, hV⟩ := hV
 iterate 4 refine R hS ?_
 replace hS := hS.f2.f2
 refine Rc (enters0 (vs := [v_2, i6 (m_8 - i_50), i6 m_8, i6 j_52, .func (.func 102) #[] #[(pq b_14)]]) call238 ⟨rfl, rfl, rfl, rfl, rfl, trivial⟩) (S_swapSF h_49 hi_84 hr_9 hr_53 h_18 hS hV) ?_
 clear hV hS
 rintro _ w ⟨c_85, fp_86, hV, rfl, h_87, hS⟩
 refine ⟨_, rfl, ?_⟩
 refine WL.nx (Sb [(0, v_2), (2, i6 m_8), (4, .func (.func 102) #[] #[(pq b_14)]), (10, i6 i_50), (11, i6 j_52)] ?_)
 refine WC.region ?_
 iterate 2 refine R hS ?_
 obtain ⟨hi_90, hV⟩ := hV
 iterate 2 refine R hS ?_
 refine WL.nil (WQ.out nofun ?_)
 replace hS := hS.f2.f2
 exact Wt fun a ha => ⟨(c_85, (i_50 - j_52), j_52), ⟨c_85, (i_50 - j_52), j_52, fp_86, rfl, hV.1, h_87, hi_90, hr_53, hS, ha.os⟩, hV.2⟩
 intro hc_103
 replace hV := hV.2 (ov hc_103)
 refine WC.sr ?_
 iterate 3 refine R hS ?_
 obtain ⟨hi_92, hV⟩ := hV
 iterate 3 refine R hS ?_
 obtain ⟨hi_94, hV⟩ := hV
 iterate 2 refine R hS ?_
 obtain ⟨hi_96, hV⟩ := hV
 iterate 3 refine R hS ?_
 replace hS := hS.f2.f2
 refine Rc (enters0 (vs := [v_2, i6 (m_8 - i_50), i6 ((m_8 + j_52) - i_50), i6 i_50, .func (.func 102) #[] #[(pq b_14)]]) call238 ⟨rfl, rfl, rfl, rfl, rfl, trivial⟩) (S_swapSF h_49 hi_92 hi_96 hr_51 h_18 hS hV) ?_
 clear hV hS
 rintro _ w ⟨c_97, fp_98, hV, rfl, h_99, hS⟩
 refine ⟨_, rfl, ?_⟩
 refine WL.nx (Sb [(0, v_2), (2, i6 m_8), (4, .func (.func 102) #[] #[(pq b_14)]), (10, i6 i_50), (11, i6 j_52)] ?_)
 refine WC.region ?_
 iterate 2 refine R hS ?_
 obtain ⟨hi_102, hV⟩ := hV
 iterate 2 refine R hS ?_
 refine WL.nil (WQ.out nofun ?_)
 replace hS := hS.f2.f2
 exact Wt fun a ha => ⟨(c_97, i_50, (j_52 - i_50)), ⟨c_97, i_50, (j_52 - i_50), fp_98, rfl, hV.1, h_99, hr_51, hi_102, hS, ha.os⟩, hV.2⟩
 intro hc_110
 replace hV := hV.2 (ov hc_110)
 refine WC.exit (Wp ?_)
 refine Wp ?_
 refine WQ.hit (WQ.next (WC.region ?_))
 iterate 3 refine R hS ?_
 obtain ⟨hi_105, hV⟩ := hV
 iterate 4 refine R hS ?_
 replace hS := hS.f2.f2
 refine Rc (enters0 (vs := [v_2, i6 (m_8 - i_50), i6 m_8, i6 i_50, .func (.func 102) #[] #[(pq b_14)]]) call238 ⟨rfl, rfl, rfl, rfl, rfl, trivial⟩) (S_swapSF h_49 hi_105 hr_9 hr_51 h_18 hS hV) ?_
 clear hV hS
 rintro _ w ⟨c_106, fp_107, hV, rfl, h_108, hS⟩
 refine ⟨_, rfl, ?_⟩
 refine WL.nil ?_
 replace hS := hS.f2.f2
 exact leave0 (.inr rfl) rfl (⟨c_106, fp_107, hV, rfl, h_108, hS⟩)
end Go.Proofs.YtlhkfkecoekoeaaGreatDoor
