/- For each function: called, it does its work where its condition is so. Printed by program. -/
import Derived.Test.YtlhkfkecoekoeaaGreatDoorFacts
import Derived.Test.YtlhkfkecoekoeaaGreatDoorConds
import Derived.Test.YtlhkfkecoekoeaaGreatDoorShv
import Derived.Test.YtlhkfkecoekoeaaGreatDoorTold
set_option linter.unusedVariables false
set_option linter.unusedSimpArgs false
set_option maxRecDepth 100000
set_option maxHeartbeats 1000000
namespace Go.Proofs.YtlhkfkecoekoeaaGreatDoor
open Go.Vc
theorem S_rankT {w0 : World} {H : View} {L : Seg} {w : World} {c_1 : Bool} {Q : Int → Prop}  (hS : St w0 H (L) w) (hV : V_rankT c_1 Q) :
 Calls Tryz.prog 272 #[.bool c_1] w fun e w' => ∃ (r1 : Int), Q r1 ∧ e = .returned (i6 r1) ∧ I64 r1 ∧ St w0 H (L) w' := by
 unfold V_rankT at hV
 refine enter Tryz.func272 rfl Tryz.ntmps272 rfl (lk_args_cons (d := 0) (v := .bool c_1) rfl (lk_args_nil _)) (WC.sr (WL.ma rfl rfl (WL.nx (WC.sr (WL.ma rfl rfl (WL.nx (WC.ret ?_)))))))
 exact leave1 rfl rfl (⟨(1 : Int), hV, rfl, (show I64 (1 : Int) by unfold I64; omega), hS⟩)

theorem S_rankN {w0 : World} {H : View} {L : Seg} {w : World} {c_1 : Int} {Q : Int → Prop} (hr_2 : I64 c_1) (hS : St w0 H (L) w) (hV : V_rankN c_1 Q) :
 Calls Tryz.prog 277 #[i6 c_1] w fun e w' => ∃ (r1 : Int), Q r1 ∧ e = .returned (i6 r1) ∧ I64 r1 ∧ St w0 H (L) w' := by
 unfold V_rankN at hV
 refine enter Tryz.func277 rfl Tryz.ntmps277 rfl (lk_args_cons (d := 0) (v := i6 c_1) rfl (lk_args_nil _)) (WC.sr (WL.ma rfl rfl (WL.nx (WC.sr (WL.ma rfl rfl (WL.nx (WC.ret ?_)))))))
 exact leave1 rfl rfl (⟨(2 : Int), hV, rfl, (show I64 (2 : Int) by unfold I64; omega), hS⟩)

theorem S_rankX {w0 : World} {H : View} {L : Seg} {w : World} {c_1 : Str} {Q : Int → Prop}  (hS : St w0 H (L) w) (hV : V_rankX c_1 Q) :
 Calls Tryz.prog 283 #[sv c_1] w fun e w' => ∃ (r1 : Int), Q r1 ∧ e = .returned (i6 r1) ∧ I64 r1 ∧ St w0 H (L) w' := by
 unfold V_rankX at hV
 refine enter Tryz.func283 rfl Tryz.ntmps283 rfl (lk_args_cons (d := 0) (v := sv c_1) rfl (lk_args_nil _)) (WC.sr (WL.ma rfl rfl (WL.nx (WC.sr (WL.ma rfl rfl (WL.nx (WC.ret ?_)))))))
 exact leave1 rfl rfl (⟨(3 : Int), hV, rfl, (show I64 (3 : Int) by unfold I64; omega), hS⟩)

theorem S_rankA {w0 : World} {H : View} {L : Seg} {w : World} {c_1 : Str} {Q : Int → Prop}  (hS : St w0 H (L) w) (hV : V_rankA c_1 Q) :
 Calls Tryz.prog 286 #[sv c_1] w fun e w' => ∃ (r1 : Int), Q r1 ∧ e = .returned (i6 r1) ∧ I64 r1 ∧ St w0 H (L) w' := by
 unfold V_rankA at hV
 refine enter Tryz.func286 rfl Tryz.ntmps286 rfl (lk_args_cons (d := 0) (v := sv c_1) rfl (lk_args_nil _)) (WC.sr (WL.ma rfl rfl (WL.nx (WC.sr (WL.ma rfl rfl (WL.nx (WC.ret ?_)))))))
 exact leave1 rfl rfl (⟨(4 : Int), hV, rfl, (show I64 (4 : Int) by unfold I64; omega), hS⟩)

theorem S_rankS {w0 : World} {H : View} {L : Seg} {w : World} {c_1 : Val} {u_2 : Value} {Q : Int → Prop} (h_3 : IsPS H u_2 c_1) (hS : St w0 H (L) w) (hV : V_rankS c_1 Q) :
 Calls Tryz.prog 289 #[u_2] w fun e w' => ∃ (r1 : Int), Q r1 ∧ e = .returned (i6 r1) ∧ I64 r1 ∧ St w0 H (L) w' := by
 unfold V_rankS at hV
 refine enter Tryz.func289 rfl Tryz.ntmps289 rfl (lk_args_cons (d := 0) (v := u_2) rfl (lk_args_nil _)) (WC.sr (WL.ma rfl rfl (WL.nx (WC.sr (WL.ma rfl rfl (WL.nx (WC.ret ?_)))))))
 exact leave1 rfl rfl (⟨(5 : Int), hV, rfl, (show I64 (5 : Int) by unfold I64; omega), hS⟩)

theorem S_rankF {w0 : World} {H : View} {L : Seg} {w : World} {c_1 : Val} {u_2 : Value} {Q : Int → Prop} (h_3 : IsPF H u_2 c_1) (hS : St w0 H (L) w) (hV : V_rankF c_1 Q) :
 Calls Tryz.prog 294 #[u_2] w fun e w' => ∃ (r1 : Int), Q r1 ∧ e = .returned (i6 r1) ∧ I64 r1 ∧ St w0 H (L) w' := by
 unfold V_rankF at hV
 refine enter Tryz.func294 rfl Tryz.ntmps294 rfl (lk_args_cons (d := 0) (v := u_2) rfl (lk_args_nil _)) (WC.sr (WL.ma rfl rfl (WL.nx (WC.sr (WL.ma rfl rfl (WL.nx (WC.ret ?_)))))))
 exact leave1 rfl rfl (⟨(6 : Int), hV, rfl, (show I64 (6 : Int) by unfold I64; omega), hS⟩)

theorem Tryz.m_rankT (v : Value) (args : Array Value) (w : World) : (callMethod (.iface 86 v) "sextant/value.rank" args).run Tryz.prog w = .ok (.enter 272 (#[v] ++ args)) w := by kernel_rfl
theorem Tryz.m_rankN (v : Value) (args : Array Value) (w : World) : (callMethod (.iface 87 v) "sextant/value.rank" args).run Tryz.prog w = .ok (.enter 277 (#[v] ++ args)) w := by kernel_rfl
theorem Tryz.m_rankX (v : Value) (args : Array Value) (w : World) : (callMethod (.iface 89 v) "sextant/value.rank" args).run Tryz.prog w = .ok (.enter 283 (#[v] ++ args)) w := by kernel_rfl
theorem Tryz.m_rankA (v : Value) (args : Array Value) (w : World) : (callMethod (.iface 91 v) "sextant/value.rank" args).run Tryz.prog w = .ok (.enter 286 (#[v] ++ args)) w := by kernel_rfl
theorem Tryz.m_rankS (v : Value) (args : Array Value) (w : World) : (callMethod (.iface 93 v) "sextant/value.rank" args).run Tryz.prog w = .ok (.enter 289 (#[v] ++ args)) w := by kernel_rfl
theorem Tryz.m_rankF (v : Value) (args : Array Value) (w : World) : (callMethod (.iface 97 v) "sextant/value.rank" args).run Tryz.prog w = .ok (.enter 294 (#[v] ++ args)) w := by kernel_rfl
theorem S_irank {w0 : World} {H : View} {L : Seg} {w : World} {x : Val} {u : Value} {Q : Int → Prop} (hx : IsW H u x)  (hS : St w0 H (L) w) (hV : V_irank x Q) :
    ∃ (f : Nat) (args : Array Value), (∀ w, (callMethod u "sextant/value.rank" ([] : List Value).toArray).run Tryz.prog w = .ok (.enter f args) w) ∧ Calls Tryz.prog f args w fun e w' => ∃ (r1 : Int), Q r1 ∧ e = .returned (.int .i64 r1) ∧ I64 r1 ∧ St w0 H (L) w' := by
  cases x with
  | nil => exact hV.elim
  | truth t => obtain rfl := hx; exact ⟨_, _, Tryz.m_rankT (.bool t) _, S_rankT  hS hV⟩
  | num n => obtain ⟨rfl, hr⟩ := hx; exact ⟨_, _, Tryz.m_rankN (.int .i64 n) _, S_rankN hr  hS hV⟩
  | text s => obtain rfl := hx; exact ⟨_, _, Tryz.m_rankX (sv s) _, S_rankX  hS hV⟩
  | atom s => obtain rfl := hx; exact ⟨_, _, Tryz.m_rankA (sv s) _, S_rankA  hS hV⟩
  | set l h => have hx2 := hx; obtain ⟨b, v, fz, rfl, h2⟩ := hx; exact ⟨_, _, Tryz.m_rankS _ _, S_rankS (IsPS.mk hx2)  hS hV⟩
  | fn k v h => have hx2 := hx; obtain ⟨b, v1, v2, fz, rfl, h2⟩ := hx; exact ⟨_, _, Tryz.m_rankF _ _, S_rankF (IsPF.mk hx2)  hS hV⟩

theorem S_weightT {w0 : World} {H : View} {L : Seg} {w : World} {c_1 : Bool} {Q : Int → Prop}  (hS : St w0 H (L) w) (hV : V_weightT c_1 Q) :
 Calls Tryz.prog 274 #[.bool c_1] w fun e w' => ∃ (r1 : Int), Q r1 ∧ e = .returned (i6 r1) ∧ I64 r1 ∧ St w0 H (L) w' := by
 unfold V_weightT at hV
 refine enter Tryz.func274 rfl Tryz.ntmps274 rfl (lk_args_cons (d := 0) (v := .bool c_1) rfl (lk_args_nil _)) (WC.sr (WL.ma rfl rfl (WL.nx (WC.sr (WL.ma rfl rfl (WL.nx (WC.ret ?_)))))))
 exact leave1 rfl rfl (⟨(1 : Int), hV, rfl, (show I64 (1 : Int) by unfold I64; omega), hS⟩)

theorem S_weightN {w0 : World} {H : View} {L : Seg} {w : World} {c_1 : Int} {Q : Int → Prop} (hr_2 : I64 c_1) (hS : St w0 H (L) w) (hV : V_weightN c_1 Q) :
 Calls Tryz.prog 279 #[i6 c_1] w fun e w' => ∃ (r1 : Int), Q r1 ∧ e = .returned (i6 r1) ∧ I64 r1 ∧ St w0 H (L) w' := by
 unfold V_weightN at hV
 refine enter Tryz.func279 rfl Tryz.ntmps279 rfl (lk_args_cons (d := 0) (v := i6 c_1) rfl (lk_args_nil _)) (WC.sr (WL.ma rfl rfl (WL.nx (WC.sr (WL.ma rfl rfl (WL.nx (WC.ret ?_)))))))
 exact leave1 rfl rfl (⟨(1 : Int), hV, rfl, (show I64 (1 : Int) by unfold I64; omega), hS⟩)

theorem S_weightX {w0 : World} {H : View} {L : Seg} {w : World} {c_1 : Str} {Q : Int → Prop}  (hS : St w0 H (L) w) (hV : V_weightX c_1 Q) :
 Calls Tryz.prog 285 #[sv c_1] w fun e w' => ∃ (r1 : Int), Q r1 ∧ e = .returned (i6 r1) ∧ I64 r1 ∧ St w0 H (L) w' := by
 unfold V_weightX at hV
 refine enter Tryz.func285 rfl Tryz.ntmps285 rfl (lk_args_cons (d := 0) (v := sv c_1) rfl (lk_args_nil _)) (WC.sr (WL.ma rfl rfl (WL.nx (WC.sr (WL.ma rfl rfl (WL.nx (WC.ret ?_)))))))
 exact leave1 rfl rfl (⟨(1 : Int), hV, rfl, (show I64 (1 : Int) by unfold I64; omega), hS⟩)

theorem S_weightA {w0 : World} {H : View} {L : Seg} {w : World} {c_1 : Str} {Q : Int → Prop}  (hS : St w0 H (L) w) (hV : V_weightA c_1 Q) :
 Calls Tryz.prog 288 #[sv c_1] w fun e w' => ∃ (r1 : Int), Q r1 ∧ e = .returned (i6 r1) ∧ I64 r1 ∧ St w0 H (L) w' := by
 unfold V_weightA at hV
 refine enter Tryz.func288 rfl Tryz.ntmps288 rfl (lk_args_cons (d := 0) (v := sv c_1) rfl (lk_args_nil _)) (WC.sr (WL.ma rfl rfl (WL.nx (WC.sr (WL.ma rfl rfl (WL.nx (WC.ret ?_)))))))
 exact leave1 rfl rfl (⟨(1 : Int), hV, rfl, (show I64 (1 : Int) by unfold I64; omega), hS⟩)

theorem S_weightS {w0 : World} {H : View} {L : Seg} {w : World} {s_1 : Val} {u_2 : Value} {Q : Int → Prop} (h_3 : IsPS H u_2 s_1) (hS : St w0 H (L) w) (hV : V_weightS s_1 Q) :
 Calls Tryz.prog 291 #[u_2] w fun e w' => ∃ (r1 : Int), Q r1 ∧ e = .returned (i6 r1) ∧ I64 r1 ∧ St w0 H (L) w' := by
 unfold V_weightS at hV
 refine enter Tryz.func291 rfl Tryz.ntmps291 rfl (lk_args_cons (d := 0) (v := u_2) rfl (lk_args_nil _)) (WC.sr (WL.ma rfl rfl (WL.nx (WC.sr (WL.mv rfl rfl ?_)))))
 obtain ⟨hk_4, hV⟩ := hV
 refine WL.run hS rfl rfl rfl (ex_nc_set rfl h_3 hk_4) (WL.runx hS rfl rfl rfl (ex_set_h Tryz.underlying96 rfl Tryz.sizeOf3 rfl rfl h_3 hk_4) ?_)
 intro p_5 hp_6
 refine WL.runx hS rfl rfl rfl (ex_load Tryz.isAgg3 rfl rfl hp_6) ?_
 intro u_9 hu_10
 obtain ⟨rfl, hr_11⟩ := cInt_rep hu_10
 replace hr_11 := has_I64 hr_11
 replace hV := hV hr_11
 refine WL.ma rfl rfl (WL.nx (WC.ret ?_))
 exact leave1 rfl rfl (⟨(s_1.setH), hV, rfl, hr_11, hS⟩)

theorem S_weightF {w0 : World} {H : View} {L : Seg} {w : World} {f_1 : Val} {u_2 : Value} {Q : Int → Prop} (h_3 : IsPF H u_2 f_1) (hS : St w0 H (L) w) (hV : V_weightF f_1 Q) :
 Calls Tryz.prog 296 #[u_2] w fun e w' => ∃ (r1 : Int), Q r1 ∧ e = .returned (i6 r1) ∧ I64 r1 ∧ St w0 H (L) w' := by
 unfold V_weightF at hV
 refine enter Tryz.func296 rfl Tryz.ntmps296 rfl (lk_args_cons (d := 0) (v := u_2) rfl (lk_args_nil _)) (WC.sr (WL.ma rfl rfl (WL.nx (WC.sr (WL.mv rfl rfl ?_)))))
 obtain ⟨hk_4, hV⟩ := hV
 refine WL.run hS rfl rfl rfl (ex_nc_fn rfl h_3 hk_4) (WL.runx hS rfl rfl rfl (ex_fn_h Tryz.underlying100 rfl Tryz.sizeOf3 rfl rfl h_3 hk_4) ?_)
 intro p_5 hp_6
 refine WL.runx hS rfl rfl rfl (ex_load Tryz.isAgg3 rfl rfl hp_6) ?_
 intro u_9 hu_10
 obtain ⟨rfl, hr_11⟩ := cInt_rep hu_10
 replace hr_11 := has_I64 hr_11
 replace hV := hV hr_11
 refine WL.ma rfl rfl (WL.nx (WC.ret ?_))
 exact leave1 rfl rfl (⟨(f_1.fnH), hV, rfl, hr_11, hS⟩)

theorem Tryz.m_weightT (v : Value) (args : Array Value) (w : World) : (callMethod (.iface 86 v) "sextant/value.weight" args).run Tryz.prog w = .ok (.enter 274 (#[v] ++ args)) w := by kernel_rfl
theorem Tryz.m_weightN (v : Value) (args : Array Value) (w : World) : (callMethod (.iface 87 v) "sextant/value.weight" args).run Tryz.prog w = .ok (.enter 279 (#[v] ++ args)) w := by kernel_rfl
theorem Tryz.m_weightX (v : Value) (args : Array Value) (w : World) : (callMethod (.iface 89 v) "sextant/value.weight" args).run Tryz.prog w = .ok (.enter 285 (#[v] ++ args)) w := by kernel_rfl
theorem Tryz.m_weightA (v : Value) (args : Array Value) (w : World) : (callMethod (.iface 91 v) "sextant/value.weight" args).run Tryz.prog w = .ok (.enter 288 (#[v] ++ args)) w := by kernel_rfl
theorem Tryz.m_weightS (v : Value) (args : Array Value) (w : World) : (callMethod (.iface 93 v) "sextant/value.weight" args).run Tryz.prog w = .ok (.enter 291 (#[v] ++ args)) w := by kernel_rfl
theorem Tryz.m_weightF (v : Value) (args : Array Value) (w : World) : (callMethod (.iface 97 v) "sextant/value.weight" args).run Tryz.prog w = .ok (.enter 296 (#[v] ++ args)) w := by kernel_rfl
theorem S_iweight {w0 : World} {H : View} {L : Seg} {w : World} {x : Val} {u : Value} {Q : Int → Prop} (hx : IsW H u x)  (hS : St w0 H (L) w) (hV : V_iweight x Q) :
    ∃ (f : Nat) (args : Array Value), (∀ w, (callMethod u "sextant/value.weight" ([] : List Value).toArray).run Tryz.prog w = .ok (.enter f args) w) ∧ Calls Tryz.prog f args w fun e w' => ∃ (r1 : Int), Q r1 ∧ e = .returned (.int .i64 r1) ∧ I64 r1 ∧ St w0 H (L) w' := by
  cases x with
  | nil => exact hV.elim
  | truth t => obtain rfl := hx; exact ⟨_, _, Tryz.m_weightT (.bool t) _, S_weightT  hS hV⟩
  | num n => obtain ⟨rfl, hr⟩ := hx; exact ⟨_, _, Tryz.m_weightN (.int .i64 n) _, S_weightN hr  hS hV⟩
  | text s => obtain rfl := hx; exact ⟨_, _, Tryz.m_weightX (sv s) _, S_weightX  hS hV⟩
  | atom s => obtain rfl := hx; exact ⟨_, _, Tryz.m_weightA (sv s) _, S_weightA  hS hV⟩
  | set l h => have hx2 := hx; obtain ⟨b, v, fz, rfl, h2⟩ := hx; exact ⟨_, _, Tryz.m_weightS _ _, S_weightS (IsPS.mk hx2)  hS hV⟩
  | fn k v h => have hx2 := hx; obtain ⟨b, v1, v2, fz, rfl, h2⟩ := hx; exact ⟨_, _, Tryz.m_weightF _ _, S_weightF (IsPF.mk hx2)  hS hV⟩

theorem S_rank {w0 : World} {H : View} {L : Seg} {w : World} {v_1 : Val} {u_2 : Value} {Q : Int → Prop} (h_3 : IsW H u_2 v_1) (hS : St w0 H (L) w) (hV : V_rank v_1 Q) :
 Calls Tryz.prog 48 #[.agg #[u_2]] w fun e w' => ∃ (r1 : Int), Q r1 ∧ e = .returned (i6 r1) ∧ I64 r1 ∧ St w0 H (L) w' := by
 unfold V_rank at hV
 refine enter Tryz.func48 rfl Tryz.ntmps48 rfl (lk_args_cons (d := 0) (v := .agg #[u_2]) rfl (lk_args_nil _)) (WC.sr (WL.box (arr := #[u_2]) rfl rfl rfl hS ?_))
 clear hS
 intro b_4 w hS
 refine WL.ma rfl rfl (WL.nx (WC.seq (WC.sr (WL.run hS rfl rfl rfl (ex_fieldAddr (o' := 0) Tryz.underlying25 rfl Tryz.sizeOf23 rfl rfl) (WL.run hS rfl rfl rfl (ex_load_box Tryz.isAgg23 rfl rfl) (WL.run hS rfl rfl rfl (ex_v_eql Tryz.iface23 rfl h_3) (WL.nx ?_)))))))
 refine WC.cond rfl ?_ ?_
 intro hc_13
 replace hV := hV.1 hc_13
 refine WC.sr (WL.ma rfl rfl (WL.nx ?_))
 replace hS := hS.drop
 refine WC.ret (WQ.pass nofun ?_)
 exact leave1 rfl rfl (⟨(0 : Int), hV, rfl, (show I64 (0 : Int) by unfold I64; omega), hS⟩)
 intro hc_13
 replace hV := hV.2 hc_13
 refine WC.skip (WQ.next (WC.sr (WL.run hS rfl rfl rfl (ex_fieldAddr (o' := 0) Tryz.underlying25 rfl Tryz.sizeOf23 rfl rfl) (WL.run hS rfl rfl rfl (ex_load_box Tryz.isAgg23 rfl rfl) ?_))))
 obtain ⟨f_8, g_9, he_10, hc_11⟩ := S_irank h_3 hS hV
 refine WL.call rfl rfl rfl (enters_i (vs := []) rfl trivial he_10) (hc_11) ?_
 clear hV hS
 rintro _ w ⟨r_6, hV, rfl, hr_7, hS⟩
 refine ⟨_, rfl, ?_⟩
 refine WL.ma rfl rfl (WL.nx ?_)
 replace hS := hS.drop
 refine WC.ret ?_
 exact leave1 rfl rfl (⟨r_6, hV, rfl, hr_7, hS⟩)

theorem S_Weight {w0 : World} {H : View} {L : Seg} {w : World} {v_1 : Val} {u_2 : Value} {Q : Int → Prop} (h_3 : IsW H u_2 v_1) (hS : St w0 H (L) w) (hV : V_Weight v_1 Q) :
 Calls Tryz.prog 13 #[.agg #[u_2]] w fun e w' => ∃ (r1 : Int), Q r1 ∧ e = .returned (i6 r1) ∧ I64 r1 ∧ St w0 H (L) w' := by
 unfold V_Weight at hV
 refine enter Tryz.func13 rfl Tryz.ntmps13 rfl (lk_args_cons (d := 0) (v := .agg #[u_2]) rfl (lk_args_nil _)) (WC.sr (WL.box (arr := #[u_2]) rfl rfl rfl hS ?_))
 clear hS
 intro b_4 w hS
 refine WL.ma rfl rfl (WL.nx (WC.seq (WC.sr (WL.run hS rfl rfl rfl (ex_fieldAddr (o' := 0) Tryz.underlying25 rfl Tryz.sizeOf23 rfl rfl) (WL.run hS rfl rfl rfl (ex_load_box Tryz.isAgg23 rfl rfl) (WL.run hS rfl rfl rfl (ex_v_eql Tryz.iface23 rfl h_3) (WL.nx ?_)))))))
 refine WC.cond rfl ?_ ?_
 intro hc_13
 replace hV := hV.1 hc_13
 refine WC.sr (WL.ma rfl rfl (WL.nx ?_))
 replace hS := hS.drop
 refine WC.ret (WQ.pass nofun ?_)
 exact leave1 rfl rfl (⟨(1 : Int), hV, rfl, (show I64 (1 : Int) by unfold I64; omega), hS⟩)
 intro hc_13
 replace hV := hV.2 hc_13
 refine WC.skip (WQ.next (WC.sr (WL.run hS rfl rfl rfl (ex_fieldAddr (o' := 0) Tryz.underlying25 rfl Tryz.sizeOf23 rfl rfl) (WL.run hS rfl rfl rfl (ex_load_box Tryz.isAgg23 rfl rfl) ?_))))
 obtain ⟨f_8, g_9, he_10, hc_11⟩ := S_iweight h_3 hS hV
 refine WL.call rfl rfl rfl (enters_i (vs := []) rfl trivial he_10) (hc_11) ?_
 clear hV hS
 rintro _ w ⟨r_6, hV, rfl, hr_7, hS⟩
 refine ⟨_, rfl, ?_⟩
 refine WL.ma rfl rfl (WL.nx ?_)
 replace hS := hS.drop
 refine WC.ret ?_
 exact leave1 rfl rfl (⟨r_6, hV, rfl, hr_7, hS⟩)

theorem S_isNaN {w0 : World} {H : View} {L : Seg} {w : World} {x_1 : Int} {Q : Bool → Prop} (hr_2 : I64 x_1) (hS : St w0 H (L) w) (hV : V_isNaN x_1 Q) :
 Calls Tryz.prog 89 #[i6 x_1] w fun e w' => ∃ (r1 : Bool), Q r1 ∧ e = .returned (.bool r1) ∧ St w0 H (L) w' := by
 unfold V_isNaN at hV
 refine enter Tryz.func89 rfl Tryz.ntmps89 rfl (lk_args_cons (d := 0) (v := i6 x_1) rfl (lk_args_nil _)) (WC.sr (WL.ma rfl rfl (WL.nx (WC.sr (WL.mv rfl rfl (WL.mv rfl rfl (WL.run hS rfl rfl rfl (ex_neq rfl rfl) ?_)))))))
 refine WL.ma rfl rfl (WL.nx (WC.ret ?_))
 exact leave1 rfl rfl (⟨decide (x_1 ≠ x_1), hV, rfl, hS⟩)

theorem S_isNaNN {w0 : World} {H : View} {L : Seg} {w : World} {x_1 : Int} {Q : Bool → Prop} (hr_2 : I64 x_1) (hS : St w0 H (L) w) (hV : V_isNaNN x_1 Q) :
 Calls Tryz.prog 90 #[i6 x_1] w fun e w' => ∃ (r1 : Bool), Q r1 ∧ e = .returned (.bool r1) ∧ St w0 H (L) w' := by
 unfold V_isNaNN at hV
 refine enter Tryz.func90 rfl Tryz.ntmps90 rfl (lk_args_cons (d := 0) (v := i6 x_1) rfl (lk_args_nil _)) (WC.sr (WL.ma rfl rfl (WL.nx (WC.sr (WL.mv rfl rfl (WL.mv rfl rfl (WL.run hS rfl rfl rfl (ex_neq rfl rfl) ?_)))))))
 refine WL.ma rfl rfl (WL.nx (WC.ret ?_))
 exact leave1 rfl rfl (⟨decide (x_1 ≠ x_1), hV, rfl, hS⟩)

theorem S_isNaNX {w0 : World} {H : View} {L : Seg} {w : World} {x_1 : Str} {Q : Bool → Prop}  (hS : St w0 H (L) w) (hV : V_isNaNX x_1 Q) :
 Calls Tryz.prog 91 #[sv x_1] w fun e w' => ∃ (r1 : Bool), Q r1 ∧ e = .returned (.bool r1) ∧ St w0 H (L) w' := by
 unfold V_isNaNX at hV
 refine enter Tryz.func91 rfl Tryz.ntmps91 rfl (lk_args_cons (d := 0) (v := sv x_1) rfl (lk_args_nil _)) (WC.sr (WL.ma rfl rfl (WL.nx (WC.sr (WL.mv rfl rfl (WL.mv rfl rfl (WL.run hS rfl rfl rfl (ex_s_neq rfl rfl) ?_)))))))
 refine WL.ma rfl rfl (WL.nx (WC.ret ?_))
 exact leave1 rfl rfl (⟨decide (x_1 ≠ x_1), hV, rfl, hS⟩)

theorem S_isNaNA {w0 : World} {H : View} {L : Seg} {w : World} {x_1 : Str} {Q : Bool → Prop}  (hS : St w0 H (L) w) (hV : V_isNaNA x_1 Q) :
 Calls Tryz.prog 92 #[sv x_1] w fun e w' => ∃ (r1 : Bool), Q r1 ∧ e = .returned (.bool r1) ∧ St w0 H (L) w' := by
 unfold V_isNaNA at hV
 refine enter Tryz.func92 rfl Tryz.ntmps92 rfl (lk_args_cons (d := 0) (v := sv x_1) rfl (lk_args_nil _)) (WC.sr (WL.ma rfl rfl (WL.nx (WC.sr (WL.mv rfl rfl (WL.mv rfl rfl (WL.run hS rfl rfl rfl (ex_s_neq rfl rfl) ?_)))))))
 refine WL.ma rfl rfl (WL.nx (WC.ret ?_))
 exact leave1 rfl rfl (⟨decide (x_1 ≠ x_1), hV, rfl, hS⟩)

theorem S_cmpI {w0 : World} {H : View} {L : Seg} {w : World} {x_1 : Int} {y_3 : Int} {Q : Int → Prop} (hr_2 : I64 x_1) (hr_4 : I64 y_3) (hS : St w0 H (L) w) (hV : V_cmpI x_1 y_3 Q) :
 Calls Tryz.prog 47 #[i6 x_1, i6 y_3] w fun e w' => ∃ (r1 : Int), Q r1 ∧ e = .returned (i6 r1) ∧ I64 r1 ∧ St w0 H (L) w' := by
 unfold V_cmpI at hV
 refine enter Tryz.func47 rfl Tryz.ntmps47 rfl (lk_args_cons (d := 0) (v := i6 x_1) rfl (lk_args_cons (d := 1) (v := i6 y_3) rfl (lk_args_nil _))) (WC.sr (WL.ma rfl rfl (WL.nx (WC.sr (WL.mv rfl rfl (WL.call rfl rfl rfl (enters0 (vs := [i6 x_1]) Tryz.call89 ⟨rfl, trivial⟩) (S_isNaN hr_2 hS hV) ?_))))))
 clear hV hS
 rintro _ w ⟨r_5, hV, rfl, hS⟩
 refine ⟨_, rfl, ?_⟩
 refine WL.ma rfl rfl (WL.nx (WC.sr (WL.mv rfl rfl (WL.call rfl rfl rfl (enters0 (vs := [i6 y_3]) Tryz.call89 ⟨rfl, trivial⟩) (S_isNaN hr_4 hS hV) ?_))))
 clear hV hS
 rintro _ w ⟨r_7, hV, rfl, hS⟩
 refine ⟨_, rfl, ?_⟩
 refine WL.ma rfl rfl (WL.nx (WC.seq (WC.sr (WL.mv rfl rfl (WL.nx ?_)))))
 refine WC.cond rfl ?_ ?_
 intro hc_15
 replace hV := hV.1 hc_15
 refine WC.seq (WC.sr (WL.mv rfl rfl (WL.nx (WC.sub (m := [(12, .bool r_7)]) ⟨rfl, trivial⟩ ?_))))
 refine WC.cond rfl ?_ ?_
 intro hc_9
 replace hV := hV.1 hc_9
 refine WC.sr (WL.ma rfl rfl (WL.nx (WC.ret (WQ.pass nofun (WQ.pass nofun ?_)))))
 exact leave1 rfl rfl (⟨(0 : Int), hV, rfl, (show I64 (0 : Int) by unfold I64; omega), hS⟩)
 intro hc_9
 replace hV := hV.2 hc_9
 refine WC.skip (WQ.next (WC.sr (WL.ma rfl rfl (WL.nx (WC.ret (WQ.pass nofun ?_))))))
 exact leave1 rfl rfl (⟨(-1), hV, rfl, (show I64 ((-1) : Int) by unfold I64; omega), hS⟩)
 intro hc_15
 replace hV := hV.2 hc_15
 refine WC.skip (WQ.next (WC.seq (WC.sr (WL.mv rfl rfl (WL.nx ?_)))))
 refine WC.cond rfl ?_ ?_
 intro hc_14
 replace hV := hV.1 hc_14
 refine WC.sr (WL.ma rfl rfl (WL.nx (WC.sub (m := [(4, i6 (1 : Int))]) ⟨rfl, trivial⟩ (WC.ret (WQ.pass nofun ?_)))))
 exact leave1 rfl rfl (⟨(1 : Int), hV, rfl, (show I64 (1 : Int) by unfold I64; omega), hS⟩)
 intro hc_14
 replace hV := hV.2 hc_14
 refine WC.skip (WQ.next (WC.seq (WC.sr (WL.mv rfl rfl (WL.mv rfl rfl (WL.run hS rfl rfl rfl (ex_lss rfl rfl) (WL.nx ?_)))))))
 refine WC.sub (m := [(0, i6 x_1), (1, i6 y_3), (16, .bool (decide (x_1 < y_3)))]) ⟨rfl, rfl, rfl, trivial⟩ ?_
 refine WC.cond rfl ?_ ?_
 intro hc_13
 replace hV := hV.1 (of_decide_eq_true hc_13)
 refine WC.sr (WL.ma rfl rfl (WL.nx (WC.ret (WQ.pass nofun ?_))))
 exact leave1 rfl rfl (⟨(-1), hV, rfl, (show I64 ((-1) : Int) by unfold I64; omega), hS⟩)
 intro hc_13
 replace hV := hV.2 (of_decide_eq_false hc_13)
 refine WC.skip (WQ.next (WC.seq (WC.sr (WL.mv rfl rfl (WL.mv rfl rfl (WL.run hS rfl rfl rfl (ex_gtr rfl rfl) (WL.nx ?_)))))))
 refine WC.cond rfl ?_ ?_
 intro hc_12
 replace hV := hV.1 (of_decide_eq_true hc_12)
 refine WC.sr (WL.ma rfl rfl (WL.nx (WC.ret (WQ.pass nofun ?_))))
 exact leave1 rfl rfl (⟨(1 : Int), hV, rfl, (show I64 (1 : Int) by unfold I64; omega), hS⟩)
 intro hc_12
 replace hV := hV.2 (of_decide_eq_false hc_12)
 refine WC.skip (WQ.next (WC.sr (WL.ma rfl rfl (WL.nx (WC.ret ?_)))))
 exact leave1 rfl rfl (⟨(0 : Int), hV, rfl, (show I64 (0 : Int) by unfold I64; omega), hS⟩)

theorem S_cmpN {w0 : World} {H : View} {L : Seg} {w : World} {x_1 : Int} {y_3 : Int} {Q : Int → Prop} (hr_2 : I64 x_1) (hr_4 : I64 y_3) (hS : St w0 H (L) w) (hV : V_cmpN x_1 y_3 Q) :
 Calls Tryz.prog 49 #[i6 x_1, i6 y_3] w fun e w' => ∃ (r1 : Int), Q r1 ∧ e = .returned (i6 r1) ∧ I64 r1 ∧ St w0 H (L) w' := by
 unfold V_cmpN at hV
 refine enter Tryz.func49 rfl Tryz.ntmps49 rfl (lk_args_cons (d := 0) (v := i6 x_1) rfl (lk_args_cons (d := 1) (v := i6 y_3) rfl (lk_args_nil _))) (WC.sr (WL.ma rfl rfl (WL.nx (WC.sr (WL.mv rfl rfl (WL.call rfl rfl rfl (enters0 (vs := [i6 x_1]) Tryz.call90 ⟨rfl, trivial⟩) (S_isNaNN hr_2 hS hV) ?_))))))
 clear hV hS
 rintro _ w ⟨r_5, hV, rfl, hS⟩
 refine ⟨_, rfl, ?_⟩
 refine WL.ma rfl rfl (WL.nx (WC.sr (WL.mv rfl rfl (WL.call rfl rfl rfl (enters0 (vs := [i6 y_3]) Tryz.call90 ⟨rfl, trivial⟩) (S_isNaNN hr_4 hS hV) ?_))))
 clear hV hS
 rintro _ w ⟨r_7, hV, rfl, hS⟩
 refine ⟨_, rfl, ?_⟩
 refine WL.ma rfl rfl (WL.nx (WC.seq (WC.sr (WL.mv rfl rfl (WL.nx ?_)))))
 refine WC.cond rfl ?_ ?_
 intro hc_15
 replace hV := hV.1 hc_15
 refine WC.seq (WC.sr (WL.mv rfl rfl (WL.nx (WC.sub (m := [(12, .bool r_7)]) ⟨rfl, trivial⟩ ?_))))
 refine WC.cond rfl ?_ ?_
 intro hc_9
 replace hV := hV.1 hc_9
 refine WC.sr (WL.ma rfl rfl (WL.nx (WC.ret (WQ.pass nofun (WQ.pass nofun ?_)))))
 exact leave1 rfl rfl (⟨(0 : Int), hV, rfl, (show I64 (0 : Int) by unfold I64; omega), hS⟩)
 intro hc_9
 replace hV := hV.2 hc_9
 refine WC.skip (WQ.next (WC.sr (WL.ma rfl rfl (WL.nx (WC.ret (WQ.pass nofun ?_))))))
 exact leave1 rfl rfl (⟨(-1), hV, rfl, (show I64 ((-1) : Int) by unfold I64; omega), hS⟩)
 intro hc_15
 replace hV := hV.2 hc_15
 refine WC.skip (WQ.next (WC.seq (WC.sr (WL.mv rfl rfl (WL.nx ?_)))))
 refine WC.cond rfl ?_ ?_
 intro hc_14
 replace hV := hV.1 hc_14
 refine WC.sr (WL.ma rfl rfl (WL.nx (WC.sub (m := [(4, i6 (1 : Int))]) ⟨rfl, trivial⟩ (WC.ret (WQ.pass nofun ?_)))))
 exact leave1 rfl rfl (⟨(1 : Int), hV, rfl, (show I64 (1 : Int) by unfold I64; omega), hS⟩)
 intro hc_14
 replace hV := hV.2 hc_14
 refine WC.skip (WQ.next (WC.seq (WC.sr (WL.mv rfl rfl (WL.mv rfl rfl (WL.run hS rfl rfl rfl (ex_lss rfl rfl) (WL.nx ?_)))))))
 refine WC.sub (m := [(0, i6 x_1), (1, i6 y_3), (16, .bool (decide (x_1 < y_3)))]) ⟨rfl, rfl, rfl, trivial⟩ ?_
 refine WC.cond rfl ?_ ?_
 intro hc_13
 replace hV := hV.1 (of_decide_eq_true hc_13)
 refine WC.sr (WL.ma rfl rfl (WL.nx (WC.ret (WQ.pass nofun ?_))))
 exact leave1 rfl rfl (⟨(-1), hV, rfl, (show I64 ((-1) : Int) by unfold I64; omega), hS⟩)
 intro hc_13
 replace hV := hV.2 (of_decide_eq_false hc_13)
 refine WC.skip (WQ.next (WC.seq (WC.sr (WL.mv rfl rfl (WL.mv rfl rfl (WL.run hS rfl rfl rfl (ex_gtr rfl rfl) (WL.nx ?_)))))))
 refine WC.cond rfl ?_ ?_
 intro hc_12
 replace hV := hV.1 (of_decide_eq_true hc_12)
 refine WC.sr (WL.ma rfl rfl (WL.nx (WC.ret (WQ.pass nofun ?_))))
 exact leave1 rfl rfl (⟨(1 : Int), hV, rfl, (show I64 (1 : Int) by unfold I64; omega), hS⟩)
 intro hc_12
 replace hV := hV.2 (of_decide_eq_false hc_12)
 refine WC.skip (WQ.next (WC.sr (WL.ma rfl rfl (WL.nx (WC.ret ?_)))))
 exact leave1 rfl rfl (⟨(0 : Int), hV, rfl, (show I64 (0 : Int) by unfold I64; omega), hS⟩)

theorem S_cmpX {w0 : World} {H : View} {L : Seg} {w : World} {x_1 : Str} {y_2 : Str} {Q : Int → Prop}  (hS : St w0 H (L) w) (hV : V_cmpX x_1 y_2 Q) :
 Calls Tryz.prog 50 #[sv x_1, sv y_2] w fun e w' => ∃ (r1 : Int), Q r1 ∧ e = .returned (i6 r1) ∧ I64 r1 ∧ St w0 H (L) w' := by
 unfold V_cmpX at hV
 refine enter Tryz.func50 rfl Tryz.ntmps50 rfl (lk_args_cons (d := 0) (v := sv x_1) rfl (lk_args_cons (d := 1) (v := sv y_2) rfl (lk_args_nil _))) (WC.sr (WL.ma rfl rfl (WL.nx (WC.sr (WL.mv rfl rfl (WL.call rfl rfl rfl (enters0 (vs := [sv x_1]) Tryz.call91 ⟨rfl, trivial⟩) (S_isNaNX  hS hV) ?_))))))
 clear hV hS
 rintro _ w ⟨r_3, hV, rfl, hS⟩
 refine ⟨_, rfl, ?_⟩
 refine WL.ma rfl rfl (WL.nx (WC.sr (WL.mv rfl rfl (WL.call rfl rfl rfl (enters0 (vs := [sv y_2]) Tryz.call91 ⟨rfl, trivial⟩) (S_isNaNX  hS hV) ?_))))
 clear hV hS
 rintro _ w ⟨r_5, hV, rfl, hS⟩
 refine ⟨_, rfl, ?_⟩
 refine WL.ma rfl rfl (WL.nx (WC.seq (WC.sr (WL.mv rfl rfl (WL.nx ?_)))))
 refine WC.cond rfl ?_ ?_
 intro hc_11
 replace hV := hV.1 hc_11
 refine WC.seq (WC.sr (WL.mv rfl rfl (WL.nx (WC.sub (m := [(12, .bool r_5)]) ⟨rfl, trivial⟩ ?_))))
 refine WC.cond rfl ?_ ?_
 intro hc_7
 replace hV := hV.1 hc_7
 refine WC.sr (WL.ma rfl rfl (WL.nx (WC.ret (WQ.pass nofun (WQ.pass nofun ?_)))))
 exact leave1 rfl rfl (⟨(0 : Int), hV, rfl, (show I64 (0 : Int) by unfold I64; omega), hS⟩)
 intro hc_7
 replace hV := hV.2 hc_7
 refine WC.skip (WQ.next (WC.sr (WL.ma rfl rfl (WL.nx (WC.ret (WQ.pass nofun ?_))))))
 exact leave1 rfl rfl (⟨(-1), hV, rfl, (show I64 ((-1) : Int) by unfold I64; omega), hS⟩)
 intro hc_11
 replace hV := hV.2 hc_11
 refine WC.skip (WQ.next (WC.seq (WC.sr (WL.mv rfl rfl (WL.nx ?_)))))
 refine WC.cond rfl ?_ ?_
 intro hc_10
 replace hV := hV.1 hc_10
 refine WC.sr (WL.ma rfl rfl (WL.nx (WC.sub (m := [(4, i6 (1 : Int))]) ⟨rfl, trivial⟩ (WC.ret (WQ.pass nofun ?_)))))
 exact leave1 rfl rfl (⟨(1 : Int), hV, rfl, (show I64 (1 : Int) by unfold I64; omega), hS⟩)
 intro hc_10
 replace hV := hV.2 hc_10
 refine WC.skip (WQ.next (WC.seq (WC.sr (WL.mv rfl rfl (WL.mv rfl rfl (WL.run hS rfl rfl rfl (ex_s_lss rfl rfl) (WL.nx ?_)))))))
 refine WC.sub (m := [(0, sv x_1), (1, sv y_2), (16, .bool (sLt x_1 y_2))]) ⟨rfl, rfl, rfl, trivial⟩ ?_
 refine WC.cond rfl ?_ ?_
 intro hc_9
 replace hV := hV.1 hc_9
 refine WC.sr (WL.ma rfl rfl (WL.nx (WC.ret (WQ.pass nofun ?_))))
 exact leave1 rfl rfl (⟨(-1), hV, rfl, (show I64 ((-1) : Int) by unfold I64; omega), hS⟩)
 intro hc_9
 replace hV := hV.2 hc_9
 refine WC.skip (WQ.next (WC.seq (WC.sr (WL.mv rfl rfl (WL.mv rfl rfl (WL.run hS rfl rfl rfl (ex_s_gtr rfl rfl) (WL.nx ?_)))))))
 refine WC.cond rfl ?_ ?_
 intro hc_8
 replace hV := hV.1 hc_8
 refine WC.sr (WL.ma rfl rfl (WL.nx (WC.ret (WQ.pass nofun ?_))))
 exact leave1 rfl rfl (⟨(1 : Int), hV, rfl, (show I64 (1 : Int) by unfold I64; omega), hS⟩)
 intro hc_8
 replace hV := hV.2 hc_8
 refine WC.skip (WQ.next (WC.sr (WL.ma rfl rfl (WL.nx (WC.ret ?_)))))
 exact leave1 rfl rfl (⟨(0 : Int), hV, rfl, (show I64 (0 : Int) by unfold I64; omega), hS⟩)

theorem S_cmpA {w0 : World} {H : View} {L : Seg} {w : World} {x_1 : Str} {y_2 : Str} {Q : Int → Prop}  (hS : St w0 H (L) w) (hV : V_cmpA x_1 y_2 Q) :
 Calls Tryz.prog 51 #[sv x_1, sv y_2] w fun e w' => ∃ (r1 : Int), Q r1 ∧ e = .returned (i6 r1) ∧ I64 r1 ∧ St w0 H (L) w' := by
 unfold V_cmpA at hV
 refine enter Tryz.func51 rfl Tryz.ntmps51 rfl (lk_args_cons (d := 0) (v := sv x_1) rfl (lk_args_cons (d := 1) (v := sv y_2) rfl (lk_args_nil _))) (WC.sr (WL.ma rfl rfl (WL.nx (WC.sr (WL.mv rfl rfl (WL.call rfl rfl rfl (enters0 (vs := [sv x_1]) Tryz.call92 ⟨rfl, trivial⟩) (S_isNaNA  hS hV) ?_))))))
 clear hV hS
 rintro _ w ⟨r_3, hV, rfl, hS⟩
 refine ⟨_, rfl, ?_⟩
 refine WL.ma rfl rfl (WL.nx (WC.sr (WL.mv rfl rfl (WL.call rfl rfl rfl (enters0 (vs := [sv y_2]) Tryz.call92 ⟨rfl, trivial⟩) (S_isNaNA  hS hV) ?_))))
 clear hV hS
 rintro _ w ⟨r_5, hV, rfl, hS⟩
 refine ⟨_, rfl, ?_⟩
 refine WL.ma rfl rfl (WL.nx (WC.seq (WC.sr (WL.mv rfl rfl (WL.nx ?_)))))
 refine WC.cond rfl ?_ ?_
 intro hc_11
 replace hV := hV.1 hc_11
 refine WC.seq (WC.sr (WL.mv rfl rfl (WL.nx (WC.sub (m := [(12, .bool r_5)]) ⟨rfl, trivial⟩ ?_))))
 refine WC.cond rfl ?_ ?_
 intro hc_7
 replace hV := hV.1 hc_7
 refine WC.sr (WL.ma rfl rfl (WL.nx (WC.ret (WQ.pass nofun (WQ.pass nofun ?_)))))
 exact leave1 rfl rfl (⟨(0 : Int), hV, rfl, (show I64 (0 : Int) by unfold I64; omega), hS⟩)
 intro hc_7
 replace hV := hV.2 hc_7
 refine WC.skip (WQ.next (WC.sr (WL.ma rfl rfl (WL.nx (WC.ret (WQ.pass nofun ?_))))))
 exact leave1 rfl rfl (⟨(-1), hV, rfl, (show I64 ((-1) : Int) by unfold I64; omega), hS⟩)
 intro hc_11
 replace hV := hV.2 hc_11
 refine WC.skip (WQ.next (WC.seq (WC.sr (WL.mv rfl rfl (WL.nx ?_)))))
 refine WC.cond rfl ?_ ?_
 intro hc_10
 replace hV := hV.1 hc_10
 refine WC.sr (WL.ma rfl rfl (WL.nx (WC.sub (m := [(4, i6 (1 : Int))]) ⟨rfl, trivial⟩ (WC.ret (WQ.pass nofun ?_)))))
 exact leave1 rfl rfl (⟨(1 : Int), hV, rfl, (show I64 (1 : Int) by unfold I64; omega), hS⟩)
 intro hc_10
 replace hV := hV.2 hc_10
 refine WC.skip (WQ.next (WC.seq (WC.sr (WL.mv rfl rfl (WL.mv rfl rfl (WL.run hS rfl rfl rfl (ex_s_lss rfl rfl) (WL.nx ?_)))))))
 refine WC.sub (m := [(0, sv x_1), (1, sv y_2), (16, .bool (sLt x_1 y_2))]) ⟨rfl, rfl, rfl, trivial⟩ ?_
 refine WC.cond rfl ?_ ?_
 intro hc_9
 replace hV := hV.1 hc_9
 refine WC.sr (WL.ma rfl rfl (WL.nx (WC.ret (WQ.pass nofun ?_))))
 exact leave1 rfl rfl (⟨(-1), hV, rfl, (show I64 ((-1) : Int) by unfold I64; omega), hS⟩)
 intro hc_9
 replace hV := hV.2 hc_9
 refine WC.skip (WQ.next (WC.seq (WC.sr (WL.mv rfl rfl (WL.mv rfl rfl (WL.run hS rfl rfl rfl (ex_s_gtr rfl rfl) (WL.nx ?_)))))))
 refine WC.cond rfl ?_ ?_
 intro hc_8
 replace hV := hV.1 hc_8
 refine WC.sr (WL.ma rfl rfl (WL.nx (WC.ret (WQ.pass nofun ?_))))
 exact leave1 rfl rfl (⟨(1 : Int), hV, rfl, (show I64 (1 : Int) by unfold I64; omega), hS⟩)
 intro hc_8
 replace hV := hV.2 hc_8
 refine WC.skip (WQ.next (WC.sr (WL.ma rfl rfl (WL.nx (WC.ret ?_)))))
 exact leave1 rfl rfl (⟨(0 : Int), hV, rfl, (show I64 (0 : Int) by unfold I64; omega), hS⟩)

theorem S_cmpOr {w0 : World} {H : View} {L : Seg} {w : World} {v_2 : Value} {vals_1 : LI} {Q : Int → Prop} (h_3 : IsSl H (cInt .i64) v_2 vals_1) (hS : St w0 H (L) w) (hV : V_cmpOr vals_1 Q) :
 Calls Tryz.prog 53 #[v_2] w fun e w' => ∃ (r1 : Int), Q r1 ∧ e = .returned (i6 r1) ∧ I64 r1 ∧ St w0 H (L) w' := by
 unfold V_cmpOr at hV
 refine enter Tryz.func53 rfl Tryz.ntmps53 rfl (lk_args_cons (d := 0) (v := v_2) rfl (lk_args_nil _)) (WC.sr (WL.ma rfl rfl (WL.nx (WC.sr (WL.ma rfl rfl (WL.nx (WC.seq ?_)))))))
 refine WC.sr (WL.mv rfl rfl ?_)
 have hl_4 : Len vals_1 := h_3.bound
 replace hV := hV hl_4
 refine WL.run hS rfl rfl rfl (ex_len_sl Tryz.underlying130 rfl h_3) (WL.mv rfl rfl (WL.nx (WC.block ?_)))
 obtain ⟨I_35, mu_36, hI_52, hV⟩ := hV
 refine WC.loop (σ := Int) (fun s a w => ∃ (x_19 : Int), s = x_19 ∧ I_35 x_19 ∧ I64 x_19 ∧ St w0 H (L) w ∧ Fr 18 [(3, i6 (0 : Int)), (6, v_2), (7, i6 (vals_1.length : Int)), (8, i6 x_19)] a) mu_36 (0 : Int) ?_ ?_
 exact fun a ha => ⟨(0 : Int), rfl, hI_52, (show I64 (0 : Int) by unfold I64; omega), hS, ha.of_sub ⟨rfl, rfl, rfl, rfl, trivial⟩⟩
 clear hS hI_52
 rintro x_19 a w ⟨_, rfl, hI, hr_20, hS, ha⟩
 refine in_frame ha ?_
 clear ha
 replace hV := hV _ hI
 clear hI
 refine WC.sr (WL.run hS rfl rfl rfl (ex_lss rfl rfl) (WL.nx (WC.seq ?_)))
 refine WC.cond rfl ?_ ?_
 intro hc_51
 replace hV := hV.1 (of_decide_eq_true hc_51)
 refine WC.skip (WQ.next (WC.seq (WC.block (WC.sr ?_))))
 obtain ⟨hin_39, hV⟩ := hV
 refine WL.runx hS rfl rfl rfl (ex_index Tryz.underlying130 Tryz.sizeOf3 rfl rfl h_3 hin_39) ?_
 intro p_40 hp_41
 refine WL.runx hS rfl rfl rfl (ex_load Tryz.isAgg3 rfl rfl hp_41) ?_
 intro u_44 hu_45
 obtain ⟨rfl, hr_46⟩ := cInt_rep hu_45
 replace hr_46 := has_I64 hr_46
 replace hV := hV hr_46
 refine WL.ma rfl rfl (WL.nx (WC.sr (WL.mv rfl rfl (WL.mv rfl rfl (WL.run hS rfl rfl rfl (ex_neq rfl rfl) (WL.nx ?_))))))
 refine WC.cond rfl ?_ ?_
 intro hc_50
 replace hV := hV.1 (of_decide_eq_true hc_50)
 refine WC.sr (WL.mv rfl rfl (WL.ma rfl rfl (WL.nx (WC.sub (m := [(2, i6 (ix vals_1 x_19))]) ⟨rfl, trivial⟩ (WC.ret (WQ.out nofun (WQ.pass nofun ?_)))))))
 refine WQ.pass nofun (WQ.out nofun (WQ.pass nofun ?_))
 exact leave1 rfl rfl (⟨(ix vals_1 x_19), hV, rfl, hr_46, hS⟩)
 intro hc_50
 replace hV := hV.2 (of_decide_eq_false hc_50)
 refine WC.skip (WQ.out nofun (WQ.next (WC.region ?_)))
 obtain ⟨hi_49, hV⟩ := hV
 refine WL.run hS rfl rfl rfl (ex_add rfl rfl hi_49) (WL.mv rfl rfl (WL.nil ?_))
 exact WQ.there fun a ha => ⟨(x_19 + (1 : Int)), ⟨(x_19 + (1 : Int)), rfl, hV.1, hi_49, hS, ha.of_sub ⟨rfl, rfl, rfl, rfl, trivial⟩⟩, hV.2⟩
 intro hc_51
 replace hV := hV.2 (of_decide_eq_false hc_51)
 refine WC.exit (WQ.pass nofun (WQ.pass nofun (WQ.hit (WQ.next (WC.sr (WL.mv rfl rfl (WL.ma rfl rfl ?_)))))))
 refine WL.nx (WC.ret ?_)
 exact leave1 rfl rfl (⟨(0 : Int), hV, rfl, (show I64 (0 : Int) by unfold I64; omega), hS⟩)

def H_Compare (G : Val → Val → (Int → Prop) → Prop) : Prop := ∀ {w0 : World} {H : View} {L : Seg} {w : World} {a_1 : Val} {u_2 : Value} {b_4 : Val} {u_5 : Value} {Q : Int → Prop} (h_3 : IsW H u_2 a_1) (h_6 : IsW H u_5 b_4) (hS : St w0 H (L) w) (hV : G a_1 b_4 Q), Calls Tryz.prog 19 #[.agg #[u_2], .agg #[u_5]] w fun e w' => ∃ (r1 : Int), Q r1 ∧ e = .returned (i6 r1) ∧ I64 r1 ∧ St w0 H (L) w'

theorem S_CompareFunc {G : Val → Val → (Int → Prop) → Prop} (hG : H_Compare G) {w0 : World} {H : View} {L : Seg} {w : World} {v_2 : Value} {s1_1 : List (Val)} {v_5 : Value} {s2_4 : List (Val)} {Q : Int → Prop} (h_3 : IsSl H cV v_2 s1_1) (h_6 : IsSl H cV v_5 s2_4) (hS : St w0 H (L) w) (hV : V_CompareFunc G s1_1 s2_4 Q) :
 Calls Tryz.prog 93 #[v_2, v_5, .func (.func 19) #[] #[]] w fun e w' => ∃ (r1 : Int), Q r1 ∧ e = .returned (i6 r1) ∧ I64 r1 ∧ St w0 H (L) w' := by
 unfold V_CompareFunc at hV
 refine enter Tryz.func93 rfl Tryz.ntmps93 rfl (lk_args_cons (d := 0) (v := v_2) rfl (lk_args_cons (d := 1) (v := v_5) rfl (lk_args_cons (d := 2) (v := .func (.func 19) #[] #[]) rfl (lk_args_nil _)))) (WC.sr (WL.ma rfl rfl (WL.nx (WC.seq (WC.sr (WL.mv rfl rfl ?_))))))
 have hl_8 : Len s1_1 := h_3.bound
 replace hV := hV hl_8
 refine WL.run hS rfl rfl rfl (ex_len_sl Tryz.underlying42 rfl h_3) (WL.mv rfl rfl (WL.nx (WC.block ?_)))
 obtain ⟨I_67, mu_68, hI_102, hV⟩ := hV
 refine WC.loop (σ := Int) (fun s a w => ∃ (x_37 : Int), s = x_37 ∧ I_67 x_37 ∧ I64 x_37 ∧ St w0 H (L) w ∧ Fr 39 [(0, v_2), (1, v_5), (2, .func (.func 19) #[] #[]), (11, v_2), (12, i6 (s1_1.length : Int)), (13, i6 x_37)] a) mu_68 (0 : Int) ?_ ?_
 exact fun a ha => ⟨(0 : Int), rfl, hI_102, (show I64 (0 : Int) by unfold I64; omega), hS, ha.of_sub ⟨rfl, rfl, rfl, rfl, rfl, rfl, trivial⟩⟩
 clear hS hI_102
 rintro x_37 a w ⟨_, rfl, hI, hr_38, hS, ha⟩
 refine in_frame ha ?_
 clear ha
 replace hV := hV _ hI
 clear hI
 refine WC.sr (WL.run hS rfl rfl rfl (ex_lss rfl rfl) (WL.nx (WC.seq ?_)))
 refine WC.cond rfl ?_ ?_
 intro hc_101
 replace hV := hV.1 (of_decide_eq_true hc_101)
 refine WC.skip (WQ.next (WC.seq (WC.block (WC.sr (WL.mv rfl rfl ?_)))))
 obtain ⟨hin_71, hV⟩ := hV
 refine WL.runx hS rfl rfl rfl (ex_index Tryz.underlying42 Tryz.sizeOf25 rfl rfl h_3 hin_71) ?_
 intro p_72 hp_73
 refine WL.runx hS rfl rfl rfl (ex_load_agg Tryz.isAgg25 Tryz.sizeOf25 rfl hp_73) ?_
 rintro u_74 ⟨_, rfl, hu⟩
 obtain ⟨u_75, rfl, h_76⟩ := cV_one hu
 refine WL.alloc (arr := #[.nilIface]) rfl Tryz.zeroValue25 rfl hS ?_
 clear hS
 intro b_77 w hS
 refine WL.ma rfl rfl (WL.store_box (pre := []) (old := [.nilIface]) (rst := []) (cs := [u_75]) (arr' := #[u_75]) Tryz.sizeOf25 rfl rfl rfl ⟨(IsW.one h_76), trivial⟩ rfl rfl rfl rfl hS ?_)
 clear hS
 intro w hS
 refine WL.nx (WC.seq (WC.sr (WL.mv rfl rfl (WL.mv rfl rfl ?_))))
 have hl_79 : Len s2_4 := h_6.bound
 replace hV := hV hl_79
 refine WL.run hS rfl rfl rfl (ex_len_sl Tryz.underlying42 rfl h_6) (WL.run hS rfl rfl rfl (ex_geq rfl rfl) (WL.nx ?_))
 refine WC.cond rfl ?_ ?_
 intro hc_96
 replace hV := hV.1 (of_decide_eq_true hc_96)
 refine WC.sr (WL.ma rfl rfl (WL.nx (WC.sub (m := [(6, i6 (1 : Int))]) ⟨rfl, trivial⟩ ?_)))
 replace hS := hS.drop
 refine WC.ret (WQ.pass nofun (WQ.out nofun (WQ.pass nofun (WQ.pass nofun (WQ.out nofun (WQ.pass nofun ?_))))))
 exact leave1 rfl rfl (⟨(1 : Int), hV, rfl, (show I64 (1 : Int) by unfold I64; omega), hS⟩)
 intro hc_96
 replace hV := hV.2 (of_decide_eq_false hc_96)
 refine WC.skip (WQ.next (WC.sr (WL.mv rfl rfl (WL.mv rfl rfl ?_))))
 obtain ⟨hin_81, hV⟩ := hV
 refine WL.runx hS rfl rfl rfl (ex_index Tryz.underlying42 Tryz.sizeOf25 rfl rfl h_6 hin_81) ?_
 intro p_82 hp_83
 refine WL.runx hS rfl rfl rfl (ex_load_agg Tryz.isAgg25 Tryz.sizeOf25 rfl hp_83) ?_
 rintro u_84 ⟨_, rfl, hu⟩
 obtain ⟨u_85, rfl, h_86⟩ := cV_one hu
 refine WL.alloc (arr := #[.nilIface]) rfl Tryz.zeroValue25 rfl hS ?_
 clear hS
 intro b_87 w hS
 refine WL.store_box (pre := []) (old := [.nilIface]) (rst := []) (cs := [u_85]) (arr' := #[u_85]) Tryz.sizeOf25 rfl rfl rfl ⟨(IsW.one h_86), trivial⟩ rfl rfl rfl rfl hS ?_
 clear hS
 intro w hS
 refine WL.nx (WC.sub (m := [(0, v_2), (1, v_5), (2, .func (.func 19) #[] #[]), (8, (pq b_77)), (9, (pq b_87)), (11, v_2), (12, i6 (s1_1.length : Int)), (13, i6 x_37)]) ⟨rfl, rfl, rfl, rfl, rfl, rfl, rfl, rfl, trivial⟩ (WC.sr (WL.mv rfl rfl ?_)))
 replace hS := hS.f2
 refine WL.run hS rfl rfl rfl (ex_load_box_agg (cs := [u_75]) Tryz.isAgg25 Tryz.sizeOf25 rfl rfl rfl) ?_
 replace hS := hS.f2
 refine WL.run hS rfl rfl rfl (ex_load_box_agg (cs := [u_85]) Tryz.isAgg25 Tryz.sizeOf25 rfl rfl rfl) (WL.call rfl rfl rfl (enters_c (vs := [.agg #[u_75], .agg #[u_85]]) (caps := []) rfl Tryz.call19 ⟨rfl, rfl, trivial⟩) (hG h_76 h_86 hS hV) ?_)
 clear hV hS
 rintro _ w ⟨r_89, hV, rfl, hr_90, hS⟩
 refine ⟨_, rfl, ?_⟩
 refine WL.ma rfl rfl (WL.nx ?_)
 replace hS := hS.f2.drop
 replace hS := hS.drop
 refine WC.sr (WL.mv rfl rfl (WL.run hS rfl rfl rfl (ex_neq rfl rfl) (WL.nx ?_)))
 refine WC.cond rfl ?_ ?_
 intro hc_95
 replace hV := hV.1 (of_decide_eq_true hc_95)
 refine WC.sr (WL.mv rfl rfl (WL.ma rfl rfl (WL.nx (WC.sub (m := [(6, i6 r_89)]) ⟨rfl, trivial⟩ (WC.ret (WQ.out nofun (WQ.pass nofun ?_)))))))
 refine WQ.pass nofun (WQ.out nofun (WQ.pass nofun ?_))
 exact leave1 rfl rfl (⟨r_89, hV, rfl, hr_90, hS⟩)
 intro hc_95
 replace hV := hV.2 (of_decide_eq_false hc_95)
 refine WC.skip (WQ.out nofun (WQ.next (WC.region ?_)))
 obtain ⟨hi_94, hV⟩ := hV
 refine WL.run hS rfl rfl rfl (ex_add rfl rfl hi_94) (WL.mv rfl rfl (WL.nil ?_))
 exact WQ.there fun a ha => ⟨(x_37 + (1 : Int)), ⟨(x_37 + (1 : Int)), rfl, hV.1, hi_94, hS, ha.of_sub ⟨rfl, rfl, rfl, rfl, rfl, rfl, trivial⟩⟩, hV.2⟩
 intro hc_101
 replace hV := hV.2 (of_decide_eq_false hc_101)
 refine WC.exit (WQ.pass nofun (WQ.pass nofun (WQ.hit (WQ.next (WC.seq (WC.sr (WL.mv rfl rfl ?_)))))))
 have hl_97 : Len s1_1 := h_3.bound
 replace hV := hV hl_97
 refine WL.run hS rfl rfl rfl (ex_len_sl Tryz.underlying42 rfl h_3) (WL.mv rfl rfl ?_)
 have hl_98 : Len s2_4 := h_6.bound
 replace hV := hV hl_98
 refine WL.run hS rfl rfl rfl (ex_len_sl Tryz.underlying42 rfl h_6) (WL.run hS rfl rfl rfl (ex_lss rfl rfl) (WL.nx (WC.sub (m := [(38, .bool (decide ((s1_1.length : Int) < (s2_4.length : Int))))]) ⟨rfl, trivial⟩ ?_)))
 refine WC.cond rfl ?_ ?_
 intro hc_100
 replace hV := hV.1 (of_decide_eq_true hc_100)
 refine WC.sr (WL.ma rfl rfl (WL.nx (WC.ret (WQ.pass nofun ?_))))
 exact leave1 rfl rfl (⟨(-1), hV, rfl, (show I64 ((-1) : Int) by unfold I64; omega), hS⟩)
 intro hc_100
 replace hV := hV.2 (of_decide_eq_false hc_100)
 refine WC.skip (WQ.next (WC.sr (WL.ma rfl rfl (WL.nx (WC.ret ?_)))))
 exact leave1 rfl rfl (⟨(0 : Int), hV, rfl, (show I64 (0 : Int) by unfold I64; omega), hS⟩)

theorem S_cmpLists {G : Val → Val → (Int → Prop) → Prop} (hG : H_Compare G) {w0 : World} {H : View} {L : Seg} {w : World} {v_2 : Value} {a_1 : List (Val)} {v_5 : Value} {b_4 : List (Val)} {Q : Int → Prop} (h_3 : IsSl H cV v_2 a_1) (h_6 : IsSl H cV v_5 b_4) (hS : St w0 H (L) w) (hV : V_cmpLists G a_1 b_4 Q) :
 Calls Tryz.prog 52 #[v_2, v_5] w fun e w' => ∃ (r1 : Int), Q r1 ∧ e = .returned (i6 r1) ∧ I64 r1 ∧ St w0 H (L) w' := by
 unfold V_cmpLists at hV
 refine enter Tryz.func52 rfl Tryz.ntmps52 rfl (lk_args_cons (d := 0) (v := v_2) rfl (lk_args_cons (d := 1) (v := v_5) rfl (lk_args_nil _))) (WC.sr (WL.ma rfl rfl (WL.nx (WC.seq (WC.sr (WL.mv rfl rfl ?_))))))
 have hl_7 : Len a_1 := h_3.bound
 replace hV := hV hl_7
 refine WL.run hS rfl rfl rfl (ex_len_sl Tryz.underlying42 rfl h_3) (WL.mv rfl rfl ?_)
 have hl_8 : Len b_4 := h_6.bound
 replace hV := hV hl_8
 refine WL.run hS rfl rfl rfl (ex_len_sl Tryz.underlying42 rfl h_6) (WL.call rfl rfl rfl (enters0 (vs := [i6 (a_1.length : Int), i6 (b_4.length : Int)]) Tryz.call47 ⟨rfl, rfl, trivial⟩) (S_cmpI (Len.i64 hl_7) (Len.i64 hl_8) hS hV) ?_)
 clear hV hS
 rintro _ w ⟨r_9, hV, rfl, hr_10, hS⟩
 refine ⟨_, rfl, ?_⟩
 refine WL.ma rfl rfl (WL.nx (WC.sr (WL.mv rfl rfl (WL.run hS rfl rfl rfl (ex_neq rfl rfl) (WL.nx ?_)))))
 refine WC.cond rfl ?_ ?_
 intro hc_16
 replace hV := hV.1 (of_decide_eq_true hc_16)
 refine WC.sr (WL.mv rfl rfl (WL.ma rfl rfl (WL.nx (WC.sub (m := [(4, i6 r_9)]) ⟨rfl, trivial⟩ (WC.ret (WQ.pass nofun ?_))))))
 exact leave1 rfl rfl (⟨r_9, hV, rfl, hr_10, hS⟩)
 intro hc_16
 replace hV := hV.2 (of_decide_eq_false hc_16)
 refine WC.skip (WQ.next (WC.sr (WL.mv rfl rfl (WL.mv rfl rfl (WL.call rfl rfl rfl (enters0 (vs := [v_2, v_5, .func (.func 19) #[] #[]]) Tryz.call93 ⟨rfl, rfl, rfl, trivial⟩) (S_CompareFunc (@hG) h_3 h_6 hS hV) ?_)))))
 clear hV hS
 rintro _ w ⟨r_13, hV, rfl, hr_14, hS⟩
 refine ⟨_, rfl, ?_⟩
 refine WL.ma rfl rfl (WL.nx (WC.sub (m := [(4, i6 r_13)]) ⟨rfl, trivial⟩ (WC.ret ?_)))
 exact leave1 rfl rfl (⟨r_13, hV, rfl, hr_14, hS⟩)

theorem S_Compare (m0 : Nat) : ∀ {w0 : World} {H : View} {L : Seg} {w : World} {a_1 : Val} {u_2 : Value} {b_4 : Val} {u_5 : Value} {Q : Int → Prop} (h_3 : IsW H u_2 a_1) (h_6 : IsW H u_5 b_4) (hS : St w0 H (L) w) (hV : V_Compare m0 a_1 b_4 Q),
 Calls Tryz.prog 19 #[.agg #[u_2], .agg #[u_5]] w fun e w' => ∃ (r1 : Int), Q r1 ∧ e = .returned (i6 r1) ∧ I64 r1 ∧ St w0 H (L) w' := by
 induction m0 with
 | zero => intro w0 H L w a_1 u_2 b_4 u_5 Q h_3 h_6 hS hV; exact hV.elim
 | succ m0 ih =>
  intro w0 H L w a_1 u_2 b_4 u_5 Q h_3 h_6 hS hV
  unfold V_Compare at hV
  refine enter Tryz.func19 rfl Tryz.ntmps19 rfl (lk_args_cons (d := 0) (v := .agg #[u_2]) rfl (lk_args_cons (d := 1) (v := .agg #[u_5]) rfl (lk_args_nil _))) (WC.sr (WL.box (arr := #[u_2]) rfl rfl rfl hS ?_))
  clear hS
  intro b_7 w hS
  refine WL.box (arr := #[u_5]) rfl rfl rfl hS ?_
  clear hS
  intro b_9 w hS
  refine WL.ma rfl rfl (WL.nx (WC.seq (WC.seq (WC.drawn (σ := [0, 2, 1, 3, 4, 5]) (C := St w0 H ([(b_9, oc #[u_5] 25)] ++ ([(b_7, oc #[u_2] 25)] ++ L))) [[], [0], [], [0, 1, 2], [0, 1, 2, 3], [0, 1, 2, 3, 4]] [1, 3, 4] Tryz.mixed (by kernel_rfl) (hS.drawn _) ?_))))
  clear hS w
  refine Wd.runbs (off := 0) (k := 1) (cs := [u_2]) rfl rfl rfl rfl (fun _ _ _ h => ex_load_box_agg Tryz.isAgg25 Tryz.sizeOf25 rfl h rfl) rfl (fun _ h => St.f2 h) fun q_12 hq_11 => (Wd.runbs (off := 0) (k := 1) (cs := [u_5]) rfl rfl rfl rfl (fun _ _ _ h => ex_load_box_agg Tryz.isAgg25 Tryz.sizeOf25 rfl h rfl) rfl (fun _ h => h) fun q_14 hq_13 => (Wd.turn rfl rfl rfl fun w hS => (WL.call rfl rfl rfl (enters0 (vs := [.agg #[u_2]]) Tryz.call48 ⟨rfl, trivial⟩) (S_rank h_3 hS hV) ?_)))
  clear hV hS
  rintro _ w ⟨r_15, hV, rfl, hr_16, hS⟩
  refine ⟨_, rfl, ?_⟩
  refine WL.nil (DQ.mk2 (C' := St w0 H ([(b_9, oc #[u_5] 25)] ++ ([(b_7, oc #[u_2] 25)] ++ L))) hS ⟨.inr (hq_13 H ([(b_7, oc #[u_2] 25)] ++ L) #[u_5] _ rfl (fun _ h => h)), il, trivial⟩ ?_)
  clear hS w
  refine Wd.turn rfl rfl rfl fun w hS => (WL.call rfl rfl rfl (enters0 (vs := [.agg #[u_5]]) Tryz.call48 ⟨rfl, trivial⟩) (S_rank h_6 hS hV) ?_)
  clear hV hS
  rintro _ w ⟨r_18, hV, rfl, hr_19, hS⟩
  refine ⟨_, rfl, ?_⟩
  refine WL.nil (DQ.mk2 (C' := St w0 H ([(b_9, oc #[u_5] 25)] ++ ([(b_7, oc #[u_2] 25)] ++ L))) hS ⟨il, il, trivial⟩ ?_)
  clear hS w
  refine Wd.turn rfl rfl rfl fun w hS => (WL.call rfl rfl rfl (enters0 (vs := [i6 r_15, i6 r_18]) Tryz.call47 ⟨rfl, rfl, trivial⟩) (S_cmpI hr_16 hr_19 hS hV) ?_)
  clear hV hS
  rintro _ w ⟨r_21, hV, rfl, hr_22, hS⟩
  refine ⟨_, rfl, ?_⟩
  refine WL.nil (DQ.mk2 (C' := St w0 H ([(b_9, oc #[u_5] 25)] ++ ([(b_7, oc #[u_2] 25)] ++ L))) hS ⟨il, il, trivial⟩ ?_)
  clear hS w
  refine Wd.run rfl rfl rfl rfl (fun _ => ex_assign rfl) fun q_25 hq_24 => (Wd.nil fun w hS => (WQ.next ?_))
  obtain ⟨J_29, hJ_30, hV⟩ := hV
  refine WC.meet (fun a w => ∃ (x_28 : Bool), J_29 x_28 ∧ St w0 H ([(b_7, oc #[u_2] 25)] ++ ([(b_9, oc #[u_5] 25)] ++ L)) w ∧ Fr 105 [(2, (pq b_7)), (3, (pq b_9)), (5, i6 r_21), (25, .bool x_28)] a) ?_ ?_
  rintro a w ⟨x_28, hI, hS, ha⟩
  refine in_frame ha ?_
  clear ha hV
  have hV := hJ_30 _ hI
  clear hI hJ_30
  refine WC.cond rfl ?_ ?_
  intro hc_181
  replace hV := hV.1 hc_181
  refine WC.sr (WL.mv rfl rfl (WL.ma rfl rfl (WL.nx ?_)))
  replace hS := hS.drop
  replace hS := hS.drop
  refine WC.ret (WQ.pass nofun ?_)
  exact leave1 rfl rfl (⟨r_21, hV, rfl, hr_22, hS⟩)
  intro hc_181
  replace hV := hV.2 hc_181
  refine WC.skip (WQ.next (WC.seq (WC.sr (WL.run hS rfl rfl rfl (ex_fieldAddr (o' := 0) Tryz.underlying25 rfl Tryz.sizeOf23 rfl rfl) (WL.run hS rfl rfl rfl (ex_load_box Tryz.isAgg23 rfl rfl) (WL.nx ?_))))))
  replace hS := hS.drop
  refine WC.block (WC.sr (WL.run hS rfl rfl rfl (ex_as_truth Tryz.concrete86 Tryz.zeroValue86 rfl h_3) (WL.run hS rfl rfl rfl (ex_extract rfl rfl) (WL.run hS rfl rfl rfl (ex_extract rfl rfl) (WL.nx ?_)))))
  refine WC.cond rfl ?_ ?_
  intro hc_180
  replace hV := hV.1 hc_180
  refine WC.sr (WL.ma rfl rfl (WL.nx (WC.sr (WL.run hS rfl rfl rfl (ex_fieldAddr (o' := 0) Tryz.underlying25 rfl Tryz.sizeOf23 rfl rfl) (WL.run hS rfl rfl rfl (ex_load_box Tryz.isAgg23 rfl rfl) ?_)))))
  obtain ⟨hk_33, hV⟩ := hV
  refine WL.run hS rfl rfl rfl (ex_at_truth Tryz.concrete86 rfl h_6 hk_33) (WL.ma rfl rfl (WL.nx (WC.sub (m := [(6, .bool a_1.truthD), (7, .bool b_4.truthD)]) ⟨rfl, rfl, trivial⟩ ?_)))
  replace hS := hS.drop
  refine WC.seq (WC.block (WC.sr (WL.mv rfl rfl (WL.mv rfl rfl (WL.run hS rfl rfl rfl (ex_beql Tryz.underlying86 rfl rfl) (WL.ma rfl rfl (WL.nx ?_)))))))
  refine WC.cond rfl ?_ ?_
  intro hc_35
  replace hV := hV.1 hc_35
  refine WC.sr (WL.ma rfl rfl (WL.nx (WC.ret (WQ.out nofun (WQ.pass nofun (WQ.out nofun (WQ.pass nofun ?_)))))))
  exact leave1 rfl rfl (⟨(0 : Int), hV, rfl, (show I64 (0 : Int) by unfold I64; omega), hS⟩)
  intro hc_35
  replace hV := hV.2 hc_35
  refine WC.sr (WL.mv rfl rfl (WL.ma rfl rfl (WL.nx ?_)))
  refine WC.cond rfl ?_ ?_
  intro hc_34
  replace hV := hV.1 hc_34
  refine WC.sr (WL.ma rfl rfl (WL.nx (WC.ret (WQ.out nofun (WQ.pass nofun (WQ.out nofun (WQ.pass nofun ?_)))))))
  exact leave1 rfl rfl (⟨(-1), hV, rfl, (show I64 ((-1) : Int) by unfold I64; omega), hS⟩)
  intro hc_34
  replace hV := hV.2 hc_34
  refine WC.skip (WQ.out nofun (WQ.next (WC.sr (WL.ma rfl rfl (WL.nx (WC.ret (WQ.out nofun ?_)))))))
  refine WQ.pass nofun ?_
  exact leave1 rfl rfl (⟨(1 : Int), hV, rfl, (show I64 (1 : Int) by unfold I64; omega), hS⟩)
  intro hc_180
  replace hV := hV.2 hc_180
  refine WC.sr (WL.run hS rfl rfl rfl (ex_as_num Tryz.concrete87 Tryz.zeroValue87 rfl h_3) (WL.run hS rfl rfl rfl (ex_extract rfl rfl) (WL.run hS rfl rfl rfl (ex_extract rfl rfl) (WL.nx ?_))))
  refine WC.cond rfl ?_ ?_
  intro hc_179
  replace hV := hV.1 hc_179
  refine WC.sr (WL.ma rfl rfl (WL.nx (WC.sub (m := [(3, (pq b_9)), (8, i6 a_1.numD)]) ⟨rfl, rfl, trivial⟩ (WC.sr (WL.mv rfl rfl (WL.run hS rfl rfl rfl (ex_fieldAddr (o' := 0) Tryz.underlying25 rfl Tryz.sizeOf23 rfl rfl) (WL.run hS rfl rfl rfl (ex_load_box Tryz.isAgg23 rfl rfl) ?_)))))))
  obtain ⟨hk_36, hV⟩ := hV
  refine WL.run hS rfl rfl rfl (ex_at_num Tryz.concrete87 rfl h_6 hk_36) (WL.call rfl rfl rfl (enters0 (vs := [i6 a_1.numD, i6 b_4.numD]) Tryz.call49 ⟨rfl, rfl, trivial⟩) (S_cmpN (I64.num h_3) (I64.num h_6) hS hV) ?_)
  clear hV hS
  rintro _ w ⟨r_37, hV, rfl, hr_38, hS⟩
  refine ⟨_, rfl, ?_⟩
  refine WL.ma rfl rfl (WL.nx ?_)
  replace hS := hS.drop
  refine WC.ret (WQ.out nofun (WQ.pass nofun ?_))
  exact leave1 rfl rfl (⟨r_37, hV, rfl, hr_38, hS⟩)
  intro hc_179
  replace hV := hV.2 hc_179
  refine WC.sr (WL.run hS rfl rfl rfl (ex_as_text Tryz.concrete89 Tryz.zeroValue89 rfl h_3) (WL.run hS rfl rfl rfl (ex_extract rfl rfl) (WL.run hS rfl rfl rfl (ex_extract rfl rfl) (WL.nx (WC.sub (m := [(3, (pq b_9)), (28, u_2), (50, .bool a_1.isText), (51, sv a_1.textD)]) ⟨rfl, rfl, rfl, rfl, trivial⟩ ?_)))))
  refine WC.cond rfl ?_ ?_
  intro hc_178
  replace hV := hV.1 hc_178
  refine WC.sr (WL.ma rfl rfl (WL.nx (WC.sr (WL.mv rfl rfl (WL.run hS rfl rfl rfl (ex_fieldAddr (o' := 0) Tryz.underlying25 rfl Tryz.sizeOf23 rfl rfl) (WL.run hS rfl rfl rfl (ex_load_box Tryz.isAgg23 rfl rfl) ?_))))))
  obtain ⟨hk_40, hV⟩ := hV
  refine WL.run hS rfl rfl rfl (ex_at_text Tryz.concrete89 rfl h_6 hk_40) (WL.call rfl rfl rfl (enters0 (vs := [sv a_1.textD, sv b_4.textD]) Tryz.call50 ⟨rfl, rfl, trivial⟩) (S_cmpX  hS hV) ?_)
  clear hV hS
  rintro _ w ⟨r_41, hV, rfl, hr_42, hS⟩
  refine ⟨_, rfl, ?_⟩
  refine WL.ma rfl rfl (WL.nx (WC.sub (m := [(4, i6 r_41)]) ⟨rfl, trivial⟩ ?_))
  replace hS := hS.drop
  refine WC.ret (WQ.out nofun (WQ.pass nofun ?_))
  exact leave1 rfl rfl (⟨r_41, hV, rfl, hr_42, hS⟩)
  intro hc_178
  replace hV := hV.2 hc_178
  refine WC.sr (WL.run hS rfl rfl rfl (ex_as_atom Tryz.concrete91 Tryz.zeroValue91 rfl h_3) (WL.run hS rfl rfl rfl (ex_extract rfl rfl) (WL.run hS rfl rfl rfl (ex_extract rfl rfl) (WL.nx ?_))))
  refine WC.cond rfl ?_ ?_
  intro hc_177
  replace hV := hV.1 hc_177
  refine WC.sr (WL.ma rfl rfl (WL.nx (WC.sr (WL.mv rfl rfl (WL.run hS rfl rfl rfl (ex_fieldAddr (o' := 0) Tryz.underlying25 rfl Tryz.sizeOf23 rfl rfl) (WL.run hS rfl rfl rfl (ex_load_box Tryz.isAgg23 rfl rfl) ?_))))))
  obtain ⟨hk_44, hV⟩ := hV
  refine WL.run hS rfl rfl rfl (ex_at_atom Tryz.concrete91 rfl h_6 hk_44) (WL.call rfl rfl rfl (enters0 (vs := [sv a_1.atomD, sv b_4.atomD]) Tryz.call51 ⟨rfl, rfl, trivial⟩) (S_cmpA  hS hV) ?_)
  clear hV hS
  rintro _ w ⟨r_45, hV, rfl, hr_46, hS⟩
  refine ⟨_, rfl, ?_⟩
  refine WL.ma rfl rfl (WL.nx (WC.sub (m := [(4, i6 r_45)]) ⟨rfl, trivial⟩ ?_))
  replace hS := hS.drop
  refine WC.ret (WQ.out nofun (WQ.pass nofun ?_))
  exact leave1 rfl rfl (⟨r_45, hV, rfl, hr_46, hS⟩)
  intro hc_177
  replace hV := hV.2 hc_177
  refine WC.sr (WL.runx hS rfl rfl rfl (ex_as_set Tryz.concrete93 Tryz.zeroValue93 rfl h_3) ?_)
  rintro _ ⟨u_48, rfl, hu_49⟩
  refine WL.run hS rfl rfl rfl (ex_extract rfl rfl) (WL.run hS rfl rfl rfl (ex_extract rfl rfl) (WL.nx ?_))
  refine WC.cond rfl ?_ ?_
  intro hc_176
  replace hV := hV.1 hc_176
  refine WC.sr (WL.ma rfl rfl (WL.nx (WC.seq (WC.drawn (σ := [0, 1, 2, 3, 4, 5, 6, 7, 8, 9, 10, 11]) (C := St w0 H ([(b_9, oc #[u_5] 25)] ++ L)) [[], [0], [0, 1], [0, 1, 2], [], [4], [4, 5], [4, 5, 6], [4, 5, 6, 7], [4, 5, 6, 7, 8], [0, 1, 2, 3, 4, 5, 6, 7, 8, 9], [0, 1, 2, 3, 4, 5, 6, 7, 8, 9, 10]] [10] Tryz.mixed (by kernel_rfl) (hS.drawn _) ?_))))
  clear hS w
  refine Wd.run rfl rfl rfl rfl (fun _ => ex_move rfl) fun q_51 hq_50 => ?_
  obtain ⟨hk_54, hV⟩ := hV
  refine Wd.run rfl rfl rfl rfl (fun _ => ex_nc_set rfl hu_49 hk_54) fun q_53 hq_52 => (Wd.runx rfl rfl rfl rfl (exAll (ex_set_l Tryz.underlying96 rfl Tryz.sizeOf42 rfl rfl hu_49 hk_54)) ?_)
  intro p_57 hp_58
  intro q_56 hq_55
  refine Wd.runs (fp := ([] : Seg)) (L := [(b_9, oc #[u_5] 25)] ++ L) rfl rfl rfl rfl (ex_load_s Tryz.isAgg42 rfl rfl hp_58) (fun _ h => h) ?_
  intro u_63 hu_64
  replace hu_64 := cSl_rep hu_64
  intro q_60 hq_59
  refine Wd.run rfl rfl rfl rfl (fun _ => ex_fieldAddr (o' := 0) Tryz.underlying25 rfl Tryz.sizeOf23 rfl rfl) fun q_66 hq_65 => (Wd.runb (off := 0) rfl rfl rfl rfl (fun _ _ _ h => ex_load_box Tryz.isAgg23 rfl h) rfl (fun _ h => h) fun q_68 hq_67 => ?_)
  obtain ⟨hk_73, hV⟩ := hV
  refine Wd.runx rfl rfl rfl rfl (exAll (ex_at_set Tryz.concrete93 rfl h_6 hk_73)) ?_
  intro u_71 hu_72
  intro q_70 hq_69
  obtain ⟨hk_76, hV⟩ := hV
  refine Wd.run rfl rfl rfl rfl (fun _ => ex_nc_set rfl hu_72 hk_76) fun q_75 hq_74 => (Wd.runx rfl rfl rfl rfl (exAll (ex_set_l Tryz.underlying96 rfl Tryz.sizeOf42 rfl rfl hu_72 hk_76)) ?_)
  intro p_79 hp_80
  intro q_78 hq_77
  refine Wd.runs (fp := ([] : Seg)) (L := [(b_9, oc #[u_5] 25)] ++ L) rfl rfl rfl rfl (ex_load_s Tryz.isAgg42 rfl rfl hp_80) (fun _ h => h) ?_
  intro u_85 hu_86
  replace hu_86 := cSl_rep hu_86
  intro q_82 hq_81
  refine Wd.turn rfl rfl rfl fun w hS => (WL.call rfl rfl rfl (enters0 (vs := [u_63, u_85]) Tryz.call52 ⟨rfl, rfl, trivial⟩) (S_cmpLists (@ih) hu_64 hu_86 hS hV) ?_)
  clear hV hS
  rintro _ w ⟨r_87, hV, rfl, hr_88, hS⟩
  refine ⟨_, rfl, ?_⟩
  refine WL.nil (DQ.mk2 (C' := St w0 H ([(b_9, oc #[u_5] 25)] ++ L)) hS ⟨il, il, il, il, il, il, il, il, il, il, trivial⟩ ?_)
  clear hS w
  refine Wd.run rfl rfl rfl rfl (fun _ => ex_assign rfl) fun q_91 hq_90 => (Wd.nil fun w hS => (WQ.next (WC.sub (m := [(4, i6 r_87)]) ⟨rfl, trivial⟩ ?_)))
  replace hS := hS.drop
  refine WC.ret (WQ.out nofun (WQ.pass nofun ?_))
  exact leave1 rfl rfl (⟨r_87, hV, rfl, hr_88, hS⟩)
  intro hc_176
  replace hV := hV.2 hc_176
  refine WC.sr (WL.runx hS rfl rfl rfl (ex_as_fn Tryz.concrete97 Tryz.zeroValue97 rfl h_3) ?_)
  rintro _ ⟨u_92, rfl, hu_93⟩
  refine WL.run hS rfl rfl rfl (ex_extract rfl rfl) (WL.run hS rfl rfl rfl (ex_extract rfl rfl) (WL.nx (WC.sub (m := [(3, (pq b_9)), (80, .bool a_1.isFn), (81, u_92)]) ⟨rfl, rfl, rfl, trivial⟩ ?_)))
  refine WC.cond rfl ?_ ?_
  intro hc_175
  replace hV := hV.1 hc_175
  refine WC.sr (WL.ma rfl rfl (WL.nx (WC.sr (WL.run hS rfl rfl rfl (ex_fieldAddr (o' := 0) Tryz.underlying25 rfl Tryz.sizeOf23 rfl rfl) (WL.run hS rfl rfl rfl (ex_load_box Tryz.isAgg23 rfl rfl) ?_)))))
  obtain ⟨hk_96, hV⟩ := hV
  refine WL.runx hS rfl rfl rfl (ex_at_fn Tryz.concrete97 rfl h_6 hk_96) ?_
  intro u_94 hu_95
  refine WL.ma rfl rfl (WL.nx ?_)
  replace hS := hS.drop
  refine WC.seq (WC.drawn (σ := [0, 1, 2, 3, 4, 5, 6, 7, 9, 10, 11, 12, 13, 14, 15, 16, 8, 17, 18, 19, 20]) (C := St w0 H (L)) [[], [0], [0, 1], [0, 1, 2], [], [4], [4, 5], [4, 5, 6], [0, 1, 2, 3, 4, 5, 6, 7], [], [9], [9, 10], [9, 10, 11], [], [13], [13, 14], [13, 14, 15], [0, 1, 2, 3, 4, 5, 6, 7, 8, 9, 10, 11, 12, 13, 14, 15, 16], [0, 1, 2, 3, 4, 5, 6, 7, 8, 9, 10, 11, 12, 13, 14, 15, 16, 17], [0, 1, 2, 3, 4, 5, 6, 7, 8, 9, 10, 11, 12, 13, 14, 15, 16, 17, 18], [0, 1, 2, 3, 4, 5, 6, 7, 8, 9, 10, 11, 12, 13, 14, 15, 16, 17, 18, 19]] [8, 17, 18, 19] Tryz.mixed (by kernel_rfl) (hS.drawn _) ?_)
  clear hS w
  refine Wd.run rfl rfl rfl rfl (fun _ => ex_move rfl) fun q_98 hq_97 => ?_
  obtain ⟨hk_101, hV⟩ := hV
  refine Wd.run rfl rfl rfl rfl (fun _ => ex_nc_fn rfl hu_93 hk_101) fun q_100 hq_99 => (Wd.runx rfl rfl rfl rfl (exAll (ex_fn_k Tryz.underlying100 rfl Tryz.sizeOf42 rfl rfl hu_93 hk_101)) ?_)
  intro p_104 hp_105
  intro q_103 hq_102
  refine Wd.runs (fp := ([] : Seg)) (L := L) rfl rfl rfl rfl (ex_load_s Tryz.isAgg42 rfl rfl hp_105) (fun _ h => h) ?_
  intro u_110 hu_111
  replace hu_111 := cSl_rep hu_111
  intro q_107 hq_106
  refine Wd.run rfl rfl rfl rfl (fun _ => ex_move rfl) fun q_113 hq_112 => ?_
  obtain ⟨hk_116, hV⟩ := hV
  refine Wd.run rfl rfl rfl rfl (fun _ => ex_nc_fn rfl hu_95 hk_116) fun q_115 hq_114 => (Wd.runx rfl rfl rfl rfl (exAll (ex_fn_k Tryz.underlying100 rfl Tryz.sizeOf42 rfl rfl hu_95 hk_116)) ?_)
  intro p_119 hp_120
  intro q_118 hq_117
  refine Wd.runs (fp := ([] : Seg)) (L := L) rfl rfl rfl rfl (ex_load_s Tryz.isAgg42 rfl rfl hp_120) (fun _ h => h) ?_
  intro u_125 hu_126
  replace hu_126 := cSl_rep hu_126
  intro q_122 hq_121
  refine Wd.run rfl rfl rfl rfl (fun _ => ex_move rfl) fun q_128 hq_127 => ?_
  obtain ⟨hk_131, hV⟩ := hV
  refine Wd.run rfl rfl rfl rfl (fun _ => ex_nc_fn rfl hu_93 hk_131) fun q_130 hq_129 => (Wd.runx rfl rfl rfl rfl (exAll (ex_fn_v Tryz.underlying100 rfl Tryz.sizeOf42 rfl rfl hu_93 hk_131)) ?_)
  intro p_134 hp_135
  intro q_133 hq_132
  refine Wd.runs (fp := ([] : Seg)) (L := L) rfl rfl rfl rfl (ex_load_s Tryz.isAgg42 rfl rfl hp_135) (fun _ h => h) ?_
  intro u_140 hu_141
  replace hu_141 := cSl_rep hu_141
  intro q_137 hq_136
  refine Wd.run rfl rfl rfl rfl (fun _ => ex_move rfl) fun q_143 hq_142 => ?_
  obtain ⟨hk_146, hV⟩ := hV
  refine Wd.run rfl rfl rfl rfl (fun _ => ex_nc_fn rfl hu_95 hk_146) fun q_145 hq_144 => (Wd.runx rfl rfl rfl rfl (exAll (ex_fn_v Tryz.underlying100 rfl Tryz.sizeOf42 rfl rfl hu_95 hk_146)) ?_)
  intro p_149 hp_150
  intro q_148 hq_147
  refine Wd.runs (fp := ([] : Seg)) (L := L) rfl rfl rfl rfl (ex_load_s Tryz.isAgg42 rfl rfl hp_150) (fun _ h => h) ?_
  intro u_155 hu_156
  replace hu_156 := cSl_rep hu_156
  intro q_152 hq_151
  refine Wd.turn rfl rfl rfl fun w hS => (WL.call rfl rfl rfl (enters0 (vs := [u_110, u_125]) Tryz.call52 ⟨rfl, rfl, trivial⟩) (S_cmpLists (@ih) hu_111 hu_126 hS hV) ?_)
  clear hV hS
  rintro _ w ⟨r_157, hV, rfl, hr_158, hS⟩
  refine ⟨_, rfl, ?_⟩
  refine WL.nil (DQ.mk2 (C' := St w0 H (L)) hS ⟨.inr (hq_151 H L _ (View.le.refl _) (fun _ h => h)), .inr (hq_147 _), .inr (hq_144 _), .inr (hq_142 _), .inr (hq_136 H L _ (View.le.refl _) (fun _ h => h)), .inr (hq_132 _), .inr (hq_129 _), .inr (hq_127 _), il, il, il, il, il, il, il, il, trivial⟩ ?_)
  clear hS w
  refine Wd.turn rfl rfl rfl fun w hS => (WL.call rfl rfl rfl (enters0 (vs := [u_140, u_155]) Tryz.call52 ⟨rfl, rfl, trivial⟩) (S_cmpLists (@ih) hu_141 hu_156 hS hV) ?_)
  clear hV hS
  rintro _ w ⟨r_160, hV, rfl, hr_161, hS⟩
  refine ⟨_, rfl, ?_⟩
  refine WL.nil (DQ.mk2 (C' := St w0 H (L)) hS ⟨il, il, il, il, il, il, il, il, il, il, il, il, il, il, il, il, trivial⟩ ?_)
  clear hS w
  refine Wd.turn rfl rfl rfl fun w hS => (WL.buildn (c := (cInt .i64)) (xs := [r_157, r_160]) (vs := [i6 r_157, i6 r_160]) rfl Tryz.underlying130 Tryz.info3 rfl rfl ⟨rfl, rfl, trivial⟩ rfl ⟨_, _, rfl, (cInt_mk (I64.has hr_158)), ⟨_, _, rfl, (cInt_mk (I64.has hr_161)), rfl⟩⟩ hS rfl ?_)
  clear hS
  intro v_164 w fp_165 h_166 hS
  refine WL.nil (DQ.mk2 (C' := St w0 H (fp_165 ++ L)) hS ⟨il, il, il, il, il, il, il, il, il, il, il, il, il, il, il, il, trivial⟩ ?_)
  clear hS w
  refine Wd.turn rfl rfl rfl fun w hS => ?_
  have hL_167 := hS.freeze
  refine WL.call rfl rfl rfl (enters0 (vs := [v_164]) Tryz.call53 ⟨rfl, trivial⟩) (S_cmpOr (h_166.share hS.put_le) hL_167 hV) ?_
  clear hV
  rintro _ w ⟨r_168, hV, rfl, hr_169, hL_170⟩
  refine ⟨_, rfl, ?_⟩
  have hB_172 := hS.back hL_170
  replace hS := hB_172
  clear hL_170 hL_167 hB_172
  refine WL.nil (DQ.mk2 (C' := St w0 H (fp_165 ++ L)) hS ⟨il, il, il, il, il, il, il, il, il, il, il, il, il, il, il, il, trivial⟩ ?_)
  clear hS w
  refine Wd.run rfl rfl rfl rfl (fun _ => ex_assign rfl) fun q_174 hq_173 => (Wd.nil fun w hS => (WQ.next (WC.sub (m := [(4, i6 r_168)]) ⟨rfl, trivial⟩ ?_)))
  replace hS := hS.drop
  refine WC.ret (WQ.out nofun (WQ.pass nofun ?_))
  exact leave1 rfl rfl (⟨r_168, hV, rfl, hr_169, hS⟩)
  intro hc_175
  replace hV := hV.2 hc_175
  refine WC.skip (WQ.out nofun (WQ.next ?_))
  replace hS := hS.drop
  refine WC.sr (WL.ma rfl rfl (WL.nx (WC.ret ?_)))
  exact leave1 rfl rfl (⟨(0 : Int), hV, rfl, (show I64 (0 : Int) by unfold I64; omega), hS⟩)
  clear hJ_30
  refine WC.region (WL.mv rfl rfl (WL.run hS rfl rfl rfl (ex_neq rfl rfl) (WL.mv rfl rfl ?_)))
  rcases Bool.eq_false_or_eq_true (decide (r_21 ≠ (0 : Int))) with hg_32 | hg_32
  replace hV := hV.1 (of_decide_eq_true hg_32)
  refine WL.skip_g rfl rfl rfl hg_32 rfl rfl (WL.skip_g rfl rfl rfl hg_32 rfl rfl (WL.skip_g rfl rfl rfl hg_32 rfl rfl (WL.run hS rfl rfl rfl (ex_pick_t rfl hg_32 rfl) (WL.nil ?_))))
  replace hS := hS.f2
  exact WQ.there fun a ha => ⟨true, hV, hS, ha.of_sub ⟨rfl, rfl, rfl, rfl, trivial⟩⟩
  replace hV := hV.2 (of_decide_eq_false hg_32)
  refine WL.unguard rfl rfl hg_32 (WL.run hS rfl rfl rfl (ex_fieldAddr (o' := 0) Tryz.underlying25 rfl Tryz.sizeOf23 rfl rfl) (WL.unguard rfl rfl hg_32 ?_))
  replace hS := hS.f2
  refine WL.run hS rfl rfl rfl (ex_load_box Tryz.isAgg23 rfl rfl) (WL.unguard rfl rfl hg_32 (WL.run hS rfl rfl rfl (ex_v_eql Tryz.iface23 rfl h_3) (WL.run hS rfl rfl rfl (ex_pick_f rfl hg_32 rfl) (WL.nil ?_))))
  replace hS := hS.f2.f2
  exact WQ.there fun a ha => ⟨a_1.isNil, hV, hS, ha.of_sub ⟨rfl, rfl, rfl, rfl, trivial⟩⟩

theorem S_Truth {w0 : World} {H : View} {L : Seg} {w : World} {b_1 : Bool} {Q : Val → Prop}  (hS : St w0 H (L) w) (hV : V_Truth b_1 Q) :
 Calls Tryz.prog 106 #[.bool b_1] w fun e w' => ∃ (r1 : Val) (u1 : Value) (H' : View), Q r1 ∧ e = .returned (.agg #[u1]) ∧ View.le H H' ∧ IsW H' u1 r1 ∧ St w0 H' (L) w' := by
 unfold V_Truth at hV
 refine enter Tryz.func106 rfl Tryz.ntmps106 rfl (lk_args_cons (d := 0) (v := .bool b_1) rfl (lk_args_nil _)) (WC.sr (WL.alloc (arr := #[.nilIface]) rfl Tryz.zeroValue25 rfl hS ?_))
 clear hS
 intro b_2 w hS
 refine WL.nx (WC.sr (WL.mv rfl rfl (WL.run hS rfl rfl rfl (ex_makeIface Tryz.concrete86 rfl) (WL.run hS rfl rfl rfl (ex_build (vs := [.iface 86 (.bool b_1)]) (zc := #[.nilIface]) (cs := #[.iface 86 (.bool b_1)]) (places := #[(0, 1)]) Tryz.underlying25 Tryz.zeroValue25 (fun w => by simp [Tryz.sizeOf23]) rfl ⟨rfl, trivial⟩ rfl (by simp [Instr.fill, cells_int, cells_bool, cells_iface, cells_niliface, cells_slice, str_cells])) (WL.store_box (pre := []) (old := [.nilIface]) (rst := []) (cs := [.iface 86 (.bool b_1)]) (arr' := #[.iface 86 (.bool b_1)]) Tryz.sizeOf25 rfl rfl rfl ⟨rfl, trivial⟩ rfl rfl rfl rfl hS ?_)))))
 clear hS
 intro w hS
 refine WL.nx (WC.ret ?_)
 have hl_4 := load_own_agg (P := Tryz.prog) (cs := [.iface 86 (.bool b_1)]) Tryz.isAgg25 Tryz.sizeOf25 hS rfl
 replace hS := hS.drop
 exact leavec1 (il) rfl rfl hl_4 (⟨(Val.truth b_1), (.iface 86 (.bool b_1)), H, hV, rfl, (View.le.refl _), IsW.truth, hS⟩)

theorem S_Number {w0 : World} {H : View} {L : Seg} {w : World} {n_1 : Int} {Q : Val → Prop} (hr_2 : I64 n_1) (hS : St w0 H (L) w) (hV : V_Number n_1 Q) :
 Calls Tryz.prog 100 #[i6 n_1] w fun e w' => ∃ (r1 : Val) (u1 : Value) (H' : View), Q r1 ∧ e = .returned (.agg #[u1]) ∧ View.le H H' ∧ IsW H' u1 r1 ∧ St w0 H' (L) w' := by
 unfold V_Number at hV
 refine enter Tryz.func100 rfl Tryz.ntmps100 rfl (lk_args_cons (d := 0) (v := i6 n_1) rfl (lk_args_nil _)) (WC.sr (WL.alloc (arr := #[.nilIface]) rfl Tryz.zeroValue25 rfl hS ?_))
 clear hS
 intro b_3 w hS
 refine WL.nx (WC.sr (WL.mv rfl rfl (WL.run hS rfl rfl rfl (ex_makeIface Tryz.concrete87 rfl) (WL.run hS rfl rfl rfl (ex_build (vs := [.iface 87 (i6 n_1)]) (zc := #[.nilIface]) (cs := #[.iface 87 (i6 n_1)]) (places := #[(0, 1)]) Tryz.underlying25 Tryz.zeroValue25 (fun w => by simp [Tryz.sizeOf23]) rfl ⟨rfl, trivial⟩ rfl (by simp [Instr.fill, cells_int, cells_bool, cells_iface, cells_niliface, cells_slice, str_cells])) (WL.store_box (pre := []) (old := [.nilIface]) (rst := []) (cs := [.iface 87 (i6 n_1)]) (arr' := #[.iface 87 (i6 n_1)]) Tryz.sizeOf25 rfl rfl rfl ⟨rfl, trivial⟩ rfl rfl rfl rfl hS ?_)))))
 clear hS
 intro w hS
 refine WL.nx (WC.ret ?_)
 have hl_5 := load_own_agg (P := Tryz.prog) (cs := [.iface 87 (i6 n_1)]) Tryz.isAgg25 Tryz.sizeOf25 hS rfl
 replace hS := hS.drop
 exact leavec1 (il) rfl rfl hl_5 (⟨(Val.num n_1), (.iface 87 (i6 n_1)), H, hV, rfl, (View.le.refl _), (IsW.num hr_2), hS⟩)

theorem S_Text {w0 : World} {H : View} {L : Seg} {w : World} {s_1 : Str} {Q : Val → Prop}  (hS : St w0 H (L) w) (hV : V_Text s_1 Q) :
 Calls Tryz.prog 103 #[sv s_1] w fun e w' => ∃ (r1 : Val) (u1 : Value) (H' : View), Q r1 ∧ e = .returned (.agg #[u1]) ∧ View.le H H' ∧ IsW H' u1 r1 ∧ St w0 H' (L) w' := by
 unfold V_Text at hV
 refine enter Tryz.func103 rfl Tryz.ntmps103 rfl (lk_args_cons (d := 0) (v := sv s_1) rfl (lk_args_nil _)) (WC.sr (WL.alloc (arr := #[.nilIface]) rfl Tryz.zeroValue25 rfl hS ?_))
 clear hS
 intro b_2 w hS
 refine WL.nx (WC.sr (WL.mv rfl rfl (WL.run hS rfl rfl rfl (ex_makeIface Tryz.concrete89 rfl) (WL.run hS rfl rfl rfl (ex_build (vs := [.iface 89 (sv s_1)]) (zc := #[.nilIface]) (cs := #[.iface 89 (sv s_1)]) (places := #[(0, 1)]) Tryz.underlying25 Tryz.zeroValue25 (fun w => by simp [Tryz.sizeOf23]) rfl ⟨rfl, trivial⟩ rfl (by simp [Instr.fill, cells_int, cells_bool, cells_iface, cells_niliface, cells_slice, str_cells])) (WL.store_box (pre := []) (old := [.nilIface]) (rst := []) (cs := [.iface 89 (sv s_1)]) (arr' := #[.iface 89 (sv s_1)]) Tryz.sizeOf25 rfl rfl rfl ⟨rfl, trivial⟩ rfl rfl rfl rfl hS ?_)))))
 clear hS
 intro w hS
 refine WL.nx (WC.ret ?_)
 have hl_4 := load_own_agg (P := Tryz.prog) (cs := [.iface 89 (sv s_1)]) Tryz.isAgg25 Tryz.sizeOf25 hS rfl
 replace hS := hS.drop
 exact leavec1 (il) rfl rfl hl_4 (⟨(Val.text s_1), (.iface 89 (sv s_1)), H, hV, rfl, (View.le.refl _), IsW.text, hS⟩)

theorem S_Atom {w0 : World} {H : View} {L : Seg} {w : World} {s_1 : Str} {Q : Val → Prop}  (hS : St w0 H (L) w) (hV : V_Atom s_1 Q) :
 Calls Tryz.prog 108 #[sv s_1] w fun e w' => ∃ (r1 : Val) (u1 : Value) (H' : View), Q r1 ∧ e = .returned (.agg #[u1]) ∧ View.le H H' ∧ IsW H' u1 r1 ∧ St w0 H' (L) w' := by
 unfold V_Atom at hV
 refine enter Tryz.func108 rfl Tryz.ntmps108 rfl (lk_args_cons (d := 0) (v := sv s_1) rfl (lk_args_nil _)) (WC.sr (WL.alloc (arr := #[.nilIface]) rfl Tryz.zeroValue25 rfl hS ?_))
 clear hS
 intro b_2 w hS
 refine WL.nx (WC.sr (WL.mv rfl rfl (WL.run hS rfl rfl rfl (ex_makeIface Tryz.concrete91 rfl) (WL.run hS rfl rfl rfl (ex_build (vs := [.iface 91 (sv s_1)]) (zc := #[.nilIface]) (cs := #[.iface 91 (sv s_1)]) (places := #[(0, 1)]) Tryz.underlying25 Tryz.zeroValue25 (fun w => by simp [Tryz.sizeOf23]) rfl ⟨rfl, trivial⟩ rfl (by simp [Instr.fill, cells_int, cells_bool, cells_iface, cells_niliface, cells_slice, str_cells])) (WL.store_box (pre := []) (old := [.nilIface]) (rst := []) (cs := [.iface 91 (sv s_1)]) (arr' := #[.iface 91 (sv s_1)]) Tryz.sizeOf25 rfl rfl rfl ⟨rfl, trivial⟩ rfl rfl rfl rfl hS ?_)))))
 clear hS
 intro w hS
 refine WL.nx (WC.ret ?_)
 have hl_4 := load_own_agg (P := Tryz.prog) (cs := [.iface 91 (sv s_1)]) Tryz.isAgg25 Tryz.sizeOf25 hS rfl
 replace hS := hS.drop
 exact leavec1 (il) rfl rfl hl_4 (⟨(Val.atom s_1), (.iface 91 (sv s_1)), H, hV, rfl, (View.le.refl _), IsW.atom, hS⟩)

theorem S_ascSet {w0 : World} {H : View} {L : Seg} {w : World} {v_2 : Value} {l_1 : List (Val)} {Q : Val → Prop} (h_3 : IsSl H cV v_2 l_1) (hS : St w0 H (L) w) (hV : V_ascSet l_1 Q) :
 Calls Tryz.prog 99 #[v_2] w fun e w' => ∃ (r1 : Val) (u1 : Value) (H' : View), Q r1 ∧ e = .returned (.agg #[u1]) ∧ View.le H H' ∧ IsW H' u1 r1 ∧ St w0 H' (L) w' := by
 unfold V_ascSet at hV
 refine enter Tryz.func99 rfl Tryz.ntmps99 rfl (lk_args_cons (d := 0) (v := v_2) rfl (lk_args_nil _)) (WC.sr (WL.alloc (arr := #[.nilIface]) rfl Tryz.zeroValue25 rfl hS ?_))
 clear hS
 intro b_4 w hS
 refine WL.nx (WC.sr (WL.ma rfl rfl (WL.nx (WC.seq (WC.sr (WL.mv rfl rfl ?_))))))
 have hl_6 : Len l_1 := h_3.bound
 replace hV := hV hl_6
 refine WL.run hS rfl rfl rfl (ex_len_sl Tryz.underlying42 rfl h_3) (WL.mv rfl rfl (WL.nx (WC.block ?_)))
 obtain ⟨I_49, mu_50, hI_79, hV⟩ := hV
 refine WC.loop (σ := Int × Int) (fun s a w => ∃ (heavy_26 : Int) (x_28 : Int), s = (heavy_26, x_28) ∧ I_49 (heavy_26, x_28) ∧ I64 heavy_26 ∧ I64 x_28 ∧ St w0 H ([(b_4, oc #[.nilIface] 25)] ++ L) w ∧ Fr 26 [(0, v_2), (2, (pq b_4)), (3, i6 heavy_26), (6, v_2), (7, i6 (l_1.length : Int)), (8, i6 x_28)] a) mu_50 ((1 : Int), (0 : Int)) ?_ ?_
 exact fun a ha => ⟨(1 : Int), (0 : Int), rfl, hI_79, (show I64 (1 : Int) by unfold I64; omega), (show I64 (0 : Int) by unfold I64; omega), hS, ha.of_sub ⟨rfl, rfl, rfl, rfl, rfl, rfl, trivial⟩⟩
 clear hS hI_79
 rintro _ a w ⟨heavy_26, x_28, rfl, hI, hr_27, hr_29, hS, ha⟩
 refine in_frame ha ?_
 clear ha
 replace hV := hV _ hI
 clear hI
 refine WC.sr (WL.run hS rfl rfl rfl (ex_lss rfl rfl) (WL.nx (WC.seq ?_)))
 refine WC.cond rfl ?_ ?_
 intro hc_78
 replace hV := hV.1 (of_decide_eq_true hc_78)
 refine WC.skip (WQ.next (WC.seq (WC.block (WC.sr ?_))))
 obtain ⟨hin_53, hV⟩ := hV
 refine WL.runx hS rfl rfl rfl (ex_index Tryz.underlying42 Tryz.sizeOf25 rfl rfl h_3 hin_53) ?_
 intro p_54 hp_55
 refine WL.runx hS rfl rfl rfl (ex_load_agg Tryz.isAgg25 Tryz.sizeOf25 rfl hp_55) ?_
 rintro u_56 ⟨_, rfl, hu⟩
 obtain ⟨u_57, rfl, h_58⟩ := cV_one hu
 refine WL.alloc (arr := #[.nilIface]) rfl Tryz.zeroValue25 rfl hS ?_
 clear hS
 intro b_59 w hS
 refine WL.store_box (pre := []) (old := [.nilIface]) (rst := []) (cs := [u_57]) (arr' := #[u_57]) Tryz.sizeOf25 rfl rfl rfl ⟨(IsW.one h_58), trivial⟩ rfl rfl rfl rfl hS ?_
 clear hS
 intro w hS
 refine WL.nx (WC.sr (WL.mv rfl rfl (WL.run hS rfl rfl rfl (ex_load_box_agg (cs := [u_57]) Tryz.isAgg25 Tryz.sizeOf25 rfl rfl rfl) (WL.call rfl rfl rfl (enters0 (vs := [.agg #[u_57]]) Tryz.call13 ⟨rfl, trivial⟩) (S_Weight h_58 hS hV) ?_))))
 clear hV hS
 rintro _ w ⟨r_61, hV, rfl, hr_62, hS⟩
 refine ⟨_, rfl, ?_⟩
 obtain ⟨hi_65, hV⟩ := hV
 refine WL.run hS rfl rfl rfl (ex_add rfl rfl hi_65) (WL.ma rfl rfl (WL.nx ?_))
 replace hS := hS.drop
 refine WC.sr (WL.mv rfl rfl (WL.run hS rfl rfl rfl (ex_gtr rfl rfl) (WL.nx ?_)))
 refine WC.cond rfl ?_ ?_
 intro hc_70
 replace hV := hV.1 (of_decide_eq_true hc_70)
 refine WC.sr (WL.run hS rfl rfl rfl (ex_build (vs := []) (zc := #[.nilIface]) (cs := #[.nilIface]) (places := #[(0, 1)]) Tryz.underlying25 Tryz.zeroValue25 (fun w => by simp [Tryz.sizeOf23]) rfl trivial rfl (by simp [Instr.fill, cells_int, cells_bool, cells_iface, cells_niliface, cells_slice, str_cells])) (WL.store_box (pre := []) (old := [.nilIface]) (rst := []) (cs := [.nilIface]) (arr' := #[.nilIface]) Tryz.sizeOf25 rfl rfl rfl ⟨rfl, trivial⟩ rfl rfl rfl rfl hS ?_))
 clear hS
 intro w hS
 refine WL.nx (WC.sub (m := [(2, (pq b_4))]) ⟨rfl, trivial⟩ (WC.ret (WQ.out nofun (WQ.pass nofun (WQ.pass nofun (WQ.out nofun (WQ.pass nofun ?_)))))))
 have hl_67 := load_own_agg (P := Tryz.prog) (cs := [.nilIface]) Tryz.isAgg25 Tryz.sizeOf25 hS rfl
 replace hS := hS.drop
 exact leavec1 (il) rfl rfl hl_67 (⟨Val.nil, .nilIface, H, hV, rfl, (View.le.refl _), IsW.nil, hS⟩)
 intro hc_70
 replace hV := hV.2 (of_decide_eq_false hc_70)
 refine WC.skip (WQ.out nofun (WQ.next (WC.sub (m := [(0, v_2), (2, (pq b_4)), (3, i6 (heavy_26 + r_61)), (6, v_2), (7, i6 (l_1.length : Int)), (8, i6 x_28)]) ⟨rfl, rfl, rfl, rfl, rfl, rfl, trivial⟩ (WC.region ?_))))
 obtain ⟨hi_69, hV⟩ := hV
 refine WL.run hS rfl rfl rfl (ex_add rfl rfl hi_69) (WL.mv rfl rfl (WL.nil ?_))
 exact WQ.there fun a ha => ⟨((heavy_26 + r_61), (x_28 + (1 : Int))), ⟨(heavy_26 + r_61), (x_28 + (1 : Int)), rfl, hV.1, hi_65, hi_69, hS, ha.of_sub ⟨rfl, rfl, rfl, rfl, rfl, rfl, trivial⟩⟩, hV.2⟩
 intro hc_78
 replace hV := hV.2 (of_decide_eq_false hc_78)
 refine WC.exit (WQ.pass nofun (WQ.pass nofun (WQ.hit (WQ.next (WC.sr (WL.mv rfl rfl (WL.mv rfl rfl ?_)))))))
 refine WL.run hS rfl rfl rfl (ex_build (vs := [v_2, i6 heavy_26]) (zc := #[(.slice none 0 0), i6 0]) (cs := #[v_2, i6 heavy_26]) (places := #[(0, 1), (1, 1)]) Tryz.underlying96 Tryz.zeroValue96 (fun w => by simp [Tryz.sizeOf3, Tryz.sizeOf42]) rfl ⟨rfl, rfl, trivial⟩ rfl (by simp [Instr.fill, cells_int, cells_bool, cells_iface, cells_niliface, cells_slice, str_cells, cells_one (IsSl.one h_3)])) (WL.box (arr := #[v_2, i6 heavy_26]) rfl rfl rfl hS ?_)
 clear hS
 intro b_72 w hS
 refine WL.run hS rfl rfl rfl (ex_makeIface Tryz.concrete93 rfl) ?_
 obtain ⟨H_74, le_75, h_76, hS⟩ : ∃ K, View.le H K ∧ IsW K (.iface 93 ((pq b_72))) (Val.set l_1 heavy_26) ∧ St w0 K ([(b_4, oc #[.nilIface] 25)] ++ L) w := ⟨_, hS.put_le, IsW.mkset hS h_3 hr_27, hS.freeze⟩
 refine WL.run hS rfl rfl rfl (ex_build (vs := [.iface 93 ((pq b_72))]) (zc := #[.nilIface]) (cs := #[.iface 93 ((pq b_72))]) (places := #[(0, 1)]) Tryz.underlying25 Tryz.zeroValue25 (fun w => by simp [Tryz.sizeOf23]) rfl ⟨rfl, trivial⟩ rfl (by simp [Instr.fill, cells_int, cells_bool, cells_iface, cells_niliface, cells_slice, str_cells, cells_ptr])) (WL.store_box (pre := []) (old := [.nilIface]) (rst := []) (cs := [.iface 93 ((pq b_72))]) (arr' := #[.iface 93 ((pq b_72))]) Tryz.sizeOf25 rfl rfl rfl ⟨rfl, trivial⟩ rfl rfl rfl rfl hS ?_)
 clear hS
 intro w hS
 refine WL.nx (WC.sub (m := [(2, (pq b_4))]) ⟨rfl, trivial⟩ (WC.ret ?_))
 have hl_77 := load_own_agg (P := Tryz.prog) (cs := [.iface 93 ((pq b_72))]) Tryz.isAgg25 Tryz.sizeOf25 hS rfl
 replace hS := hS.drop
 exact leavec1 (il) rfl rfl hl_77 (⟨(Val.set l_1 heavy_26), (.iface 93 ((pq b_72))), H_74, hV, rfl, ((View.le.refl _).trans le_75), h_76, hS⟩)

theorem S_SetOf1 {w0 : World} {H : View} {L : Seg} {w : World} {a_1 : Val} {u_2 : Value} {b_4 : Val} {u_5 : Value} {Q : Bool → Prop} (h_3 : IsW H u_2 a_1) (h_6 : IsW H u_5 b_4) (hS : St w0 H (L) w) (hV : V_SetOf1 a_1 b_4 Q) :
 Calls Tryz.prog 98 #[.agg #[u_2], .agg #[u_5]] w fun e w' => ∃ (r1 : Bool), Q r1 ∧ e = .returned (.bool r1) ∧ St w0 H (L) w' := by
 unfold V_SetOf1 at hV
 refine enter Tryz.func98 rfl Tryz.ntmps98 rfl (lk_args_cons (d := 0) (v := .agg #[u_2]) rfl (lk_args_cons (d := 1) (v := .agg #[u_5]) rfl (lk_args_nil _))) (WC.sr (WL.box (arr := #[u_2]) rfl rfl rfl hS ?_))
 clear hS
 intro b_7 w hS
 refine WL.box (arr := #[u_5]) rfl rfl rfl hS ?_
 clear hS
 intro b_9 w hS
 refine WL.ma rfl rfl (WL.nx (WC.sr ?_))
 replace hS := hS.f2
 refine WL.run hS rfl rfl rfl (ex_load_box_agg (cs := [u_2]) Tryz.isAgg25 Tryz.sizeOf25 rfl rfl rfl) ?_
 replace hS := hS.f2
 refine WL.run hS rfl rfl rfl (ex_load_box_agg (cs := [u_5]) Tryz.isAgg25 Tryz.sizeOf25 rfl rfl rfl) ?_
 obtain ⟨mf, hV⟩ := hV
 refine WL.call rfl rfl rfl (enters0 (vs := [.agg #[u_2], .agg #[u_5]]) Tryz.call19 ⟨rfl, rfl, trivial⟩) (S_Compare mf h_3 h_6 hS hV) ?_
 clear hV hS
 rintro _ w ⟨r_11, hV, rfl, hr_12, hS⟩
 refine ⟨_, rfl, ?_⟩
 refine WL.run hS rfl rfl rfl (ex_eql rfl rfl) (WL.ma rfl rfl (WL.nx ?_))
 replace hS := hS.f2.drop
 replace hS := hS.drop
 refine WC.ret ?_
 exact leave1 rfl rfl (⟨decide (r_11 = (0 : Int)), hV, rfl, hS⟩)

open Go Go.Sort Go.Lib in
theorem S_SortV {w0 : World} {H : View} {L : Seg} {w : World} {v_2 : Value} {x_1 : List (Val)} {fp_4 : Seg} {Q : (List (Val)) → Prop} (h_3 : OwnSl H cV 25 v_2 x_1 fp_4) (hS : St w0 H (fp_4 ++ L) w) (hV : V_SortV x_1 Q) :
    Calls Tryz.prog 96 #[v_2, .func (.func 19) #[] #[]] w fun e w' => ∃ (r1 : List (Val)) (fp1 : Seg), Q r1 ∧ e = .returned (.tuple #[]) ∧ OwnSl H cV 25 v_2 r1 fp1 ∧ St w0 H (fp1 ++ L) w' := by
  obtain ⟨hlen, c, hc, h1, h2, h3, hQ⟩ := hV
  by_cases hx : x_1 = []
  · subst hx
    have hq := hQ [] (List.Perm.refl _) List.Pairwise.nil
    have hv : ∃ p cap, v_2 = .slice p 0 cap := by
      rcases h_3 with ⟨rfl, _, _⟩ | ⟨b, cap, arr, cs, rest, rfl, _⟩
      · exact ⟨_, _, rfl⟩
      · exact ⟨_, _, rfl⟩
    obtain ⟨p, cap, rfl⟩ := hv
    refine (Tryz.slices_SortFunc_none (α := Nat) p cap (.func (.func 19) #[] #[]) w).mono ?_
    rintro e w' ⟨rfl, rfl⟩
    exact ⟨[], fp_4, hq, rfl, h_3, hS⟩
  rcases h_3 with ⟨_, h, _⟩ | ⟨b, cap, arr, cs, rest, rfl, rfl, e3, e4, e5, e6, e7⟩
  · exact absurd h hx
  obtain ⟨S, hSx⟩ : ∃ S : Val → Prop, ∀ y, S y ↔ y ∈ x_1 := ⟨fun y => y ∈ x_1, fun _ => Iff.rfl⟩
  obtain ⟨l, l1, l2⟩ := reps_pairs (S := S) e7 fun y hy => (hSx y).2 hy
  have hlx : l.length = x_1.length := by rw [← l2]; simp
  obtain ⟨p0, hp0⟩ : ∃ p0, p0 ∈ l := by
    cases l with
    | nil => simp at hlx; exact absurd (List.length_eq_zero_iff.1 hlx.symm) hx
    | cons a l => exact ⟨a, by simp⟩
  letI : Inhabited { p : Value × Val // IsW H p.1 p.2 ∧ S p.2 } := ⟨p0⟩
  have hb := hS.own (b, .cells arr 25 (0, 0)) (by simp)
  simp only at hb
  have hHb := hS.sep (b, .cells arr 25 (0, 0)) (by simp)
  simp only at hHb
  have hbl : b < w.heap.size := (Array.getElem?_eq_some_iff.1 hb).1
  have hal : cs.length = x_1.length := by rw [← l1, ← l2]; simp
  -- each world that the sort goes through
  have view : ∀ m os (dk : Array { p : Value × Val // IsW H p.1 p.2 ∧ S p.2 }), View.le H (fun k => (sortWorldK (fun p => [p.1.1]) 1 w b 0 m dk os).heap[k]?) := fun m os dk k o hk => by
    have hkw := hS.fits k o hk
    have hkb : k ≠ b := fun e => by rw [e, hHb] at hk; cases hk
    have hks : k < w.heap.size := (Array.getElem?_eq_some_iff.1 hkw).1
    show ((w.heap.modify b _) ++ os)[k]? = some o
    rw [Array.getElem?_append_left (by simpa using hks), Array.getElem?_modify, if_neg (fun e => hkb e.symm)]; exact hkw
  have hcmp : CmpLays Tryz.prog 19 #[] (fun p : { p : Value × Val // IsW H p.1 p.2 ∧ S p.2 } => [p.1.1]) 1 (fun p q => c p.1.2 q.1.2) b 0 l.toArray.size w := fun m os dk hs x y => by
    obtain ⟨mf, hcm⟩ := hc x.1.2 ((hSx _).1 x.2.2) y.1.2 ((hSx _).1 y.2.2)
    have hle := view m os dk
    refine (S_Compare mf (x.2.1.mono hle) (y.2.1.mono hle) (St.refl _) hcm).mono ?_
    rintro e w' ⟨r, hr, rfl, _, hst⟩
    exact ⟨by rw [hr], st_grown hst⟩
  have hO : SWO (ltOf fun p q : { p : Value × Val // IsW H p.1 p.2 ∧ S p.2 } => c p.1.2 q.1.2) := by
    refine ⟨fun x => ?_, fun x y z a b => ?_, fun x y z a b => ?_⟩
    · exact decide_eq_false (h1 _ ((hSx _).1 x.2.2))
    · exact decide_eq_true (h2 _ ((hSx _).1 x.2.2) _ ((hSx _).1 y.2.2) _ ((hSx _).1 z.2.2) (of_decide_eq_true a) (of_decide_eq_true b))
    · exact decide_eq_false (h3 _ ((hSx _).1 x.2.2) _ ((hSx _).1 y.2.2) _ ((hSx _).1 z.2.2) (of_decide_eq_false a) (of_decide_eq_false b))
  have flat : ∀ dk : Array { p : Value × Val // IsW H p.1 p.2 ∧ S p.2 }, ∀ j, j < dk.size → (flatK (fun p => [p.1.1]) 1 dk)[j]! = (dk[j]!).1.1 := fun dk j hj => by
    rw [get_flatK _ _ _ _ (by omega)]; simp [Nat.mod_one]
  have hH : HoldsK (fun p : { p : Value × Val // IsW H p.1 p.2 ∧ S p.2 } => [p.1.1]) 1 w b 0 l.toArray := fun j hj => by
    have hj : j < l.length := by simpa using hj
    have hjc : j < cs.length := by rw [hal, ← hlx]; exact hj
    constructor
    · rw [show (flatK (fun p : { p : Value × Val // IsW H p.1 p.2 ∧ S p.2 } => [p.1.1]) 1 l.toArray)[j]! = _ from flat _ j (by simpa using hj)]
      simp only [World.cell?, hb, Nat.zero_add]
      have : arr[j]? = cs[j]? := by rw [← Array.getElem?_toList, e3, List.getElem?_append_left hjc]
      simp only [Option.isSome_none, Bool.false_eq_true, if_false]
      rw [this]
      have : cs[j]? = some (l[j]).1.1 := by rw [← l1]; simp [hj]
      rw [this]; simp [hj]
    · simp [World.frozen?, hb]
  have main := Tryz.slices_SortFunc 1 (fun w => by kernel_rfl) (fun w => by kernel_rfl) (fun p : { p : Value × Val // IsW H p.1 p.2 ∧ S p.2 } => [p.1.1]) (fun _ => rfl) (fun p v hv => by rw [List.mem_singleton.1 hv]; exact p.2.1.one) _ hO 19 #[] b 0 cap l.toArray w (fun _ _ => by kernel_rfl) hcmp hH hbl (by simp; omega)
  rw [show l.toArray.size = x_1.length by simpa using hlx] at main
  refine main.mono ?_
  rintro e w' ⟨rfl, d', n, os, ⟨hp1, hp2, hp3⟩, hsd, rfl⟩
  have hds : d'.size = x_1.length := by rw [hp1]; simpa using hlx
  have hperm : d'.toList.Perm l := by
    have e1 : d'.extract 0 x_1.length = d' := by rw [← hds]; simp
    have e2 : l.toArray.extract 0 x_1.length = l.toArray := by rw [← hlx]; simp
    rw [e1, e2] at hp3; simpa using hp3
  let arr' := putCells id 0 (flatK (fun p : { p : Value × Val // IsW H p.1 p.2 ∧ S p.2 } => [p.1.1]) 1 d') arr
  have harr : arr'.toList = d'.toList.map (·.1.1) ++ rest := by
    apply List.ext_getElem?
    intro j
    have hes : arr.size = cs.length + rest.length := by rw [← Array.length_toList, e3]; simp
    rw [Array.getElem?_toList]
    show (putCells id 0 _ arr)[j]? = _
    simp only [putCells, Array.getElem?_mapIdx, size_flatK, Nat.mul_one, Nat.zero_add, Nat.zero_le, true_and, Nat.sub_zero, id]
    by_cases hj : j < d'.size
    · rw [List.getElem?_append_left (by simpa using hj)]
      rw [Array.getElem?_eq_getElem (by rw [hes, hal, ← hds]; omega)]
      simp only [Option.map_some, if_pos hj]
      rw [flat d' j hj]
      simp [hj]
    · rw [List.getElem?_append_right (by simpa using hj)]
      have : arr[j]? = rest[j - cs.length]? := by rw [← Array.getElem?_toList, e3, List.getElem?_append_right (by rw [hal, ← hds]; omega)]
      rw [this]
      have e : (d'.toList.map fun p => p.1.1).length = cs.length := by simp [hds, hal]
      rw [e]
      cases rest[j - cs.length]? <;> simp [hj]
  refine ⟨d'.toList.map (·.1.2), [(b, .cells arr' 25 (0, 0))], hQ _ ?_ ?_, rfl, Or.inr ⟨b, cap, arr', d'.toList.map (·.1.1), rest, by simp [hds], rfl, harr, ?_, by simpa [hds] using e5, e6, pairs_reps _⟩, ?_⟩
  · have := hperm.map (·.1.2); rw [l2] at this; exact this
  · rw [List.pairwise_map]
    rw [List.pairwise_iff_getElem]
    intro i j hi hj hij
    have hi' : i < d'.size := by simpa using hi
    have hj' : j < d'.size := by simpa using hj
    have := hsd i j (Nat.zero_le _) hij (by rw [← hds]; exact hj')
    have := of_decide_eq_false this
    simpa [hi', hj'] using this
  · show (putCells id 0 _ arr).size = _
    simp [putCells, e4]
  · have hmod : ∀ k : Nat, (sortWorldK (fun p : { p : Value × Val // IsW H p.1 p.2 ∧ S p.2 } => [p.1.1]) 1 w b 0 n d' os).heap[k]? = ((w.heap.modify b (onCells (putCells id 0 (flatK (fun p : { p : Value × Val // IsW H p.1 p.2 ∧ S p.2 } => [p.1.1]) 1 d')))) ++ os)[k]? := fun k => rfl
    have old : ∀ k : Nat, k < w.heap.size → k ≠ b → (sortWorldK (fun p : { p : Value × Val // IsW H p.1 p.2 ∧ S p.2 } => [p.1.1]) 1 w b 0 n d' os).heap[k]? = w.heap[k]? := fun k hk hkb => by
      rw [hmod, Array.getElem?_append_left (by simpa using hk), Array.getElem?_modify, if_neg (fun e => hkb e.symm)]
    have hnd := hS.nodup
    simp only [List.map_append, List.map_cons, List.map_nil, List.singleton_append, List.nodup_cons] at hnd
    refine ⟨hS.os, hS.tape, hS.output, ?_, fun k o hk => view n os d' k o hk, fun p hp => ?_, fun p hp => ?_, ?_, Nat.le_trans hS.ahead (Nat.le_add_right _ _)⟩
    · show w0.heap.size ≤ ((w.heap.modify b _) ++ os).size
      have := hS.size; simp; omega
    · rcases List.mem_append.1 hp with hp | hp
      · rw [List.mem_singleton.1 hp]
        show (sortWorldK _ 1 w b 0 n d' os).heap[b]? = some (.cells arr' 25 (0, 0))
        rw [hmod, Array.getElem?_append_left (by simpa using hbl), Array.getElem?_modify, if_pos rfl, hb]; rfl
      · have h5 := hS.own p (by simp [hp])
        rw [old p.1 (Array.getElem?_eq_some_iff.1 h5).1 (fun e => hnd.1 (by rw [← e]; exact List.mem_map_of_mem hp))]; exact h5
    · rcases List.mem_append.1 hp with hp | hp
      · rw [List.mem_singleton.1 hp]; exact hHb
      · exact hS.sep p (by simp [hp])
    · simpa using hnd


theorem S_CompactV {w0 : World} {H : View} {L : Seg} {w : World} {v_2 : Value} {s_1 : List (Val)} {fp_4 : Seg} {Q : (List (Val)) → Prop} (h_3 : OwnSl H cV 25 v_2 s_1 fp_4) (hS : St w0 H (fp_4 ++ L) w) (hV : V_CompactV s_1 Q) :
 Calls Tryz.prog 97 #[v_2, .func (.func 98) #[] #[]] w fun e w' => ∃ (r1 : List (Val)) (v1 : Value) (fp1 : Seg), Q r1 ∧ e = .returned (v1) ∧ OwnSl H cV 25 v1 r1 fp1 ∧ St w0 H (fp1 ++ L) w' := by
 unfold V_CompactV at hV
 refine enter Tryz.func97 rfl Tryz.ntmps97 rfl (lk_args_cons (d := 0) (v := v_2) rfl (lk_args_cons (d := 1) (v := .func (.func 98) #[] #[]) rfl (lk_args_nil _))) (WC.sr (WL.ma rfl rfl (WL.nx (WC.seq (WC.sr (WL.mv rfl rfl ?_))))))
 have hl_8 : Len s_1 := h_3.bound
 replace hV := hV hl_8
 refine WL.run hS rfl rfl rfl (ex_len_own Tryz.underlying42 rfl h_3) (WL.run hS rfl rfl rfl (ex_lss rfl rfl) (WL.nx ?_))
 refine WC.cond rfl ?_ ?_
 intro hc_1256
 replace hV := hV.1 (of_decide_eq_true hc_1256)
 refine WC.sr (WL.mv rfl rfl (WL.ma rfl rfl (WL.nx (WC.ret (WQ.pass nofun ?_)))))
 exact leave1 rfl rfl (⟨s_1, v_2, fp_4, hV, rfl, h_3, hS⟩)
 intro hc_1256
 replace hV := hV.2 (of_decide_eq_false hc_1256)
 refine WC.skip (WQ.next (WC.seq (WC.sr (WL.ma rfl rfl (WL.nx (WC.block ?_))))))
 obtain ⟨I_838, mu_839, hI_1255, hV⟩ := hV
 refine WC.loop (σ := Int) (fun s a w => ∃ (k_423 : Int), s = k_423 ∧ I_838 k_423 ∧ I64 k_423 ∧ St w0 H (fp_4 ++ L) w ∧ Fr 66 [(0, v_2), (1, .func (.func 98) #[] #[]), (5, i6 k_423)] a) mu_839 (1 : Int) ?_ ?_
 exact fun a ha => ⟨(1 : Int), rfl, hI_1255, (show I64 (1 : Int) by unfold I64; omega), hS, ha.of_sub ⟨rfl, rfl, rfl, trivial⟩⟩
 clear hS hI_1255
 rintro k_423 a w ⟨_, rfl, hI, hr_424, hS, ha⟩
 refine in_frame ha ?_
 clear ha
 replace hV := hV _ hI
 clear hI
 refine WC.seq (WC.sr (WL.mv rfl rfl (WL.mv rfl rfl ?_)))
 have hl_841 : Len s_1 := h_3.bound
 replace hV := hV hl_841
 refine WL.run hS rfl rfl rfl (ex_len_own Tryz.underlying42 rfl h_3) (WL.run hS rfl rfl rfl (ex_lss rfl rfl) (WL.nx ?_))
 refine WC.cond rfl ?_ ?_
 intro hc_1254
 replace hV := hV.1 (of_decide_eq_true hc_1254)
 refine WC.skip (WQ.next (WC.seq (WC.block (WC.seq (WC.drawn (σ := [0, 1, 2, 3, 4, 5, 6, 7, 8, 9, 10]) (C := St w0 H (fp_4 ++ L)) [[], [], [], [1, 2], [1, 2, 3], [], [], [6], [5, 6, 7], [5, 6, 7, 8], [0, 1, 2, 3, 4, 5, 6, 7, 8, 9]] [10] Tryz.mixed (by kernel_rfl) (hS.drawn _) ?_)))))
 clear hS w
 refine Wd.run rfl rfl rfl rfl (fun _ => ex_move rfl) fun q_844 hq_843 => (Wd.run rfl rfl rfl rfl (fun _ => ex_move rfl) fun q_846 hq_845 => (Wd.run rfl rfl rfl rfl (fun _ => ex_move rfl) fun q_848 hq_847 => ?_))
 obtain ⟨hin_851, hV⟩ := hV
 refine Wd.runx rfl rfl rfl rfl (exAll (ex_index_own Tryz.underlying42 Tryz.sizeOf25 rfl rfl h_3 hin_851)) ?_
 intro p_852 hp_853
 intro q_850 hq_849
 refine Wd.runs (fp := fp_4) rfl rfl rfl rfl (ex_load_own_agg Tryz.isAgg25 Tryz.sizeOf25 rfl h_3 hp_853 hin_851) (fun _ h => h) ?_
 rintro u_856 ⟨_, rfl, hu⟩
 obtain ⟨u_857, rfl, h_858⟩ := cV_one hu
 intro q_855 hq_854
 refine Wd.run rfl rfl rfl rfl (fun _ => ex_move rfl) fun q_860 hq_859 => (Wd.run rfl rfl rfl rfl (fun _ => ex_move rfl) fun q_862 hq_861 => ?_)
 obtain ⟨hi_866, hV⟩ := hV
 refine Wd.run rfl rfl rfl rfl (fun _ => ex_sub rfl rfl hi_866) fun q_864 hq_863 => ?_
 obtain ⟨hin_869, hV⟩ := hV
 refine Wd.runx rfl rfl rfl rfl (exAll (ex_index_own Tryz.underlying42 Tryz.sizeOf25 rfl rfl h_3 hin_869)) ?_
 intro p_870 hp_871
 intro q_868 hq_867
 refine Wd.runs (fp := fp_4) rfl rfl rfl rfl (ex_load_own_agg Tryz.isAgg25 Tryz.sizeOf25 rfl h_3 hp_871 hin_869) (fun _ h => h) ?_
 rintro u_874 ⟨_, rfl, hu⟩
 obtain ⟨u_875, rfl, h_876⟩ := cV_one hu
 intro q_873 hq_872
 refine Wd.turn rfl rfl rfl fun w hS => (WL.call rfl rfl rfl (enters_c (vs := [.agg #[u_857], .agg #[u_875]]) (caps := []) rfl Tryz.call98 ⟨rfl, rfl, trivial⟩) (S_SetOf1 h_858 h_876 hS hV) ?_)
 clear hV hS
 rintro _ w ⟨r_877, hV, rfl, hS⟩
 refine ⟨_, rfl, ?_⟩
 refine WL.nil (DQ.mk2 (C' := St w0 H (fp_4 ++ L)) hS ⟨il, il, il, il, il, il, il, il, il, il, trivial⟩ ?_)
 clear hS w
 refine Wd.nil fun w hS => (WQ.next (WC.sub (m := [(0, v_2), (1, .func (.func 98) #[] #[]), (5, i6 k_423), (28, .bool r_877)]) ⟨rfl, rfl, rfl, rfl, trivial⟩ ?_))
 refine WC.cond rfl ?_ ?_
 intro hc_1253
 replace hV := hV.1 hc_1253
 refine WC.sr (WL.mv rfl rfl (WL.mv rfl rfl ?_))
 obtain ⟨hb_879, hV⟩ := hV
 refine WL.runx hS rfl rfl rfl (ex_slice_al Tryz.underlying42 Tryz.sizeOf25 rfl rfl h_3 hb_879) ?_
 intro u_880 hu_881
 refine WL.ma rfl rfl (WL.nx (WC.seq (WC.sr (WL.ma rfl rfl (WL.nx (WC.block ?_))))))
 obtain ⟨I_1121, mu_1122, hI_1250, hV⟩ := hV
 refine WC.loop (σ := (List (Val)) × Int × Int) (fun s a w => ∃ (s_998 : List (Val)) (k_1001 : Int) (k2_1003 : Int) (fp_999 : Seg), s = (s_998, k_1001, k2_1003) ∧ I_1121 (s_998, k_1001, k2_1003) ∧ OwnSl H cV 25 v_2 s_998 fp_999 ∧ I64 k_1001 ∧ I64 k2_1003 ∧ St w0 H (fp_999 ++ L) w ∧ Fr 66 [(0, v_2), (1, .func (.func 98) #[] #[]), (5, i6 k_1001), (6, u_880), (7, i6 k2_1003)] a) mu_1122 (s_1, k_423, (1 : Int)) ?_ ?_
 exact fun a ha => ⟨s_1, k_423, (1 : Int), fp_4, rfl, hI_1250, h_3, hr_424, (show I64 (1 : Int) by unfold I64; omega), hS, ha.of_sub ⟨rfl, rfl, rfl, rfl, rfl, trivial⟩⟩
 clear hS hI_1250
 rintro _ a w ⟨s_998, k_1001, k2_1003, fp_999, rfl, hI, h_1000, hr_1002, hr_1004, hS, ha⟩
 refine in_frame ha ?_
 clear ha
 replace hV := hV _ hI
 clear hI
 refine WC.seq (WC.sr (WL.mv rfl rfl (WL.mv rfl rfl ?_)))
 obtain ⟨hl_1124, hV⟩ := hV
 refine WL.run hS rfl rfl rfl (ex_len_al Tryz.underlying42 rfl h_1000 hu_881) (WL.run hS rfl rfl rfl (ex_lss rfl rfl) (WL.nx ?_))
 refine WC.cond rfl ?_ ?_
 intro hc_1249
 replace hV := hV.1 (of_decide_eq_true hc_1249)
 refine WC.skip (WQ.next ?_)
 obtain ⟨J_1183, hJ_1184, hV⟩ := hV
 refine WC.meet (fun a w => ∃ (s_1178 : List (Val)) (k_1181 : Int) (fp_1179 : Seg), J_1183 (s_1178, k_1181) ∧ OwnSl H cV 25 v_2 s_1178 fp_1179 ∧ I64 k_1181 ∧ St w0 H (fp_1179 ++ L) w ∧ Fr 66 [(0, v_2), (1, .func (.func 98) #[] #[]), (5, i6 k_1181), (6, u_880), (7, i6 k2_1003)] a) ?_ ?_
 rintro a w ⟨s_1178, k_1181, fp_1179, hI, h_1180, hr_1182, hS, ha⟩
 refine in_frame ha ?_
 clear ha hV
 have hV := hJ_1184 _ hI
 clear hI hJ_1184
 refine WC.region (WL.mv rfl rfl ?_)
 obtain ⟨hi_1238, hV⟩ := hV
 refine WL.run hS rfl rfl rfl (ex_add rfl rfl hi_1238) (WL.ma rfl rfl (WL.nil ?_))
 exact WQ.there fun a ha => ⟨(s_1178, k_1181, (k2_1003 + (1 : Int))), ⟨s_1178, k_1181, (k2_1003 + (1 : Int)), fp_1179, rfl, hV.1, h_1180, hr_1182, hi_1238, hS, ha.of_sub ⟨rfl, rfl, rfl, rfl, rfl, trivial⟩⟩, hV.2⟩
 clear hJ_1184
 refine WC.block (WC.seq (WC.drawn (σ := [0, 1, 2, 3, 4, 5, 6, 7, 8, 9, 10, 11]) (C := St w0 H (fp_999 ++ L)) [[], [], [], [1, 2], [1, 2, 3], [], [], [6], [5, 6, 7], [5, 6, 7, 8], [0, 1, 2, 3, 4, 5, 6, 7, 8, 9], [0, 1, 2, 3, 4, 5, 6, 7, 8, 9, 10]] [10] Tryz.mixed (by kernel_rfl) (hS.drawn _) ?_))
 clear hS w
 refine Wd.run rfl rfl rfl rfl (fun _ => ex_move rfl) fun q_1186 hq_1185 => (Wd.run rfl rfl rfl rfl (fun _ => ex_move rfl) fun q_1188 hq_1187 => (Wd.run rfl rfl rfl rfl (fun _ => ex_move rfl) fun q_1190 hq_1189 => ?_))
 obtain ⟨hin_1193, hV⟩ := hV
 refine Wd.runx rfl rfl rfl rfl (exAll (ex_index_al Tryz.underlying42 Tryz.sizeOf25 rfl rfl h_1000 hu_881 ⟨hin_1193.1, hin_1193.2.2⟩)) ?_
 intro p_1194 hp_1195
 intro q_1192 hq_1191
 refine Wd.runs (fp := fp_999) rfl rfl rfl rfl (ex_load_own_agg Tryz.isAgg25 Tryz.sizeOf25 rfl h_1000 hp_1195 hin_1193.2) (fun _ h => h) ?_
 rintro u_1198 ⟨_, rfl, hu⟩
 obtain ⟨u_1199, rfl, h_1200⟩ := cV_one hu
 intro q_1197 hq_1196
 refine Wd.run rfl rfl rfl rfl (fun _ => ex_move rfl) fun q_1202 hq_1201 => (Wd.run rfl rfl rfl rfl (fun _ => ex_move rfl) fun q_1204 hq_1203 => ?_)
 obtain ⟨hi_1208, hV⟩ := hV
 refine Wd.run rfl rfl rfl rfl (fun _ => ex_sub rfl rfl hi_1208) fun q_1206 hq_1205 => ?_
 obtain ⟨hin_1211, hV⟩ := hV
 refine Wd.runx rfl rfl rfl rfl (exAll (ex_index_al Tryz.underlying42 Tryz.sizeOf25 rfl rfl h_1000 hu_881 ⟨hin_1211.1, hin_1211.2.2⟩)) ?_
 intro p_1212 hp_1213
 intro q_1210 hq_1209
 refine Wd.runs (fp := fp_999) rfl rfl rfl rfl (ex_load_own_agg Tryz.isAgg25 Tryz.sizeOf25 rfl h_1000 hp_1213 hin_1211.2) (fun _ h => h) ?_
 rintro u_1216 ⟨_, rfl, hu⟩
 obtain ⟨u_1217, rfl, h_1218⟩ := cV_one hu
 intro q_1215 hq_1214
 refine Wd.turn rfl rfl rfl fun w hS => (WL.call rfl rfl rfl (enters_c (vs := [.agg #[u_1199], .agg #[u_1217]]) (caps := []) rfl Tryz.call98 ⟨rfl, rfl, trivial⟩) (S_SetOf1 h_1200 h_1218 hS hV) ?_)
 clear hV hS
 rintro _ w ⟨r_1219, hV, rfl, hS⟩
 refine ⟨_, rfl, ?_⟩
 refine WL.nil (DQ.mk2 (C' := St w0 H (fp_999 ++ L)) hS ⟨il, il, il, il, il, il, il, il, il, il, trivial⟩ ?_)
 clear hS w
 refine Wd.run rfl rfl rfl rfl (fun _ => ex_not rfl) fun q_1222 hq_1221 => (Wd.nil fun w hS => (WQ.next (WC.sub (m := [(0, v_2), (1, .func (.func 98) #[] #[]), (5, i6 k_1001), (6, u_880), (7, i6 k2_1003), (49, .bool (!r_1219))]) ⟨rfl, rfl, rfl, rfl, rfl, rfl, trivial⟩ ?_)))
 refine WC.cond rfl ?_ ?_
 intro hc_1236
 replace hV := hV.1 hc_1236
 refine WC.sr (WL.mv rfl rfl (WL.mv rfl rfl (WL.mv rfl rfl (WL.mv rfl rfl ?_))))
 obtain ⟨hin_1223, hV⟩ := hV
 refine WL.runx hS rfl rfl rfl (ex_index_al Tryz.underlying42 Tryz.sizeOf25 rfl rfl h_1000 hu_881 ⟨hin_1223.1, hin_1223.2.2⟩) ?_
 intro p_1224 hp_1225
 refine WL.runx hS rfl rfl rfl (exNow (H := H) (L := L) (ex_load_own_agg Tryz.isAgg25 Tryz.sizeOf25 rfl h_1000 hp_1225 hin_1223.2)) ?_
 rintro u_1226 ⟨_, rfl, hu⟩
 obtain ⟨u_1227, rfl, h_1228⟩ := cV_one hu
 obtain ⟨hin_1229, hV⟩ := hV
 refine WL.runx hS rfl rfl rfl (ex_index_own Tryz.underlying42 Tryz.sizeOf25 rfl rfl h_1000 hin_1229) ?_
 intro p_1230 hp_1231
 refine WL.store_own_agg (c := cV) (z := (ix s_998 (k_423 + k2_1003))) (m' := [u_1227]) Tryz.sizeOf25 rfl rfl rfl ⟨(IsW.one h_1228), trivial⟩ (cV_mk h_1228) hS h_1000 hp_1231 hin_1229 ?_
 clear hS
 intro w fp_1233 h_1232 hS
 refine WL.nx (WC.region (WL.mv rfl rfl ?_))
 obtain ⟨hi_1235, hV⟩ := hV
 refine WL.run hS rfl rfl rfl (ex_add rfl rfl hi_1235) (WL.ma rfl rfl (WL.nil (WQ.out nofun ?_)))
 exact WQ.there fun a ha => ⟨(s_998.set k_1001.toNat (ix s_998 (k_423 + k2_1003))), (k_1001 + (1 : Int)), fp_1233, hV, h_1232, hi_1235, hS, ha.of_sub ⟨rfl, rfl, rfl, rfl, rfl, trivial⟩⟩
 intro hc_1236
 replace hV := hV.2 hc_1236
 refine WC.skip (WQ.out nofun ?_)
 exact WQ.there fun a ha => ⟨s_998, k_1001, fp_999, hV, h_1000, hr_1002, hS, ha.of_sub ⟨rfl, rfl, rfl, rfl, rfl, trivial⟩⟩
 intro hc_1249
 replace hV := hV.2 (of_decide_eq_false hc_1249)
 refine WC.exit (WQ.pass nofun (WQ.pass nofun (WQ.hit (WQ.next (WC.sr (WL.mv rfl rfl (WL.mv rfl rfl ?_)))))))
 obtain ⟨hb_1239, hV⟩ := hV
 refine WL.runx hS rfl rfl rfl (ex_slice_al Tryz.underlying42 Tryz.sizeOf25 rfl rfl h_1000 hb_1239) ?_
 intro u_1240 hu_1241
 refine WL.clear_al (c := cV) (z0 := Val.nil) Tryz.underlying42 Tryz.zeroValue25 (cV_mk IsW.nil) rfl rfl hS h_1000 hu_1241 ?_
 clear hS
 intro w fp_1243 h_1242 hS
 refine WL.nx (WC.sub (m := [(0, v_2), (5, i6 k_1001)]) ⟨rfl, rfl, trivial⟩ (WC.sr (WL.mv rfl rfl (WL.mv rfl rfl ?_))))
 obtain ⟨hb_1244, hV⟩ := hV
 refine WL.runx hS rfl rfl rfl (ex_slice_hi_own2 Tryz.underlying42 Tryz.sizeOf25 rfl rfl h_1242 hb_1244) ?_
 rintro v_1245 ⟨h_1246, ht_1247⟩
 refine WL.ma rfl rfl (WL.nx (WC.ret (WQ.out nofun (WQ.pass nofun (WQ.pass nofun (WQ.out nofun (WQ.pass nofun ?_)))))))
 exact leave1 rfl rfl (⟨((s_998.take k_1001.toNat ++ List.replicate (s_998.length - k_1001.toNat) Val.nil).take k_1001.toNat), v_1245, fp_1243, hV, rfl, ht_1247, hS⟩)
 intro hc_1253
 replace hV := hV.2 hc_1253
 refine WC.skip (WQ.out nofun (WQ.next (WC.region (WL.mv rfl rfl ?_))))
 obtain ⟨hi_1252, hV⟩ := hV
 refine WL.run hS rfl rfl rfl (ex_add rfl rfl hi_1252) (WL.ma rfl rfl (WL.nil ?_))
 exact WQ.there fun a ha => ⟨(k_423 + (1 : Int)), ⟨(k_423 + (1 : Int)), rfl, hV.1, hi_1252, hS, ha.of_sub ⟨rfl, rfl, rfl, trivial⟩⟩, hV.2⟩
 intro hc_1254
 replace hV := hV.2 (of_decide_eq_false hc_1254)
 refine WC.exit (WQ.pass nofun (WQ.pass nofun (WQ.hit (WQ.next (WC.sr (WL.mv rfl rfl (WL.ma rfl rfl ?_)))))))
 refine WL.nx (WC.ret ?_)
 exact leave1 rfl rfl (⟨s_1, v_2, fp_4, hV, rfl, h_3, hS⟩)

theorem S_SetOf {w0 : World} {H : View} {L : Seg} {w : World} {v_2 : Value} {l_1 : List (Val)} {fp_4 : Seg} {Q : Val → Prop} (h_3 : OwnSl H cV 25 v_2 l_1 fp_4) (hS : St w0 H (fp_4 ++ L) w) (hV : V_SetOf l_1 Q) :
 Calls Tryz.prog 60 #[v_2] w fun e w' => ∃ (r1 : Val) (u1 : Value) (H' : View), Q r1 ∧ e = .returned (.agg #[u1]) ∧ View.le H H' ∧ IsW H' u1 r1 ∧ St w0 H' (L) w' := by
 unfold V_SetOf at hV
 refine enter Tryz.func60 rfl Tryz.ntmps60 rfl (lk_args_cons (d := 0) (v := v_2) rfl (lk_args_nil _)) (WC.sr (WL.alloc (arr := #[.nilIface]) rfl Tryz.zeroValue25 rfl hS ?_))
 clear hS
 intro b_6 w hS
 refine WL.nx (WC.sr (WL.mv rfl rfl ?_))
 replace hS := hS.f2
 refine WL.call rfl rfl rfl (enters0 (vs := [v_2, .func (.func 19) #[] #[]]) Tryz.call96 ⟨rfl, rfl, trivial⟩) (S_SortV h_3 hS hV) ?_
 clear hV hS
 rintro _ w ⟨c_8, fp_9, hV, rfl, h_10, hS⟩
 refine ⟨_, rfl, ?_⟩
 refine WL.nx (WC.sr (WL.mv rfl rfl (WL.call rfl rfl rfl (enters0 (vs := [v_2, .func (.func 98) #[] #[]]) Tryz.call97 ⟨rfl, rfl, trivial⟩) (S_CompactV h_10 hS hV) ?_)))
 clear hV hS
 rintro _ w ⟨r_12, v_13, fp_14, hV, rfl, h_15, hS⟩
 refine ⟨_, rfl, ?_⟩
 refine WL.ma rfl rfl (WL.nx (WC.sr (WL.mv rfl rfl ?_)))
 obtain ⟨H_18, le_19, h_20, hS⟩ : ∃ K, View.le H K ∧ IsSl K cV v_13 r_12 ∧ St w0 K ([(b_6, oc #[.nilIface] 25)] ++ L) w := ⟨_, hS.put_le, h_15.share hS.put_le, hS.freeze⟩
 refine WL.call rfl rfl rfl (enters0 (vs := [v_13]) Tryz.call99 ⟨rfl, trivial⟩) (S_ascSet h_20 hS hV) ?_
 clear hV hS
 rintro _ w ⟨r_21, u_22, H_24, hV, rfl, le_25, h_23, hS⟩
 refine ⟨_, rfl, ?_⟩
 refine WL.store_box (pre := []) (old := [.nilIface]) (rst := []) (cs := [u_22]) (arr' := #[u_22]) Tryz.sizeOf25 rfl rfl rfl ⟨(IsW.one h_23), trivial⟩ rfl rfl rfl rfl hS ?_
 clear hS
 intro w hS
 refine WL.nx (WC.ret ?_)
 have hl_26 := load_own_agg (P := Tryz.prog) (cs := [u_22]) Tryz.isAgg25 Tryz.sizeOf25 hS rfl
 replace hS := hS.drop
 exact leavec1 (il) rfl rfl hl_26 (⟨r_21, u_22, H_24, hV, rfl, (((View.le.refl _).trans le_19).trans le_25), h_23, hS⟩)

theorem S_FunOf1 {w0 : World} {H : View} {L : Seg} {w : World} {i_1 : Int} {k_3 : Int} {b_6 : Nat} {v_9 : Value} {c_5_8 : List (Val)} {Q : Int → Prop} (hr_2 : I64 i_1) (hr_4 : I64 k_3) (h_10 : IsSl H cV v_9 c_5_8) (hS : St w0 H ([(b_6, oc #[v_9] 42)] ++ L) w) (hV : V_FunOf1 i_1 k_3 c_5_8 Q) :
 Calls Tryz.prog 102 #[i6 i_1, i6 k_3, (pq b_6)] w fun e w' => ∃ (r1 : Int), Q r1 ∧ e = .returned (i6 r1) ∧ I64 r1 ∧ St w0 H ([(b_6, oc #[v_9] 42)] ++ L) w' := by
 unfold V_FunOf1 at hV
 refine enter Tryz.func102 rfl Tryz.ntmps102 rfl (lk_args_cons (d := 0) (v := i6 i_1) rfl (lk_args_cons (d := 1) (v := i6 k_3) rfl (lk_args_cons (d := 2) (v := (pq b_6)) rfl (lk_args_nil _)))) (WC.sr (WL.ma rfl rfl (WL.nx (WC.seq (WC.drawn (σ := [0, 1, 2, 3, 4, 5, 6, 7, 8, 9]) (C := St w0 H ([(b_6, oc #[v_9] 42)] ++ L)) [[], [], [0, 1], [0, 1, 2], [], [], [4, 5], [4, 5, 6], [0, 1, 2, 3, 4, 5, 6, 7], [0, 1, 2, 3, 4, 5, 6, 7, 8]] [8] Tryz.mixed (by kernel_rfl) (hS.drawn _) ?_)))))
 clear hS w
 refine Wd.runb (off := 0) rfl rfl rfl rfl (fun _ _ _ h => ex_load_box Tryz.isAgg42 rfl h) rfl (fun _ h => h) fun q_12 hq_11 => (Wd.run rfl rfl rfl rfl (fun _ => ex_move rfl) fun q_14 hq_13 => ?_)
 obtain ⟨hin_17, hV⟩ := hV
 refine Wd.runx rfl rfl rfl rfl (exAll (ex_index Tryz.underlying42 Tryz.sizeOf25 rfl rfl h_10 hin_17)) ?_
 intro p_18 hp_19
 intro q_16 hq_15
 refine Wd.runs (fp := ([] : Seg)) (L := [(b_6, oc #[v_9] 42)] ++ L) rfl rfl rfl rfl (ex_load_agg_s Tryz.isAgg25 Tryz.sizeOf25 rfl hp_19) (fun _ h => h) ?_
 rintro u_22 ⟨_, rfl, hu⟩
 obtain ⟨u_23, rfl, h_24⟩ := cV_one hu
 intro q_21 hq_20
 refine Wd.runb (off := 0) rfl rfl rfl rfl (fun _ _ _ h => ex_load_box Tryz.isAgg42 rfl h) rfl (fun _ h => h) fun q_26 hq_25 => (Wd.run rfl rfl rfl rfl (fun _ => ex_move rfl) fun q_28 hq_27 => ?_)
 obtain ⟨hin_31, hV⟩ := hV
 refine Wd.runx rfl rfl rfl rfl (exAll (ex_index Tryz.underlying42 Tryz.sizeOf25 rfl rfl h_10 hin_31)) ?_
 intro p_32 hp_33
 intro q_30 hq_29
 refine Wd.runs (fp := ([] : Seg)) (L := [(b_6, oc #[v_9] 42)] ++ L) rfl rfl rfl rfl (ex_load_agg_s Tryz.isAgg25 Tryz.sizeOf25 rfl hp_33) (fun _ h => h) ?_
 rintro u_36 ⟨_, rfl, hu⟩
 obtain ⟨u_37, rfl, h_38⟩ := cV_one hu
 intro q_35 hq_34
 refine Wd.turn rfl rfl rfl fun w hS => ?_
 obtain ⟨mf, hV⟩ := hV
 refine WL.call rfl rfl rfl (enters0 (vs := [.agg #[u_23], .agg #[u_37]]) Tryz.call19 ⟨rfl, rfl, trivial⟩) (S_Compare mf h_24 h_38 hS hV) ?_
 clear hV hS
 rintro _ w ⟨r_39, hV, rfl, hr_40, hS⟩
 refine ⟨_, rfl, ?_⟩
 refine WL.nil (DQ.mk2 (C' := St w0 H ([(b_6, oc #[v_9] 42)] ++ L)) hS ⟨il, il, il, il, il, il, il, il, trivial⟩ ?_)
 clear hS w
 refine Wd.run rfl rfl rfl rfl (fun _ => ex_assign rfl) fun q_43 hq_42 => (Wd.nil fun w hS => (WQ.next (WC.sub (m := [(5, i6 r_39)]) ⟨rfl, trivial⟩ (WC.ret ?_))))
 exact leave1 rfl rfl (⟨r_39, hV, rfl, hr_40, hS⟩)

theorem S_insSF {w0 : World} {H : View} {L : Seg} {w : World} {v_2 : Value} {data_1 : LI} {fp_4 : Seg} {a_6 : Int} {b_8 : Int} {b_12 : Nat} {v_15 : Value} {c_11_14 : List (Val)} {Q : LI → Prop} (h_3 : OwnSl H (cInt .i64) 3 v_2 data_1 fp_4) (hr_7 : I64 a_6) (hr_9 : I64 b_8) (h_16 : IsSl H cV v_15 c_11_14) (hS : St w0 H (fp_4 ++ ([(b_12, oc #[v_15] 42)] ++ L)) w) (hV : V_insSF data_1 a_6 b_8 c_11_14 Q) :
 Calls Tryz.prog 220 #[v_2, i6 a_6, i6 b_8, .func (.func 102) #[] #[(pq b_12)]] w fun e w' => ∃ (r1 : LI) (fp1 : Seg), Q r1 ∧ e = .returned (.tuple #[]) ∧ OwnSl H (cInt .i64) 3 v_2 r1 fp1 ∧ St w0 H (fp1 ++ ([(b_12, oc #[v_15] 42)] ++ L)) w' := by
 unfold V_insSF at hV
 refine enter Tryz.func220 rfl Tryz.ntmps220 rfl (lk_args_cons (d := 0) (v := v_2) rfl (lk_args_cons (d := 1) (v := i6 a_6) rfl (lk_args_cons (d := 2) (v := i6 b_8) rfl (lk_args_cons (d := 3) (v := .func (.func 102) #[] #[(pq b_12)]) rfl (lk_args_nil _))))) (WC.sr (WL.mv rfl rfl ?_))
 obtain ⟨hi_18, hV⟩ := hV
 refine WL.run hS rfl rfl rfl (ex_add rfl rfl hi_18) (WL.ma rfl rfl (WL.nx (WC.block ?_)))
 replace hS := hS.f2.f2
 obtain ⟨I_794, mu_795, hI_1182, hV⟩ := hV
 refine WC.loop (σ := LI × Int) (fun s a w => ∃ (data_404 : LI) (i_407 : Int) (fp_405 : Seg), s = (data_404, i_407) ∧ I_794 (data_404, i_407) ∧ OwnSl H (cInt .i64) 3 v_2 data_404 fp_405 ∧ I64 i_407 ∧ St w0 H (fp_405 ++ ([(b_12, oc #[v_15] 42)] ++ L)) w ∧ Fr 53 [(0, v_2), (1, i6 a_6), (2, i6 b_8), (3, .func (.func 102) #[] #[(pq b_12)]), (8, i6 i_407)] a) mu_795 (data_1, (a_6 + (1 : Int))) ?_ ?_
 exact fun a ha => ⟨data_1, (a_6 + (1 : Int)), fp_4, rfl, hI_1182, h_3, hi_18, hS, ha.of_sub ⟨rfl, rfl, rfl, rfl, rfl, trivial⟩⟩
 clear hS hI_1182
 rintro _ a w ⟨data_404, i_407, fp_405, rfl, hI, h_406, hr_408, hS, ha⟩
 refine in_frame ha ?_
 clear ha
 replace hV := hV _ hI
 clear hI
 refine WC.seq (WC.sr (WL.mv rfl rfl (WL.mv rfl rfl (WL.run hS rfl rfl rfl (ex_lss rfl rfl) (WL.nx ?_)))))
 refine WC.cond rfl ?_ ?_
 intro hc_1181
 replace hV := hV.1 (of_decide_eq_true hc_1181)
 refine WC.skip (WQ.next (WC.seq (WC.block (WC.sr (WL.mv rfl rfl (WL.ma rfl rfl (WL.nx ?_)))))))
 refine WC.block ?_
 replace hS := hS.f2.f2
 obtain ⟨I_1051, mu_1052, hI_1180, hV⟩ := hV
 refine WC.loop (σ := LI × Int) (fun s a w => ∃ (data_922 : LI) (j_925 : Int) (fp_923 : Seg), s = (data_922, j_925) ∧ I_1051 (data_922, j_925) ∧ OwnSl H (cInt .i64) 3 v_2 data_922 fp_923 ∧ I64 j_925 ∧ St w0 H (fp_923 ++ ([(b_12, oc #[v_15] 42)] ++ L)) w ∧ Fr 53 [(0, v_2), (1, i6 a_6), (2, i6 b_8), (3, .func (.func 102) #[] #[(pq b_12)]), (8, i6 i_407), (9, i6 j_925)] a) mu_1052 (data_404, i_407) ?_ ?_
 exact fun a ha => ⟨data_404, i_407, fp_405, rfl, hI_1180, h_406, hr_408, hS, ha.of_sub ⟨rfl, rfl, rfl, rfl, rfl, rfl, trivial⟩⟩
 clear hS hI_1180
 rintro _ a w ⟨data_922, j_925, fp_923, rfl, hI, h_924, hr_926, hS, ha⟩
 refine in_frame ha ?_
 clear ha
 replace hV := hV _ hI
 clear hI
 refine WC.seq ?_
 obtain ⟨J_1083, hJ_1084, hV⟩ := hV
 refine WC.meet (fun a w => ∃ (x_1082 : Bool), J_1083 x_1082 ∧ St w0 H (fp_923 ++ ([(b_12, oc #[v_15] 42)] ++ L)) w ∧ Fr 53 [(0, v_2), (1, i6 a_6), (2, i6 b_8), (3, .func (.func 102) #[] #[(pq b_12)]), (8, i6 i_407), (9, i6 j_925), (34, .bool x_1082)] a) ?_ ?_
 rintro a w ⟨x_1082, hI, hS, ha⟩
 refine in_frame ha ?_
 clear ha hV
 have hV := hJ_1084 _ hI
 clear hI hJ_1084
 refine WC.cond rfl ?_ ?_
 intro hc_1179
 replace hV := hV.1 hc_1179
 refine WC.skip (WQ.next (WC.seq (WC.block (WC.drawn (σ := [0, 1, 2, 3, 4, 5, 6, 7, 8, 9, 10, 11, 12, 13, 14, 15, 16, 17]) (C := St w0 H (fp_923 ++ ([(b_12, oc #[v_15] 42)] ++ L))) [[], [], [], [], [3], [], [], [6], [5, 6, 7], [5, 6, 7, 8], [], [], [10, 11], [10, 11, 12], [0, 1, 5, 6, 7, 8, 9, 10, 11, 12, 13], [0, 1, 5, 6, 7, 8, 9, 10, 11, 12, 13, 14], [0, 1, 2, 3, 4, 5, 6, 7, 8, 9, 10, 11, 12, 13, 14, 15], [0, 1, 2, 3, 4, 5, 6, 7, 8, 9, 10, 11, 12, 13, 14, 15, 16]] [15, 17] Tryz.mixed (by kernel_rfl) (hS.drawn _) ?_))))
 clear hS w
 refine Wd.run rfl rfl rfl rfl (fun _ => ex_move rfl) fun q_1114 hq_1113 => (Wd.run rfl rfl rfl rfl (fun _ => ex_move rfl) fun q_1116 hq_1115 => (Wd.run rfl rfl rfl rfl (fun _ => ex_move rfl) fun q_1118 hq_1117 => (Wd.run rfl rfl rfl rfl (fun _ => ex_move rfl) fun q_1120 hq_1119 => ?_)))
 obtain ⟨hi_1124, hV⟩ := hV
 refine Wd.run rfl rfl rfl rfl (fun _ => ex_sub rfl rfl hi_1124) fun q_1122 hq_1121 => (Wd.run rfl rfl rfl rfl (fun _ => ex_move rfl) fun q_1126 hq_1125 => (Wd.run rfl rfl rfl rfl (fun _ => ex_move rfl) fun q_1128 hq_1127 => ?_))
 obtain ⟨hi_1132, hV⟩ := hV
 refine Wd.run rfl rfl rfl rfl (fun _ => ex_sub rfl rfl hi_1132) fun q_1130 hq_1129 => ?_
 obtain ⟨hin_1135, hV⟩ := hV
 refine Wd.runx rfl rfl rfl rfl (exAll (ex_index_own Tryz.underlying130 Tryz.sizeOf3 rfl rfl h_924 hin_1135)) ?_
 intro p_1136 hp_1137
 intro q_1134 hq_1133
 refine Wd.runs (fp := fp_923) rfl rfl rfl rfl (ex_load_own_s Tryz.isAgg3 rfl rfl h_924 hp_1137 hin_1135) (fun _ h => h) ?_
 intro u_1142 hu_1143
 obtain ⟨rfl, hr_1144⟩ := cInt_rep hu_1143
 replace hr_1144 := has_I64 hr_1144
 replace hV := hV hr_1144
 intro q_1139 hq_1138
 refine Wd.run rfl rfl rfl rfl (fun _ => ex_move rfl) fun q_1146 hq_1145 => (Wd.run rfl rfl rfl rfl (fun _ => ex_move rfl) fun q_1148 hq_1147 => ?_)
 obtain ⟨hin_1151, hV⟩ := hV
 refine Wd.runx rfl rfl rfl rfl (exAll (ex_index_own Tryz.underlying130 Tryz.sizeOf3 rfl rfl h_924 hin_1151)) ?_
 intro p_1152 hp_1153
 intro q_1150 hq_1149
 refine Wd.runs (fp := fp_923) rfl rfl rfl rfl (ex_load_own_s Tryz.isAgg3 rfl rfl h_924 hp_1153 hin_1151) (fun _ h => h) ?_
 intro u_1158 hu_1159
 obtain ⟨rfl, hr_1160⟩ := cInt_rep hu_1159
 replace hr_1160 := has_I64 hr_1160
 replace hV := hV hr_1160
 intro q_1155 hq_1154
 obtain ⟨hin_1163, hV⟩ := hV
 refine Wd.runx rfl rfl rfl rfl (exAll (ex_index_own Tryz.underlying130 Tryz.sizeOf3 rfl rfl h_924 hin_1163)) ?_
 intro p_1164 hp_1165
 intro q_1162 hq_1161
 refine Wd.turn rfl rfl rfl fun w hS => (WL.store_own Tryz.sizeOf3 rfl rfl rfl (cInt_mk (I64.has hr_1144)) hS h_924 hp_1165 hin_1163 ?_)
 clear hS
 intro w fp_1167 h_1166 hS
 refine WL.nil (DQ.mk2 (C' := St w0 H (fp_1167 ++ ([(b_12, oc #[v_15] 42)] ++ L))) hS ⟨il, il, il, il, il, il, il, il, il, il, .inr (hq_1121 _), .inr (hq_1119 _), .inr (hq_1117 _), il, il, trivial⟩ ?_)
 clear hS w
 obtain ⟨hin_1170, hV⟩ := hV
 refine Wd.runx rfl rfl rfl rfl (exAll (ex_index_own Tryz.underlying130 Tryz.sizeOf3 rfl rfl h_1166 hin_1170)) ?_
 intro p_1171 hp_1172
 intro q_1169 hq_1168
 refine Wd.turn rfl rfl rfl fun w hS => (WL.store_own Tryz.sizeOf3 rfl rfl rfl (cInt_mk (I64.has hr_1160)) hS h_1166 hp_1172 hin_1170 ?_)
 clear hS
 intro w fp_1174 h_1173 hS
 refine WL.nil (DQ.mk2 (C' := St w0 H (fp_1174 ++ ([(b_12, oc #[v_15] 42)] ++ L))) hS ⟨il, il, il, il, il, il, il, il, il, il, il, il, il, il, il, il, trivial⟩ ?_)
 clear hS w
 refine Wd.nil fun w hS => (WQ.out nofun (WQ.next (WC.sub (m := [(0, v_2), (1, i6 a_6), (2, i6 b_8), (3, .func (.func 102) #[] #[(pq b_12)]), (8, i6 i_407), (9, i6 j_925)]) ⟨rfl, rfl, rfl, rfl, rfl, rfl, trivial⟩ (WC.region (WL.mv rfl rfl ?_)))))
 obtain ⟨hi_1176, hV⟩ := hV
 refine WL.run hS rfl rfl rfl (ex_sub rfl rfl hi_1176) (WL.ma rfl rfl (WL.nil ?_))
 replace hS := hS.f2.f2
 exact WQ.there fun a ha => ⟨(((data_922.set j_925.toNat (ix data_922 (j_925 - (1 : Int)))).set (j_925 - (1 : Int)).toNat (ix data_922 j_925)), (j_925 - (1 : Int))), ⟨((data_922.set j_925.toNat (ix data_922 (j_925 - (1 : Int)))).set (j_925 - (1 : Int)).toNat (ix data_922 j_925)), (j_925 - (1 : Int)), fp_1174, rfl, hV.1, h_1173, hi_1176, hS, ha.of_sub ⟨rfl, rfl, rfl, rfl, rfl, rfl, trivial⟩⟩, hV.2⟩
 intro hc_1179
 replace hV := hV.2 hc_1179
 refine WC.exit (WQ.pass nofun (WQ.pass nofun (WQ.hit (WQ.out nofun (WQ.next (WC.region (WL.mv rfl rfl ?_)))))))
 obtain ⟨hi_1178, hV⟩ := hV
 refine WL.run hS rfl rfl rfl (ex_add rfl rfl hi_1178) (WL.ma rfl rfl (WL.nil ?_))
 replace hS := hS.f2.f2
 exact WQ.there fun a ha => ⟨(data_922, (i_407 + (1 : Int))), ⟨data_922, (i_407 + (1 : Int)), fp_923, rfl, hV.1, h_924, hi_1178, hS, ha.of_sub ⟨rfl, rfl, rfl, rfl, rfl, trivial⟩⟩, hV.2⟩
 clear hJ_1084
 replace hS := hS.f2.f2
 have hL_1085 := hS.freeze
 have le_1086 := hS.put_le
 refine WC.quiet (C := St w0 (H.put fp_923) ([(b_12, oc #[v_15] 42)] ++ L)) Tryz.mixed (by kernel_rfl) (hL_1085.drawn _) ?_
 have hS0 := hS
 clear hS
 refine Wq.run rfl rfl rfl (ex_move rfl) (Wq.run rfl rfl rfl (ex_move rfl) (Wq.run rfl rfl rfl (ex_gtr rfl rfl) (Wq.run rfl rfl rfl (ex_move rfl) ?_)))
 rcases Bool.eq_false_or_eq_true (decide (a_6 < j_925)) with hg_1088 | hg_1088
 replace hV := hV.1 (of_decide_eq_true hg_1088)
 refine Wq.unguard rfl rfl hg_1088 (Wq.run rfl rfl rfl (ex_move rfl) (Wq.unguard rfl rfl hg_1088 (Wq.run rfl rfl rfl (ex_move rfl) (Wq.unguard rfl rfl hg_1088 (Wq.run rfl rfl rfl (ex_move rfl) (Wq.unguard rfl rfl hg_1088 ?_))))))
 obtain ⟨hin_1089, hV⟩ := hV
 refine Wq.runx rfl rfl rfl (ex_index Tryz.underlying130 Tryz.sizeOf3 rfl rfl (h_924.share le_1086) hin_1089) ?_
 intro p_1090 hp_1091
 refine Wq.unguard rfl rfl hg_1088 (Wq.runx rfl rfl rfl (ex_load Tryz.isAgg3 rfl rfl hp_1091) ?_)
 intro u_1094 hu_1095
 obtain ⟨rfl, hr_1096⟩ := cInt_rep hu_1095
 replace hr_1096 := has_I64 hr_1096
 replace hV := hV hr_1096
 refine Wq.unguard rfl rfl hg_1088 (Wq.run rfl rfl rfl (ex_move rfl) (Wq.unguard rfl rfl hg_1088 (Wq.run rfl rfl rfl (ex_move rfl) (Wq.unguard rfl rfl hg_1088 ?_))))
 obtain ⟨hi_1098, hV⟩ := hV
 refine Wq.run rfl rfl rfl (ex_sub rfl rfl hi_1098) (Wq.unguard rfl rfl hg_1088 ?_)
 obtain ⟨hin_1099, hV⟩ := hV
 refine Wq.runx rfl rfl rfl (ex_index Tryz.underlying130 Tryz.sizeOf3 rfl rfl (h_924.share le_1086) hin_1099) ?_
 intro p_1100 hp_1101
 refine Wq.unguard rfl rfl hg_1088 (Wq.runx rfl rfl rfl (ex_load Tryz.isAgg3 rfl rfl hp_1101) ?_)
 intro u_1104 hu_1105
 obtain ⟨rfl, hr_1106⟩ := cInt_rep hu_1105
 replace hr_1106 := has_I64 hr_1106
 replace hV := hV hr_1106
 refine Wq.unguard rfl rfl hg_1088 ?_
 obtain ⟨r_1107, h_1109, hr_1108, hV⟩ := hV
 refine Wq.call (v := i6 r_1107) rfl rfl rfl (fun w => enters_c (vs := [i6 (ix data_922 j_925), i6 (ix data_922 (j_925 - (1 : Int)))]) (caps := [(pq b_12)]) rfl Tryz.call102 ⟨rfl, rfl, trivial⟩) (fun w hS => (S_FunOf1 (Q := fun y0 => y0 = r_1107) hr_1096 hr_1106 (h_16.mono le_1086) hS h_1109).mono ?_) ?_
 rintro e w' ⟨_, rfl, he, _, hS⟩
 exact ⟨he, hS⟩
 refine Wq.unguard rfl rfl hg_1088 (Wq.run rfl rfl rfl (ex_lss rfl rfl) (Wq.run rfl rfl rfl (ex_pick_t rfl hg_1088 rfl) (Wq.nil fun w hS => ?_)))
 have hB_1111 := hS0.back hS
 clear hS
 have hS := hB_1111
 clear hS0
 replace hS := hS.f2.f2
 exact WQ.there fun a ha => ⟨decide (r_1107 < (0 : Int)), hV, hS, ha.of_sub ⟨rfl, rfl, rfl, rfl, rfl, rfl, rfl, trivial⟩⟩
 replace hV := hV.2 (of_decide_eq_false hg_1088)
 refine Wq.skip_g rfl rfl rfl hg_1088 rfl rfl (Wq.skip_g rfl rfl rfl hg_1088 rfl rfl (Wq.skip_g rfl rfl rfl hg_1088 rfl rfl (Wq.skip_g rfl rfl rfl hg_1088 rfl rfl (Wq.skip_g rfl rfl rfl hg_1088 rfl rfl (Wq.skip_g rfl rfl rfl hg_1088 rfl rfl (Wq.skip_g rfl rfl rfl hg_1088 rfl rfl (Wq.skip_g rfl rfl rfl hg_1088 rfl rfl ?_)))))))
 refine Wq.skip_g rfl rfl rfl hg_1088 rfl rfl (Wq.skip_g rfl rfl rfl hg_1088 rfl rfl (Wq.skip_g rfl rfl rfl hg_1088 rfl rfl (Wq.skip_g rfl rfl rfl hg_1088 rfl rfl (Wq.run rfl rfl rfl (ex_pick_f rfl hg_1088 rfl) (Wq.nil fun w hS => ?_)))))
 have hB_1112 := hS0.back hS
 clear hS
 have hS := hB_1112
 clear hS0
 replace hS := hS.f2.f2
 exact WQ.there fun a ha => ⟨false, hV, hS, ha.of_sub ⟨rfl, rfl, rfl, rfl, rfl, rfl, rfl, trivial⟩⟩
 intro hc_1181
 replace hV := hV.2 (of_decide_eq_false hc_1181)
 refine WC.exit (WQ.pass nofun (WQ.pass nofun (WQ.hit ?_)))
 replace hS := hS.f2.f2
 exact leave0 (.inr rfl) rfl (⟨data_404, fp_405, hV, rfl, h_406, hS⟩)

theorem S_swapSF {w0 : World} {H : View} {L : Seg} {w : World} {v_2 : Value} {data_1 : LI} {fp_4 : Seg} {a_6 : Int} {b_8 : Int} {n_10 : Int} {b_14 : Nat} {v_17 : Value} {c_13_16 : List (Val)} {Q : LI → Prop} (h_3 : OwnSl H (cInt .i64) 3 v_2 data_1 fp_4) (hr_7 : I64 a_6) (hr_9 : I64 b_8) (hr_11 : I64 n_10) (h_18 : IsSl H cV v_17 c_13_16) (hS : St w0 H (fp_4 ++ ([(b_14, oc #[v_17] 42)] ++ L)) w) (hV : V_swapSF data_1 a_6 b_8 n_10 c_13_16 Q) :
 Calls Tryz.prog 238 #[v_2, i6 a_6, i6 b_8, i6 n_10, .func (.func 102) #[] #[(pq b_14)]] w fun e w' => ∃ (r1 : LI) (fp1 : Seg), Q r1 ∧ e = .returned (.tuple #[]) ∧ OwnSl H (cInt .i64) 3 v_2 r1 fp1 ∧ St w0 H (fp1 ++ ([(b_14, oc #[v_17] 42)] ++ L)) w' := by
 unfold V_swapSF at hV
 refine enter Tryz.func238 rfl Tryz.ntmps238 rfl (lk_args_cons (d := 0) (v := v_2) rfl (lk_args_cons (d := 1) (v := i6 a_6) rfl (lk_args_cons (d := 2) (v := i6 b_8) rfl (lk_args_cons (d := 3) (v := i6 n_10) rfl (lk_args_cons (d := 4) (v := .func (.func 102) #[] #[(pq b_14)]) rfl (lk_args_nil _)))))) (WC.sr (WL.ma rfl rfl (WL.nx (WC.block ?_))))
 replace hS := hS.f2.f2
 obtain ⟨I_188, mu_189, hI_273, hV⟩ := hV
 refine WC.loop (σ := LI × Int) (fun s a w => ∃ (data_101 : LI) (i_104 : Int) (fp_102 : Seg), s = (data_101, i_104) ∧ I_188 (data_101, i_104) ∧ OwnSl H (cInt .i64) 3 v_2 data_101 fp_102 ∧ I64 i_104 ∧ St w0 H (fp_102 ++ ([(b_14, oc #[v_17] 42)] ++ L)) w ∧ Fr 38 [(0, v_2), (1, i6 a_6), (2, i6 b_8), (3, i6 n_10), (10, i6 i_104)] a) mu_189 (data_1, (0 : Int)) ?_ ?_
 exact fun a ha => ⟨data_1, (0 : Int), fp_4, rfl, hI_273, h_3, (show I64 (0 : Int) by unfold I64; omega), hS, ha.of_sub ⟨rfl, rfl, rfl, rfl, rfl, trivial⟩⟩
 clear hS hI_273
 rintro _ a w ⟨data_101, i_104, fp_102, rfl, hI, h_103, hr_105, hS, ha⟩
 refine in_frame ha ?_
 clear ha
 replace hV := hV _ hI
 clear hI
 refine WC.seq (WC.sr (WL.mv rfl rfl (WL.mv rfl rfl (WL.run hS rfl rfl rfl (ex_lss rfl rfl) (WL.nx ?_)))))
 refine WC.cond rfl ?_ ?_
 intro hc_272
 replace hV := hV.1 (of_decide_eq_true hc_272)
 refine WC.skip (WQ.next (WC.seq (WC.block (WC.drawn (σ := [0, 1, 2, 3, 4, 5, 6, 7, 8, 9, 10, 11, 12, 13, 14, 15, 16, 17, 18, 19, 20, 21, 22, 23]) (C := St w0 H (fp_102 ++ ([(b_14, oc #[v_17] 42)] ++ L))) [[], [], [], [1, 2], [], [], [], [5, 6], [], [], [], [9, 10], [8, 9, 10, 11], [8, 9, 10, 11, 12], [], [], [], [15, 16], [14, 15, 16, 17], [14, 15, 16, 17, 18], [0, 1, 2, 3, 8, 9, 10, 11, 12, 13, 14, 15, 16, 17, 18, 19], [0, 1, 2, 3, 8, 9, 10, 11, 12, 13, 14, 15, 16, 17, 18, 19, 20], [0, 1, 2, 3, 4, 5, 6, 7, 8, 9, 10, 11, 12, 13, 14, 15, 16, 17, 18, 19, 20, 21], [0, 1, 2, 3, 4, 5, 6, 7, 8, 9, 10, 11, 12, 13, 14, 15, 16, 17, 18, 19, 20, 21, 22]] [21, 23] Tryz.mixed (by kernel_rfl) (hS.drawn _) ?_))))
 clear hS w
 refine Wd.run rfl rfl rfl rfl (fun _ => ex_move rfl) fun q_193 hq_192 => (Wd.run rfl rfl rfl rfl (fun _ => ex_move rfl) fun q_195 hq_194 => (Wd.run rfl rfl rfl rfl (fun _ => ex_move rfl) fun q_197 hq_196 => ?_))
 obtain ⟨hi_201, hV⟩ := hV
 refine Wd.run rfl rfl rfl rfl (fun _ => ex_add rfl rfl hi_201) fun q_199 hq_198 => (Wd.run rfl rfl rfl rfl (fun _ => ex_move rfl) fun q_203 hq_202 => (Wd.run rfl rfl rfl rfl (fun _ => ex_move rfl) fun q_205 hq_204 => (Wd.run rfl rfl rfl rfl (fun _ => ex_move rfl) fun q_207 hq_206 => ?_)))
 obtain ⟨hi_211, hV⟩ := hV
 refine Wd.run rfl rfl rfl rfl (fun _ => ex_add rfl rfl hi_211) fun q_209 hq_208 => (Wd.run rfl rfl rfl rfl (fun _ => ex_move rfl) fun q_213 hq_212 => (Wd.run rfl rfl rfl rfl (fun _ => ex_move rfl) fun q_215 hq_214 => (Wd.run rfl rfl rfl rfl (fun _ => ex_move rfl) fun q_217 hq_216 => ?_)))
 obtain ⟨hi_221, hV⟩ := hV
 refine Wd.run rfl rfl rfl rfl (fun _ => ex_add rfl rfl hi_221) fun q_219 hq_218 => ?_
 obtain ⟨hin_224, hV⟩ := hV
 refine Wd.runx rfl rfl rfl rfl (exAll (ex_index_own Tryz.underlying130 Tryz.sizeOf3 rfl rfl h_103 hin_224)) ?_
 intro p_225 hp_226
 intro q_223 hq_222
 refine Wd.runs (fp := fp_102) rfl rfl rfl rfl (ex_load_own_s Tryz.isAgg3 rfl rfl h_103 hp_226 hin_224) (fun _ h => h) ?_
 intro u_231 hu_232
 obtain ⟨rfl, hr_233⟩ := cInt_rep hu_232
 replace hr_233 := has_I64 hr_233
 replace hV := hV hr_233
 intro q_228 hq_227
 refine Wd.run rfl rfl rfl rfl (fun _ => ex_move rfl) fun q_235 hq_234 => (Wd.run rfl rfl rfl rfl (fun _ => ex_move rfl) fun q_237 hq_236 => (Wd.run rfl rfl rfl rfl (fun _ => ex_move rfl) fun q_239 hq_238 => ?_))
 obtain ⟨hi_243, hV⟩ := hV
 refine Wd.run rfl rfl rfl rfl (fun _ => ex_add rfl rfl hi_243) fun q_241 hq_240 => ?_
 obtain ⟨hin_246, hV⟩ := hV
 refine Wd.runx rfl rfl rfl rfl (exAll (ex_index_own Tryz.underlying130 Tryz.sizeOf3 rfl rfl h_103 hin_246)) ?_
 intro p_247 hp_248
 intro q_245 hq_244
 refine Wd.runs (fp := fp_102) rfl rfl rfl rfl (ex_load_own_s Tryz.isAgg3 rfl rfl h_103 hp_248 hin_246) (fun _ h => h) ?_
 intro u_253 hu_254
 obtain ⟨rfl, hr_255⟩ := cInt_rep hu_254
 replace hr_255 := has_I64 hr_255
 replace hV := hV hr_255
 intro q_250 hq_249
 obtain ⟨hin_258, hV⟩ := hV
 refine Wd.runx rfl rfl rfl rfl (exAll (ex_index_own Tryz.underlying130 Tryz.sizeOf3 rfl rfl h_103 hin_258)) ?_
 intro p_259 hp_260
 intro q_257 hq_256
 refine Wd.turn rfl rfl rfl fun w hS => (WL.store_own Tryz.sizeOf3 rfl rfl rfl (cInt_mk (I64.has hr_233)) hS h_103 hp_260 hin_258 ?_)
 clear hS
 intro w fp_262 h_261 hS
 refine WL.nil (DQ.mk2 (C' := St w0 H (fp_262 ++ ([(b_14, oc #[v_17] 42)] ++ L))) hS ⟨il, il, il, il, il, il, il, il, il, il, il, il, il, .inr (hq_208 _), .inr (hq_206 _), .inr (hq_204 _), .inr (hq_202 _), il, il, il, il, trivial⟩ ?_)
 clear hS w
 obtain ⟨hin_265, hV⟩ := hV
 refine Wd.runx rfl rfl rfl rfl (exAll (ex_index_own Tryz.underlying130 Tryz.sizeOf3 rfl rfl h_261 hin_265)) ?_
 intro p_266 hp_267
 intro q_264 hq_263
 refine Wd.turn rfl rfl rfl fun w hS => (WL.store_own Tryz.sizeOf3 rfl rfl rfl (cInt_mk (I64.has hr_255)) hS h_261 hp_267 hin_265 ?_)
 clear hS
 intro w fp_269 h_268 hS
 refine WL.nil (DQ.mk2 (C' := St w0 H (fp_269 ++ ([(b_14, oc #[v_17] 42)] ++ L))) hS ⟨il, il, il, il, il, il, il, il, il, il, il, il, il, il, il, il, il, il, il, il, il, il, trivial⟩ ?_)
 clear hS w
 refine Wd.nil fun w hS => (WQ.out nofun (WQ.next (WC.sub (m := [(0, v_2), (1, i6 a_6), (2, i6 b_8), (3, i6 n_10), (10, i6 i_104)]) ⟨rfl, rfl, rfl, rfl, rfl, trivial⟩ (WC.region (WL.mv rfl rfl ?_)))))
 obtain ⟨hi_271, hV⟩ := hV
 refine WL.run hS rfl rfl rfl (ex_add rfl rfl hi_271) (WL.ma rfl rfl (WL.nil ?_))
 replace hS := hS.f2.f2
 exact WQ.there fun a ha => ⟨(((data_101.set (a_6 + i_104).toNat (ix data_101 (b_8 + i_104))).set (b_8 + i_104).toNat (ix data_101 (a_6 + i_104))), (i_104 + (1 : Int))), ⟨((data_101.set (a_6 + i_104).toNat (ix data_101 (b_8 + i_104))).set (b_8 + i_104).toNat (ix data_101 (a_6 + i_104))), (i_104 + (1 : Int)), fp_269, rfl, hV.1, h_268, hi_271, hS, ha.of_sub ⟨rfl, rfl, rfl, rfl, rfl, trivial⟩⟩, hV.2⟩
 intro hc_272
 replace hV := hV.2 (of_decide_eq_false hc_272)
 refine WC.exit (WQ.pass nofun (WQ.pass nofun (WQ.hit ?_)))
 replace hS := hS.f2.f2
 exact leave0 (.inr rfl) rfl (⟨data_101, fp_102, hV, rfl, h_103, hS⟩)

theorem S_rotSF {w0 : World} {H : View} {L : Seg} {w : World} {v_2 : Value} {data_1 : LI} {fp_4 : Seg} {a_6 : Int} {m_8 : Int} {b_10 : Int} {b_14 : Nat} {v_17 : Value} {c_13_16 : List (Val)} {Q : LI → Prop} (h_3 : OwnSl H (cInt .i64) 3 v_2 data_1 fp_4) (hr_7 : I64 a_6) (hr_9 : I64 m_8) (hr_11 : I64 b_10) (h_18 : IsSl H cV v_17 c_13_16) (hS : St w0 H (fp_4 ++ ([(b_14, oc #[v_17] 42)] ++ L)) w) (hV : V_rotSF data_1 a_6 m_8 b_10 c_13_16 Q) :
 Calls Tryz.prog 230 #[v_2, i6 a_6, i6 m_8, i6 b_10, .func (.func 102) #[] #[(pq b_14)]] w fun e w' => ∃ (r1 : LI) (fp1 : Seg), Q r1 ∧ e = .returned (.tuple #[]) ∧ OwnSl H (cInt .i64) 3 v_2 r1 fp1 ∧ St w0 H (fp1 ++ ([(b_14, oc #[v_17] 42)] ++ L)) w' := by
 unfold V_rotSF at hV
 refine enter Tryz.func230 rfl Tryz.ntmps230 rfl (lk_args_cons (d := 0) (v := v_2) rfl (lk_args_cons (d := 1) (v := i6 a_6) rfl (lk_args_cons (d := 2) (v := i6 m_8) rfl (lk_args_cons (d := 3) (v := i6 b_10) rfl (lk_args_cons (d := 4) (v := .func (.func 102) #[] #[(pq b_14)]) rfl (lk_args_nil _)))))) (WC.sr (WL.mv rfl rfl (WL.mv rfl rfl ?_)))
 obtain ⟨hi_20, hV⟩ := hV
 refine WL.run hS rfl rfl rfl (ex_sub rfl rfl hi_20) (WL.ma rfl rfl (WL.nx (WC.sr (WL.mv rfl rfl (WL.mv rfl rfl ?_)))))
 obtain ⟨hi_22, hV⟩ := hV
 refine WL.run hS rfl rfl rfl (ex_sub rfl rfl hi_22) (WL.ma rfl rfl (WL.nx (WC.seq (WC.block ?_))))
 replace hS := hS.f2.f2
 obtain ⟨I_78, mu_79, hI_111, hV⟩ := hV
 refine WC.loop (σ := LI × Int × Int) (fun s a w => ∃ (data_47 : LI) (i_50 : Int) (j_52 : Int) (fp_48 : Seg), s = (data_47, i_50, j_52) ∧ I_78 (data_47, i_50, j_52) ∧ OwnSl H (cInt .i64) 3 v_2 data_47 fp_48 ∧ I64 i_50 ∧ I64 j_52 ∧ St w0 H (fp_48 ++ ([(b_14, oc #[v_17] 42)] ++ L)) w ∧ Fr 58 [(0, v_2), (2, i6 m_8), (4, .func (.func 102) #[] #[(pq b_14)]), (10, i6 i_50), (11, i6 j_52)] a) mu_79 (data_1, (m_8 - a_6), (b_10 - m_8)) ?_ ?_
 exact fun a ha => ⟨data_1, (m_8 - a_6), (b_10 - m_8), fp_4, rfl, hI_111, h_3, hi_20, hi_22, hS, ha.of_sub ⟨rfl, rfl, rfl, rfl, rfl, trivial⟩⟩
 clear hS hI_111
 rintro _ a w ⟨data_47, i_50, j_52, fp_48, rfl, hI, h_49, hr_51, hr_53, hS, ha⟩
 refine in_frame ha ?_
 clear ha
 replace hV := hV _ hI
 clear hI
 refine WC.seq (WC.sr (WL.mv rfl rfl (WL.mv rfl rfl (WL.run hS rfl rfl rfl (ex_neq rfl rfl) (WL.nx ?_)))))
 refine WC.cond rfl ?_ ?_
 intro hc_110
 replace hV := hV.1 (of_decide_eq_true hc_110)
 refine WC.skip (WQ.next (WC.block (WC.sr (WL.mv rfl rfl (WL.mv rfl rfl (WL.run hS rfl rfl rfl (ex_gtr rfl rfl) (WL.nx ?_)))))))
 refine WC.cond rfl ?_ ?_
 intro hc_103
 replace hV := hV.1 (of_decide_eq_true hc_103)
 refine WC.sr (WL.mv rfl rfl (WL.mv rfl rfl (WL.mv rfl rfl ?_)))
 obtain ⟨hi_84, hV⟩ := hV
 refine WL.run hS rfl rfl rfl (ex_sub rfl rfl hi_84) (WL.mv rfl rfl (WL.mv rfl rfl (WL.mv rfl rfl ?_)))
 replace hS := hS.f2.f2
 refine WL.call rfl rfl rfl (enters0 (vs := [v_2, i6 (m_8 - i_50), i6 m_8, i6 j_52, .func (.func 102) #[] #[(pq b_14)]]) Tryz.call238 ⟨rfl, rfl, rfl, rfl, rfl, trivial⟩) (S_swapSF h_49 hi_84 hr_9 hr_53 h_18 hS hV) ?_
 clear hV hS
 rintro _ w ⟨c_85, fp_86, hV, rfl, h_87, hS⟩
 refine ⟨_, rfl, ?_⟩
 refine WL.nx (WC.sub (m := [(0, v_2), (2, i6 m_8), (4, .func (.func 102) #[] #[(pq b_14)]), (10, i6 i_50), (11, i6 j_52)]) ⟨rfl, rfl, rfl, rfl, rfl, trivial⟩ (WC.region (WL.mv rfl rfl (WL.mv rfl rfl ?_))))
 obtain ⟨hi_90, hV⟩ := hV
 refine WL.run hS rfl rfl rfl (ex_sub rfl rfl hi_90) (WL.ma rfl rfl (WL.nil (WQ.out nofun ?_)))
 replace hS := hS.f2.f2
 exact WQ.there fun a ha => ⟨(c_85, (i_50 - j_52), j_52), ⟨c_85, (i_50 - j_52), j_52, fp_86, rfl, hV.1, h_87, hi_90, hr_53, hS, ha.of_sub ⟨rfl, rfl, rfl, rfl, rfl, trivial⟩⟩, hV.2⟩
 intro hc_103
 replace hV := hV.2 (of_decide_eq_false hc_103)
 refine WC.sr (WL.mv rfl rfl (WL.mv rfl rfl (WL.mv rfl rfl ?_)))
 obtain ⟨hi_92, hV⟩ := hV
 refine WL.run hS rfl rfl rfl (ex_sub rfl rfl hi_92) (WL.mv rfl rfl (WL.mv rfl rfl ?_))
 obtain ⟨hi_94, hV⟩ := hV
 refine WL.run hS rfl rfl rfl (ex_add rfl rfl hi_94) (WL.mv rfl rfl ?_)
 obtain ⟨hi_96, hV⟩ := hV
 refine WL.run hS rfl rfl rfl (ex_sub rfl rfl hi_96) (WL.mv rfl rfl (WL.mv rfl rfl ?_))
 replace hS := hS.f2.f2
 refine WL.call rfl rfl rfl (enters0 (vs := [v_2, i6 (m_8 - i_50), i6 ((m_8 + j_52) - i_50), i6 i_50, .func (.func 102) #[] #[(pq b_14)]]) Tryz.call238 ⟨rfl, rfl, rfl, rfl, rfl, trivial⟩) (S_swapSF h_49 hi_92 hi_96 hr_51 h_18 hS hV) ?_
 clear hV hS
 rintro _ w ⟨c_97, fp_98, hV, rfl, h_99, hS⟩
 refine ⟨_, rfl, ?_⟩
 refine WL.nx (WC.sub (m := [(0, v_2), (2, i6 m_8), (4, .func (.func 102) #[] #[(pq b_14)]), (10, i6 i_50), (11, i6 j_52)]) ⟨rfl, rfl, rfl, rfl, rfl, trivial⟩ (WC.region (WL.mv rfl rfl (WL.mv rfl rfl ?_))))
 obtain ⟨hi_102, hV⟩ := hV
 refine WL.run hS rfl rfl rfl (ex_sub rfl rfl hi_102) (WL.ma rfl rfl (WL.nil (WQ.out nofun ?_)))
 replace hS := hS.f2.f2
 exact WQ.there fun a ha => ⟨(c_97, i_50, (j_52 - i_50)), ⟨c_97, i_50, (j_52 - i_50), fp_98, rfl, hV.1, h_99, hr_51, hi_102, hS, ha.of_sub ⟨rfl, rfl, rfl, rfl, rfl, trivial⟩⟩, hV.2⟩
 intro hc_110
 replace hV := hV.2 (of_decide_eq_false hc_110)
 refine WC.exit (WQ.pass nofun (WQ.pass nofun (WQ.hit (WQ.next (WC.region (WL.mv rfl rfl (WL.mv rfl rfl ?_)))))))
 refine WL.mv rfl rfl ?_
 obtain ⟨hi_105, hV⟩ := hV
 refine WL.run hS rfl rfl rfl (ex_sub rfl rfl hi_105) (WL.mv rfl rfl (WL.mv rfl rfl (WL.mv rfl rfl ?_)))
 replace hS := hS.f2.f2
 refine WL.call rfl rfl rfl (enters0 (vs := [v_2, i6 (m_8 - i_50), i6 m_8, i6 i_50, .func (.func 102) #[] #[(pq b_14)]]) Tryz.call238 ⟨rfl, rfl, rfl, rfl, rfl, trivial⟩) (S_swapSF h_49 hi_105 hr_9 hr_51 h_18 hS hV) ?_
 clear hV hS
 rintro _ w ⟨c_106, fp_107, hV, rfl, h_108, hS⟩
 refine ⟨_, rfl, ?_⟩
 refine WL.nil ?_
 replace hS := hS.f2.f2
 exact leave0 (.inr rfl) rfl (⟨c_106, fp_107, hV, rfl, h_108, hS⟩)

end Go.Proofs.YtlhkfkecoekoeaaGreatDoor
