/- For each function: called, it does its work where its condition is so. Printed by program. -/
import Derived.Test.YtmdoicffgeihcaaGreatDoorFacts
import Derived.Test.YtmdoicffgeihcaaGreatDoorConds
import Derived.Test.YtmdoicffgeihcaaGreatDoorTold
import Derived.Test.YtmdoicffgeihcaaGreatDoorManSS
import Derived.Test.YtmdoicffgeihcaaGreatDoorBkw
set_option linter.unusedVariables false
set_option linter.unusedSimpArgs false
set_option maxRecDepth 100000
set_option maxHeartbeats 1000000
namespace Go.Proofs.YtmdoicffgeihcaaGreatDoor
open Go.Vc _root_.Go.Proofs.Tryz _root_.Go.Proofs.YtmdoicffgeihcaaGreatDoor.Tryz
theorem S_sameInts {w0 : World} {H : View} {L : Seg} {w : World} {v_2 : Value} {a_1 : LI} {v_5 : Value} {b_4 : LI} {Q : Bool → Prop} (h_3 : IsSl H (cInt .i64) v_2 a_1) (h_6 : IsSl H (cInt .i64) v_5 b_4) (hS : St w0 H (L) w) (hV : V_sameInts a_1 b_4 Q) :
 Calls Tryz.prog 10 #[v_2, v_5] w fun e w' => ∃ (r1 : Bool), Q r1 ∧ e = .returned (.bool r1) ∧ St w0 H (L) w' := by
 unfold V_sameInts at hV
 refine enter func10 rfl ntmps10 rfl (lk_args_cons (d := 0) (v := v_2) rfl (lk_args_cons (d := 1) (v := v_5) rfl (lk_args_nil _))) ?_
 refine WC.sr ?_
 refine R hS ?_
 refine WL.nx ?_
 refine WC.seq ?_
 refine WC.sr ?_
 refine R hS ?_
 have hl_7 : Len a_1 := h_3.bound
 replace hV := hV hl_7
 refine Rn hS (ex_len_sl underlying23 rfl h_3) ?_
 refine R hS ?_
 have hl_8 : Len b_4 := h_6.bound
 replace hV := hV hl_8
 refine Rn hS (ex_len_sl underlying23 rfl h_6) ?_
 refine R hS ?_
 refine WL.nx ?_
 refine Cd ?_ ?_
 intro hc_85
 replace hV := hV.1 (od hc_85)
 refine WC.sr ?_
 refine R hS ?_
 refine WL.nx ?_
 refine WC.ret ?_
 refine Wp ?_
 exact leave1 rfl rfl (⟨false, hV, rfl, hS⟩)
 intro hc_85
 replace hV := hV.2 (ov hc_85)
 refine WC.skip ?_
 refine WQ.next ?_
 refine WC.seq ?_
 refine WC.sr ?_
 refine R hS ?_
 refine WL.nx ?_
 refine WC.block ?_
 obtain ⟨I_58, mu_59, hI_84, hV⟩ := hV
 refine WC.loop (σ := Int) (fun s a w => ∃ (i_33 : Int), s = i_33 ∧ I_58 i_33 ∧ I64 i_33 ∧ St w0 H (L) w ∧ Fr 26 [(0, v_2), (1, v_5), (5, i6 i_33)] a) mu_59 0 ?_ ?_
 exact fun a ha => ⟨0, rfl, hI_84, (by unfold I64; omega), hS, ha.os⟩
 clear hS hI_84
 rintro i_33 a w ⟨_, rfl, hI, hr_34, hS, ha⟩
 refine in_frame ha ?_
 clear ha
 replace hV := hV _ hI
 clear hI
 refine WC.seq ?_
 refine WC.sr ?_
 iterate 2 refine R hS ?_
 have hl_61 : Len a_1 := h_3.bound
 replace hV := hV hl_61
 refine Rn hS (ex_len_sl underlying23 rfl h_3) ?_
 refine R hS ?_
 refine WL.nx ?_
 refine Cd ?_ ?_
 intro hc_83
 replace hV := hV.1 (od hc_83)
 refine WC.skip ?_
 refine WQ.next ?_
 refine WC.seq ?_
 refine WC.block ?_
 refine WC.seq ?_
 refine WC.quiet (C := St w0 H (L)) mixed (by kernel_rfl) (hS.drawn _) ?_
 clear hS w
 iterate 2 refine Rq ?_
 obtain ⟨hin_63, hV⟩ := hV
 refine Wq.runx rfl rfl rfl (ex_index underlying23 sizeOf3 rfl rfl h_3 hin_63) ?_
 intro p_64 hp_65
 refine Wq.runx rfl rfl rfl (ex_load isAgg3 rfl rfl hp_65) ?_
 intro u_68 hu_69
 obtain ⟨rfl, hr_70⟩ := cInt_rep hu_69
 replace hr_70 := has_I64 hr_70
 replace hV := hV hr_70
 iterate 2 refine Rq ?_
 obtain ⟨hin_71, hV⟩ := hV
 refine Wq.runx rfl rfl rfl (ex_index underlying23 sizeOf3 rfl rfl h_6 hin_71) ?_
 intro p_72 hp_73
 refine Wq.runx rfl rfl rfl (ex_load isAgg3 rfl rfl hp_73) ?_
 intro u_76 hu_77
 obtain ⟨rfl, hr_78⟩ := cInt_rep hu_77
 replace hr_78 := has_I64 hr_78
 replace hV := hV hr_78
 refine Rq ?_
 refine Wq.nil fun w hS => ?_
 refine WQ.next ?_
 refine Sb [(0, v_2), (1, v_5), (5, i6 i_33), (25, .bool (decide ((ix a_1 i_33) ≠ (ix b_4 i_33))))] ?_
 refine Cd ?_ ?_
 intro hc_82
 replace hV := hV.1 (od hc_82)
 refine WC.sr ?_
 refine R hS ?_
 refine WL.nx ?_
 refine WC.ret ?_
 refine WQ.out nofun ?_
 refine Wp ?_
 refine Wp ?_
 refine WQ.out nofun ?_
 refine Wp ?_
 exact leave1 rfl rfl (⟨false, hV, rfl, hS⟩)
 intro hc_82
 replace hV := hV.2 (ov hc_82)
 refine WC.skip ?_
 refine WQ.out nofun ?_
 refine WQ.next ?_
 refine WC.region ?_
 refine R hS ?_
 obtain ⟨hi_81, hV⟩ := hV
 iterate 2 refine R hS ?_
 refine WL.nil ?_
 exact Wt fun a ha => ⟨(i_33 + 1), ⟨(i_33 + 1), rfl, hV.1, hi_81, hS, ha.os⟩, hV.2⟩
 intro hc_83
 replace hV := hV.2 (ov hc_83)
 refine WC.exit ?_
 refine Wp ?_
 refine Wp ?_
 refine WQ.hit ?_
 refine WQ.next ?_
 refine WC.sr ?_
 refine R hS ?_
 refine WL.nx ?_
 refine WC.ret ?_
 exact leave1 rfl rfl (⟨true, hV, rfl, hS⟩)

theorem S_size {w0 : World} {H : View} {L : Seg} {w : World} {l_1 : Int} {Q : Int → Prop} (hr_2 : I64 l_1) (hS : St w0 H (L) w) (hV : V_size l_1 Q) :
 Calls Tryz.prog 37 #[i6 l_1] w fun e w' => ∃ (r1 : Int), Q r1 ∧ e = .returned (i6 r1) ∧ I64 r1 ∧ St w0 H (L) w' := by
 unfold V_size at hV
 refine enter func37 rfl ntmps37 rfl (lk_args_cons (d := 0) (v := i6 l_1) rfl (lk_args_nil _)) ?_
 refine WC.sr ?_
 refine R hS ?_
 refine WL.nx ?_
 refine WC.seq ?_
 refine WC.sr ?_
 iterate 2 refine R hS ?_
 refine WL.nx ?_
 refine Cd ?_ ?_
 intro hc_4
 replace hV := hV.1 (od hc_4)
 refine WC.sr ?_
 refine R hS ?_
 refine Rn hS (ex_wneg rfl hr_2) ?_
 refine R hS ?_
 refine WL.nx ?_
 refine WC.ret ?_
 refine Wp ?_
 exact leave1 rfl rfl (⟨(wneg l_1), hV, rfl, (wneg_I64 _ hr_2), hS⟩)
 intro hc_4
 replace hV := hV.2 (ov hc_4)
 refine WC.skip ?_
 refine WQ.next ?_
 refine WC.sr ?_
 iterate 2 refine R hS ?_
 refine WL.nx ?_
 refine WC.ret ?_
 exact leave1 rfl rfl (⟨l_1, hV, rfl, hr_2, hS⟩)

theorem S_Literal {w0 : World} {H : View} {L : Seg} {w : World} {n_1 : Int} {l_3 : Int} {Q : Bool → Prop} (hr_2 : I64 n_1) (hr_4 : I64 l_3) (hS : St w0 H (L) w) (hV : V_Literal n_1 l_3 Q) :
 Calls Tryz.prog 14 #[i6 n_1, i6 l_3] w fun e w' => ∃ (r1 : Bool), Q r1 ∧ e = .returned (.bool r1) ∧ St w0 H (L) w' := by
 unfold V_Literal at hV
 refine enter func14 rfl ntmps14 rfl (lk_args_cons (d := 0) (v := i6 n_1) rfl (lk_args_cons (d := 1) (v := i6 l_3) rfl (lk_args_nil _))) ?_
 refine WC.sr ?_
 refine R hS ?_
 refine WL.nx ?_
 obtain ⟨J_11, hJ_12, hV⟩ := hV
 refine WC.meet (fun a w => ∃ (x_10 : Bool), J_11 x_10 ∧ St w0 H (L) w ∧ Fr 18 [(4, .bool x_10)] a) ?_ ?_
 rintro a w ⟨x_10, hI, hS, ha⟩
 refine in_frame ha ?_
 clear ha hV
 have hV := hJ_12 _ hI
 clear hI hJ_12
 refine WC.ret ?_
 exact leave1 rfl rfl (⟨x_10, hV, rfl, hS⟩)
 clear hJ_12
 refine WC.region ?_
 iterate 3 refine R hS ?_
 rcases bft (decide (l_3 ≠ 0)) with hg_14 | hg_14
 replace hV := hV.1 (od hg_14)
 iterate 2 refine R hS ?_
 refine Ug hg_14 ?_
 refine Rn hS (ex_wneg rfl hr_2) ?_
 iterate 3 refine R hS ?_
 rcases bft (decide ((wneg n_1) ≤ l_3)) with hg_16 | hg_16
 replace hV := hV.1 (od hg_16)
 iterate 5 refine R hS ?_
 refine WL.nil ?_
 exact Wt fun a ha => ⟨decide (l_3 ≤ n_1), hV, hS, ha.os⟩
 replace hV := hV.2 (ov hg_16)
 iterate 5 refine R hS ?_
 refine WL.nil ?_
 exact Wt fun a ha => ⟨false, hV, hS, ha.os⟩
 replace hV := hV.2 (ov hg_14)
 iterate 11 refine R hS ?_
 refine WL.nil ?_
 exact Wt fun a ha => ⟨false, hV, hS, ha.os⟩

theorem S_refLiterals {w0 : World} {H : View} {L : Seg} {w : World} {n_1 : Int} {v_4 : Value} {l_3 : LI} {Q : Bool → Prop} (hr_2 : I64 n_1) (h_5 : IsSl H (cInt .i64) v_4 l_3) (hS : St w0 H (L) w) (hV : V_refLiterals n_1 l_3 Q) :
 Calls Tryz.prog 13 #[i6 n_1, v_4] w fun e w' => ∃ (r1 : Bool), Q r1 ∧ e = .returned (.bool r1) ∧ St w0 H (L) w' := by
 unfold V_refLiterals at hV
 refine enter func13 rfl ntmps13 rfl (lk_args_cons (d := 0) (v := i6 n_1) rfl (lk_args_cons (d := 1) (v := v_4) rfl (lk_args_nil _))) ?_
 refine WC.sr ?_
 refine R hS ?_
 refine WL.nx ?_
 refine WC.seq ?_
 refine WC.sr ?_
 refine R hS ?_
 refine WL.nx ?_
 refine WC.block ?_
 obtain ⟨I_40, mu_41, hI_59, hV⟩ := hV
 refine WC.loop (σ := Int) (fun s a w => ∃ (i_22 : Int), s = i_22 ∧ I_40 i_22 ∧ I64 i_22 ∧ St w0 H (L) w ∧ Fr 21 [(0, i6 n_1), (1, v_4), (5, i6 i_22)] a) mu_41 0 ?_ ?_
 exact fun a ha => ⟨0, rfl, hI_59, (by unfold I64; omega), hS, ha.os⟩
 clear hS hI_59
 rintro i_22 a w ⟨_, rfl, hI, hr_23, hS, ha⟩
 refine in_frame ha ?_
 clear ha
 replace hV := hV _ hI
 clear hI
 refine WC.seq ?_
 refine WC.sr ?_
 iterate 2 refine R hS ?_
 have hl_43 : Len l_3 := h_5.bound
 replace hV := hV hl_43
 refine Rn hS (ex_len_sl underlying23 rfl h_5) ?_
 refine R hS ?_
 refine WL.nx ?_
 refine Cd ?_ ?_
 intro hc_58
 replace hV := hV.1 (od hc_58)
 refine WC.skip ?_
 refine WQ.next ?_
 refine WC.seq ?_
 refine WC.block ?_
 refine WC.sr ?_
 iterate 3 refine R hS ?_
 obtain ⟨hin_45, hV⟩ := hV
 refine Rx hS (ex_index underlying23 sizeOf3 rfl rfl h_5 hin_45) ?_
 intro p_46 hp_47
 refine Rx hS (ex_load isAgg3 rfl rfl hp_47) ?_
 intro u_50 hu_51
 obtain ⟨rfl, hr_52⟩ := cInt_rep hu_51
 replace hr_52 := has_I64 hr_52
 replace hV := hV hr_52
 refine Rc (enters0 (vs := [i6 n_1, i6 (ix l_3 i_22)]) call14 ⟨rfl, rfl, trivial⟩) (S_Literal  hr_2 hr_52 hS hV) ?_
 clear hV hS
 rintro _ w ⟨r_53, hV, rfl, hS⟩
 refine ⟨_, rfl, ?_⟩
 refine R hS ?_
 refine WL.nx ?_
 refine Sb [(0, i6 n_1), (1, v_4), (5, i6 i_22), (6, .bool r_53)] ?_
 refine WC.sr ?_
 iterate 2 refine R hS ?_
 refine WL.nx ?_
 refine Cd ?_ ?_
 intro hc_57
 replace hV := hV.1 hc_57
 refine WC.sr ?_
 refine R hS ?_
 refine WL.nx ?_
 refine WC.ret ?_
 refine WQ.out nofun ?_
 refine Wp ?_
 refine Wp ?_
 refine WQ.out nofun ?_
 refine Wp ?_
 exact leave1 rfl rfl (⟨false, hV, rfl, hS⟩)
 intro hc_57
 replace hV := hV.2 hc_57
 refine WC.skip ?_
 refine WQ.out nofun ?_
 refine WQ.next ?_
 refine WC.region ?_
 refine R hS ?_
 obtain ⟨hi_56, hV⟩ := hV
 iterate 2 refine R hS ?_
 refine WL.nil ?_
 exact Wt fun a ha => ⟨(i_22 + 1), ⟨(i_22 + 1), rfl, hV.1, hi_56, hS, ha.os⟩, hV.2⟩
 intro hc_58
 replace hV := hV.2 (ov hc_58)
 refine WC.exit ?_
 refine Wp ?_
 refine Wp ?_
 refine WQ.hit ?_
 refine WQ.next ?_
 refine WC.sr ?_
 refine R hS ?_
 refine WL.nx ?_
 refine WC.ret ?_
 exact leave1 rfl rfl (⟨true, hV, rfl, hS⟩)

theorem S_Fault {w0 : World} {H : View} {L : Seg} {w : World} {n_1 : Int} {v_4 : Value} {clauses_3 : List LI} {Q : Int → Prop} (hr_2 : I64 n_1) (h_5 : IsSl H (cSl (cInt .i64)) v_4 clauses_3) (hS : St w0 H (L) w) (hV : V_Fault n_1 clauses_3 Q) :
 Calls Tryz.prog 5 #[i6 n_1, v_4] w fun e w' => ∃ (r1 : Int), Q r1 ∧ e = .returned (i6 r1) ∧ I64 r1 ∧ St w0 H (L) w' := by
 unfold V_Fault at hV
 refine enter func5 rfl ntmps5 rfl (lk_args_cons (d := 0) (v := i6 n_1) rfl (lk_args_cons (d := 1) (v := v_4) rfl (lk_args_nil _))) ?_
 refine WC.sr ?_
 refine R hS ?_
 refine WL.nx ?_
 refine WC.seq ?_
 refine WC.seq ?_
 refine WC.via (m := [(0, i6 n_1), (1, v_4), (12, .bool (decide ((n_1 < 0) ∨ (16777216 < n_1))))]) ?_ ?_
 refine WC.region ?_
 iterate 3 refine R hS ?_
 rcases bft (decide (n_1 < 0)) with hg_9 | hg_9
 iterate 3 refine R hS ?_
 refine WL.up (s := 12) rfl (or_t hg_9 : true = decide ((n_1 < 0) ∨ (16777216 < n_1))) ?_
 exact WL.nil At.os
 iterate 3 refine R hS ?_
 refine WL.up (s := 12) rfl (or_f hg_9 : decide (16777216 < n_1) = decide ((n_1 < 0) ∨ (16777216 < n_1))) ?_
 exact WL.nil At.os
 refine WQ.next ?_
 refine Cd ?_ ?_
 intro hc_65
 replace hV := hV.1 (od hc_65)
 refine WC.sr ?_
 refine R hS ?_
 refine WL.nx ?_
 refine WC.ret ?_
 refine Wp ?_
 exact leave1 rfl rfl (⟨5, hV, rfl, (by unfold I64; omega), hS⟩)
 intro hc_65
 replace hV := hV.2 (ov hc_65)
 refine WC.skip ?_
 refine WQ.next ?_
 refine WC.seq ?_
 refine WC.sr ?_
 refine R hS ?_
 have hl_11 : Len clauses_3 := h_5.bound
 replace hV := hV hl_11
 refine Rn hS (ex_len_sl underlying22 rfl h_5) ?_
 refine R hS ?_
 refine WL.nx ?_
 refine Cd ?_ ?_
 intro hc_64
 replace hV := hV.1 (od hc_64)
 refine WC.sr ?_
 refine R hS ?_
 refine WL.nx ?_
 refine WC.ret ?_
 refine Wp ?_
 exact leave1 rfl rfl (⟨6, hV, rfl, (by unfold I64; omega), hS⟩)
 intro hc_64
 replace hV := hV.2 (ov hc_64)
 refine WC.skip ?_
 refine WQ.next ?_
 refine WC.seq ?_
 refine WC.sr ?_
 refine R hS ?_
 refine WL.nx ?_
 refine WC.block ?_
 obtain ⟨I_45, mu_46, hI_63, hV⟩ := hV
 refine WC.loop (σ := Int) (fun s a w => ∃ (i_28 : Int), s = i_28 ∧ I_45 i_28 ∧ I64 i_28 ∧ St w0 H (L) w ∧ Fr 30 [(0, i6 n_1), (1, v_4), (5, i6 i_28)] a) mu_46 0 ?_ ?_
 exact fun a ha => ⟨0, rfl, hI_63, (by unfold I64; omega), hS, ha.os⟩
 clear hS hI_63
 rintro i_28 a w ⟨_, rfl, hI, hr_29, hS, ha⟩
 refine in_frame ha ?_
 clear ha
 replace hV := hV _ hI
 clear hI
 refine WC.seq ?_
 refine WC.sr ?_
 iterate 2 refine R hS ?_
 have hl_48 : Len clauses_3 := h_5.bound
 replace hV := hV hl_48
 refine Rn hS (ex_len_sl underlying22 rfl h_5) ?_
 refine R hS ?_
 refine WL.nx ?_
 refine Cd ?_ ?_
 intro hc_62
 replace hV := hV.1 (od hc_62)
 refine WC.skip ?_
 refine WQ.next ?_
 refine WC.seq ?_
 refine WC.block ?_
 refine WC.sr ?_
 iterate 3 refine R hS ?_
 obtain ⟨hin_50, hV⟩ := hV
 refine Rx hS (ex_index underlying22 sizeOf23 rfl rfl h_5 hin_50) ?_
 intro p_51 hp_52
 refine Rx hS (ex_load isAgg23 rfl rfl hp_52) ?_
 intro u_55 hu_56
 replace hu_56 := cSl_rep hu_56
 refine Rc (enters0 (vs := [i6 n_1, u_55]) call13 ⟨rfl, rfl, trivial⟩) (S_refLiterals  hr_2 hu_56 hS hV) ?_
 clear hV hS
 rintro _ w ⟨r_57, hV, rfl, hS⟩
 refine ⟨_, rfl, ?_⟩
 refine R hS ?_
 refine WL.nx ?_
 refine Sb [(0, i6 n_1), (1, v_4), (5, i6 i_28), (6, .bool r_57)] ?_
 refine WC.sr ?_
 iterate 2 refine R hS ?_
 refine WL.nx ?_
 refine Cd ?_ ?_
 intro hc_61
 replace hV := hV.1 hc_61
 refine WC.sr ?_
 refine R hS ?_
 refine WL.nx ?_
 refine WC.ret ?_
 refine WQ.out nofun ?_
 refine Wp ?_
 refine Wp ?_
 refine WQ.out nofun ?_
 refine Wp ?_
 exact leave1 rfl rfl (⟨5, hV, rfl, (by unfold I64; omega), hS⟩)
 intro hc_61
 replace hV := hV.2 hc_61
 refine WC.skip ?_
 refine WQ.out nofun ?_
 refine WQ.next ?_
 refine WC.region ?_
 refine R hS ?_
 obtain ⟨hi_60, hV⟩ := hV
 iterate 2 refine R hS ?_
 refine WL.nil ?_
 exact Wt fun a ha => ⟨(i_28 + 1), ⟨(i_28 + 1), rfl, hV.1, hi_60, hS, ha.os⟩, hV.2⟩
 intro hc_62
 replace hV := hV.2 (ov hc_62)
 refine WC.exit ?_
 refine Wp ?_
 refine Wp ?_
 refine WQ.hit ?_
 refine WQ.next ?_
 refine WC.sr ?_
 refine R hS ?_
 refine WL.nx ?_
 refine WC.ret ?_
 exact leave1 rfl rfl (⟨0, hV, rfl, (by unfold I64; omega), hS⟩)

theorem S_refSet {w0 : World} {H : View} {L : Seg} {w : World} {v_2 : Value} {val_1 : LI} {fp_4 : Seg} {l_6 : Int} {Q : Bool → LI → Prop} (h_3 : OwnSl H (cInt .i64) 3 v_2 val_1 fp_4) (hr_7 : I64 l_6) (hS : St w0 H (fp_4 ++ L) w) (hV : V_refSet val_1 l_6 Q) :
 Calls Tryz.prog 39 #[v_2, i6 l_6] w fun e w' => ∃ (r1 : Bool) (r2 : LI) (fp2 : Seg), Q r1 r2 ∧ e = .returned (.bool r1) ∧ OwnSl H (cInt .i64) 3 v_2 r2 fp2 ∧ St w0 H (fp2 ++ L) w' := by
 unfold V_refSet at hV
 refine enter func39 rfl ntmps39 rfl (lk_args_cons (d := 0) (v := v_2) rfl (lk_args_cons (d := 1) (v := i6 l_6) rfl (lk_args_nil _))) ?_
 refine WC.sr ?_
 refine R hS ?_
 refine WL.nx ?_
 refine WC.sr ?_
 refine R hS ?_
 refine WL.nx ?_
 obtain ⟨J_12, hJ_13, hV⟩ := hV
 refine WC.meet (fun a w => ∃ (v_10 : Int), J_12 v_10 ∧ I64 v_10 ∧ St w0 H (fp_4 ++ L) w ∧ Fr 22 [(0, v_2), (1, i6 l_6), (5, i6 v_10)] a) ?_ ?_
 rintro a w ⟨v_10, hI, hr_11, hS, ha⟩
 refine in_frame ha ?_
 clear ha hV
 have hV := hJ_13 _ hI
 clear hI hJ_13
 refine WC.sr ?_
 refine R hS ?_
 refine Rc (enters0 (vs := [i6 l_6]) call37 ⟨rfl, trivial⟩) (S_size  hr_7 hS hV) ?_
 clear hV hS
 rintro _ w ⟨r_16, hV, rfl, hr_17, hS⟩
 refine ⟨_, rfl, ?_⟩
 refine R hS ?_
 refine WL.nx ?_
 refine WC.seq ?_
 refine WC.sr ?_
 iterate 2 refine R hS ?_
 obtain ⟨hin_19, hV⟩ := hV
 refine Rx hS (ex_index_own underlying23 sizeOf3 rfl rfl h_3 hin_19) ?_
 intro p_20 hp_21
 refine Rx hS (exNow (H := H) (L := L) (ex_load_own_s isAgg3 rfl rfl h_3 hp_21 hin_19)) ?_
 intro u_24 hu_25
 obtain ⟨rfl, hr_26⟩ := cInt_rep hu_25
 replace hr_26 := has_I64 hr_26
 replace hV := hV hr_26
 refine R hS ?_
 obtain ⟨hi_27, hV⟩ := hV
 iterate 2 refine R hS ?_
 refine WL.nx ?_
 refine Cd ?_ ?_
 intro hc_34
 replace hV := hV.1 (od hc_34)
 refine WC.sr ?_
 refine R hS ?_
 refine WL.nx ?_
 refine Sb [(4, .bool false)] ?_
 refine WC.ret ?_
 refine Wp ?_
 exact leave1 rfl rfl (⟨false, val_1, fp_4, hV, rfl, h_3, hS⟩)
 intro hc_34
 replace hV := hV.2 (ov hc_34)
 refine WC.skip ?_
 refine WQ.next ?_
 refine Sb [(0, v_2), (5, i6 v_10), (6, i6 r_16)] ?_
 refine WC.sr ?_
 iterate 3 refine R hS ?_
 obtain ⟨hin_29, hV⟩ := hV
 refine Rx hS (ex_index_own underlying23 sizeOf3 rfl rfl h_3 hin_29) ?_
 intro p_30 hp_31
 refine WL.store_own sizeOf3 rfl rfl rfl (cInt_mk (I64.has hr_11)) hS h_3 hp_31 hin_29 ?_
 clear hS
 intro w fp_33 h_32 hS
 refine WL.nx ?_
 refine WC.sr ?_
 refine R hS ?_
 refine WL.nx ?_
 refine WC.ret ?_
 exact leave1 rfl rfl (⟨true, (val_1.set r_16.toNat v_10), fp_33, hV, rfl, h_32, hS⟩)
 clear hJ_13
 refine WC.sr ?_
 iterate 2 refine R hS ?_
 refine WL.nx ?_
 refine Cd ?_ ?_
 intro hc_15
 replace hV := hV.1 (od hc_15)
 refine WC.region ?_
 refine R hS ?_
 refine WL.nil ?_
 exact Wt fun a ha => ⟨(-1), hV, (by unfold I64; omega), hS, ha.os⟩
 intro hc_15
 replace hV := hV.2 (ov hc_15)
 refine WC.skip ?_
 exact Wt fun a ha => ⟨1, hV, (by unfold I64; omega), hS, ha.os⟩

theorem S_refUnit {w0 : World} {H : View} {L : Seg} {w : World} {v_2 : Value} {val_1 : LI} {v_5 : Value} {c_4 : LI} {Q : Int → Int → Prop} (h_3 : IsSl H (cInt .i64) v_2 val_1) (h_6 : IsSl H (cInt .i64) v_5 c_4) (hS : St w0 H (L) w) (hV : V_refUnit val_1 c_4 Q) :
 Calls Tryz.prog 40 #[v_2, v_5] w fun e w' => ∃ (r1 : Int) (r2 : Int), Q r1 r2 ∧ e = .returned (.tuple #[i6 r1, i6 r2]) ∧ I64 r1 ∧ I64 r2 ∧ St w0 H (L) w' := by
 unfold V_refUnit at hV
 refine enter func40 rfl ntmps40 rfl (lk_args_cons (d := 0) (v := v_2) rfl (lk_args_cons (d := 1) (v := v_5) rfl (lk_args_nil _))) ?_
 refine WC.sr ?_
 iterate 2 refine R hS ?_
 refine WL.nx ?_
 refine WC.sr ?_
 refine R hS ?_
 refine WL.nx ?_
 refine WC.seq ?_
 refine WC.sr ?_
 refine R hS ?_
 refine WL.nx ?_
 refine WC.block ?_
 obtain ⟨I_377, mu_378, hI_565, hV⟩ := hV
 refine WC.loop (σ := Int × Int) (fun s a w => ∃ (xopen_190 : Int) (i_192 : Int), s = (xopen_190, i_192) ∧ I_377 (xopen_190, i_192) ∧ I64 xopen_190 ∧ I64 i_192 ∧ St w0 H (L) w ∧ Fr 57 [(0, v_2), (1, v_5), (6, i6 xopen_190), (7, i6 i_192)] a) mu_378 (0, 0) ?_ ?_
 exact fun a ha => ⟨0, 0, rfl, hI_565, (by unfold I64; omega), (by unfold I64; omega), hS, ha.os⟩
 clear hS hI_565
 rintro _ a w ⟨xopen_190, i_192, rfl, hI, hr_191, hr_193, hS, ha⟩
 refine in_frame ha ?_
 clear ha
 replace hV := hV _ hI
 clear hI
 refine WC.seq ?_
 refine WC.sr ?_
 iterate 2 refine R hS ?_
 have hl_380 : Len c_4 := h_6.bound
 replace hV := hV hl_380
 refine Rn hS (ex_len_sl underlying23 rfl h_6) ?_
 refine R hS ?_
 refine WL.nx ?_
 refine Cd ?_ ?_
 intro hc_564
 replace hV := hV.1 (od hc_564)
 refine WC.skip ?_
 refine WQ.next ?_
 obtain ⟨J_471, hJ_472, hV⟩ := hV
 refine WC.meet (fun a w => ∃ (xopen_469 : Int), J_471 xopen_469 ∧ I64 xopen_469 ∧ St w0 H (L) w ∧ Fr 57 [(0, v_2), (1, v_5), (6, i6 xopen_469), (7, i6 i_192)] a) ?_ ?_
 rintro a w ⟨xopen_469, hI, hr_470, hS, ha⟩
 refine in_frame ha ?_
 clear ha hV
 have hV := hJ_472 _ hI
 clear hI hJ_472
 refine WC.region ?_
 refine R hS ?_
 obtain ⟨hi_561, hV⟩ := hV
 iterate 2 refine R hS ?_
 refine WL.nil ?_
 exact Wt fun a ha => ⟨(xopen_469, (i_192 + 1)), ⟨xopen_469, (i_192 + 1), rfl, hV.1, hr_470, hi_561, hS, ha.os⟩, hV.2⟩
 clear hJ_472
 refine WC.block ?_
 refine WC.sr ?_
 iterate 2 refine R hS ?_
 obtain ⟨hin_473, hV⟩ := hV
 refine Rx hS (ex_index underlying23 sizeOf3 rfl rfl h_6 hin_473) ?_
 intro p_474 hp_475
 refine Rx hS (ex_load isAgg3 rfl rfl hp_475) ?_
 intro u_478 hu_479
 obtain ⟨rfl, hr_480⟩ := cInt_rep hu_479
 replace hr_480 := has_I64 hr_480
 replace hV := hV hr_480
 refine Rc (enters0 (vs := [i6 (ix c_4 i_192)]) call37 ⟨rfl, trivial⟩) (S_size  hr_480 hS hV) ?_
 clear hV hS
 rintro _ w ⟨r_481, hV, rfl, hr_482, hS⟩
 refine ⟨_, rfl, ?_⟩
 refine R hS ?_
 refine WL.nx ?_
 refine WC.sr ?_
 iterate 2 refine R hS ?_
 obtain ⟨hin_484, hV⟩ := hV
 refine Rx hS (ex_index underlying23 sizeOf3 rfl rfl h_3 hin_484) ?_
 intro p_485 hp_486
 refine Rx hS (ex_load isAgg3 rfl rfl hp_486) ?_
 intro u_489 hu_490
 obtain ⟨rfl, hr_491⟩ := cInt_rep hu_490
 replace hr_491 := has_I64 hr_491
 replace hV := hV hr_491
 refine R hS ?_
 refine WL.nx ?_
 refine Sb [(0, v_2), (1, v_5), (6, i6 xopen_190), (7, i6 i_192), (9, i6 (ix val_1 r_481))] ?_
 obtain ⟨J_505, hJ_506, hV⟩ := hV
 refine WC.meet (fun a w => ∃ (v_503 : Int), J_505 v_503 ∧ I64 v_503 ∧ St w0 H (L) w ∧ Fr 57 [(0, v_2), (1, v_5), (6, i6 xopen_190), (7, i6 i_192), (9, i6 v_503)] a) ?_ ?_
 rintro a w ⟨v_503, hI, hr_504, hS, ha⟩
 refine in_frame ha ?_
 clear ha hV
 have hV := hJ_506 _ hI
 clear hI hJ_506
 refine WC.seq ?_
 refine WC.sr ?_
 iterate 2 refine R hS ?_
 refine WL.nx ?_
 refine Cd ?_ ?_
 intro hc_559
 replace hV := hV.1 (od hc_559)
 refine WC.sr ?_
 iterate 2 refine R hS ?_
 refine WL.nx ?_
 refine WC.ret ?_
 refine Wp ?_
 refine WQ.out nofun ?_
 refine Wp ?_
 refine Wp ?_
 refine WQ.out nofun ?_
 refine Wp ?_
 exact leave2 rfl rfl rfl (⟨0, 2, hV, rfl, (by unfold I64; omega), (by unfold I64; omega), hS⟩)
 intro hc_559
 replace hV := hV.2 (ov hc_559)
 refine WC.skip ?_
 refine WQ.next ?_
 refine WC.seq ?_
 obtain ⟨J_533, hJ_534, hV⟩ := hV
 refine WC.meet (fun a w => ∃ (x_532 : Bool), J_533 x_532 ∧ St w0 H (L) w ∧ Fr 57 [(0, v_2), (1, v_5), (6, i6 xopen_190), (7, i6 i_192), (9, i6 v_503), (47, .bool x_532)] a) ?_ ?_
 rintro a w ⟨x_532, hI, hS, ha⟩
 refine in_frame ha ?_
 clear ha hV
 have hV := hJ_534 _ hI
 clear hI hJ_534
 refine Cd ?_ ?_
 intro hc_558
 replace hV := hV.1 hc_558
 refine WC.sr ?_
 iterate 2 refine R hS ?_
 refine WL.nx ?_
 refine WC.ret ?_
 refine Wp ?_
 refine WQ.out nofun ?_
 refine Wp ?_
 refine Wp ?_
 refine WQ.out nofun ?_
 refine Wp ?_
 exact leave2 rfl rfl rfl (⟨0, 2, hV, rfl, (by unfold I64; omega), (by unfold I64; omega), hS⟩)
 intro hc_558
 replace hV := hV.2 hc_558
 refine WC.skip ?_
 refine WQ.next ?_
 refine WC.sr ?_
 iterate 2 refine R hS ?_
 refine WL.nx ?_
 refine Cd ?_ ?_
 intro hc_557
 replace hV := hV.1 (od hc_557)
 refine WC.region ?_
 iterate 2 refine R hS ?_
 obtain ⟨hin_549, hV⟩ := hV
 refine Rx hS (ex_index underlying23 sizeOf3 rfl rfl h_6 hin_549) ?_
 intro p_550 hp_551
 refine Rx hS (ex_load isAgg3 rfl rfl hp_551) ?_
 intro u_554 hu_555
 obtain ⟨rfl, hr_556⟩ := cInt_rep hu_555
 replace hr_556 := has_I64 hr_556
 replace hV := hV hr_556
 refine R hS ?_
 refine WL.nil ?_
 refine WQ.out nofun ?_
 exact Wt fun a ha => ⟨(ix c_4 i_192), hV, hr_556, hS, ha.os⟩
 intro hc_557
 replace hV := hV.2 (ov hc_557)
 refine WC.skip ?_
 refine WQ.out nofun ?_
 exact Wt fun a ha => ⟨xopen_190, hV, hr_191, hS, ha.os⟩
 clear hJ_534
 refine WC.region ?_
 iterate 3 refine R hS ?_
 rcases bft (decide (v_503 = 0)) with hg_536 | hg_536
 replace hV := hV.1 (od hg_536)
 iterate 4 refine R hS ?_
 rcases bft (decide (xopen_190 ≠ 0)) with hg_538 | hg_538
 replace hV := hV.1 (od hg_538)
 iterate 2 refine R hS ?_
 refine Ug hg_538 ?_
 obtain ⟨hin_539, hV⟩ := hV
 refine Rx hS (ex_index underlying23 sizeOf3 rfl rfl h_6 hin_539) ?_
 intro p_540 hp_541
 refine Ug hg_538 ?_
 refine Rx hS (ex_load isAgg3 rfl rfl hp_541) ?_
 intro u_544 hu_545
 obtain ⟨rfl, hr_546⟩ := cInt_rep hu_545
 replace hr_546 := has_I64 hr_546
 replace hV := hV hr_546
 iterate 3 refine R hS ?_
 refine WL.nil ?_
 exact Wt fun a ha => ⟨decide ((ix c_4 i_192) ≠ xopen_190), hV, hS, ha.os⟩
 replace hV := hV.2 (ov hg_538)
 iterate 7 refine R hS ?_
 refine WL.nil ?_
 exact Wt fun a ha => ⟨false, hV, hS, ha.os⟩
 replace hV := hV.2 (ov hg_536)
 iterate 11 refine R hS ?_
 refine WL.nil ?_
 exact Wt fun a ha => ⟨false, hV, hS, ha.os⟩
 clear hJ_506
 refine WC.sr ?_
 iterate 2 refine R hS ?_
 obtain ⟨hin_507, hV⟩ := hV
 refine Rx hS (ex_index underlying23 sizeOf3 rfl rfl h_6 hin_507) ?_
 intro p_508 hp_509
 refine Rx hS (ex_load isAgg3 rfl rfl hp_509) ?_
 intro u_512 hu_513
 obtain ⟨rfl, hr_514⟩ := cInt_rep hu_513
 replace hr_514 := has_I64 hr_514
 replace hV := hV hr_514
 refine R hS ?_
 refine WL.nx ?_
 refine Cd ?_ ?_
 intro hc_517
 replace hV := hV.1 (od hc_517)
 refine WC.region ?_
 refine R hS ?_
 obtain ⟨hi_516, hV⟩ := hV
 iterate 2 refine R hS ?_
 refine WL.nil ?_
 exact Wt fun a ha => ⟨(-(ix val_1 r_481)), hV, hi_516, hS, ha.os⟩
 intro hc_517
 replace hV := hV.2 (ov hc_517)
 refine WC.skip ?_
 exact Wt fun a ha => ⟨(ix val_1 r_481), hV, hr_491, hS, ha.os⟩
 intro hc_564
 replace hV := hV.2 (ov hc_564)
 refine WC.exit ?_
 refine Wp ?_
 refine Wp ?_
 refine WQ.hit ?_
 refine WQ.next ?_
 refine WC.seq ?_
 refine WC.sr ?_
 iterate 2 refine R hS ?_
 refine WL.nx ?_
 refine Cd ?_ ?_
 intro hc_563
 replace hV := hV.1 (od hc_563)
 refine WC.sr ?_
 iterate 2 refine R hS ?_
 refine WL.nx ?_
 refine Sb [(4, i6 0), (5, i6 0)] ?_
 refine WC.ret ?_
 refine Wp ?_
 exact leave2 rfl rfl rfl (⟨0, 0, hV, rfl, (by unfold I64; omega), (by unfold I64; omega), hS⟩)
 intro hc_563
 replace hV := hV.2 (ov hc_563)
 refine WC.skip ?_
 refine WQ.next ?_
 refine WC.sr ?_
 iterate 3 refine R hS ?_
 refine WL.nx ?_
 refine Sb [(4, i6 xopen_190), (5, i6 1)] ?_
 refine WC.ret ?_
 exact leave2 rfl rfl rfl (⟨xopen_190, 1, hV, rfl, hr_191, (by unfold I64; omega), hS⟩)

theorem S_refFollow {w0 : World} {H : View} {L : Seg} {w : World} {n_1 : Int} {v_4 : Value} {clauses_3 : List LI} {v_7 : Value} {given_6 : LI} {Q : LI → Bool → Prop} (hr_2 : I64 n_1) (h_5 : IsSl H (cSl (cInt .i64)) v_4 clauses_3) (h_8 : IsSl H (cInt .i64) v_7 given_6) (hS : St w0 H (L) w) (hV : V_refFollow n_1 clauses_3 given_6 Q) :
 Calls Tryz.prog 21 #[i6 n_1, v_4, v_7] w fun e w' => ∃ (r1 : LI) (r2 : Bool) (v1 : Value) (fp1 : Seg), Q r1 r2 ∧ e = .returned (.tuple #[v1, .bool r2]) ∧ OwnSl H (cInt .i64) 3 v1 r1 fp1 ∧ St w0 H (fp1 ++ L) w' := by
 unfold V_refFollow at hV
 refine enter func21 rfl ntmps21 rfl (lk_args_cons (d := 0) (v := i6 n_1) rfl (lk_args_cons (d := 1) (v := v_4) rfl (lk_args_cons (d := 2) (v := v_7) rfl (lk_args_nil _)))) ?_
 refine WC.sr ?_
 iterate 2 refine R hS ?_
 refine WL.nx ?_
 refine WC.sr ?_
 refine R hS ?_
 obtain ⟨hi_11, hV⟩ := hV
 refine R hS ?_
 obtain ⟨hm_16, hV⟩ := hV
 refine WL.make (c := (cInt .i64)) (z0 := (0 : Int)) rfl underlying23 info3 rfl ⟨rfl, I64.has (by unfold I64; omega)⟩ rfl rfl hm_16.1 hm_16.2.1 hm_16.2.2 hS ?_
 clear hS
 intro v_13 w fp_14 h_15 hS
 refine R hS ?_
 refine WL.nx ?_
 refine WC.seq ?_
 refine WC.sr ?_
 refine R hS ?_
 refine WL.nx ?_
 refine WC.block ?_
 obtain ⟨I_64, mu_65, hI_702, hV⟩ := hV
 refine WC.loop (σ := LI × Int) (fun s a w => ∃ (val_38 : LI) (i_42 : Int) (v_39 : Value) (fp_40 : Seg), s = (val_38, i_42) ∧ I_64 (val_38, i_42) ∧ OwnSl H (cInt .i64) 3 v_39 val_38 fp_40 ∧ I64 i_42 ∧ St w0 H (fp_40 ++ L) w ∧ Fr 57 [(1, v_4), (2, v_7), (8, v_39), (9, i6 i_42)] a) mu_65 ((List.replicate (n_1 + 1).toNat (0 : Int)), 0) ?_ ?_
 exact fun a ha => ⟨(List.replicate (n_1 + 1).toNat (0 : Int)), 0, v_13, fp_14, rfl, hI_702, h_15, (by unfold I64; omega), hS, ha.os⟩
 clear hS hI_702
 rintro _ a w ⟨val_38, i_42, v_39, fp_40, rfl, hI, h_41, hr_43, hS, ha⟩
 refine in_frame ha ?_
 clear ha
 replace hV := hV _ hI
 clear hI
 refine WC.seq ?_
 refine WC.sr ?_
 iterate 2 refine R hS ?_
 have hl_67 : Len given_6 := h_8.bound
 replace hV := hV hl_67
 refine Rn hS (ex_len_sl underlying23 rfl h_8) ?_
 refine R hS ?_
 refine WL.nx ?_
 refine Cd ?_ ?_
 intro hc_701
 replace hV := hV.1 (od hc_701)
 refine WC.skip ?_
 refine WQ.next ?_
 refine WC.seq ?_
 refine WC.block ?_
 refine WC.sr ?_
 iterate 3 refine R hS ?_
 obtain ⟨hin_69, hV⟩ := hV
 refine Rx hS (ex_index underlying23 sizeOf3 rfl rfl h_8 hin_69) ?_
 intro p_70 hp_71
 refine Rx hS (ex_load isAgg3 rfl rfl hp_71) ?_
 intro u_74 hu_75
 obtain ⟨rfl, hr_76⟩ := cInt_rep hu_75
 replace hr_76 := has_I64 hr_76
 replace hV := hV hr_76
 refine Rc (enters0 (vs := [v_39, i6 (ix given_6 i_42)]) call39 ⟨rfl, rfl, trivial⟩) (S_refSet  h_41 hr_76 hS hV) ?_
 clear hV hS
 rintro _ w ⟨r_77, c_78, fp_79, hV, rfl, h_80, hS⟩
 refine ⟨_, rfl, ?_⟩
 refine R hS ?_
 refine WL.nx ?_
 refine Sb [(1, v_4), (2, v_7), (8, v_39), (9, i6 i_42), (10, .bool r_77)] ?_
 refine WC.sr ?_
 iterate 2 refine R hS ?_
 refine WL.nx ?_
 refine Cd ?_ ?_
 intro hc_85
 replace hV := hV.1 hc_85
 refine WC.sr ?_
 iterate 2 refine R hS ?_
 refine WL.nx ?_
 replace hS := hS.drop
 refine WC.ret ?_
 refine WQ.out nofun ?_
 refine Wp ?_
 refine Wp ?_
 refine WQ.out nofun ?_
 refine Wp ?_
 replace hS := hS.nilseg
 exact leave2 rfl rfl rfl (⟨([] : LI), false, ns, ([] : Seg), hV, rfl, OwnSl.nil, hS⟩)
 intro hc_85
 replace hV := hV.2 hc_85
 refine WC.skip ?_
 refine WQ.out nofun ?_
 refine WQ.next ?_
 refine WC.region ?_
 refine R hS ?_
 obtain ⟨hi_84, hV⟩ := hV
 iterate 2 refine R hS ?_
 refine WL.nil ?_
 exact Wt fun a ha => ⟨(c_78, (i_42 + 1)), ⟨c_78, (i_42 + 1), v_39, fp_79, rfl, hV.1, h_80, hi_84, hS, ha.os⟩, hV.2⟩
 intro hc_701
 replace hV := hV.2 (ov hc_701)
 refine WC.exit ?_
 refine Wp ?_
 refine Wp ?_
 refine WQ.hit ?_
 refine WQ.next ?_
 refine WC.block ?_
 obtain ⟨I_495, mu_496, hI_700, hV⟩ := hV
 refine WC.loop (σ := LI) (fun s a w => ∃ (val_289 : LI) (v_290 : Value) (fp_291 : Seg), s = val_289 ∧ I_495 val_289 ∧ OwnSl H (cInt .i64) 3 v_290 val_289 fp_291 ∧ St w0 H (fp_291 ++ L) w ∧ Fr 57 [(1, v_4), (8, v_290)] a) mu_496 val_38 ?_ ?_
 exact fun a ha => ⟨val_38, v_39, fp_40, rfl, hI_700, h_41, hS, ha.os⟩
 clear hS hI_700
 rintro val_289 a w ⟨_, v_290, fp_291, rfl, hI, h_292, hS, ha⟩
 refine in_frame ha ?_
 clear ha
 replace hV := hV _ hI
 clear hI
 refine WC.block ?_
 refine WC.sr ?_
 refine R hS ?_
 refine WL.nx ?_
 refine WC.seq ?_
 refine WC.sr ?_
 refine R hS ?_
 refine WL.nx ?_
 refine WC.block ?_
 obtain ⟨I_632, mu_633, hI_699, hV⟩ := hV
 refine WC.loop (σ := LI × Bool × Int) (fun s a w => ∃ (val_562 : LI) (more_566 : Bool) (i_567 : Int) (v_563 : Value) (fp_564 : Seg), s = (val_562, more_566, i_567) ∧ I_632 (val_562, more_566, i_567) ∧ OwnSl H (cInt .i64) 3 v_563 val_562 fp_564 ∧ I64 i_567 ∧ St w0 H (fp_564 ++ L) w ∧ Fr 57 [(1, v_4), (8, v_563), (11, .bool more_566), (12, i6 i_567)] a) mu_633 (val_289, false, 0) ?_ ?_
 exact fun a ha => ⟨val_289, false, 0, v_290, fp_291, rfl, hI_699, h_292, (by unfold I64; omega), hS, ha.os⟩
 clear hS hI_699
 rintro _ a w ⟨val_562, more_566, i_567, v_563, fp_564, rfl, hI, h_565, hr_568, hS, ha⟩
 refine in_frame ha ?_
 clear ha
 replace hV := hV _ hI
 clear hI
 refine WC.seq ?_
 refine WC.sr ?_
 iterate 2 refine R hS ?_
 have hl_635 : Len clauses_3 := h_5.bound
 replace hV := hV hl_635
 refine Rn hS (ex_len_sl underlying22 rfl h_5) ?_
 refine R hS ?_
 refine WL.nx ?_
 refine Cd ?_ ?_
 intro hc_698
 replace hV := hV.1 (od hc_698)
 refine WC.skip ?_
 refine WQ.next ?_
 obtain ⟨J_668, hJ_669, hV⟩ := hV
 refine WC.meet (fun a w => ∃ (val_663 : LI) (more_667 : Bool) (v_664 : Value) (fp_665 : Seg), J_668 (val_663, more_667) ∧ OwnSl H (cInt .i64) 3 v_664 val_663 fp_665 ∧ St w0 H (fp_665 ++ L) w ∧ Fr 57 [(1, v_4), (8, v_664), (11, .bool more_667), (12, i6 i_567)] a) ?_ ?_
 rintro a w ⟨val_663, more_667, v_664, fp_665, hI, h_666, hS, ha⟩
 refine in_frame ha ?_
 clear ha hV
 have hV := hJ_669 _ hI
 clear hI hJ_669
 refine WC.region ?_
 refine R hS ?_
 obtain ⟨hi_696, hV⟩ := hV
 iterate 2 refine R hS ?_
 refine WL.nil ?_
 exact Wt fun a ha => ⟨(val_663, more_667, (i_567 + 1)), ⟨val_663, more_667, (i_567 + 1), v_664, fp_665, rfl, hV.1, h_666, hi_696, hS, ha.os⟩, hV.2⟩
 clear hJ_669
 refine WC.block ?_
 refine WC.sr ?_
 iterate 3 refine R hS ?_
 obtain ⟨hin_670, hV⟩ := hV
 refine Rx hS (ex_index underlying22 sizeOf23 rfl rfl h_5 hin_670) ?_
 intro p_671 hp_672
 refine Rx hS (ex_load isAgg23 rfl rfl hp_672) ?_
 intro u_675 hu_676
 replace hu_676 := cSl_rep hu_676
 have hL_677 := hS.freeze
 refine Rc (enters0 (vs := [v_563, u_675]) call40 ⟨rfl, rfl, trivial⟩) (S_refUnit  (h_565.share hS.put_le) (hu_676.mono hS.put_le) hL_677 hV) ?_
 clear hV
 rintro _ w ⟨r_678, r_680, hV, rfl, hr_679, hr_681, hL_682⟩
 refine ⟨_, rfl, ?_⟩
 have hB_684 := hS.back hL_682
 replace hS := hB_684
 clear hL_682 hL_677 hB_684
 iterate 5 refine R hS ?_
 refine WL.nx ?_
 refine Sb [(1, v_4), (8, v_563), (11, .bool more_566), (12, i6 i_567), (13, i6 r_678), (14, i6 r_680)] ?_
 refine WC.seq ?_
 refine WC.sr ?_
 iterate 2 refine R hS ?_
 refine WL.nx ?_
 refine Cd ?_ ?_
 intro hc_694
 replace hV := hV.1 (od hc_694)
 refine WC.sr ?_
 iterate 2 refine R hS ?_
 refine WL.nx ?_
 replace hS := hS.drop
 refine WC.ret ?_
 refine Wp ?_
 refine WQ.out nofun ?_
 refine Wp ?_
 refine Wp ?_
 refine WQ.out nofun ?_
 refine Wp ?_
 refine WQ.out nofun ?_
 refine Wp ?_
 refine WQ.out nofun ?_
 replace hS := hS.nilseg
 exact leave2 rfl rfl rfl (⟨([] : LI), false, ns, ([] : Seg), hV, rfl, OwnSl.nil, hS⟩)
 intro hc_694
 replace hV := hV.2 (ov hc_694)
 refine WC.skip ?_
 refine WQ.next ?_
 refine WC.sr ?_
 iterate 2 refine R hS ?_
 refine WL.nx ?_
 refine Cd ?_ ?_
 intro hc_693
 replace hV := hV.1 (od hc_693)
 refine WC.sr ?_
 iterate 2 refine R hS ?_
 refine Rc (enters0 (vs := [v_563, i6 r_678]) call39 ⟨rfl, rfl, trivial⟩) (S_refSet  h_565 hr_679 hS hV) ?_
 clear hV hS
 rintro _ w ⟨r_688, c_689, fp_690, hV, rfl, h_691, hS⟩
 refine ⟨_, rfl, ?_⟩
 refine WL.nx ?_
 refine Sb [(1, v_4), (8, v_563), (12, i6 i_567)] ?_
 refine WC.region ?_
 refine R hS ?_
 refine WL.nil ?_
 refine WQ.out nofun ?_
 exact Wt fun a ha => ⟨c_689, true, v_563, fp_690, hV, h_691, hS, ha.os⟩
 intro hc_693
 replace hV := hV.2 (ov hc_693)
 refine WC.skip ?_
 refine WQ.out nofun ?_
 exact Wt fun a ha => ⟨val_562, more_566, v_563, fp_564, hV, h_565, hS, ha.os⟩
 intro hc_698
 replace hV := hV.2 (ov hc_698)
 refine WC.exit ?_
 refine Wp ?_
 refine Wp ?_
 refine WQ.hit ?_
 refine WQ.next ?_
 refine WC.sr ?_
 iterate 2 refine R hS ?_
 refine WL.nx ?_
 refine Cd ?_ ?_
 intro hc_697
 replace hV := hV.1 hc_697
 refine WC.sr ?_
 iterate 3 refine R hS ?_
 refine WL.nx ?_
 refine Sb [(6, v_563), (7, .bool true)] ?_
 refine WC.ret ?_
 refine WQ.out nofun ?_
 refine Wp ?_
 refine WQ.out nofun ?_
 exact leave2 rfl rfl rfl (⟨val_562, true, v_563, fp_564, hV, rfl, h_565, hS⟩)
 intro hc_697
 replace hV := hV.2 hc_697
 refine WC.skip ?_
 refine WQ.out nofun ?_
 exact Wt fun a ha => ⟨val_562, ⟨val_562, v_563, fp_564, rfl, hV.1, h_565, hS, ha.os⟩, hV.2⟩

theorem S_within {w0 : World} {H : View} {L : Seg} {w : World} {v_2 : Value} {a_1 : LI} {v_5 : Value} {b_4 : LI} {Q : Bool → Prop} (h_3 : IsSl H (cInt .i64) v_2 a_1) (h_6 : IsSl H (cInt .i64) v_5 b_4) (hS : St w0 H (L) w) (hV : V_within a_1 b_4 Q) :
 Calls Tryz.prog 55 #[v_2, v_5] w fun e w' => ∃ (r1 : Bool), Q r1 ∧ e = .returned (.bool r1) ∧ St w0 H (L) w' := by
 unfold V_within at hV
 refine enter func55 rfl ntmps55 rfl (lk_args_cons (d := 0) (v := v_2) rfl (lk_args_cons (d := 1) (v := v_5) rfl (lk_args_nil _))) ?_
 refine WC.sr ?_
 refine R hS ?_
 refine WL.nx ?_
 refine WC.seq ?_
 refine WC.sr ?_
 refine R hS ?_
 refine WL.nx ?_
 refine WC.block ?_
 obtain ⟨I_289, mu_290, hI_432, hV⟩ := hV
 refine WC.loop (σ := Int) (fun s a w => ∃ (i_147 : Int), s = i_147 ∧ I_289 i_147 ∧ I64 i_147 ∧ St w0 H (L) w ∧ Fr 34 [(0, v_2), (1, v_5), (5, i6 i_147)] a) mu_290 0 ?_ ?_
 exact fun a ha => ⟨0, rfl, hI_432, (by unfold I64; omega), hS, ha.os⟩
 clear hS hI_432
 rintro i_147 a w ⟨_, rfl, hI, hr_148, hS, ha⟩
 refine in_frame ha ?_
 clear ha
 replace hV := hV _ hI
 clear hI
 refine WC.seq ?_
 refine WC.sr ?_
 iterate 2 refine R hS ?_
 have hl_292 : Len a_1 := h_3.bound
 replace hV := hV hl_292
 refine Rn hS (ex_len_sl underlying23 rfl h_3) ?_
 refine R hS ?_
 refine WL.nx ?_
 refine Cd ?_ ?_
 intro hc_431
 replace hV := hV.1 (od hc_431)
 refine WC.skip ?_
 refine WQ.next ?_
 refine WC.seq ?_
 refine WC.block ?_
 refine WC.sr ?_
 refine R hS ?_
 refine WL.nx ?_
 refine WC.seq ?_
 refine WC.sr ?_
 refine R hS ?_
 refine WL.nx ?_
 refine WC.block ?_
 obtain ⟨I_380, mu_381, hI_430, hV⟩ := hV
 refine WC.loop (σ := Bool × Int) (fun s a w => ∃ (there_333 : Bool) (k_334 : Int), s = (there_333, k_334) ∧ I_380 (there_333, k_334) ∧ I64 k_334 ∧ St w0 H (L) w ∧ Fr 34 [(0, v_2), (1, v_5), (5, i6 i_147), (6, .bool there_333), (7, i6 k_334)] a) mu_381 (false, 0) ?_ ?_
 exact fun a ha => ⟨false, 0, rfl, hI_430, (by unfold I64; omega), hS, ha.os⟩
 clear hS hI_430
 rintro _ a w ⟨there_333, k_334, rfl, hI, hr_335, hS, ha⟩
 refine in_frame ha ?_
 clear ha
 replace hV := hV _ hI
 clear hI
 refine WC.seq ?_
 refine WC.sr ?_
 iterate 2 refine R hS ?_
 have hl_383 : Len b_4 := h_6.bound
 replace hV := hV hl_383
 refine Rn hS (ex_len_sl underlying23 rfl h_6) ?_
 refine R hS ?_
 refine WL.nx ?_
 refine Cd ?_ ?_
 intro hc_429
 replace hV := hV.1 (od hc_429)
 refine WC.skip ?_
 refine WQ.next ?_
 obtain ⟨J_404, hJ_405, hV⟩ := hV
 refine WC.meet (fun a w => ∃ (there_403 : Bool), J_404 there_403 ∧ St w0 H (L) w ∧ Fr 34 [(0, v_2), (1, v_5), (5, i6 i_147), (6, .bool there_403), (7, i6 k_334)] a) ?_ ?_
 rintro a w ⟨there_403, hI, hS, ha⟩
 refine in_frame ha ?_
 clear ha hV
 have hV := hJ_405 _ hI
 clear hI hJ_405
 refine WC.region ?_
 refine R hS ?_
 obtain ⟨hi_425, hV⟩ := hV
 iterate 2 refine R hS ?_
 refine WL.nil ?_
 exact Wt fun a ha => ⟨(there_403, (k_334 + 1)), ⟨there_403, (k_334 + 1), rfl, hV.1, hi_425, hS, ha.os⟩, hV.2⟩
 clear hJ_405
 refine WC.block ?_
 refine WC.quiet (C := St w0 H (L)) mixed (by kernel_rfl) (hS.drawn _) ?_
 clear hS w
 iterate 2 refine Rq ?_
 rcases bft there_333 with hg_406 | hg_406
 replace hV := hV.1 hg_406
 iterate 11 refine Rq ?_
 refine Wq.nil fun w hS => ?_
 refine WQ.out nofun ?_
 exact Wt fun a ha => ⟨true, hV, hS, ha.os⟩
 replace hV := hV.2 hg_406
 iterate 2 refine Rq ?_
 refine Uq hg_406 ?_
 obtain ⟨hin_407, hV⟩ := hV
 refine Wq.runx rfl rfl rfl (ex_index underlying23 sizeOf3 rfl rfl h_3 hin_407) ?_
 intro p_408 hp_409
 refine Uq hg_406 ?_
 refine Wq.runx rfl rfl rfl (ex_load isAgg3 rfl rfl hp_409) ?_
 intro u_412 hu_413
 obtain ⟨rfl, hr_414⟩ := cInt_rep hu_413
 replace hr_414 := has_I64 hr_414
 replace hV := hV hr_414
 iterate 2 refine Rq ?_
 refine Uq hg_406 ?_
 obtain ⟨hin_415, hV⟩ := hV
 refine Wq.runx rfl rfl rfl (ex_index underlying23 sizeOf3 rfl rfl h_6 hin_415) ?_
 intro p_416 hp_417
 refine Uq hg_406 ?_
 refine Wq.runx rfl rfl rfl (ex_load isAgg3 rfl rfl hp_417) ?_
 intro u_420 hu_421
 obtain ⟨rfl, hr_422⟩ := cInt_rep hu_421
 replace hr_422 := has_I64 hr_422
 replace hV := hV hr_422
 iterate 3 refine Rq ?_
 refine Wq.nil fun w hS => ?_
 refine WQ.out nofun ?_
 exact Wt fun a ha => ⟨decide ((ix a_1 i_147) = (ix b_4 k_334)), hV, hS, ha.os⟩
 intro hc_429
 replace hV := hV.2 (ov hc_429)
 refine WC.exit ?_
 refine Wp ?_
 refine Wp ?_
 refine WQ.hit ?_
 refine WQ.next ?_
 refine WC.sr ?_
 iterate 2 refine R hS ?_
 refine WL.nx ?_
 refine Cd ?_ ?_
 intro hc_428
 replace hV := hV.1 hc_428
 refine WC.sr ?_
 refine R hS ?_
 refine WL.nx ?_
 refine Sb [(4, .bool false)] ?_
 refine WC.ret ?_
 refine WQ.out nofun ?_
 refine Wp ?_
 refine Wp ?_
 refine WQ.out nofun ?_
 refine Wp ?_
 exact leave1 rfl rfl (⟨false, hV, rfl, hS⟩)
 intro hc_428
 replace hV := hV.2 hc_428
 refine WC.skip ?_
 refine WQ.out nofun ?_
 refine WQ.next ?_
 refine WC.region ?_
 refine R hS ?_
 obtain ⟨hi_427, hV⟩ := hV
 iterate 2 refine R hS ?_
 refine WL.nil ?_
 exact Wt fun a ha => ⟨(i_147 + 1), ⟨(i_147 + 1), rfl, hV.1, hi_427, hS, ha.os⟩, hV.2⟩
 intro hc_431
 replace hV := hV.2 (ov hc_431)
 refine WC.exit ?_
 refine Wp ?_
 refine Wp ?_
 refine WQ.hit ?_
 refine WQ.next ?_
 refine WC.sr ?_
 refine R hS ?_
 refine WL.nx ?_
 refine WC.ret ?_
 exact leave1 rfl rfl (⟨true, hV, rfl, hS⟩)

theorem S_refAlike {w0 : World} {H : View} {L : Seg} {w : World} {v_2 : Value} {a_1 : LI} {v_5 : Value} {b_4 : LI} {Q : Bool → Prop} (h_3 : IsSl H (cInt .i64) v_2 a_1) (h_6 : IsSl H (cInt .i64) v_5 b_4) (hS : St w0 H (L) w) (hV : V_refAlike a_1 b_4 Q) :
 Calls Tryz.prog 38 #[v_2, v_5] w fun e w' => ∃ (r1 : Bool), Q r1 ∧ e = .returned (.bool r1) ∧ St w0 H (L) w' := by
 unfold V_refAlike at hV
 refine enter func38 rfl ntmps38 rfl (lk_args_cons (d := 0) (v := v_2) rfl (lk_args_cons (d := 1) (v := v_5) rfl (lk_args_nil _))) ?_
 refine WC.sr ?_
 refine R hS ?_
 refine WL.nx ?_
 refine WC.sr ?_
 iterate 2 refine R hS ?_
 refine Rc (enters0 (vs := [v_2, v_5]) call55 ⟨rfl, rfl, trivial⟩) (S_within  h_3 h_6 hS hV) ?_
 clear hV hS
 rintro _ w ⟨r_7, hV, rfl, hS⟩
 refine ⟨_, rfl, ?_⟩
 refine R hS ?_
 refine WL.nx ?_
 refine WC.sr ?_
 iterate 2 refine R hS ?_
 refine Rc (enters0 (vs := [v_5, v_2]) call55 ⟨rfl, rfl, trivial⟩) (S_within  h_6 h_3 hS hV) ?_
 clear hV hS
 rintro _ w ⟨r_9, hV, rfl, hS⟩
 refine ⟨_, rfl, ?_⟩
 refine R hS ?_
 refine WL.nx ?_
 refine WC.seq ?_
 refine WC.via (m := [(4, .bool (decide ((r_7 = true) ∧ (r_9 = true))))]) ?_ ?_
 refine WC.region ?_
 iterate 2 refine R hS ?_
 rcases bft r_7 with hg_11 | hg_11
 iterate 2 refine R hS ?_
 refine WL.up (s := 16) rfl ((dec_true _).trans (and_t ((dec_true _).symm.trans hg_11) : decide (r_9 = true) = decide ((r_7 = true) ∧ (r_9 = true)))) ?_
 refine R hS ?_
 exact WL.nil At.os
 iterate 2 refine R hS ?_
 refine WL.up (s := 16) rfl (and_f ((dec_true _).symm.trans hg_11) : false = decide ((r_7 = true) ∧ (r_9 = true))) ?_
 refine R hS ?_
 exact WL.nil At.os
 refine WQ.next ?_
 refine WC.ret ?_
 exact leave1 rfl rfl (⟨decide ((r_7 = true) ∧ (r_9 = true)), hV, rfl, hS⟩)

theorem S_gone {w0 : World} {H : View} {L : Seg} {w : World} {v_2 : Value} {l_1 : List LI} {fp_4 : Seg} {v_7 : Value} {c_6 : LI} {Q : (List LI) → Prop} (h_3 : OwnSl H (cSl (cInt .i64)) 23 v_2 l_1 fp_4) (h_8 : IsSl H (cInt .i64) v_7 c_6) (hS : St w0 H (fp_4 ++ L) w) (hV : V_gone l_1 c_6 Q) :
 Calls Tryz.prog 20 #[v_2, v_7] w fun e w' => ∃ (r1 : List LI) (v1 : Value) (fp1 : Seg), Q r1 ∧ e = .returned (v1) ∧ OwnSl H (cSl (cInt .i64)) 23 v1 r1 fp1 ∧ St w0 H (fp1 ++ L) w' := by
 unfold V_gone at hV
 refine enter func20 rfl ntmps20 rfl (lk_args_cons (d := 0) (v := v_2) rfl (lk_args_cons (d := 1) (v := v_7) rfl (lk_args_nil _))) ?_
 refine WC.sr ?_
 refine R hS ?_
 refine WL.nx ?_
 refine WC.seq ?_
 refine WC.sr ?_
 refine R hS ?_
 refine WL.nx ?_
 refine WC.block ?_
 obtain ⟨I_82, mu_83, hI_120, hV⟩ := hV
 refine WC.loop (σ := Int) (fun s a w => ∃ (i_45 : Int), s = i_45 ∧ I_82 i_45 ∧ I64 i_45 ∧ St w0 H (fp_4 ++ L) w ∧ Fr 34 [(0, v_2), (1, v_7), (5, i6 i_45)] a) mu_83 0 ?_ ?_
 exact fun a ha => ⟨0, rfl, hI_120, (by unfold I64; omega), hS, ha.os⟩
 clear hS hI_120
 rintro i_45 a w ⟨_, rfl, hI, hr_46, hS, ha⟩
 refine in_frame ha ?_
 clear ha
 replace hV := hV _ hI
 clear hI
 refine WC.seq ?_
 refine WC.sr ?_
 iterate 2 refine R hS ?_
 have hl_85 : Len l_1 := h_3.bound
 replace hV := hV hl_85
 refine Rn hS (ex_len_own underlying22 rfl h_3) ?_
 refine R hS ?_
 refine WL.nx ?_
 refine Cd ?_ ?_
 intro hc_119
 replace hV := hV.1 (od hc_119)
 refine WC.skip ?_
 refine WQ.next ?_
 refine WC.seq ?_
 refine WC.block ?_
 refine WC.sr ?_
 iterate 2 refine R hS ?_
 obtain ⟨hin_87, hV⟩ := hV
 refine Rx hS (ex_index_own underlying22 sizeOf23 rfl rfl h_3 hin_87) ?_
 intro p_88 hp_89
 refine Rx hS (exNow (H := H) (L := L) (ex_load_own_s isAgg23 rfl rfl h_3 hp_89 hin_87)) ?_
 intro u_92 hu_93
 replace hu_93 := cSl_rep hu_93
 refine R hS ?_
 refine Rc (enters0 (vs := [u_92, v_7]) call38 ⟨rfl, rfl, trivial⟩) (S_refAlike  hu_93 h_8 hS hV) ?_
 clear hV hS
 rintro _ w ⟨r_94, hV, rfl, hS⟩
 refine ⟨_, rfl, ?_⟩
 refine R hS ?_
 refine WL.nx ?_
 refine Sb [(0, v_2), (1, v_7), (5, i6 i_45), (6, .bool r_94)] ?_
 refine WC.sr ?_
 refine R hS ?_
 refine WL.nx ?_
 refine Cd ?_ ?_
 intro hc_118
 replace hV := hV.1 hc_118
 refine WC.sr ?_
 refine R hS ?_
 refine WL.nx ?_
 refine WC.sr ?_
 iterate 3 refine R hS ?_
 obtain ⟨hb_97, hV⟩ := hV
 refine Rx hS (ex_slice_hi_own2 underlying22 sizeOf23 rfl rfl h_3 hb_97) ?_
 rintro v_98 ⟨h_99, ht_100⟩
 obtain ⟨hr_101, hV⟩ := hV
 replace hS := hS.nilseg
 refine WL.append (c := (cSl (cInt .i64))) (xs := ([] : List LI)) (ys := (l_1.take i_45.toNat)) rfl underlying22 info23 rfl rfl rfl hS OwnSl.nil (h_99 hS.f2) hr_101.1 hr_101.2 ?_
 clear hS
 intro v_102 w fp_103 h_104 hS
 rw [List.nil_append] at h_104
 refine R hS ?_
 refine WL.nx ?_
 refine WC.sr ?_
 iterate 3 refine R hS ?_
 obtain ⟨hi_107, hV⟩ := hV
 refine R hS ?_
 obtain ⟨hb_108, hV⟩ := hV
 refine Rx hS (ex_slice_lo_own underlying22 sizeOf23 rfl rfl h_3 hb_108) ?_
 intro v_109 h_110
 obtain ⟨hr_111, hV⟩ := hV
 replace hS := hS.f2.f2
 refine WL.append (c := (cSl (cInt .i64))) (xs := (l_1.take i_45.toNat)) (ys := (l_1.drop (i_45 + 1).toNat)) rfl underlying22 info23 rfl rfl rfl hS h_104 (h_110 hS.f2) hr_111.1 hr_111.2 ?_
 clear hS
 intro v_112 w fp_113 h_114 hS
 refine R hS ?_
 refine WL.nx ?_
 refine Sb [(7, v_112)] ?_
 replace hS := hS.f2.drop
 refine WC.sr ?_
 iterate 2 refine R hS ?_
 refine WL.nx ?_
 refine WC.ret ?_
 refine WQ.out nofun ?_
 refine Wp ?_
 refine Wp ?_
 refine WQ.out nofun ?_
 refine Wp ?_
 exact leave1 rfl rfl (⟨((l_1.take i_45.toNat) ++ (l_1.drop (i_45 + 1).toNat)), v_112, fp_113, hV, rfl, h_114, hS⟩)
 intro hc_118
 replace hV := hV.2 hc_118
 refine WC.skip ?_
 refine WQ.out nofun ?_
 refine WQ.next ?_
 refine WC.region ?_
 refine R hS ?_
 obtain ⟨hi_117, hV⟩ := hV
 iterate 2 refine R hS ?_
 refine WL.nil ?_
 exact Wt fun a ha => ⟨(i_45 + 1), ⟨(i_45 + 1), rfl, hV.1, hi_117, hS, ha.os⟩, hV.2⟩
 intro hc_119
 replace hV := hV.2 (ov hc_119)
 refine WC.exit ?_
 refine Wp ?_
 refine Wp ?_
 refine WQ.hit ?_
 refine WQ.next ?_
 refine WC.sr ?_
 iterate 2 refine R hS ?_
 refine WL.nx ?_
 refine WC.ret ?_
 exact leave1 rfl rfl (⟨l_1, v_2, fp_4, hV, rfl, h_3, hS⟩)

theorem S_Makes {w0 : World} {H : View} {L : Seg} {w : World} {v_2 : Value} {c_1 : LI} {v_5 : Value} {model_4 : List Bool} {Q : Bool → Prop} (h_3 : IsSl H (cInt .i64) v_2 c_1) (h_6 : IsSl H cBool v_5 model_4) (hS : St w0 H (L) w) (hV : V_Makes c_1 model_4 Q) :
 Calls Tryz.prog 19 #[v_2, v_5] w fun e w' => ∃ (r1 : Bool), Q r1 ∧ e = .returned (.bool r1) ∧ St w0 H (L) w' := by
 unfold V_Makes at hV
 refine enter func19 rfl ntmps19 rfl (lk_args_cons (d := 0) (v := v_2) rfl (lk_args_cons (d := 1) (v := v_5) rfl (lk_args_nil _))) ?_
 refine WC.sr ?_
 refine R hS ?_
 refine WL.nx ?_
 refine WC.seq ?_
 refine WC.sr ?_
 refine R hS ?_
 refine WL.nx ?_
 refine WC.block ?_
 obtain ⟨I_141, mu_142, hI_210, hV⟩ := hV
 refine WC.loop (σ := Int) (fun s a w => ∃ (i_73 : Int), s = i_73 ∧ I_141 i_73 ∧ I64 i_73 ∧ St w0 H (L) w ∧ Fr 39 [(0, v_2), (1, v_5), (5, i6 i_73)] a) mu_142 0 ?_ ?_
 exact fun a ha => ⟨0, rfl, hI_210, (by unfold I64; omega), hS, ha.os⟩
 clear hS hI_210
 rintro i_73 a w ⟨_, rfl, hI, hr_74, hS, ha⟩
 refine in_frame ha ?_
 clear ha
 replace hV := hV _ hI
 clear hI
 refine WC.seq ?_
 refine WC.sr ?_
 iterate 2 refine R hS ?_
 have hl_144 : Len c_1 := h_3.bound
 replace hV := hV hl_144
 refine Rn hS (ex_len_sl underlying23 rfl h_3) ?_
 refine R hS ?_
 refine WL.nx ?_
 refine Cd ?_ ?_
 intro hc_209
 replace hV := hV.1 (od hc_209)
 refine WC.skip ?_
 refine WQ.next ?_
 refine WC.seq ?_
 refine WC.block ?_
 refine WC.sr ?_
 iterate 2 refine R hS ?_
 obtain ⟨hin_146, hV⟩ := hV
 refine Rx hS (ex_index underlying23 sizeOf3 rfl rfl h_3 hin_146) ?_
 intro p_147 hp_148
 refine Rx hS (ex_load isAgg3 rfl rfl hp_148) ?_
 intro u_151 hu_152
 obtain ⟨rfl, hr_153⟩ := cInt_rep hu_152
 replace hr_153 := has_I64 hr_153
 replace hV := hV hr_153
 refine Rc (enters0 (vs := [i6 (ix c_1 i_73)]) call37 ⟨rfl, trivial⟩) (S_size  hr_153 hS hV) ?_
 clear hV hS
 rintro _ w ⟨r_154, hV, rfl, hr_155, hS⟩
 refine ⟨_, rfl, ?_⟩
 refine R hS ?_
 refine WL.nx ?_
 obtain ⟨J_181, hJ_182, hV⟩ := hV
 refine WC.meet (fun a w => ∃ (x_180 : Bool), J_181 x_180 ∧ St w0 H (L) w ∧ Fr 39 [(0, v_2), (1, v_5), (5, i6 i_73), (38, .bool x_180)] a) ?_ ?_
 rintro a w ⟨x_180, hI, hS, ha⟩
 refine in_frame ha ?_
 clear ha hV
 have hV := hJ_182 _ hI
 clear hI hJ_182
 refine Cd ?_ ?_
 intro hc_208
 replace hV := hV.1 hc_208
 refine WC.sr ?_
 refine R hS ?_
 refine WL.nx ?_
 refine WC.ret ?_
 refine WQ.out nofun ?_
 refine Wp ?_
 refine Wp ?_
 refine WQ.out nofun ?_
 refine Wp ?_
 exact leave1 rfl rfl (⟨true, hV, rfl, hS⟩)
 intro hc_208
 replace hV := hV.2 hc_208
 refine WC.skip ?_
 refine WQ.out nofun ?_
 refine WQ.next ?_
 refine WC.region ?_
 refine R hS ?_
 obtain ⟨hi_207, hV⟩ := hV
 iterate 2 refine R hS ?_
 refine WL.nil ?_
 exact Wt fun a ha => ⟨(i_73 + 1), ⟨(i_73 + 1), rfl, hV.1, hi_207, hS, ha.os⟩, hV.2⟩
 clear hJ_182
 refine WC.quiet (C := St w0 H (L)) mixed (by kernel_rfl) (hS.drawn _) ?_
 clear hS w
 iterate 3 refine Rq ?_
 rcases bft (decide (0 < r_154)) with hg_184 | hg_184
 replace hV := hV.1 (od hg_184)
 iterate 2 refine Rq ?_
 refine Uq hg_184 ?_
 have hl_185 : Len model_4 := h_6.bound
 replace hV := hV hl_185
 refine Rm (ex_len_sl underlying24 rfl h_6) ?_
 iterate 3 refine Rq ?_
 rcases bft (decide (r_154 ≤ (model_4.length : Int))) with hg_187 | hg_187
 replace hV := hV.1 (od hg_187)
 iterate 2 refine Rq ?_
 refine Uq hg_187 ?_
 obtain ⟨hi_189, hV⟩ := hV
 refine Rq ?_
 refine Uq hg_187 ?_
 obtain ⟨hin_190, hV⟩ := hV
 refine Wq.runx rfl rfl rfl (ex_index underlying24 sizeOf4 rfl rfl h_6 hin_190) ?_
 intro p_191 hp_192
 refine Uq hg_187 ?_
 refine Wq.runx rfl rfl rfl (ex_load isAgg4 rfl rfl hp_192) ?_
 intro u_195 hu_196
 obtain rfl := cBool_rep hu_196
 iterate 2 refine Rq ?_
 refine Uq hg_187 ?_
 obtain ⟨hin_197, hV⟩ := hV
 refine Wq.runx rfl rfl rfl (ex_index underlying23 sizeOf3 rfl rfl h_3 hin_197) ?_
 intro p_198 hp_199
 refine Uq hg_187 ?_
 refine Wq.runx rfl rfl rfl (ex_load isAgg3 rfl rfl hp_199) ?_
 intro u_202 hu_203
 obtain ⟨rfl, hr_204⟩ := cInt_rep hu_203
 replace hr_204 := has_I64 hr_204
 replace hV := hV hr_204
 refine Rq ?_
 refine Uq hg_187 ?_
 refine Rm (ex_beql underlying4 rfl rfl) ?_
 refine Rq ?_
 refine Wq.nil fun w hS => ?_
 exact Wt fun a ha => ⟨((ix model_4 (r_154 - 1)) == (decide (0 < (ix c_1 i_73)))), hV, hS, ha.os⟩
 replace hV := hV.2 (ov hg_187)
 iterate 12 refine Rq ?_
 refine Wq.nil fun w hS => ?_
 exact Wt fun a ha => ⟨false, hV, hS, ha.os⟩
 replace hV := hV.2 (ov hg_184)
 iterate 18 refine Rq ?_
 refine Wq.nil fun w hS => ?_
 exact Wt fun a ha => ⟨false, hV, hS, ha.os⟩
 intro hc_209
 replace hV := hV.2 (ov hc_209)
 refine WC.exit ?_
 refine Wp ?_
 refine Wp ?_
 refine WQ.hit ?_
 refine WQ.next ?_
 refine WC.sr ?_
 refine R hS ?_
 refine WL.nx ?_
 refine WC.ret ?_
 exact leave1 rfl rfl (⟨false, hV, rfl, hS⟩)

theorem S_Models {w0 : World} {H : View} {L : Seg} {w : World} {v_2 : Value} {clauses_1 : List LI} {v_5 : Value} {model_4 : List Bool} {Q : Bool → Prop} (h_3 : IsSl H (cSl (cInt .i64)) v_2 clauses_1) (h_6 : IsSl H cBool v_5 model_4) (hS : St w0 H (L) w) (hV : V_Models clauses_1 model_4 Q) :
 Calls Tryz.prog 11 #[v_2, v_5] w fun e w' => ∃ (r1 : Bool), Q r1 ∧ e = .returned (.bool r1) ∧ St w0 H (L) w' := by
 unfold V_Models at hV
 refine enter func11 rfl ntmps11 rfl (lk_args_cons (d := 0) (v := v_2) rfl (lk_args_cons (d := 1) (v := v_5) rfl (lk_args_nil _))) ?_
 refine WC.sr ?_
 refine R hS ?_
 refine WL.nx ?_
 refine WC.seq ?_
 refine WC.sr ?_
 refine R hS ?_
 refine WL.nx ?_
 refine WC.block ?_
 obtain ⟨I_39, mu_40, hI_57, hV⟩ := hV
 refine WC.loop (σ := Int) (fun s a w => ∃ (i_22 : Int), s = i_22 ∧ I_39 i_22 ∧ I64 i_22 ∧ St w0 H (L) w ∧ Fr 21 [(0, v_2), (1, v_5), (5, i6 i_22)] a) mu_40 0 ?_ ?_
 exact fun a ha => ⟨0, rfl, hI_57, (by unfold I64; omega), hS, ha.os⟩
 clear hS hI_57
 rintro i_22 a w ⟨_, rfl, hI, hr_23, hS, ha⟩
 refine in_frame ha ?_
 clear ha
 replace hV := hV _ hI
 clear hI
 refine WC.seq ?_
 refine WC.sr ?_
 iterate 2 refine R hS ?_
 have hl_42 : Len clauses_1 := h_3.bound
 replace hV := hV hl_42
 refine Rn hS (ex_len_sl underlying22 rfl h_3) ?_
 refine R hS ?_
 refine WL.nx ?_
 refine Cd ?_ ?_
 intro hc_56
 replace hV := hV.1 (od hc_56)
 refine WC.skip ?_
 refine WQ.next ?_
 refine WC.seq ?_
 refine WC.block ?_
 refine WC.sr ?_
 iterate 2 refine R hS ?_
 obtain ⟨hin_44, hV⟩ := hV
 refine Rx hS (ex_index underlying22 sizeOf23 rfl rfl h_3 hin_44) ?_
 intro p_45 hp_46
 refine Rx hS (ex_load isAgg23 rfl rfl hp_46) ?_
 intro u_49 hu_50
 replace hu_50 := cSl_rep hu_50
 refine R hS ?_
 refine Rc (enters0 (vs := [u_49, v_5]) call19 ⟨rfl, rfl, trivial⟩) (S_Makes  hu_50 h_6 hS hV) ?_
 clear hV hS
 rintro _ w ⟨r_51, hV, rfl, hS⟩
 refine ⟨_, rfl, ?_⟩
 refine R hS ?_
 refine WL.nx ?_
 refine Sb [(0, v_2), (1, v_5), (5, i6 i_22), (6, .bool r_51)] ?_
 refine WC.sr ?_
 iterate 2 refine R hS ?_
 refine WL.nx ?_
 refine Cd ?_ ?_
 intro hc_55
 replace hV := hV.1 hc_55
 refine WC.sr ?_
 refine R hS ?_
 refine WL.nx ?_
 refine WC.ret ?_
 refine WQ.out nofun ?_
 refine Wp ?_
 refine Wp ?_
 refine WQ.out nofun ?_
 refine Wp ?_
 exact leave1 rfl rfl (⟨false, hV, rfl, hS⟩)
 intro hc_55
 replace hV := hV.2 hc_55
 refine WC.skip ?_
 refine WQ.out nofun ?_
 refine WQ.next ?_
 refine WC.region ?_
 refine R hS ?_
 obtain ⟨hi_54, hV⟩ := hV
 iterate 2 refine R hS ?_
 refine WL.nil ?_
 exact Wt fun a ha => ⟨(i_22 + 1), ⟨(i_22 + 1), rfl, hV.1, hi_54, hS, ha.os⟩, hV.2⟩
 intro hc_56
 replace hV := hV.2 (ov hc_56)
 refine WC.exit ?_
 refine Wp ?_
 refine Wp ?_
 refine WQ.hit ?_
 refine WQ.next ?_
 refine WC.sr ?_
 refine R hS ?_
 refine WL.nx ?_
 refine WC.ret ?_
 exact leave1 rfl rfl (⟨true, hV, rfl, hS⟩)

theorem S_copied {w0 : World} {H : View} {L : Seg} {w : World} {v_2 : Value} {l_1 : List LI} {Q : (List LI) → Prop} (h_3 : IsSl H (cSl (cInt .i64)) v_2 l_1) (hS : St w0 H (L) w) (hV : V_copied l_1 Q) :
 Calls Tryz.prog 4 #[v_2] w fun e w' => ∃ (r1 : List LI) (v1 : Value) (fp1 : Seg) (H' : View), Q r1 ∧ e = .returned (v1) ∧ View.le H H' ∧ OwnSl H' (cSl (cInt .i64)) 23 v1 r1 fp1 ∧ St w0 H' (fp1 ++ L) w' := by
 unfold V_copied at hV
 refine enter func4 rfl ntmps4 rfl (lk_args_cons (d := 0) (v := v_2) rfl (lk_args_nil _)) ?_
 refine WC.sr ?_
 refine R hS ?_
 refine WL.nx ?_
 refine WC.sr ?_
 refine R hS ?_
 refine WL.nx ?_
 refine WC.seq ?_
 refine WC.sr ?_
 refine R hS ?_
 refine WL.nx ?_
 refine WC.block ?_
 replace hS := hS.nilseg
 obtain ⟨I_116, mu_117, hI_152, hV⟩ := hV
 refine WC.loop (σ := (List LI) × Int) (fun s a w => ∃ (out_77 : List LI) (i_81 : Int) (H_74 : View) (v_78 : Value) (fp_79 : Seg), s = (out_77, i_81) ∧ I_116 (out_77, i_81) ∧ View.le H H_74 ∧ OwnSl H_74 (cSl (cInt .i64)) 23 v_78 out_77 fp_79 ∧ I64 i_81 ∧ St w0 H_74 (fp_79 ++ L) w ∧ Fr 23 [(0, v_2), (3, v_78), (4, i6 i_81)] a) mu_117 (([] : List LI), 0) ?_ ?_
 exact fun a ha => ⟨([] : List LI), 0, H, ns, ([] : Seg), rfl, hI_152, (View.le.refl _), OwnSl.nil, (by unfold I64; omega), hS, ha.os⟩
 clear hS hI_152
 rintro _ a w ⟨out_77, i_81, H_74, v_78, fp_79, rfl, hI, le_75, h_80, hr_82, hS, ha⟩
 refine in_frame ha ?_
 clear ha
 replace hV := hV _ hI
 clear hI
 refine WC.seq ?_
 refine WC.sr ?_
 iterate 2 refine R hS ?_
 have hl_119 : Len l_1 := (h_3.mono le_75).bound
 replace hV := hV hl_119
 refine Rn hS (ex_len_sl underlying22 rfl (h_3.mono le_75)) ?_
 refine R hS ?_
 refine WL.nx ?_
 refine Cd ?_ ?_
 intro hc_151
 replace hV := hV.1 (od hc_151)
 refine WC.skip ?_
 refine WQ.next ?_
 refine WC.seq ?_
 refine WC.block ?_
 refine WC.sr ?_
 refine WL.build0 (α := Int) (c := (cInt .i64)) rfl underlying23 sizeOf3 hS ?_
 clear hS
 intro v_122 w fp_123 h_124 hS
 iterate 2 refine R hS ?_
 obtain ⟨hin_125, hV⟩ := hV
 refine Rx hS (ex_index underlying22 sizeOf23 rfl rfl (h_3.mono le_75) hin_125) ?_
 intro p_126 hp_127
 refine Rx hS (ex_load isAgg23 rfl rfl hp_127) ?_
 intro u_130 hu_131
 replace hu_131 := cSl_rep hu_131
 obtain ⟨hr_132, hV⟩ := hV
 refine WL.append (c := (cInt .i64)) (xs := ([] : LI)) (ys := (ix l_1 i_81)) rfl underlying23 info3 rfl rfl rfl hS h_124 (hu_131.src hS) hr_132.1 hr_132.2 ?_
 clear hS
 intro v_133 w fp_134 h_135 hS
 rw [List.nil_append] at h_135
 refine R hS ?_
 refine WL.nx ?_
 refine WC.region ?_
 iterate 2 refine R hS ?_
 obtain ⟨H_141, le_142, h_143, hS⟩ : ∃ K, View.le H_74 K ∧ IsSl K (cInt .i64) v_133 (ix l_1 i_81) ∧ St w0 K (fp_79 ++ L) w := ⟨_, hS.put_le, h_135.share hS.put_le, hS.freeze⟩
 refine WL.build1 (c := (cSl (cInt .i64))) rfl underlying22 info23 rfl rfl (cSl_mk h_143) hS ?_
 clear hS
 intro v_138 w fp_139 h_140 hS
 obtain ⟨hr_144, hV⟩ := hV
 replace hS := hS.f2
 refine WL.append (c := (cSl (cInt .i64))) (xs := out_77) (ys := ([(ix l_1 i_81)])) rfl underlying22 info23 rfl rfl rfl hS (h_80.mono le_142) (h_140.src hS.f2) hr_144.1 hr_144.2 ?_
 clear hS
 intro v_145 w fp_146 h_147 hS
 refine R hS ?_
 refine WL.nil ?_
 refine WQ.out nofun ?_
 refine WQ.next ?_
 refine Sb [(0, v_2), (3, v_145), (4, i6 i_81)] ?_
 replace hS := hS.f2.drop
 refine WC.region ?_
 refine R hS ?_
 obtain ⟨hi_150, hV⟩ := hV
 iterate 2 refine R hS ?_
 refine WL.nil ?_
 exact Wt fun a ha => ⟨((out_77 ++ ([(ix l_1 i_81)])), (i_81 + 1)), ⟨(out_77 ++ ([(ix l_1 i_81)])), (i_81 + 1), H_141, v_145, fp_146, rfl, hV.1, (((View.le.refl _).trans le_75).trans le_142), h_147, hi_150, hS, ha.os⟩, hV.2⟩
 intro hc_151
 replace hV := hV.2 (ov hc_151)
 refine WC.exit ?_
 refine Wp ?_
 refine Wp ?_
 refine WQ.hit ?_
 refine WQ.next ?_
 refine WC.sr ?_
 iterate 2 refine R hS ?_
 refine WL.nx ?_
 refine WC.ret ?_
 exact leave1 rfl rfl (⟨out_77, v_78, fp_79, H_74, hV, rfl, ((View.le.refl _).trans le_75), h_80, hS⟩)

theorem S_sameClauses {w0 : World} {H : View} {L : Seg} {w : World} {v_2 : Value} {a_1 : List LI} {v_5 : Value} {b_4 : List LI} {Q : Bool → Prop} (h_3 : IsSl H (cSl (cInt .i64)) v_2 a_1) (h_6 : IsSl H (cSl (cInt .i64)) v_5 b_4) (hS : St w0 H (L) w) (hV : V_sameClauses a_1 b_4 Q) :
 Calls Tryz.prog 9 #[v_2, v_5] w fun e w' => ∃ (r1 : Bool), Q r1 ∧ e = .returned (.bool r1) ∧ St w0 H (L) w' := by
 unfold V_sameClauses at hV
 refine enter func9 rfl ntmps9 rfl (lk_args_cons (d := 0) (v := v_2) rfl (lk_args_cons (d := 1) (v := v_5) rfl (lk_args_nil _))) ?_
 refine WC.sr ?_
 refine R hS ?_
 refine WL.nx ?_
 refine WC.seq ?_
 refine WC.sr ?_
 refine R hS ?_
 have hl_7 : Len a_1 := h_3.bound
 replace hV := hV hl_7
 refine Rn hS (ex_len_sl underlying22 rfl h_3) ?_
 refine R hS ?_
 have hl_8 : Len b_4 := h_6.bound
 replace hV := hV hl_8
 refine Rn hS (ex_len_sl underlying22 rfl h_6) ?_
 refine R hS ?_
 refine WL.nx ?_
 refine Cd ?_ ?_
 intro hc_136
 replace hV := hV.1 (od hc_136)
 refine WC.sr ?_
 refine R hS ?_
 refine WL.nx ?_
 refine WC.ret ?_
 refine Wp ?_
 exact leave1 rfl rfl (⟨false, hV, rfl, hS⟩)
 intro hc_136
 replace hV := hV.2 (ov hc_136)
 refine WC.skip ?_
 refine WQ.next ?_
 refine WC.seq ?_
 refine WC.sr ?_
 refine R hS ?_
 refine WL.nx ?_
 refine WC.block ?_
 obtain ⟨I_92, mu_93, hI_135, hV⟩ := hV
 refine WC.loop (σ := Int) (fun s a w => ∃ (i_50 : Int), s = i_50 ∧ I_92 i_50 ∧ I64 i_50 ∧ St w0 H (L) w ∧ Fr 29 [(0, v_2), (1, v_5), (5, i6 i_50)] a) mu_93 0 ?_ ?_
 exact fun a ha => ⟨0, rfl, hI_135, (by unfold I64; omega), hS, ha.os⟩
 clear hS hI_135
 rintro i_50 a w ⟨_, rfl, hI, hr_51, hS, ha⟩
 refine in_frame ha ?_
 clear ha
 replace hV := hV _ hI
 clear hI
 refine WC.seq ?_
 refine WC.sr ?_
 iterate 2 refine R hS ?_
 have hl_95 : Len a_1 := h_3.bound
 replace hV := hV hl_95
 refine Rn hS (ex_len_sl underlying22 rfl h_3) ?_
 refine R hS ?_
 refine WL.nx ?_
 refine Cd ?_ ?_
 intro hc_134
 replace hV := hV.1 (od hc_134)
 refine WC.skip ?_
 refine WQ.next ?_
 refine WC.seq ?_
 refine WC.block ?_
 refine WC.seq ?_
 refine WC.drawn (σ := [0, 1, 2, 3, 4, 5, 6, 7, 8, 9]) (C := St w0 H (L)) [[], [], [0, 1], [0, 1, 2], [], [], [4, 5], [4, 5, 6], [0, 1, 2, 3, 4, 5, 6, 7], [0, 1, 2, 3, 4, 5, 6, 7, 8]] [8] mixed (by kernel_rfl) (hS.drawn _) ?_
 clear hS w
 refine Dm fun q_98 hq_97 => ?_
 refine Dm fun q_100 hq_99 => ?_
 obtain ⟨hin_103, hV⟩ := hV
 refine Wd.runx rfl rfl rfl rfl (exAll (ex_index underlying22 sizeOf23 rfl rfl h_3 hin_103)) ?_
 intro p_104 hp_105
 intro q_102 hq_101
 refine Wd.runs (fp := ([] : Seg)) (L := L) rfl rfl rfl rfl (ex_load_s isAgg23 rfl rfl hp_105) (fun _ h => h) ?_
 intro u_110 hu_111
 replace hu_111 := cSl_rep hu_111
 intro q_107 hq_106
 refine Dm fun q_113 hq_112 => ?_
 refine Dm fun q_115 hq_114 => ?_
 obtain ⟨hin_118, hV⟩ := hV
 refine Wd.runx rfl rfl rfl rfl (exAll (ex_index underlying22 sizeOf23 rfl rfl h_6 hin_118)) ?_
 intro p_119 hp_120
 intro q_117 hq_116
 refine Wd.runs (fp := ([] : Seg)) (L := L) rfl rfl rfl rfl (ex_load_s isAgg23 rfl rfl hp_120) (fun _ h => h) ?_
 intro u_125 hu_126
 replace hu_126 := cSl_rep hu_126
 intro q_122 hq_121
 refine Wd.turn rfl rfl rfl fun w hS => ?_
 refine Rc (enters0 (vs := [u_110, u_125]) call10 ⟨rfl, rfl, trivial⟩) (S_sameInts  hu_111 hu_126 hS hV) ?_
 clear hV hS
 rintro _ w ⟨r_127, hV, rfl, hS⟩
 refine ⟨_, rfl, ?_⟩
 refine WL.nil (DQ.mk2 (C' := St w0 H (L)) hS ⟨il, il, il, il, il, il, il, il, trivial⟩ ?_)
 clear hS w
 refine Wd.run rfl rfl rfl rfl (fun _ => ex_assign rfl) fun q_130 hq_129 => ?_
 refine Wd.nil fun w hS => ?_
 refine WQ.next ?_
 refine Sb [(0, v_2), (1, v_5), (5, i6 i_50), (6, .bool r_127)] ?_
 refine WC.sr ?_
 iterate 2 refine R hS ?_
 refine WL.nx ?_
 refine Cd ?_ ?_
 intro hc_133
 replace hV := hV.1 hc_133
 refine WC.sr ?_
 refine R hS ?_
 refine WL.nx ?_
 refine WC.ret ?_
 refine WQ.out nofun ?_
 refine Wp ?_
 refine Wp ?_
 refine WQ.out nofun ?_
 refine Wp ?_
 exact leave1 rfl rfl (⟨false, hV, rfl, hS⟩)
 intro hc_133
 replace hV := hV.2 hc_133
 refine WC.skip ?_
 refine WQ.out nofun ?_
 refine WQ.next ?_
 refine WC.region ?_
 refine R hS ?_
 obtain ⟨hi_132, hV⟩ := hV
 iterate 2 refine R hS ?_
 refine WL.nil ?_
 exact Wt fun a ha => ⟨(i_50 + 1), ⟨(i_50 + 1), rfl, hV.1, hi_132, hS, ha.os⟩, hV.2⟩
 intro hc_134
 replace hV := hV.2 (ov hc_134)
 refine WC.exit ?_
 refine Wp ?_
 refine Wp ?_
 refine WQ.hit ?_
 refine WQ.next ?_
 refine WC.sr ?_
 refine R hS ?_
 refine WL.nx ?_
 refine WC.ret ?_
 exact leave1 rfl rfl (⟨true, hV, rfl, hS⟩)

theorem S_refChecked {w0 : World} {H : View} {L : Seg} {w : World} {n_1 : Int} {v_4 : Value} {clauses_3 : List LI} {v_7 : Value} {proof_6 : List (Bool × LI)} {Q : Bool → Prop} (hr_2 : I64 n_1) (h_5 : IsSl H (cSl (cInt .i64)) v_4 clauses_3) (h_8 : IsSl H (cPair cBool (cSl (cInt .i64))) v_7 proof_6) (hS : St w0 H (L) w) (hV : V_refChecked n_1 clauses_3 proof_6 Q) :
 Calls Tryz.prog 12 #[i6 n_1, v_4, v_7] w fun e w' => ∃ (r1 : Bool), Q r1 ∧ e = .returned (.bool r1) ∧ St w0 H (L) w' := by
 unfold V_refChecked at hV
 refine enter func12 rfl ntmps12 rfl (lk_args_cons (d := 0) (v := i6 n_1) rfl (lk_args_cons (d := 1) (v := v_4) rfl (lk_args_cons (d := 2) (v := v_7) rfl (lk_args_nil _)))) ?_
 refine WC.sr ?_
 refine R hS ?_
 refine WL.nx ?_
 refine WC.sr ?_
 iterate 2 refine R hS ?_
 refine Rc (enters0 (vs := [i6 n_1, v_4]) call5 ⟨rfl, rfl, trivial⟩) (S_Fault  hr_2 h_5 hS hV) ?_
 clear hV hS
 rintro _ w ⟨r_9, hV, rfl, hr_10, hS⟩
 refine ⟨_, rfl, ?_⟩
 refine R hS ?_
 refine WL.nx ?_
 refine WC.seq ?_
 refine WC.sr ?_
 iterate 2 refine R hS ?_
 refine WL.nx ?_
 refine Cd ?_ ?_
 intro hc_923
 replace hV := hV.1 (od hc_923)
 refine WC.sr ?_
 refine R hS ?_
 refine WL.nx ?_
 refine Sb [(6, .bool false)] ?_
 refine WC.ret ?_
 refine Wp ?_
 exact leave1 rfl rfl (⟨false, hV, rfl, hS⟩)
 intro hc_923
 replace hV := hV.2 (ov hc_923)
 refine WC.skip ?_
 refine WQ.next ?_
 refine WC.seq ?_
 refine WC.sr ?_
 refine R hS ?_
 refine WL.nx ?_
 refine WC.block ?_
 obtain ⟨I_49, mu_50, hI_922, hV⟩ := hV
 refine WC.loop (σ := Int) (fun s a w => ∃ (i_30 : Int), s = i_30 ∧ I_49 i_30 ∧ I64 i_30 ∧ St w0 H (L) w ∧ Fr 93 [(0, i6 n_1), (1, v_4), (2, v_7), (8, i6 i_30)] a) mu_50 0 ?_ ?_
 exact fun a ha => ⟨0, rfl, hI_922, (by unfold I64; omega), hS, ha.os⟩
 clear hS hI_922
 rintro i_30 a w ⟨_, rfl, hI, hr_31, hS, ha⟩
 refine in_frame ha ?_
 clear ha
 replace hV := hV _ hI
 clear hI
 refine WC.seq ?_
 refine WC.sr ?_
 iterate 2 refine R hS ?_
 have hl_52 : Len proof_6 := h_8.bound
 replace hV := hV hl_52
 refine Rn hS (ex_len_sl underlying28 rfl h_8) ?_
 refine R hS ?_
 refine WL.nx ?_
 refine Cd ?_ ?_
 intro hc_921
 replace hV := hV.1 (od hc_921)
 refine WC.skip ?_
 refine WQ.next ?_
 refine WC.seq ?_
 refine WC.block ?_
 refine WC.sr ?_
 iterate 3 refine R hS ?_
 obtain ⟨hin_54, hV⟩ := hV
 refine Rx hS (ex_index underlying28 sizeOf50 rfl rfl h_8 hin_54) ?_
 intro p_55 hp_56
 refine Rx hS (ex_fieldAddr_pt (d := (cSl (cInt .i64))) underlying50 rfl sizeOf23 rfl hp_56 Part.snd) ?_
 intro p_58 hp_57
 refine Rx hS (ex_load isAgg23 rfl rfl hp_57) ?_
 intro u_61 hu_62
 replace hu_62 := cSl_rep hu_62
 refine Rc (enters0 (vs := [i6 n_1, u_61]) call13 ⟨rfl, rfl, trivial⟩) (S_refLiterals  hr_2 hu_62 hS hV) ?_
 clear hV hS
 rintro _ w ⟨r_63, hV, rfl, hS⟩
 refine ⟨_, rfl, ?_⟩
 refine R hS ?_
 refine WL.nx ?_
 refine Sb [(0, i6 n_1), (1, v_4), (2, v_7), (8, i6 i_30), (9, .bool r_63)] ?_
 refine WC.sr ?_
 iterate 2 refine R hS ?_
 refine WL.nx ?_
 refine Cd ?_ ?_
 intro hc_67
 replace hV := hV.1 hc_67
 refine WC.sr ?_
 refine R hS ?_
 refine WL.nx ?_
 refine WC.ret ?_
 refine WQ.out nofun ?_
 refine Wp ?_
 refine Wp ?_
 refine WQ.out nofun ?_
 refine Wp ?_
 exact leave1 rfl rfl (⟨false, hV, rfl, hS⟩)
 intro hc_67
 replace hV := hV.2 hc_67
 refine WC.skip ?_
 refine WQ.out nofun ?_
 refine WQ.next ?_
 refine WC.region ?_
 refine R hS ?_
 obtain ⟨hi_66, hV⟩ := hV
 iterate 2 refine R hS ?_
 refine WL.nil ?_
 exact Wt fun a ha => ⟨(i_30 + 1), ⟨(i_30 + 1), rfl, hV.1, hi_66, hS, ha.os⟩, hV.2⟩
 intro hc_921
 replace hV := hV.2 (ov hc_921)
 refine WC.exit ?_
 refine Wp ?_
 refine Wp ?_
 refine WQ.hit ?_
 refine WQ.next ?_
 refine WC.sr ?_
 refine R hS ?_
 refine WL.nx ?_
 refine WC.sr ?_
 iterate 2 refine R hS ?_
 obtain ⟨hr_69, hV⟩ := hV
 replace hS := hS.nilseg
 refine WL.append (c := (cSl (cInt .i64))) (xs := ([] : List LI)) (ys := clauses_3) rfl underlying22 info23 rfl rfl rfl hS OwnSl.nil (h_5.src hS) hr_69.1 hr_69.2 ?_
 clear hS
 intro v_70 w fp_71 h_72 hS
 rw [List.nil_append] at h_72
 refine R hS ?_
 refine WL.nx ?_
 refine WC.sr ?_
 refine R hS ?_
 refine WL.nx ?_
 refine WC.seq ?_
 refine WC.sr ?_
 refine R hS ?_
 refine WL.nx ?_
 refine WC.block ?_
 obtain ⟨I_638, mu_639, hI_920, hV⟩ := hV
 refine WC.loop (σ := (List LI) × Bool × Int) (fun s a w => ∃ (l_352 : List LI) (shown_356 : Bool) (i_357 : Int) (v_353 : Value) (fp_354 : Seg), s = (l_352, shown_356, i_357) ∧ I_638 (l_352, shown_356, i_357) ∧ OwnSl H (cSl (cInt .i64)) 23 v_353 l_352 fp_354 ∧ I64 i_357 ∧ St w0 H (fp_354 ++ L) w ∧ Fr 93 [(0, i6 n_1), (2, v_7), (10, v_353), (11, .bool shown_356), (12, i6 i_357)] a) mu_639 (clauses_3, false, 0) ?_ ?_
 exact fun a ha => ⟨clauses_3, false, 0, v_70, fp_71, rfl, hI_920, h_72, (by unfold I64; omega), hS, ha.os⟩
 clear hS hI_920
 rintro _ a w ⟨l_352, shown_356, i_357, v_353, fp_354, rfl, hI, h_355, hr_358, hS, ha⟩
 refine in_frame ha ?_
 clear ha
 replace hV := hV _ hI
 clear hI
 refine WC.seq ?_
 refine WC.sr ?_
 iterate 2 refine R hS ?_
 have hl_641 : Len proof_6 := h_8.bound
 replace hV := hV hl_641
 refine Rn hS (ex_len_sl underlying28 rfl h_8) ?_
 refine R hS ?_
 refine WL.nx ?_
 refine Cd ?_ ?_
 intro hc_919
 replace hV := hV.1 (od hc_919)
 refine WC.skip ?_
 refine WQ.next ?_
 obtain ⟨J_782, hJ_783, hV⟩ := hV
 refine WC.meet (fun a w => ∃ (l_777 : List LI) (shown_781 : Bool) (v_778 : Value) (fp_779 : Seg), J_782 (l_777, shown_781) ∧ OwnSl H (cSl (cInt .i64)) 23 v_778 l_777 fp_779 ∧ St w0 H (fp_779 ++ L) w ∧ Fr 93 [(0, i6 n_1), (2, v_7), (10, v_778), (11, .bool shown_781), (12, i6 i_357)] a) ?_ ?_
 rintro a w ⟨l_777, shown_781, v_778, fp_779, hI, h_780, hS, ha⟩
 refine in_frame ha ?_
 clear ha hV
 have hV := hJ_783 _ hI
 clear hI hJ_783
 refine WC.region ?_
 refine R hS ?_
 obtain ⟨hi_918, hV⟩ := hV
 iterate 2 refine R hS ?_
 refine WL.nil ?_
 exact Wt fun a ha => ⟨(l_777, shown_781, (i_357 + 1)), ⟨l_777, shown_781, (i_357 + 1), v_778, fp_779, rfl, hV.1, h_780, hi_918, hS, ha.os⟩, hV.2⟩
 clear hJ_783
 refine WC.block ?_
 refine WC.sr ?_
 iterate 2 refine R hS ?_
 obtain ⟨hin_784, hV⟩ := hV
 refine Rx hS (ex_index underlying28 sizeOf50 rfl rfl h_8 hin_784) ?_
 intro p_785 hp_786
 refine Rx hS (ex_fieldAddr_pt (d := (cSl (cInt .i64))) underlying50 rfl sizeOf23 rfl hp_786 Part.snd) ?_
 intro p_788 hp_787
 refine Rx hS (ex_load isAgg23 rfl rfl hp_787) ?_
 intro u_791 hu_792
 replace hu_792 := cSl_rep hu_792
 refine R hS ?_
 refine WL.nx ?_
 refine WC.seq ?_
 refine WC.sr ?_
 iterate 2 refine R hS ?_
 obtain ⟨hin_793, hV⟩ := hV
 refine Rx hS (ex_index underlying28 sizeOf50 rfl rfl h_8 hin_793) ?_
 intro p_794 hp_795
 refine Rx hS (ex_fieldAddr_pt (d := cBool) underlying50 rfl sizeOf4 rfl hp_795 Part.fst) ?_
 intro p_797 hp_796
 refine Rx hS (ex_load isAgg4 rfl rfl hp_796) ?_
 intro u_800 hu_801
 obtain rfl := cBool_rep hu_801
 refine WL.nx ?_
 refine Sb [(0, i6 n_1), (2, v_7), (10, v_353), (11, .bool shown_356), (12, i6 i_357), (13, u_791), (56, .bool ((ix proof_6 i_357).1))] ?_
 refine Cd ?_ ?_
 intro hc_916
 replace hV := hV.1 hc_916
 refine WC.sr ?_
 iterate 2 refine R hS ?_
 refine Rc (enters0 (vs := [v_353, u_791]) call20 ⟨rfl, rfl, trivial⟩) (S_gone  h_355 hu_792 hS hV) ?_
 clear hV hS
 rintro _ w ⟨r_802, v_803, fp_804, hV, rfl, h_805, hS⟩
 refine ⟨_, rfl, ?_⟩
 refine R hS ?_
 refine WL.nx ?_
 refine WC.exit ?_
 refine Wp ?_
 refine WQ.hit ?_
 exact Wt fun a ha => ⟨r_802, shown_356, v_803, fp_804, hV, h_805, hS, ha.os⟩
 intro hc_916
 replace hV := hV.2 hc_916
 refine WC.skip ?_
 refine WQ.next ?_
 refine WC.sr ?_
 refine R hS ?_
 refine WL.nx ?_
 refine WC.seq ?_
 refine WC.sr ?_
 refine R hS ?_
 refine WL.nx ?_
 refine WC.block ?_
 replace hS := hS.nilseg
 replace hS := hS.f2
 obtain ⟨I_862, mu_863, hI_915, hV⟩ := hV
 refine WC.loop (σ := LI × Int) (fun s a w => ∃ (opposite_833 : LI) (k_837 : Int) (v_834 : Value) (fp_835 : Seg), s = (opposite_833, k_837) ∧ I_862 (opposite_833, k_837) ∧ OwnSl H (cInt .i64) 3 v_834 opposite_833 fp_835 ∧ I64 k_837 ∧ St w0 H (fp_354 ++ (fp_835 ++ L)) w ∧ Fr 93 [(0, i6 n_1), (2, v_7), (10, v_353), (11, .bool shown_356), (12, i6 i_357), (13, u_791), (14, v_834), (15, i6 k_837)] a) mu_863 (([] : LI), 0) ?_ ?_
 exact fun a ha => ⟨([] : LI), 0, ns, ([] : Seg), rfl, hI_915, OwnSl.nil, (by unfold I64; omega), hS, ha.os⟩
 clear hS hI_915
 rintro _ a w ⟨opposite_833, k_837, v_834, fp_835, rfl, hI, h_836, hr_838, hS, ha⟩
 refine in_frame ha ?_
 clear ha
 replace hV := hV _ hI
 clear hI
 refine WC.seq ?_
 refine WC.sr ?_
 iterate 2 refine R hS ?_
 have hl_865 : Len ((ix proof_6 i_357).2) := hu_792.bound
 replace hV := hV hl_865
 refine Rn hS (ex_len_sl underlying23 rfl hu_792) ?_
 refine R hS ?_
 refine WL.nx ?_
 refine Cd ?_ ?_
 intro hc_914
 replace hV := hV.1 (od hc_914)
 refine WC.skip ?_
 refine WQ.next ?_
 refine WC.seq ?_
 refine WC.block ?_
 refine WC.region ?_
 iterate 3 refine R hS ?_
 obtain ⟨hin_867, hV⟩ := hV
 refine Rx hS (ex_index underlying23 sizeOf3 rfl rfl hu_792 hin_867) ?_
 intro p_868 hp_869
 refine Rx hS (ex_load isAgg3 rfl rfl hp_869) ?_
 intro u_872 hu_873
 obtain ⟨rfl, hr_874⟩ := cInt_rep hu_873
 replace hr_874 := has_I64 hr_874
 replace hV := hV hr_874
 obtain ⟨hi_875, hV⟩ := hV
 refine R hS ?_
 refine WL.build1 (c := (cInt .i64)) rfl underlying23 info3 rfl rfl (cInt_mk (I64.has hi_875)) hS ?_
 clear hS
 intro v_877 w fp_878 h_879 hS
 obtain ⟨hr_880, hV⟩ := hV
 replace hS := hS.f3
 refine WL.append (c := (cInt .i64)) (xs := opposite_833) (ys := ([(-(ix ((ix proof_6 i_357).2) k_837))])) rfl underlying23 info3 rfl rfl rfl hS h_836 (h_879.src hS.f2) hr_880.1 hr_880.2 ?_
 clear hS
 intro v_881 w fp_882 h_883 hS
 refine R hS ?_
 refine WL.nil ?_
 refine WQ.out nofun ?_
 refine WQ.next ?_
 refine Sb [(0, i6 n_1), (2, v_7), (10, v_353), (11, .bool shown_356), (12, i6 i_357), (13, u_791), (14, v_881), (15, i6 k_837)] ?_
 replace hS := hS.f2.drop
 refine WC.region ?_
 refine R hS ?_
 obtain ⟨hi_886, hV⟩ := hV
 iterate 2 refine R hS ?_
 refine WL.nil ?_
 replace hS := hS.f2
 exact Wt fun a ha => ⟨((opposite_833 ++ ([(-(ix ((ix proof_6 i_357).2) k_837))])), (k_837 + 1)), ⟨(opposite_833 ++ ([(-(ix ((ix proof_6 i_357).2) k_837))])), (k_837 + 1), v_881, fp_882, rfl, hV.1, h_883, hi_886, hS, ha.os⟩, hV.2⟩
 intro hc_914
 replace hV := hV.2 (ov hc_914)
 refine WC.exit ?_
 refine Wp ?_
 refine Wp ?_
 refine WQ.hit ?_
 refine WQ.next ?_
 refine WC.sr ?_
 iterate 3 refine R hS ?_
 replace hS := hS.f2.f2
 have hL_887 := hS.freeze
 have hL_888 := hL_887.freeze
 refine Rc (enters0 (vs := [i6 n_1, v_353, v_834]) call21 ⟨rfl, rfl, rfl, trivial⟩) (S_refFollow  hr_2 ((h_355.share hS.put_le).mono hL_887.put_le) ((h_836.mono hS.put_le).share hL_887.put_le) hL_888 hV) ?_
 clear hV
 rintro _ w ⟨r_889, r_894, v_890, fp_891, hV, rfl, h_892, hL_895⟩
 refine ⟨_, rfl, ?_⟩
 have hB_897 := hL_887.back hL_895
 have hB_898 := hS.back hB_897
 replace hS := hB_898
 clear hL_895 hL_887 hL_888 hB_897 hB_898
 replace h_892 := rep_own (K := H) h_892 (fun _ _ h => h)
 iterate 5 refine R hS ?_
 refine WL.nx ?_
 refine Sb [(0, i6 n_1), (2, v_7), (10, v_353), (11, .bool shown_356), (12, i6 i_357), (13, u_791), (17, .bool r_894)] ?_
 replace hS := hS.f2.drop
 replace hS := hS.f2.drop
 refine WC.seq ?_
 refine WC.sr ?_
 refine R hS ?_
 refine WL.nx ?_
 refine Cd ?_ ?_
 intro hc_913
 replace hV := hV.1 hc_913
 refine WC.sr ?_
 refine R hS ?_
 refine WL.nx ?_
 replace hS := hS.drop
 refine WC.ret ?_
 refine Wp ?_
 refine WQ.out nofun ?_
 refine Wp ?_
 refine Wp ?_
 refine WQ.out nofun ?_
 refine Wp ?_
 exact leave1 rfl rfl (⟨false, hV, rfl, hS⟩)
 intro hc_913
 replace hV := hV.2 hc_913
 refine WC.skip ?_
 refine WQ.next ?_
 refine WC.sr ?_
 iterate 2 refine R hS ?_
 refine WL.build1 (c := (cSl (cInt .i64))) rfl underlying22 info23 rfl rfl (cSl_mk hu_792) hS ?_
 clear hS
 intro v_900 w fp_901 h_902 hS
 obtain ⟨hr_903, hV⟩ := hV
 replace hS := hS.f2
 refine WL.append (c := (cSl (cInt .i64))) (xs := l_352) (ys := ([((ix proof_6 i_357).2)])) rfl underlying22 info23 rfl rfl rfl hS h_355 (h_902.src hS.f2) hr_903.1 hr_903.2 ?_
 clear hS
 intro v_904 w fp_905 h_906 hS
 refine R hS ?_
 refine WL.nx ?_
 replace hS := hS.f2.drop
 have hl_908 : Len ((ix proof_6 i_357).2) := hu_792.bound
 replace hV := hV hl_908
 refine WC.via (m := [(0, i6 n_1), (2, v_7), (10, v_904), (11, .bool (decide ((shown_356 = true) ∨ ((((ix proof_6 i_357).2).length : Int) = 0)))), (12, i6 i_357)]) ?_ ?_
 refine WC.region ?_
 iterate 2 refine R hS ?_
 rcases bft shown_356 with hg_910 | hg_910
 iterate 4 refine R hS ?_
 refine WL.up (s := 91) rfl (or_t ((dec_true _).symm.trans hg_910) : true = decide ((shown_356 = true) ∨ ((((ix proof_6 i_357).2).length : Int) = 0))) ?_
 refine R hS ?_
 exact WL.nil At.os
 refine R hS ?_
 refine Ug hg_910 ?_
 refine Rn hS (ex_len_sl underlying23 rfl hu_792) ?_
 iterate 2 refine R hS ?_
 refine WL.up (s := 91) rfl (or_f ((dec_true _).symm.trans hg_910) : decide ((((ix proof_6 i_357).2).length : Int) = 0) = decide ((shown_356 = true) ∨ ((((ix proof_6 i_357).2).length : Int) = 0))) ?_
 refine R hS ?_
 exact WL.nil At.os
 refine WQ.out nofun ?_
 exact Wt fun a ha => ⟨(l_352 ++ ([((ix proof_6 i_357).2)])), decide ((shown_356 = true) ∨ ((((ix proof_6 i_357).2).length : Int) = 0)), v_904, fp_905, hV, h_906, hS, ha.os⟩
 intro hc_919
 replace hV := hV.2 (ov hc_919)
 refine WC.exit ?_
 refine Wp ?_
 refine Wp ?_
 refine WQ.hit ?_
 refine WQ.next ?_
 replace hS := hS.drop
 refine WC.sr ?_
 iterate 2 refine R hS ?_
 refine WL.nx ?_
 refine Sb [(6, .bool shown_356)] ?_
 refine WC.ret ?_
 exact leave1 rfl rfl (⟨shown_356, hV, rfl, hS⟩)

theorem S_valid1 {w0 : World} {H : View} {L : Seg} {w : World} {l_1 : Int} {b_4 : Nat} {c_3_6 : Int} {Q : Bool → Prop} (hr_2 : I64 l_1) (hr_7 : I64 c_3_6) (hS : St w0 H ([(b_4, oc #[i6 c_3_6] 3)] ++ L) w) (hV : V_valid1 l_1 c_3_6 Q) :
 Calls Tryz.prog 43 #[i6 l_1, (pq b_4)] w fun e w' => ∃ (r1 : Bool), Q r1 ∧ e = .returned (.bool r1) ∧ St w0 H ([(b_4, oc #[i6 c_3_6] 3)] ++ L) w' := by
 unfold V_valid1 at hV
 refine enter func43 rfl ntmps43 rfl (lk_args_cons (d := 0) (v := i6 l_1) rfl (lk_args_cons (d := 1) (v := (pq b_4)) rfl (lk_args_nil _))) ?_
 refine WC.sr ?_
 refine R hS ?_
 refine WL.nx ?_
 obtain ⟨J_15, hJ_16, hV⟩ := hV
 refine WC.meet (fun a w => ∃ (x_14 : Bool), J_15 x_14 ∧ St w0 H ([(b_4, oc #[i6 c_3_6] 3)] ++ L) w ∧ Fr 17 [(3, .bool x_14)] a) ?_ ?_
 rintro a w ⟨x_14, hI, hS, ha⟩
 refine in_frame ha ?_
 clear ha hV
 have hV := hJ_16 _ hI
 clear hI hJ_16
 refine WC.ret ?_
 exact leave1 rfl rfl (⟨x_14, hV, rfl, hS⟩)
 clear hJ_16
 refine WC.region ?_
 iterate 3 refine R hS ?_
 rcases bft (decide (l_1 = 0)) with hg_18 | hg_18
 replace hV := hV.1 (od hg_18)
 iterate 11 refine R hS ?_
 refine WL.nil ?_
 exact Wt fun a ha => ⟨true, hV, hS, ha.os⟩
 replace hV := hV.2 (ov hg_18)
 iterate 5 refine R hS ?_
 rcases bft (decide (c_3_6 < l_1)) with hg_20 | hg_20
 replace hV := hV.1 (od hg_20)
 iterate 6 refine R hS ?_
 refine WL.nil ?_
 exact Wt fun a ha => ⟨true, hV, hS, ha.os⟩
 replace hV := hV.2 (ov hg_20)
 iterate 2 refine R hS ?_
 refine Ug hg_20 ?_
 obtain ⟨hi_21, hV⟩ := hV
 iterate 4 refine R hS ?_
 refine WL.nil ?_
 exact Wt fun a ha => ⟨decide (l_1 < (-c_3_6)), hV, hS, ha.os⟩

theorem S_IndexFuncI {w0 : World} {H : View} {L : Seg} {w : World} {v_2 : Value} {s_1 : LI} {fc1 : FuncId} {caps1 : List Value} {fpc1 : Seg} {G1 : Int → (Bool → Prop) → Prop} {Q : Int → Prop} (h_3 : IsSl H (cInt .i64) v_2 s_1) (hb1 : ∀ (args : Array Value) (w : World), (callFunc fc1 args).run Tryz.prog w = .ok (.enter fc1 args) w) (hF1 : ∀ {H' : View} {L' : Seg} {w' : World} {x1 : Int} {K : Bool → Prop}, View.le H H' → I64 x1 → St w0 H' (fpc1 ++ L') w' → G1 x1 K → Calls Tryz.prog fc1 (([i6 x1] : List Value) ++ caps1).toArray w' fun e w'' => ∃ r : Bool, K r ∧ e = .returned (.bool r) ∧ St w0 H' (fpc1 ++ L') w'') (hS : St w0 H (fpc1 ++ L) w) (hV : V_IndexFuncI s_1 G1 Q) :
 Calls Tryz.prog 56 #[v_2, .func (.func fc1) #[] caps1.toArray] w fun e w' => ∃ (r1 : Int), Q r1 ∧ e = .returned (i6 r1) ∧ I64 r1 ∧ St w0 H (fpc1 ++ L) w' := by
 unfold V_IndexFuncI at hV
 refine enter func56 rfl ntmps56 rfl (lk_args_cons (d := 0) (v := v_2) rfl (lk_args_cons (d := 1) (v := .func (.func fc1) #[] caps1.toArray) rfl (lk_args_nil _))) ?_
 refine WC.sr ?_
 refine R hS ?_
 refine WL.nx ?_
 refine WC.seq ?_
 refine WC.sr ?_
 refine R hS ?_
 have hl_6 : Len s_1 := h_3.bound
 replace hV := hV hl_6
 refine Rn hS (ex_len_sl underlying23 rfl h_3) ?_
 refine R hS ?_
 refine WL.nx ?_
 refine WC.block ?_
 obtain ⟨I_37, mu_38, hI_54, hV⟩ := hV
 refine WC.loop (σ := Int) (fun s a w => ∃ (x_21 : Int), s = x_21 ∧ I_37 x_21 ∧ I64 x_21 ∧ St w0 H (fpc1 ++ L) w ∧ Fr 19 [(0, v_2), (1, .func (.func fc1) #[] caps1.toArray), (7, i6 (s_1.length : Int)), (8, i6 x_21)] a) mu_38 0 ?_ ?_
 exact fun a ha => ⟨0, rfl, hI_54, (by unfold I64; omega), hS, ha.os⟩
 clear hS hI_54
 rintro x_21 a w ⟨_, rfl, hI, hr_22, hS, ha⟩
 refine in_frame ha ?_
 clear ha
 replace hV := hV _ hI
 clear hI
 refine WC.sr ?_
 refine R hS ?_
 refine WL.nx ?_
 refine WC.seq ?_
 refine Cd ?_ ?_
 intro hc_53
 replace hV := hV.1 (od hc_53)
 refine WC.skip ?_
 refine WQ.next ?_
 refine WC.seq ?_
 refine WC.block ?_
 refine WC.sr ?_
 iterate 2 refine R hS ?_
 refine WL.nx ?_
 refine WC.sr ?_
 iterate 3 refine R hS ?_
 obtain ⟨hin_41, hV⟩ := hV
 refine Rx hS (ex_index underlying23 sizeOf3 rfl rfl h_3 hin_41) ?_
 intro p_42 hp_43
 refine Rx hS (ex_load isAgg3 rfl rfl hp_43) ?_
 intro u_46 hu_47
 obtain ⟨rfl, hr_48⟩ := cInt_rep hu_47
 replace hr_48 := has_I64 hr_48
 replace hV := hV hr_48
 refine Rc (enters_c (vs := [i6 (ix s_1 x_21)]) (caps := caps1) rfl hb1 ⟨rfl, trivial⟩) (hF1 (View.le.refl _) hr_48 hS hV) ?_
 clear hV hS
 rintro _ w ⟨r_49, hV, rfl, hS⟩
 refine ⟨_, rfl, ?_⟩
 refine WL.nx ?_
 refine Cd ?_ ?_
 intro hc_52
 replace hV := hV.1 hc_52
 refine WC.sr ?_
 iterate 2 refine R hS ?_
 refine WL.nx ?_
 refine Sb [(4, i6 x_21)] ?_
 refine WC.ret ?_
 refine WQ.out nofun ?_
 refine Wp ?_
 refine Wp ?_
 refine WQ.out nofun ?_
 refine Wp ?_
 exact leave1 rfl rfl (⟨x_21, hV, rfl, hr_22, hS⟩)
 intro hc_52
 replace hV := hV.2 hc_52
 refine WC.skip ?_
 refine WQ.out nofun ?_
 refine WQ.next ?_
 refine WC.region ?_
 obtain ⟨hi_51, hV⟩ := hV
 iterate 2 refine R hS ?_
 refine WL.nil ?_
 exact Wt fun a ha => ⟨(x_21 + 1), ⟨(x_21 + 1), rfl, hV.1, hi_51, hS, ha.os⟩, hV.2⟩
 intro hc_53
 replace hV := hV.2 (ov hc_53)
 refine WC.exit ?_
 refine Wp ?_
 refine Wp ?_
 refine WQ.hit ?_
 refine WQ.next ?_
 refine WC.sr ?_
 refine R hS ?_
 refine WL.nx ?_
 refine WC.ret ?_
 exact leave1 rfl rfl (⟨(-1), hV, rfl, (by unfold I64; omega), hS⟩)

theorem S_ContainsFuncI {w0 : World} {H : View} {L : Seg} {w : World} {v_2 : Value} {s_1 : LI} {fc1 : FuncId} {caps1 : List Value} {fpc1 : Seg} {G1 : Int → (Bool → Prop) → Prop} {Q : Bool → Prop} (h_3 : IsSl H (cInt .i64) v_2 s_1) (hb1 : ∀ (args : Array Value) (w : World), (callFunc fc1 args).run Tryz.prog w = .ok (.enter fc1 args) w) (hF1 : ∀ {H' : View} {L' : Seg} {w' : World} {x1 : Int} {K : Bool → Prop}, View.le H H' → I64 x1 → St w0 H' (fpc1 ++ L') w' → G1 x1 K → Calls Tryz.prog fc1 (([i6 x1] : List Value) ++ caps1).toArray w' fun e w'' => ∃ r : Bool, K r ∧ e = .returned (.bool r) ∧ St w0 H' (fpc1 ++ L') w'') (hS : St w0 H (fpc1 ++ L) w) (hV : V_ContainsFuncI s_1 G1 Q) :
 Calls Tryz.prog 42 #[v_2, .func (.func fc1) #[] caps1.toArray] w fun e w' => ∃ (r1 : Bool), Q r1 ∧ e = .returned (.bool r1) ∧ St w0 H (fpc1 ++ L) w' := by
 unfold V_ContainsFuncI at hV
 refine enter func42 rfl ntmps42 rfl (lk_args_cons (d := 0) (v := v_2) rfl (lk_args_cons (d := 1) (v := .func (.func fc1) #[] caps1.toArray) rfl (lk_args_nil _))) ?_
 refine WC.sr ?_
 refine R hS ?_
 refine WL.nx ?_
 refine WC.sr ?_
 iterate 2 refine R hS ?_
 refine Rc (enters0 (vs := [v_2, .func (.func fc1) #[] caps1.toArray]) call56 ⟨rfl, rfl, trivial⟩) (S_IndexFuncI (fc1 := fc1) (caps1 := caps1) (fpc1 := fpc1) (G1 := G1) h_3 hb1 hF1 hS hV) ?_
 clear hV hS
 rintro _ w ⟨r_6, hV, rfl, hr_7, hS⟩
 refine ⟨_, rfl, ?_⟩
 iterate 2 refine R hS ?_
 refine WL.nx ?_
 refine WC.ret ?_
 exact leave1 rfl rfl (⟨decide (0 ≤ r_6), hV, rfl, hS⟩)

theorem S_valid {w0 : World} {H : View} {L : Seg} {w : World} {n_1 : Int} {v_4 : Value} {clause_3 : LI} {Q : Bool → Prop} (hr_2 : I64 n_1) (h_5 : IsSl H (cInt .i64) v_4 clause_3) (hS : St w0 H (L) w) (hV : V_valid n_1 clause_3 Q) :
 Calls Tryz.prog 24 #[i6 n_1, v_4] w fun e w' => ∃ (r1 : Bool), Q r1 ∧ e = .returned (.bool r1) ∧ St w0 H (L) w' := by
 unfold V_valid at hV
 refine enter func24 rfl ntmps24 rfl (lk_args_cons (d := 0) (v := i6 n_1) rfl (lk_args_cons (d := 1) (v := v_4) rfl (lk_args_nil _))) ?_
 refine WC.sr ?_
 refine WL.box (arr := #[i6 n_1]) rfl rfl rfl hS ?_
 clear hS
 intro b_6 w hS
 refine R hS ?_
 refine WL.nx ?_
 refine WC.sr ?_
 refine R hS ?_
 refine Rn hS (ex_makeFunc (vs := [(pq b_6)]) ⟨rfl, trivial⟩) ?_
 refine Rc (enters0 (vs := [v_4, .func (.func 43) #[] #[(pq b_6)]]) call42 ⟨rfl, rfl, trivial⟩) (S_ContainsFuncI (fc1 := 43) (caps1 := [(pq b_6)]) (fpc1 := ([(b_6, oc #[i6 n_1] 3)])) (G1 := (fun x1 K => V_valid1 x1 n_1 K)) h_5 call43 (fun hle hx1 hSx hVx => S_valid1 hx1 hr_2 hSx hVx) hS hV) ?_
 clear hV hS
 rintro _ w ⟨r_8, hV, rfl, hS⟩
 refine ⟨_, rfl, ?_⟩
 iterate 2 refine R hS ?_
 refine WL.nx ?_
 replace hS := hS.drop
 refine WC.ret ?_
 exact leave1 rfl rfl (⟨(!r_8), hV, rfl, hS⟩)

theorem S_checked1 {w0 : World} {H : View} {L : Seg} {w : World} {v_2 : Value} {c_1 : LI} {b_5 : Nat} {c_4_7 : Int} {Q : Bool → Prop} (h_3 : IsSl H (cInt .i64) v_2 c_1) (hr_8 : I64 c_4_7) (hS : St w0 H ([(b_5, oc #[i6 c_4_7] 3)] ++ L) w) (hV : V_checked1 c_1 c_4_7 Q) :
 Calls Tryz.prog 23 #[v_2, (pq b_5)] w fun e w' => ∃ (r1 : Bool), Q r1 ∧ e = .returned (.bool r1) ∧ St w0 H ([(b_5, oc #[i6 c_4_7] 3)] ++ L) w' := by
 unfold V_checked1 at hV
 refine enter func23 rfl ntmps23 rfl (lk_args_cons (d := 0) (v := v_2) rfl (lk_args_cons (d := 1) (v := (pq b_5)) rfl (lk_args_nil _))) ?_
 refine WC.sr ?_
 refine R hS ?_
 refine WL.nx ?_
 refine WC.sr ?_
 iterate 2 refine R hS ?_
 refine Rc (enters0 (vs := [i6 c_4_7, v_2]) call24 ⟨rfl, rfl, trivial⟩) (S_valid  hr_8 h_3 hS hV) ?_
 clear hV hS
 rintro _ w ⟨r_9, hV, rfl, hS⟩
 refine ⟨_, rfl, ?_⟩
 iterate 2 refine R hS ?_
 refine WL.nx ?_
 refine WC.ret ?_
 exact leave1 rfl rfl (⟨(!r_9), hV, rfl, hS⟩)

theorem S_IndexFuncL {w0 : World} {H : View} {L : Seg} {w : World} {v_2 : Value} {s_1 : List LI} {fc1 : FuncId} {caps1 : List Value} {fpc1 : Seg} {G1 : LI → (Bool → Prop) → Prop} {Q : Int → Prop} (h_3 : IsSl H (cSl (cInt .i64)) v_2 s_1) (hb1 : ∀ (args : Array Value) (w : World), (callFunc fc1 args).run Tryz.prog w = .ok (.enter fc1 args) w) (hF1 : ∀ {H' : View} {L' : Seg} {w' : World} {x1 : LI} {u1 : Value} {K : Bool → Prop}, View.le H H' → IsSl H' (cInt .i64) u1 x1 → St w0 H' (fpc1 ++ L') w' → G1 x1 K → Calls Tryz.prog fc1 (([u1] : List Value) ++ caps1).toArray w' fun e w'' => ∃ r : Bool, K r ∧ e = .returned (.bool r) ∧ St w0 H' (fpc1 ++ L') w'') (hS : St w0 H (fpc1 ++ L) w) (hV : V_IndexFuncL s_1 G1 Q) :
 Calls Tryz.prog 41 #[v_2, .func (.func fc1) #[] caps1.toArray] w fun e w' => ∃ (r1 : Int), Q r1 ∧ e = .returned (i6 r1) ∧ I64 r1 ∧ St w0 H (fpc1 ++ L) w' := by
 unfold V_IndexFuncL at hV
 refine enter func41 rfl ntmps41 rfl (lk_args_cons (d := 0) (v := v_2) rfl (lk_args_cons (d := 1) (v := .func (.func fc1) #[] caps1.toArray) rfl (lk_args_nil _))) ?_
 refine WC.sr ?_
 refine R hS ?_
 refine WL.nx ?_
 refine WC.seq ?_
 refine WC.sr ?_
 refine R hS ?_
 have hl_6 : Len s_1 := h_3.bound
 replace hV := hV hl_6
 refine Rn hS (ex_len_sl underlying22 rfl h_3) ?_
 refine R hS ?_
 refine WL.nx ?_
 refine WC.block ?_
 obtain ⟨I_35, mu_36, hI_51, hV⟩ := hV
 refine WC.loop (σ := Int) (fun s a w => ∃ (x_20 : Int), s = x_20 ∧ I_35 x_20 ∧ I64 x_20 ∧ St w0 H (fpc1 ++ L) w ∧ Fr 19 [(0, v_2), (1, .func (.func fc1) #[] caps1.toArray), (7, i6 (s_1.length : Int)), (8, i6 x_20)] a) mu_36 0 ?_ ?_
 exact fun a ha => ⟨0, rfl, hI_51, (by unfold I64; omega), hS, ha.os⟩
 clear hS hI_51
 rintro x_20 a w ⟨_, rfl, hI, hr_21, hS, ha⟩
 refine in_frame ha ?_
 clear ha
 replace hV := hV _ hI
 clear hI
 refine WC.sr ?_
 refine R hS ?_
 refine WL.nx ?_
 refine WC.seq ?_
 refine Cd ?_ ?_
 intro hc_50
 replace hV := hV.1 (od hc_50)
 refine WC.skip ?_
 refine WQ.next ?_
 refine WC.seq ?_
 refine WC.block ?_
 refine WC.sr ?_
 iterate 2 refine R hS ?_
 refine WL.nx ?_
 refine WC.sr ?_
 iterate 3 refine R hS ?_
 obtain ⟨hin_39, hV⟩ := hV
 refine Rx hS (ex_index underlying22 sizeOf23 rfl rfl h_3 hin_39) ?_
 intro p_40 hp_41
 refine Rx hS (ex_load isAgg23 rfl rfl hp_41) ?_
 intro u_44 hu_45
 replace hu_45 := cSl_rep hu_45
 refine Rc (enters_c (vs := [u_44]) (caps := caps1) rfl hb1 ⟨rfl, trivial⟩) (hF1 (View.le.refl _) hu_45 hS hV) ?_
 clear hV hS
 rintro _ w ⟨r_46, hV, rfl, hS⟩
 refine ⟨_, rfl, ?_⟩
 refine WL.nx ?_
 refine Cd ?_ ?_
 intro hc_49
 replace hV := hV.1 hc_49
 refine WC.sr ?_
 iterate 2 refine R hS ?_
 refine WL.nx ?_
 refine Sb [(4, i6 x_20)] ?_
 refine WC.ret ?_
 refine WQ.out nofun ?_
 refine Wp ?_
 refine Wp ?_
 refine WQ.out nofun ?_
 refine Wp ?_
 exact leave1 rfl rfl (⟨x_20, hV, rfl, hr_21, hS⟩)
 intro hc_49
 replace hV := hV.2 hc_49
 refine WC.skip ?_
 refine WQ.out nofun ?_
 refine WQ.next ?_
 refine WC.region ?_
 obtain ⟨hi_48, hV⟩ := hV
 iterate 2 refine R hS ?_
 refine WL.nil ?_
 exact Wt fun a ha => ⟨(x_20 + 1), ⟨(x_20 + 1), rfl, hV.1, hi_48, hS, ha.os⟩, hV.2⟩
 intro hc_50
 replace hV := hV.2 (ov hc_50)
 refine WC.exit ?_
 refine Wp ?_
 refine Wp ?_
 refine WQ.hit ?_
 refine WQ.next ?_
 refine WC.sr ?_
 refine R hS ?_
 refine WL.nx ?_
 refine WC.ret ?_
 exact leave1 rfl rfl (⟨(-1), hV, rfl, (by unfold I64; omega), hS⟩)

theorem S_ContainsFuncL {w0 : World} {H : View} {L : Seg} {w : World} {v_2 : Value} {s_1 : List LI} {fc1 : FuncId} {caps1 : List Value} {fpc1 : Seg} {G1 : LI → (Bool → Prop) → Prop} {Q : Bool → Prop} (h_3 : IsSl H (cSl (cInt .i64)) v_2 s_1) (hb1 : ∀ (args : Array Value) (w : World), (callFunc fc1 args).run Tryz.prog w = .ok (.enter fc1 args) w) (hF1 : ∀ {H' : View} {L' : Seg} {w' : World} {x1 : LI} {u1 : Value} {K : Bool → Prop}, View.le H H' → IsSl H' (cInt .i64) u1 x1 → St w0 H' (fpc1 ++ L') w' → G1 x1 K → Calls Tryz.prog fc1 (([u1] : List Value) ++ caps1).toArray w' fun e w'' => ∃ r : Bool, K r ∧ e = .returned (.bool r) ∧ St w0 H' (fpc1 ++ L') w'') (hS : St w0 H (fpc1 ++ L) w) (hV : V_ContainsFuncL s_1 G1 Q) :
 Calls Tryz.prog 22 #[v_2, .func (.func fc1) #[] caps1.toArray] w fun e w' => ∃ (r1 : Bool), Q r1 ∧ e = .returned (.bool r1) ∧ St w0 H (fpc1 ++ L) w' := by
 unfold V_ContainsFuncL at hV
 refine enter func22 rfl ntmps22 rfl (lk_args_cons (d := 0) (v := v_2) rfl (lk_args_cons (d := 1) (v := .func (.func fc1) #[] caps1.toArray) rfl (lk_args_nil _))) ?_
 refine WC.sr ?_
 refine R hS ?_
 refine WL.nx ?_
 refine WC.sr ?_
 iterate 2 refine R hS ?_
 refine Rc (enters0 (vs := [v_2, .func (.func fc1) #[] caps1.toArray]) call41 ⟨rfl, rfl, trivial⟩) (S_IndexFuncL (fc1 := fc1) (caps1 := caps1) (fpc1 := fpc1) (G1 := G1) h_3 hb1 hF1 hS hV) ?_
 clear hV hS
 rintro _ w ⟨r_6, hV, rfl, hr_7, hS⟩
 refine ⟨_, rfl, ?_⟩
 iterate 2 refine R hS ?_
 refine WL.nx ?_
 refine WC.ret ?_
 exact leave1 rfl rfl (⟨decide (0 ≤ r_6), hV, rfl, hS⟩)

theorem S_checked {w0 : World} {H : View} {L : Seg} {w : World} {n_1 : Int} {v_4 : Value} {clauses_3 : List LI} {v_7 : Value} {more_6 : LI} {Q : (Option Int) → Prop} (hr_2 : I64 n_1) (h_5 : IsSl H (cSl (cInt .i64)) v_4 clauses_3) (h_8 : IsSl H (cInt .i64) v_7 more_6) (hS : St w0 H (L) w) (hV : V_checked n_1 clauses_3 more_6 Q) :
 Calls Tryz.prog 15 #[i6 n_1, v_4, v_7] w fun e w' => ∃ (r1 : Option Int), Q r1 ∧ e = .returned (errV 46 r1) ∧ St w0 H (L) w' := by
 unfold V_checked at hV
 refine enter func15 rfl ntmps15 rfl (lk_args_cons (d := 0) (v := i6 n_1) rfl (lk_args_cons (d := 1) (v := v_4) rfl (lk_args_cons (d := 2) (v := v_7) rfl (lk_args_nil _)))) ?_
 refine WC.sr ?_
 refine WL.box (arr := #[i6 n_1]) rfl rfl rfl hS ?_
 clear hS
 intro b_9 w hS
 refine R hS ?_
 refine WL.nx ?_
 refine WC.seq ?_
 refine WC.block ?_
 obtain ⟨J_15, hJ_16, hV⟩ := hV
 refine WC.meet (fun a w => ∃ (x_14 : Bool), J_15 x_14 ∧ St w0 H ([(b_9, oc #[i6 n_1] 3)] ++ L) w ∧ Fr 31 [(1, v_4), (2, v_7), (3, (pq b_9)), (7, .bool x_14)] a) ?_ ?_
 rintro a w ⟨x_14, hI, hS, ha⟩
 refine in_frame ha ?_
 clear ha hV
 have hV := hJ_16 _ hI
 clear hI hJ_16
 refine Cd ?_ ?_
 intro hc_37
 replace hV := hV.1 hc_37
 refine WC.sr ?_
 refine Rn hS (ex_makeIface concrete46 rfl) ?_
 refine R hS ?_
 refine WL.nx ?_
 replace hS := hS.drop
 refine WC.ret ?_
 refine WQ.out nofun ?_
 refine Wp ?_
 exact leave1 rfl rfl (⟨(some 5), hV, rfl, hS⟩)
 intro hc_37
 replace hV := hV.2 hc_37
 refine WC.sr ?_
 refine R hS ?_
 have hl_20 : Len clauses_3 := h_5.bound
 replace hV := hV hl_20
 refine Rn hS (ex_len_sl underlying22 rfl h_5) ?_
 iterate 2 refine R hS ?_
 refine WL.nx ?_
 refine Cd ?_ ?_
 intro hc_36
 replace hV := hV.1 (od hc_36)
 refine WC.sr ?_
 refine Rn hS (ex_makeIface concrete46 rfl) ?_
 refine R hS ?_
 refine WL.nx ?_
 replace hS := hS.drop
 refine WC.ret ?_
 refine WQ.out nofun ?_
 refine Wp ?_
 exact leave1 rfl rfl (⟨(some 6), hV, rfl, hS⟩)
 intro hc_36
 replace hV := hV.2 (ov hc_36)
 obtain ⟨J_28, hJ_29, hV⟩ := hV
 refine WC.meet (fun a w => ∃ (x_27 : Bool), J_28 x_27 ∧ St w0 H (L) w ∧ Fr 31 [(20, .bool x_27)] a) ?_ ?_
 rintro a w ⟨x_27, hI, hS, ha⟩
 refine in_frame ha ?_
 clear ha hV
 have hV := hJ_29 _ hI
 clear hI hJ_29
 refine Cd ?_ ?_
 intro hc_35
 replace hV := hV.1 hc_35
 refine WC.sr ?_
 refine Rn hS (ex_makeIface concrete46 rfl) ?_
 refine R hS ?_
 refine WL.nx ?_
 refine WC.ret ?_
 refine WQ.out nofun ?_
 refine Wp ?_
 exact leave1 rfl rfl (⟨(some 5), hV, rfl, hS⟩)
 intro hc_35
 replace hV := hV.2 hc_35
 refine WC.skip ?_
 refine WQ.out nofun ?_
 refine WQ.next ?_
 refine WC.sr ?_
 refine R hS ?_
 refine WL.nx ?_
 refine WC.ret ?_
 exact leave1 rfl rfl (⟨none, hV, rfl, hS⟩)
 clear hJ_29
 refine WC.region ?_
 refine R hS ?_
 refine Rn hS (ex_makeFunc (vs := [(pq b_9)]) ⟨rfl, trivial⟩) ?_
 refine Rc (enters0 (vs := [v_4, .func (.func 23) #[] #[(pq b_9)]]) call22 ⟨rfl, rfl, trivial⟩) (S_ContainsFuncL (fc1 := 23) (caps1 := [(pq b_9)]) (fpc1 := ([(b_9, oc #[i6 n_1] 3)])) (G1 := (fun x1 K => V_checked1 x1 n_1 K)) h_5 call23 (fun hle hx1 hSx hVx => S_checked1 hx1 hr_2 hSx hVx) hS hV) ?_
 clear hV hS
 rintro _ w ⟨r_30, hV, rfl, hS⟩
 refine ⟨_, rfl, ?_⟩
 refine R hS ?_
 rcases bft r_30 with hg_32 | hg_32
 replace hV := hV.1 hg_32
 iterate 6 refine R hS ?_
 refine WL.nil ?_
 replace hS := hS.drop
 exact Wt fun a ha => ⟨true, hV, hS, ha.os⟩
 replace hV := hV.2 hg_32
 iterate 2 refine R hS ?_
 refine Ug hg_32 ?_
 refine Rc (enters0 (vs := [i6 n_1, v_7]) call24 ⟨rfl, rfl, trivial⟩) (S_valid  hr_2 h_8 hS hV) ?_
 clear hV hS
 rintro _ w ⟨r_33, hV, rfl, hS⟩
 refine ⟨_, rfl, ?_⟩
 iterate 3 refine R hS ?_
 refine WL.nil ?_
 replace hS := hS.drop
 exact Wt fun a ha => ⟨(!r_33), hV, hS, ha.os⟩
 clear hJ_16
 refine WC.region ?_
 iterate 3 refine R hS ?_
 rcases bft (decide (n_1 < 0)) with hg_18 | hg_18
 replace hV := hV.1 (od hg_18)
 iterate 4 refine R hS ?_
 refine WL.nil ?_
 exact Wt fun a ha => ⟨true, hV, hS, ha.os⟩
 replace hV := hV.2 (ov hg_18)
 iterate 4 refine R hS ?_
 refine WL.nil ?_
 exact Wt fun a ha => ⟨decide (16777216 < n_1), hV, hS, ha.os⟩

theorem S_CloneI {w0 : World} {H : View} {L : Seg} {w : World} {v_2 : Value} {s_1 : LI} {Q : LI → Prop} (h_3 : IsSl H (cInt .i64) v_2 s_1) (hS : St w0 H (L) w) (hV : V_CloneI s_1 Q) :
 Calls Tryz.prog 28 #[v_2] w fun e w' => ∃ (r1 : LI) (v1 : Value) (fp1 : Seg), Q r1 ∧ e = .returned (v1) ∧ OwnSl H (cInt .i64) 3 v1 r1 fp1 ∧ St w0 H (fp1 ++ L) w' := by
 unfold V_CloneI at hV
 refine enter func28 rfl ntmps28 rfl (lk_args_cons (d := 0) (v := v_2) rfl (lk_args_nil _)) ?_
 refine WC.sr ?_
 refine R hS ?_
 refine WL.nx ?_
 refine WC.seq ?_
 refine WC.sr ?_
 refine R hS ?_
 refine Rx hS (ex_nil_eql underlying23 rfl h_3) ?_
 rintro u_10 ⟨b_8, rfl, hn_9⟩
 replace hV := hV b_8 hn_9
 refine WL.nx ?_
 refine Cd ?_ ?_
 intro hc_21
 replace hV := hV.1 hc_21
 refine WC.sr ?_
 refine R hS ?_
 refine WL.nx ?_
 refine WC.ret ?_
 refine Wp ?_
 replace hS := hS.nilseg
 exact leave1 rfl rfl (⟨([] : LI), ns, ([] : Seg), hV, rfl, OwnSl.nil, hS⟩)
 intro hc_21
 replace hV := hV.2 hc_21
 refine WC.skip ?_
 refine WQ.next ?_
 refine WC.sr ?_
 refine WL.build0 (α := Int) (c := (cInt .i64)) rfl underlying23 sizeOf3 hS ?_
 clear hS
 intro v_13 w fp_14 h_15 hS
 refine R hS ?_
 obtain ⟨hr_16, hV⟩ := hV
 refine WL.append (c := (cInt .i64)) (xs := ([] : LI)) (ys := s_1) rfl underlying23 info3 rfl rfl rfl hS h_15 (h_3.src hS) hr_16.1 hr_16.2 ?_
 clear hS
 intro v_17 w fp_18 h_19 hS
 rw [List.nil_append] at h_19
 refine R hS ?_
 refine WL.nx ?_
 refine WC.ret ?_
 exact leave1 rfl rfl (⟨s_1, v_17, fp_18, hV, rfl, h_19, hS⟩)

theorem S_IndexI {w0 : World} {H : View} {L : Seg} {w : World} {v_2 : Value} {s_1 : LI} {v_4 : Int} {Q : Int → Prop} (h_3 : IsSl H (cInt .i64) v_2 s_1) (hr_5 : I64 v_4) (hS : St w0 H (L) w) (hV : V_IndexI s_1 v_4 Q) :
 Calls Tryz.prog 62 #[v_2, i6 v_4] w fun e w' => ∃ (r1 : Int), Q r1 ∧ e = .returned (i6 r1) ∧ I64 r1 ∧ St w0 H (L) w' := by
 unfold V_IndexI at hV
 refine enter func62 rfl ntmps62 rfl (lk_args_cons (d := 0) (v := v_2) rfl (lk_args_cons (d := 1) (v := i6 v_4) rfl (lk_args_nil _))) ?_
 refine WC.sr ?_
 refine R hS ?_
 refine WL.nx ?_
 refine WC.seq ?_
 refine WC.sr ?_
 refine R hS ?_
 have hl_6 : Len s_1 := h_3.bound
 replace hV := hV hl_6
 refine Rn hS (ex_len_sl underlying23 rfl h_3) ?_
 refine R hS ?_
 refine WL.nx ?_
 refine WC.block ?_
 obtain ⟨I_37, mu_38, hI_54, hV⟩ := hV
 refine WC.loop (σ := Int) (fun s a w => ∃ (x_21 : Int), s = x_21 ∧ I_37 x_21 ∧ I64 x_21 ∧ St w0 H (L) w ∧ Fr 19 [(0, v_2), (1, i6 v_4), (7, i6 (s_1.length : Int)), (8, i6 x_21)] a) mu_38 0 ?_ ?_
 exact fun a ha => ⟨0, rfl, hI_54, (by unfold I64; omega), hS, ha.os⟩
 clear hS hI_54
 rintro x_21 a w ⟨_, rfl, hI, hr_22, hS, ha⟩
 refine in_frame ha ?_
 clear ha
 replace hV := hV _ hI
 clear hI
 refine WC.sr ?_
 refine R hS ?_
 refine WL.nx ?_
 refine WC.seq ?_
 refine Cd ?_ ?_
 intro hc_53
 replace hV := hV.1 (od hc_53)
 refine WC.skip ?_
 refine WQ.next ?_
 refine WC.seq ?_
 refine WC.block ?_
 refine WC.sr ?_
 iterate 2 refine R hS ?_
 refine WL.nx ?_
 refine WC.sr ?_
 iterate 3 refine R hS ?_
 obtain ⟨hin_41, hV⟩ := hV
 refine Rx hS (ex_index underlying23 sizeOf3 rfl rfl h_3 hin_41) ?_
 intro p_42 hp_43
 refine Rx hS (ex_load isAgg3 rfl rfl hp_43) ?_
 intro u_46 hu_47
 obtain ⟨rfl, hr_48⟩ := cInt_rep hu_47
 replace hr_48 := has_I64 hr_48
 replace hV := hV hr_48
 refine R hS ?_
 refine WL.nx ?_
 refine Cd ?_ ?_
 intro hc_52
 replace hV := hV.1 (od hc_52)
 refine WC.sr ?_
 iterate 2 refine R hS ?_
 refine WL.nx ?_
 refine Sb [(4, i6 x_21)] ?_
 refine WC.ret ?_
 refine WQ.out nofun ?_
 refine Wp ?_
 refine Wp ?_
 refine WQ.out nofun ?_
 refine Wp ?_
 exact leave1 rfl rfl (⟨x_21, hV, rfl, hr_22, hS⟩)
 intro hc_52
 replace hV := hV.2 (ov hc_52)
 refine WC.skip ?_
 refine WQ.out nofun ?_
 refine WQ.next ?_
 refine WC.region ?_
 obtain ⟨hi_51, hV⟩ := hV
 iterate 2 refine R hS ?_
 refine WL.nil ?_
 exact Wt fun a ha => ⟨(x_21 + 1), ⟨(x_21 + 1), rfl, hV.1, hi_51, hS, ha.os⟩, hV.2⟩
 intro hc_53
 replace hV := hV.2 (ov hc_53)
 refine WC.exit ?_
 refine Wp ?_
 refine Wp ?_
 refine WQ.hit ?_
 refine WQ.next ?_
 refine WC.sr ?_
 refine R hS ?_
 refine WL.nx ?_
 refine WC.ret ?_
 exact leave1 rfl rfl (⟨(-1), hV, rfl, (by unfold I64; omega), hS⟩)

theorem S_ContainsI {w0 : World} {H : View} {L : Seg} {w : World} {v_2 : Value} {s_1 : LI} {v_4 : Int} {Q : Bool → Prop} (h_3 : IsSl H (cInt .i64) v_2 s_1) (hr_5 : I64 v_4) (hS : St w0 H (L) w) (hV : V_ContainsI s_1 v_4 Q) :
 Calls Tryz.prog 50 #[v_2, i6 v_4] w fun e w' => ∃ (r1 : Bool), Q r1 ∧ e = .returned (.bool r1) ∧ St w0 H (L) w' := by
 unfold V_ContainsI at hV
 refine enter func50 rfl ntmps50 rfl (lk_args_cons (d := 0) (v := v_2) rfl (lk_args_cons (d := 1) (v := i6 v_4) rfl (lk_args_nil _))) ?_
 refine WC.sr ?_
 refine R hS ?_
 refine WL.nx ?_
 refine WC.sr ?_
 iterate 2 refine R hS ?_
 refine Rc (enters0 (vs := [v_2, i6 v_4]) call62 ⟨rfl, rfl, trivial⟩) (S_IndexI  h_3 hr_5 hS hV) ?_
 clear hV hS
 rintro _ w ⟨r_6, hV, rfl, hr_7, hS⟩
 refine ⟨_, rfl, ?_⟩
 iterate 2 refine R hS ?_
 refine WL.nx ?_
 refine WC.ret ?_
 exact leave1 rfl rfl (⟨decide (0 ≤ r_6), hV, rfl, hS⟩)

theorem S_tidy1 {w0 : World} {H : View} {L : Seg} {w : World} {l_1 : Int} {b_4 : Nat} {v_7 : Value} {c_3_6 : LI} {Q : Bool → Prop} (hr_2 : I64 l_1) (h_8 : IsSl H (cInt .i64) v_7 c_3_6) (hS : St w0 H ([(b_4, oc #[v_7] 23)] ++ L) w) (hV : V_tidy1 l_1 c_3_6 Q) :
 Calls Tryz.prog 59 #[i6 l_1, (pq b_4)] w fun e w' => ∃ (r1 : Bool), Q r1 ∧ e = .returned (.bool r1) ∧ St w0 H ([(b_4, oc #[v_7] 23)] ++ L) w' := by
 unfold V_tidy1 at hV
 refine enter func59 rfl ntmps59 rfl (lk_args_cons (d := 0) (v := i6 l_1) rfl (lk_args_cons (d := 1) (v := (pq b_4)) rfl (lk_args_nil _))) ?_
 refine WC.sr ?_
 refine R hS ?_
 refine WL.nx ?_
 refine WC.sr ?_
 iterate 2 refine R hS ?_
 obtain ⟨hi_9, hV⟩ := hV
 refine R hS ?_
 refine Rc (enters0 (vs := [v_7, i6 (-l_1)]) call50 ⟨rfl, rfl, trivial⟩) (S_ContainsI  h_8 hi_9 hS hV) ?_
 clear hV hS
 rintro _ w ⟨r_10, hV, rfl, hS⟩
 refine ⟨_, rfl, ?_⟩
 refine R hS ?_
 refine WL.nx ?_
 refine WC.ret ?_
 exact leave1 rfl rfl (⟨r_10, hV, rfl, hS⟩)

theorem S_tidy {w0 : World} {H : View} {L : Seg} {w : World} {v_2 : Value} {c_1 : LI} {Q : LI → Bool → Prop} (h_3 : IsSl H (cInt .i64) v_2 c_1) (hS : St w0 H (L) w) (hV : V_tidy c_1 Q) :
 Calls Tryz.prog 44 #[v_2] w fun e w' => ∃ (r1 : LI) (r2 : Bool) (v1 : Value) (fp1 : Seg), Q r1 r2 ∧ e = .returned (.tuple #[v1, .bool r2]) ∧ OwnSl H (cInt .i64) 3 v1 r1 fp1 ∧ St w0 H (fp1 ++ L) w' := by
 unfold V_tidy at hV
 refine enter func44 rfl ntmps44 rfl (lk_args_cons (d := 0) (v := v_2) rfl (lk_args_nil _)) ?_
 refine WC.sr ?_
 iterate 2 refine R hS ?_
 refine WL.nx ?_
 refine WC.sr ?_
 refine R hS ?_
 refine Rc (enters0 (vs := [v_2]) call28 ⟨rfl, trivial⟩) (S_CloneI  h_3 hS hV) ?_
 clear hV hS
 rintro _ w ⟨r_5, v_6, fp_7, hV, rfl, h_8, hS⟩
 refine ⟨_, rfl, ?_⟩
 refine WL.alloc (arr := #[ns]) rfl zeroValue23 rfl hS ?_
 clear hS
 intro b_11 w hS
 refine St1 #[v_6] sizeOf23 hS ?_ (cs := [v_6]) (hc := (congrArg Array.toList (cells_one (OwnSl.one h_8)))) (hone := ⟨(OwnSl.one h_8), trivial⟩)
 clear hS
 intro w hS
 refine WL.nx ?_
 refine WC.sr ?_
 refine R hS ?_
 replace hS := hS.f2
 refine Rc (enters0 (vs := [v_6]) call57 ⟨rfl, trivial⟩) (S_SortI  h_8 hS hV) ?_
 clear hV hS
 rintro _ w ⟨c_14, fp_15, hV, rfl, h_16, hS⟩
 refine ⟨_, rfl, ?_⟩
 refine WL.nx ?_
 refine WC.sr ?_
 replace hS := hS.f2
 refine R hS ?_
 replace hS := hS.f2
 refine Rc (enters0 (vs := [v_6]) call58 ⟨rfl, trivial⟩) (S_CompactI  h_16 hS hV) ?_
 clear hV hS
 rintro _ w ⟨r_18, v_19, fp_20, hV, rfl, h_21, hS⟩
 refine ⟨_, rfl, ?_⟩
 replace hS := hS.f2
 refine St1 #[v_19] sizeOf23 hS ?_ (cs := [v_19]) (hc := (congrArg Array.toList (cells_one (OwnSl.one h_21)))) (hone := ⟨(OwnSl.one h_21), trivial⟩)
 clear hS
 intro w hS
 refine WL.nx ?_
 refine WC.seq ?_
 replace hS := hS.f2
 have hL_24 := hS.freeze
 have le_25 := hS.put_le
 refine WC.quiet (C := St w0 (H.put fp_20) ([(b_11, oc #[v_19] 23)] ++ L)) mixed (by kernel_rfl) (hL_24.drawn _) ?_
 have hS0 := hS
 clear hS
 iterate 2 refine Rq ?_
 refine Rm (ex_makeFunc (vs := [(pq b_11)]) ⟨rfl, trivial⟩) ?_
 obtain ⟨r_26, h_27, hV⟩ := hV
 refine Wq.call (v := .bool r_26) rfl rfl rfl (fun w => enters0 (vs := [v_19, .func (.func 59) #[] #[(pq b_11)]]) call42 ⟨rfl, rfl, trivial⟩) (fun w hS => (S_ContainsFuncI (Q := fun y0 => y0 = r_26) (fc1 := 59) (caps1 := [(pq b_11)]) (fpc1 := ([(b_11, oc #[v_19] 23)])) (G1 := (fun x1 K => V_tidy1 x1 r_18 K)) (h_21.share le_25) call59 (fun hle hx1 hSx hVx => S_tidy1 hx1 ((h_21.share le_25).mono hle) hSx hVx) hS h_27).mono ?_) ?_
 rintro e w' ⟨_, rfl, he, hS⟩
 exact ⟨he, hS⟩
 iterate 3 refine Rq ?_
 refine Wq.nil fun w hS => ?_
 have hB_28 := hS0.back hS
 clear hS
 have hS := hB_28
 clear hS0
 refine WQ.next ?_
 refine Sb [(2, v_19), (3, .bool (!r_26))] ?_
 replace hS := hS.f2.drop
 refine WC.ret ?_
 exact leave2 rfl rfl rfl (⟨r_18, (!r_26), v_19, fp_20, hV, rfl, h_21, hS⟩)

theorem S_lawLiterals {w0 : World} {H : View} {L : Seg} {w : World} {n_1 : Int} {v_4 : Value} {l_3 : LI} {Q : Bool → Prop} (hr_2 : I64 n_1) (h_5 : IsSl H (cInt .i64) v_4 l_3) (hS : St w0 H (L) w) (hV : V_lawLiterals n_1 l_3 Q) :
 Calls Tryz.prog 6 #[i6 n_1, v_4] w fun e w' => ∃ (r1 : Bool), Q r1 ∧ e = .returned (.bool r1) ∧ St w0 H (L) w' := by
 unfold V_lawLiterals at hV
 refine enter func6 rfl ntmps6 rfl (lk_args_cons (d := 0) (v := i6 n_1) rfl (lk_args_cons (d := 1) (v := v_4) rfl (lk_args_nil _))) ?_
 refine WC.sr ?_
 refine R hS ?_
 refine WL.nx ?_
 refine WC.seq ?_
 refine WC.sr ?_
 refine R hS ?_
 refine WL.nx ?_
 refine WC.block ?_
 obtain ⟨I_40, mu_41, hI_59, hV⟩ := hV
 refine WC.loop (σ := Int) (fun s a w => ∃ (i_22 : Int), s = i_22 ∧ I_40 i_22 ∧ I64 i_22 ∧ St w0 H (L) w ∧ Fr 21 [(0, i6 n_1), (1, v_4), (5, i6 i_22)] a) mu_41 0 ?_ ?_
 exact fun a ha => ⟨0, rfl, hI_59, (by unfold I64; omega), hS, ha.os⟩
 clear hS hI_59
 rintro i_22 a w ⟨_, rfl, hI, hr_23, hS, ha⟩
 refine in_frame ha ?_
 clear ha
 replace hV := hV _ hI
 clear hI
 refine WC.seq ?_
 refine WC.sr ?_
 iterate 2 refine R hS ?_
 have hl_43 : Len l_3 := h_5.bound
 replace hV := hV hl_43
 refine Rn hS (ex_len_sl underlying23 rfl h_5) ?_
 refine R hS ?_
 refine WL.nx ?_
 refine Cd ?_ ?_
 intro hc_58
 replace hV := hV.1 (od hc_58)
 refine WC.skip ?_
 refine WQ.next ?_
 refine WC.seq ?_
 refine WC.block ?_
 refine WC.sr ?_
 iterate 3 refine R hS ?_
 obtain ⟨hin_45, hV⟩ := hV
 refine Rx hS (ex_index underlying23 sizeOf3 rfl rfl h_5 hin_45) ?_
 intro p_46 hp_47
 refine Rx hS (ex_load isAgg3 rfl rfl hp_47) ?_
 intro u_50 hu_51
 obtain ⟨rfl, hr_52⟩ := cInt_rep hu_51
 replace hr_52 := has_I64 hr_52
 replace hV := hV hr_52
 refine Rc (enters0 (vs := [i6 n_1, i6 (ix l_3 i_22)]) call14 ⟨rfl, rfl, trivial⟩) (S_Literal  hr_2 hr_52 hS hV) ?_
 clear hV hS
 rintro _ w ⟨r_53, hV, rfl, hS⟩
 refine ⟨_, rfl, ?_⟩
 refine R hS ?_
 refine WL.nx ?_
 refine Sb [(0, i6 n_1), (1, v_4), (5, i6 i_22), (6, .bool r_53)] ?_
 refine WC.sr ?_
 iterate 2 refine R hS ?_
 refine WL.nx ?_
 refine Cd ?_ ?_
 intro hc_57
 replace hV := hV.1 hc_57
 refine WC.sr ?_
 refine R hS ?_
 refine WL.nx ?_
 refine WC.ret ?_
 refine WQ.out nofun ?_
 refine Wp ?_
 refine Wp ?_
 refine WQ.out nofun ?_
 refine Wp ?_
 exact leave1 rfl rfl (⟨false, hV, rfl, hS⟩)
 intro hc_57
 replace hV := hV.2 hc_57
 refine WC.skip ?_
 refine WQ.out nofun ?_
 refine WQ.next ?_
 refine WC.region ?_
 refine R hS ?_
 obtain ⟨hi_56, hV⟩ := hV
 iterate 2 refine R hS ?_
 refine WL.nil ?_
 exact Wt fun a ha => ⟨(i_22 + 1), ⟨(i_22 + 1), rfl, hV.1, hi_56, hS, ha.os⟩, hV.2⟩
 intro hc_58
 replace hV := hV.2 (ov hc_58)
 refine WC.exit ?_
 refine Wp ?_
 refine Wp ?_
 refine WQ.hit ?_
 refine WQ.next ?_
 refine WC.sr ?_
 refine R hS ?_
 refine WL.nx ?_
 refine WC.ret ?_
 exact leave1 rfl rfl (⟨true, hV, rfl, hS⟩)

theorem S_Told {w0 : World} {H : View} {L : Seg} {w : World} {err_1 : Option Int} {Q : Int → Prop} (hG : Glob H) (hS : St w0 H (L) w) (hV : V_Told err_1 Q) :
 Calls Tryz.prog 18 #[(errV 46 err_1)] w fun e w' => ∃ (r1 : Int), Q r1 ∧ e = .returned (i6 r1) ∧ I64 r1 ∧ St w0 H (L) w' := by
 unfold V_Told at hV
 refine enter func18 rfl ntmps18 rfl (lk_args_cons (d := 0) (v := (errV 46 err_1)) rfl (lk_args_nil _)) ?_
 refine WC.sr ?_
 refine R hS ?_
 refine WL.nx ?_
 refine WC.seq ?_
 refine WC.sr ?_
 refine R hS ?_
 refine Rn hS (ex_err_eql (T := 46) (e := err_1) iface32 rfl rfl) ?_
 refine WL.nx ?_
 refine Cd ?_ ?_
 intro hc_9
 replace hV := hV.1 (od hc_9)
 refine WC.sr ?_
 refine R hS ?_
 refine WL.nx ?_
 refine WC.ret ?_
 refine Wp ?_
 exact leave1 rfl rfl (⟨0, hV, rfl, (by unfold I64; omega), hS⟩)
 intro hc_9
 replace hV := hV.2 (ov hc_9)
 refine WC.skip ?_
 refine WQ.next ?_
 refine WC.sr ?_
 refine WL.alloc (arr := #[i6 0]) rfl zeroValue46 rfl hS ?_
 clear hS
 intro b_2 w hS
 refine WL.nx ?_
 refine WC.seq ?_
 refine WC.sr ?_
 refine R hS ?_
 refine Rn hS (ex_makeIface concrete72 rfl) ?_
 refine Rc (enters0 (vs := [(errV 46 err_1), .iface 72 ((pq b_2))]) call36 ⟨rfl, rfl, trivial⟩) (S_As  (by unfold I64; omega) hG hS hV) ?_
 clear hV hS
 rintro _ w ⟨r_4, c_5, hV, rfl, hr_6, hS⟩
 refine ⟨_, rfl, ?_⟩
 refine WL.nx ?_
 refine Cd ?_ ?_
 intro hc_8
 replace hV := hV.1 hc_8
 refine WC.sr ?_
 iterate 2 refine R hS ?_
 refine WL.nx ?_
 replace hS := hS.drop
 refine WC.ret ?_
 refine Wp ?_
 exact leave1 rfl rfl (⟨c_5, hV, rfl, hr_6, hS⟩)
 intro hc_8
 replace hV := hV.2 hc_8
 refine WC.skip ?_
 refine WQ.next ?_
 replace hS := hS.drop
 refine WC.sr ?_
 refine R hS ?_
 refine WL.nx ?_
 refine WC.ret ?_
 exact leave1 rfl rfl (⟨(-1), hV, rfl, (by unfold I64; omega), hS⟩)

theorem S_Error {w0 : World} {H : View} {L : Seg} {w : World} {err_1 : Option Int} {e_2 : Int} {Q : Bool → Prop} (hr_3 : I64 e_2) (hG : Glob H) (hS : St w0 H (L) w) (hV : V_Error err_1 e_2 Q) :
 Calls Tryz.prog 8 #[(errV 46 err_1), i6 e_2] w fun e w' => ∃ (r1 : Bool), Q r1 ∧ e = .returned (.bool r1) ∧ St w0 H (L) w' := by
 unfold V_Error at hV
 refine enter func8 rfl ntmps8 rfl (lk_args_cons (d := 0) (v := (errV 46 err_1)) rfl (lk_args_cons (d := 1) (v := i6 e_2) rfl (lk_args_nil _))) ?_
 refine WC.sr ?_
 refine R hS ?_
 refine WL.nx ?_
 refine WC.sr ?_
 refine R hS ?_
 refine Rc (enters0 (vs := [(errV 46 err_1)]) call18 ⟨rfl, trivial⟩) (S_Told  hG hS hV) ?_
 clear hV hS
 rintro _ w ⟨r_4, hV, rfl, hr_5, hS⟩
 refine ⟨_, rfl, ?_⟩
 refine R hS ?_
 refine WL.nx ?_
 refine WC.sr ?_
 iterate 4 refine R hS ?_
 refine WL.nx ?_
 refine WC.ret ?_
 exact leave1 rfl rfl (⟨decide (r_4 = e_2), hV, rfl, hS⟩)

theorem S_isNaN {w0 : World} {H : View} {L : Seg} {w : World} {x_1 : Int} {Q : Bool → Prop} (hr_2 : I64 x_1) (hS : St w0 H (L) w) (hV : V_isNaN x_1 Q) :
 Calls Tryz.prog 87 #[i6 x_1] w fun e w' => ∃ (r1 : Bool), Q r1 ∧ e = .returned (.bool r1) ∧ St w0 H (L) w' := by
 unfold V_isNaN at hV
 refine enter func87 rfl ntmps87 rfl (lk_args_cons (d := 0) (v := i6 x_1) rfl (lk_args_nil _)) ?_
 refine WC.sr ?_
 refine R hS ?_
 refine WL.nx ?_
 refine WC.sr ?_
 iterate 4 refine R hS ?_
 refine WL.nx ?_
 refine WC.ret ?_
 exact leave1 rfl rfl (⟨decide (x_1 ≠ x_1), hV, rfl, hS⟩)

theorem S_of {w0 : World} {H : View} {L : Seg} {w : World} {b_2 : Nat} {n_4 : Int} {v_7 : Value} {clauses_6 : List Raw} {fp_9 : Seg} {v_12 : Value} {watch_11 : List (Int × Raw)} {fp_14 : Seg} {v_17 : Value} {value_16 : LI} {fp_19 : Seg} {v_22 : Value} {level_21 : LI} {fp_24 : Seg} {v_27 : Value} {reason_26 : LI} {fp_29 : Seg} {v_32 : Value} {trail_31 : LI} {fp_34 : Seg} {v_37 : Value} {starts_36 : LI} {fp_39 : Seg} {head_41 : Int} {v_44 : Value} {heat_43 : List Unit} {fp_46 : Seg} {u_49 : Value} {v_52 : Value} {proof_51 : List (Bool × LI)} {fp_54 : Seg} {dead_56 : Bool} {A_61 : Arena} {fp_59 : Seg} {l_62 : Int} {Q : Int → Prop} (hr_5 : I64 n_4) (h_8 : OwnSl H cRaw 23 v_7 clauses_6 fp_9) (h_13 : OwnMp H kInt cRaw v_12 watch_11 fp_14) (h_18 : OwnSl H (cInt .i64) 3 v_17 value_16 fp_19) (h_23 : OwnSl H (cInt .i64) 3 v_22 level_21 fp_24) (h_28 : OwnSl H (cInt .i64) 3 v_27 reason_26 fp_29) (h_33 : OwnSl H (cInt .i64) 3 v_32 trail_31 fp_34) (h_38 : OwnSl H (cInt .i64) 3 v_37 starts_36 fp_39) (hr_42 : I64 head_41) (h_45 : OwnSl H cF 58 v_44 heat_43 fp_46) (h_50 : IsF u_49) (h_53 : OwnSl H (cPair cBool (cSl (cInt .i64))) 50 v_52 proof_51 fp_54) (hA_58 : IsAr 3 A_61 fp_59) (hr_63 : I64 l_62) (hS : St w0 H ([(b_2, oc #[i6 n_4, v_7, v_12, v_17, v_22, v_27, v_32, v_37, i6 head_41, v_44, u_49, v_52, .bool dead_56] 60)] ++ (fp_9 ++ (fp_14 ++ (fp_19 ++ (fp_24 ++ (fp_29 ++ (fp_34 ++ (fp_39 ++ (fp_46 ++ (fp_54 ++ (fp_59 ++ L))))))))))) w) (hV : V_of n_4 clauses_6 watch_11 value_16 level_21 reason_26 trail_31 starts_36 head_41 heat_43 proof_51 dead_56 A_61 l_62 Q) :
 Calls Tryz.prog 32 #[(pq b_2), i6 l_62] w fun e w' => ∃ (r1 : Int), Q r1 ∧ e = .returned (i6 r1) ∧ I64 r1 ∧ St w0 H ([(b_2, oc #[i6 n_4, v_7, v_12, v_17, v_22, v_27, v_32, v_37, i6 head_41, v_44, u_49, v_52, .bool dead_56] 60)] ++ (fp_9 ++ (fp_14 ++ (fp_19 ++ (fp_24 ++ (fp_29 ++ (fp_34 ++ (fp_39 ++ (fp_46 ++ (fp_54 ++ (fp_59 ++ L))))))))))) w' := by
 unfold V_of at hV
 refine enter func32 rfl ntmps32 rfl (lk_args_cons (d := 0) (v := (pq b_2)) rfl (lk_args_cons (d := 1) (v := i6 l_62) rfl (lk_args_nil _))) ?_
 refine WC.sr ?_
 refine R hS ?_
 refine WL.nx ?_
 refine WC.seq ?_
 refine WC.sr ?_
 iterate 2 refine R hS ?_
 refine WL.nx ?_
 refine Cd ?_ ?_
 intro hc_83
 replace hV := hV.1 (od hc_83)
 refine WC.sr ?_
 iterate 5 refine R hS ?_
 obtain ⟨hi_65, hV⟩ := hV
 refine R hS ?_
 obtain ⟨hin_66, hV⟩ := hV
 refine Rx hS (ex_index_own underlying23 sizeOf3 rfl rfl h_18 hin_66) ?_
 intro p_67 hp_68
 replace hS := hS.f4
 refine Rx hS (exNow (H := H) (L := [(b_2, oc #[i6 n_4, v_7, v_12, v_17, v_22, v_27, v_32, v_37, i6 head_41, v_44, u_49, v_52, .bool dead_56] 60)] ++ (fp_9 ++ (fp_14 ++ (fp_24 ++ (fp_29 ++ (fp_34 ++ (fp_39 ++ (fp_46 ++ (fp_54 ++ (fp_59 ++ L)))))))))) (ex_load_own_s isAgg3 rfl rfl h_18 hp_68 hin_66)) ?_
 intro u_71 hu_72
 obtain ⟨rfl, hr_73⟩ := cInt_rep hu_72
 replace hr_73 := has_I64 hr_73
 replace hV := hV hr_73
 obtain ⟨hi_74, hV⟩ := hV
 iterate 2 refine R hS ?_
 refine WL.nx ?_
 refine Sb [(4, i6 (-(ix value_16 (-l_62))))] ?_
 refine WC.ret ?_
 refine Wp ?_
 replace hS := hS.f11.f11.f11.f11.f11.f11.f11.f8.f11.f11.f11
 exact leave1 rfl rfl (⟨(-(ix value_16 (-l_62))), hV, rfl, hi_74, hS⟩)
 intro hc_83
 replace hV := hV.2 (ov hc_83)
 refine WC.skip ?_
 refine WQ.next ?_
 refine WC.sr ?_
 iterate 5 refine R hS ?_
 obtain ⟨hin_75, hV⟩ := hV
 refine Rx hS (ex_index_own underlying23 sizeOf3 rfl rfl h_18 hin_75) ?_
 intro p_76 hp_77
 replace hS := hS.f4
 refine Rx hS (exNow (H := H) (L := [(b_2, oc #[i6 n_4, v_7, v_12, v_17, v_22, v_27, v_32, v_37, i6 head_41, v_44, u_49, v_52, .bool dead_56] 60)] ++ (fp_9 ++ (fp_14 ++ (fp_24 ++ (fp_29 ++ (fp_34 ++ (fp_39 ++ (fp_46 ++ (fp_54 ++ (fp_59 ++ L)))))))))) (ex_load_own_s isAgg3 rfl rfl h_18 hp_77 hin_75)) ?_
 intro u_80 hu_81
 obtain ⟨rfl, hr_82⟩ := cInt_rep hu_81
 replace hr_82 := has_I64 hr_82
 replace hV := hV hr_82
 refine R hS ?_
 refine WL.nx ?_
 refine Sb [(4, i6 (ix value_16 l_62))] ?_
 refine WC.ret ?_
 replace hS := hS.f11.f11.f11.f11.f11.f11.f11.f8.f11.f11.f11
 exact leave1 rfl rfl (⟨(ix value_16 l_62), hV, rfl, hr_82, hS⟩)

theorem S_add1 {w0 : World} {H : View} {L : Seg} {w : World} {a_1 : Int} {b_3 : Int} {b_6 : Nat} {b_9 : Nat} {n_11 : Int} {v_14 : Value} {clauses_13 : List Raw} {fp_16 : Seg} {v_19 : Value} {watch_18 : List (Int × Raw)} {fp_21 : Seg} {v_24 : Value} {value_23 : LI} {fp_26 : Seg} {v_29 : Value} {level_28 : LI} {fp_31 : Seg} {v_34 : Value} {reason_33 : LI} {fp_36 : Seg} {v_39 : Value} {trail_38 : LI} {fp_41 : Seg} {v_44 : Value} {starts_43 : LI} {fp_46 : Seg} {head_48 : Int} {v_51 : Value} {heat_50 : List Unit} {fp_53 : Seg} {u_56 : Value} {v_59 : Value} {proof_58 : List (Bool × LI)} {fp_61 : Seg} {dead_63 : Bool} {A_68 : Arena} {fp_66 : Seg} {Q : Int → Prop} (hr_2 : I64 a_1) (hr_4 : I64 b_3) (hr_12 : I64 n_11) (h_15 : OwnSl H cRaw 23 v_14 clauses_13 fp_16) (h_20 : OwnMp H kInt cRaw v_19 watch_18 fp_21) (h_25 : OwnSl H (cInt .i64) 3 v_24 value_23 fp_26) (h_30 : OwnSl H (cInt .i64) 3 v_29 level_28 fp_31) (h_35 : OwnSl H (cInt .i64) 3 v_34 reason_33 fp_36) (h_40 : OwnSl H (cInt .i64) 3 v_39 trail_38 fp_41) (h_45 : OwnSl H (cInt .i64) 3 v_44 starts_43 fp_46) (hr_49 : I64 head_48) (h_52 : OwnSl H cF 58 v_51 heat_50 fp_53) (h_57 : IsF u_56) (h_60 : OwnSl H (cPair cBool (cSl (cInt .i64))) 50 v_59 proof_58 fp_61) (hA_65 : IsAr 3 A_68 fp_66) (hS : St w0 H ([(b_6, oc #[(pq b_9)] 43)] ++ ([(b_9, oc #[i6 n_11, v_14, v_19, v_24, v_29, v_34, v_39, v_44, i6 head_48, v_51, u_56, v_59, .bool dead_63] 60)] ++ (fp_16 ++ (fp_21 ++ (fp_26 ++ (fp_31 ++ (fp_36 ++ (fp_41 ++ (fp_46 ++ (fp_53 ++ (fp_61 ++ (fp_66 ++ L)))))))))))) w) (hV : V_add1 a_1 b_3 n_11 clauses_13 watch_18 value_23 level_28 reason_33 trail_38 starts_43 head_48 heat_50 proof_58 dead_63 A_68 Q) :
 Calls Tryz.prog 46 #[i6 a_1, i6 b_3, (pq b_6)] w fun e w' => ∃ (r1 : Int), Q r1 ∧ e = .returned (i6 r1) ∧ I64 r1 ∧ St w0 H ([(b_6, oc #[(pq b_9)] 43)] ++ ([(b_9, oc #[i6 n_11, v_14, v_19, v_24, v_29, v_34, v_39, v_44, i6 head_48, v_51, u_56, v_59, .bool dead_63] 60)] ++ (fp_16 ++ (fp_21 ++ (fp_26 ++ (fp_31 ++ (fp_36 ++ (fp_41 ++ (fp_46 ++ (fp_53 ++ (fp_61 ++ (fp_66 ++ L)))))))))))) w' := by
 unfold V_add1 at hV
 refine enter func46 rfl ntmps46 rfl (lk_args_cons (d := 0) (v := i6 a_1) rfl (lk_args_cons (d := 1) (v := i6 b_3) rfl (lk_args_cons (d := 2) (v := (pq b_6)) rfl (lk_args_nil _)))) ?_
 refine WC.sr ?_
 refine R hS ?_
 refine WL.nx ?_
 refine WC.seq ?_
 replace hS := hS.f12.f12.f12.f12.f12.f12.f12.f12.f12.f12.f12
 refine WC.quiet (C := St w0 H ([(b_9, oc #[i6 n_11, v_14, v_19, v_24, v_29, v_34, v_39, v_44, i6 head_48, v_51, u_56, v_59, .bool dead_63] 60)] ++ (fp_16 ++ (fp_21 ++ (fp_26 ++ (fp_31 ++ (fp_36 ++ (fp_41 ++ (fp_46 ++ (fp_53 ++ (fp_61 ++ (fp_66 ++ ([(b_6, oc #[(pq b_9)] 43)] ++ L))))))))))))) mixed (by kernel_rfl) (hS.drawn _) ?_
 clear hS w
 refine Rm ((ex_load_box isAgg43 rfl rfl).of (fun _ h => St.f12 h)) ?_
 refine Rq ?_
 obtain ⟨r_69, h_71, hr_70, hV⟩ := hV
 refine Wq.call (v := i6 r_69) rfl rfl rfl (fun w => enters0 (vs := [(pq b_9), i6 b_3]) call32 ⟨rfl, rfl, trivial⟩) (fun w hS => (S_of (Q := fun y0 => y0 = r_69)  hr_12 h_15 h_20 h_25 h_30 h_35 h_40 h_45 hr_49 h_52 h_57 h_60 hA_65 hr_4 hS h_71).mono ?_) ?_
 rintro e w' ⟨_, rfl, he, _, hS⟩
 exact ⟨he, hS⟩
 refine Rm ((ex_load_box isAgg43 rfl rfl).of (fun _ h => St.f12 h)) ?_
 refine Rq ?_
 obtain ⟨r_72, h_74, hr_73, hV⟩ := hV
 refine Wq.call (v := i6 r_72) rfl rfl rfl (fun w => enters0 (vs := [(pq b_9), i6 a_1]) call32 ⟨rfl, rfl, trivial⟩) (fun w hS => (S_of (Q := fun y0 => y0 = r_72)  hr_12 h_15 h_20 h_25 h_30 h_35 h_40 h_45 hr_49 h_52 h_57 h_60 hA_65 hr_2 hS h_74).mono ?_) ?_
 rintro e w' ⟨_, rfl, he, _, hS⟩
 exact ⟨he, hS⟩
 obtain ⟨hi_76, hV⟩ := hV
 iterate 2 refine Rq ?_
 refine Wq.nil fun w hS => ?_
 refine WQ.next ?_
 refine Sb [(5, i6 (r_69 - r_72))] ?_
 refine WC.ret ?_
 replace hS := hS.f11.f11.f11.f11.f11.f11.f11.f11.f11.f11.f11.f12
 exact leave1 rfl rfl (⟨(r_69 - r_72), hV, rfl, hi_76, hS⟩)

theorem S_insSF {w0 : World} {H : View} {L : Seg} {w : World} {v_2 : Value} {data_1 : LI} {fp_4 : Seg} {a_6 : Int} {b_8 : Int} {b_12 : Nat} {b_15 : Nat} {n_17 : Int} {v_20 : Value} {clauses_19 : List Raw} {fp_22 : Seg} {v_25 : Value} {watch_24 : List (Int × Raw)} {fp_27 : Seg} {v_30 : Value} {value_29 : LI} {fp_32 : Seg} {v_35 : Value} {level_34 : LI} {fp_37 : Seg} {v_40 : Value} {reason_39 : LI} {fp_42 : Seg} {v_45 : Value} {trail_44 : LI} {fp_47 : Seg} {v_50 : Value} {starts_49 : LI} {fp_52 : Seg} {head_54 : Int} {v_57 : Value} {heat_56 : List Unit} {fp_59 : Seg} {u_62 : Value} {v_65 : Value} {proof_64 : List (Bool × LI)} {fp_67 : Seg} {dead_69 : Bool} {A_74 : Arena} {fp_72 : Seg} {Q : LI → Prop} (h_3 : OwnSl H (cInt .i64) 3 v_2 data_1 fp_4) (hr_7 : I64 a_6) (hr_9 : I64 b_8) (hr_18 : I64 n_17) (h_21 : OwnSl H cRaw 23 v_20 clauses_19 fp_22) (h_26 : OwnMp H kInt cRaw v_25 watch_24 fp_27) (h_31 : OwnSl H (cInt .i64) 3 v_30 value_29 fp_32) (h_36 : OwnSl H (cInt .i64) 3 v_35 level_34 fp_37) (h_41 : OwnSl H (cInt .i64) 3 v_40 reason_39 fp_42) (h_46 : OwnSl H (cInt .i64) 3 v_45 trail_44 fp_47) (h_51 : OwnSl H (cInt .i64) 3 v_50 starts_49 fp_52) (hr_55 : I64 head_54) (h_58 : OwnSl H cF 58 v_57 heat_56 fp_59) (h_63 : IsF u_62) (h_66 : OwnSl H (cPair cBool (cSl (cInt .i64))) 50 v_65 proof_64 fp_67) (hA_71 : IsAr 3 A_74 fp_72) (hS : St w0 H (fp_4 ++ ([(b_12, oc #[(pq b_15)] 43)] ++ ([(b_15, oc #[i6 n_17, v_20, v_25, v_30, v_35, v_40, v_45, v_50, i6 head_54, v_57, u_62, v_65, .bool dead_69] 60)] ++ (fp_22 ++ (fp_27 ++ (fp_32 ++ (fp_37 ++ (fp_42 ++ (fp_47 ++ (fp_52 ++ (fp_59 ++ (fp_67 ++ (fp_72 ++ L))))))))))))) w) (hV : V_insSF data_1 a_6 b_8 n_17 clauses_19 watch_24 value_29 level_34 reason_39 trail_44 starts_49 head_54 heat_56 proof_64 dead_69 A_74 Q) :
 Calls Tryz.prog 68 #[v_2, i6 a_6, i6 b_8, .func (.func 46) #[] #[(pq b_12)]] w fun e w' => ∃ (r1 : LI) (fp1 : Seg), Q r1 ∧ e = .returned (.tuple #[]) ∧ OwnSl H (cInt .i64) 3 v_2 r1 fp1 ∧ St w0 H (fp1 ++ ([(b_12, oc #[(pq b_15)] 43)] ++ ([(b_15, oc #[i6 n_17, v_20, v_25, v_30, v_35, v_40, v_45, v_50, i6 head_54, v_57, u_62, v_65, .bool dead_69] 60)] ++ (fp_22 ++ (fp_27 ++ (fp_32 ++ (fp_37 ++ (fp_42 ++ (fp_47 ++ (fp_52 ++ (fp_59 ++ (fp_67 ++ (fp_72 ++ L))))))))))))) w' := by
 unfold V_insSF at hV
 refine enter func68 rfl ntmps68 rfl (lk_args_cons (d := 0) (v := v_2) rfl (lk_args_cons (d := 1) (v := i6 a_6) rfl (lk_args_cons (d := 2) (v := i6 b_8) rfl (lk_args_cons (d := 3) (v := .func (.func 46) #[] #[(pq b_12)]) rfl (lk_args_nil _))))) ?_
 refine WC.sr ?_
 refine R hS ?_
 obtain ⟨hi_76, hV⟩ := hV
 iterate 2 refine R hS ?_
 refine WL.nx ?_
 refine WC.block ?_
 replace hS := hS.f13.f13.f13.f13.f13.f13.f13.f13.f13.f13.f13.f13.f13
 obtain ⟨I_804, mu_805, hI_1168, hV⟩ := hV
 refine WC.loop (σ := LI × Int) (fun s a w => ∃ (data_438 : LI) (i_441 : Int) (fp_439 : Seg), s = (data_438, i_441) ∧ I_804 (data_438, i_441) ∧ OwnSl H (cInt .i64) 3 v_2 data_438 fp_439 ∧ I64 i_441 ∧ St w0 H (fp_439 ++ ([(b_12, oc #[(pq b_15)] 43)] ++ ([(b_15, oc #[i6 n_17, v_20, v_25, v_30, v_35, v_40, v_45, v_50, i6 head_54, v_57, u_62, v_65, .bool dead_69] 60)] ++ (fp_22 ++ (fp_27 ++ (fp_32 ++ (fp_37 ++ (fp_42 ++ (fp_47 ++ (fp_52 ++ (fp_59 ++ (fp_67 ++ (fp_72 ++ L))))))))))))) w ∧ Fr 53 [(0, v_2), (1, i6 a_6), (2, i6 b_8), (3, .func (.func 46) #[] #[(pq b_12)]), (8, i6 i_441)] a) mu_805 (data_1, (a_6 + 1)) ?_ ?_
 exact fun a ha => ⟨data_1, (a_6 + 1), fp_4, rfl, hI_1168, h_3, hi_76, hS, ha.os⟩
 clear hS hI_1168
 rintro _ a w ⟨data_438, i_441, fp_439, rfl, hI, h_440, hr_442, hS, ha⟩
 refine in_frame ha ?_
 clear ha
 replace hV := hV _ hI
 clear hI
 refine WC.seq ?_
 refine WC.sr ?_
 iterate 3 refine R hS ?_
 refine WL.nx ?_
 refine Cd ?_ ?_
 intro hc_1167
 replace hV := hV.1 (od hc_1167)
 refine WC.skip ?_
 refine WQ.next ?_
 refine WC.seq ?_
 refine WC.block ?_
 refine WC.sr ?_
 iterate 2 refine R hS ?_
 refine WL.nx ?_
 refine WC.block ?_
 replace hS := hS.f13.f13.f13.f13.f13.f13.f13.f13.f13.f13.f13.f13.f13
 obtain ⟨I_1045, mu_1046, hI_1166, hV⟩ := hV
 refine WC.loop (σ := LI × Int) (fun s a w => ∃ (data_924 : LI) (j_927 : Int) (fp_925 : Seg), s = (data_924, j_927) ∧ I_1045 (data_924, j_927) ∧ OwnSl H (cInt .i64) 3 v_2 data_924 fp_925 ∧ I64 j_927 ∧ St w0 H (fp_925 ++ ([(b_12, oc #[(pq b_15)] 43)] ++ ([(b_15, oc #[i6 n_17, v_20, v_25, v_30, v_35, v_40, v_45, v_50, i6 head_54, v_57, u_62, v_65, .bool dead_69] 60)] ++ (fp_22 ++ (fp_27 ++ (fp_32 ++ (fp_37 ++ (fp_42 ++ (fp_47 ++ (fp_52 ++ (fp_59 ++ (fp_67 ++ (fp_72 ++ L))))))))))))) w ∧ Fr 53 [(0, v_2), (1, i6 a_6), (2, i6 b_8), (3, .func (.func 46) #[] #[(pq b_12)]), (8, i6 i_441), (9, i6 j_927)] a) mu_1046 (data_438, i_441) ?_ ?_
 exact fun a ha => ⟨data_438, i_441, fp_439, rfl, hI_1166, h_440, hr_442, hS, ha.os⟩
 clear hS hI_1166
 rintro _ a w ⟨data_924, j_927, fp_925, rfl, hI, h_926, hr_928, hS, ha⟩
 refine in_frame ha ?_
 clear ha
 replace hV := hV _ hI
 clear hI
 refine WC.seq ?_
 obtain ⟨J_1073, hJ_1074, hV⟩ := hV
 refine WC.meet (fun a w => ∃ (x_1072 : Bool), J_1073 x_1072 ∧ St w0 H (fp_925 ++ ([(b_12, oc #[(pq b_15)] 43)] ++ ([(b_15, oc #[i6 n_17, v_20, v_25, v_30, v_35, v_40, v_45, v_50, i6 head_54, v_57, u_62, v_65, .bool dead_69] 60)] ++ (fp_22 ++ (fp_27 ++ (fp_32 ++ (fp_37 ++ (fp_42 ++ (fp_47 ++ (fp_52 ++ (fp_59 ++ (fp_67 ++ (fp_72 ++ L))))))))))))) w ∧ Fr 53 [(0, v_2), (1, i6 a_6), (2, i6 b_8), (3, .func (.func 46) #[] #[(pq b_12)]), (8, i6 i_441), (9, i6 j_927), (34, .bool x_1072)] a) ?_ ?_
 rintro a w ⟨x_1072, hI, hS, ha⟩
 refine in_frame ha ?_
 clear ha hV
 have hV := hJ_1074 _ hI
 clear hI hJ_1074
 refine Cd ?_ ?_
 intro hc_1165
 replace hV := hV.1 hc_1165
 refine WC.skip ?_
 refine WQ.next ?_
 refine WC.seq ?_
 refine WC.block ?_
 refine WC.drawn (σ := [0, 1, 2, 3, 4, 5, 6, 7, 8, 9, 10, 11, 12, 13, 14, 15, 16, 17]) (C := St w0 H (fp_925 ++ ([(b_12, oc #[(pq b_15)] 43)] ++ ([(b_15, oc #[i6 n_17, v_20, v_25, v_30, v_35, v_40, v_45, v_50, i6 head_54, v_57, u_62, v_65, .bool dead_69] 60)] ++ (fp_22 ++ (fp_27 ++ (fp_32 ++ (fp_37 ++ (fp_42 ++ (fp_47 ++ (fp_52 ++ (fp_59 ++ (fp_67 ++ (fp_72 ++ L)))))))))))))) [[], [], [], [], [3], [], [], [6], [5, 6, 7], [5, 6, 7, 8], [], [], [10, 11], [10, 11, 12], [0, 1, 5, 6, 7, 8, 9, 10, 11, 12, 13], [0, 1, 5, 6, 7, 8, 9, 10, 11, 12, 13, 14], [0, 1, 2, 3, 4, 5, 6, 7, 8, 9, 10, 11, 12, 13, 14, 15], [0, 1, 2, 3, 4, 5, 6, 7, 8, 9, 10, 11, 12, 13, 14, 15, 16]] [15, 17] mixed (by kernel_rfl) (hS.drawn _) ?_
 clear hS w
 refine Dm fun q_1100 hq_1099 => ?_
 refine Dm fun q_1102 hq_1101 => ?_
 refine Dm fun q_1104 hq_1103 => ?_
 refine Dm fun q_1106 hq_1105 => ?_
 obtain ⟨hi_1110, hV⟩ := hV
 refine Wd.run rfl rfl rfl rfl (fun _ => ex_sub rfl rfl hi_1110) fun q_1108 hq_1107 => ?_
 refine Dm fun q_1112 hq_1111 => ?_
 refine Dm fun q_1114 hq_1113 => ?_
 obtain ⟨hi_1118, hV⟩ := hV
 refine Wd.run rfl rfl rfl rfl (fun _ => ex_sub rfl rfl hi_1118) fun q_1116 hq_1115 => ?_
 obtain ⟨hin_1121, hV⟩ := hV
 refine Wd.runx rfl rfl rfl rfl (exAll (ex_index_own underlying23 sizeOf3 rfl rfl h_926 hin_1121)) ?_
 intro p_1122 hp_1123
 intro q_1120 hq_1119
 refine Wd.runs (fp := fp_925) rfl rfl rfl rfl (ex_load_own_s isAgg3 rfl rfl h_926 hp_1123 hin_1121) (fun _ h => h) ?_
 intro u_1128 hu_1129
 obtain ⟨rfl, hr_1130⟩ := cInt_rep hu_1129
 replace hr_1130 := has_I64 hr_1130
 replace hV := hV hr_1130
 intro q_1125 hq_1124
 refine Dm fun q_1132 hq_1131 => ?_
 refine Dm fun q_1134 hq_1133 => ?_
 obtain ⟨hin_1137, hV⟩ := hV
 refine Wd.runx rfl rfl rfl rfl (exAll (ex_index_own underlying23 sizeOf3 rfl rfl h_926 hin_1137)) ?_
 intro p_1138 hp_1139
 intro q_1136 hq_1135
 refine Wd.runs (fp := fp_925) rfl rfl rfl rfl (ex_load_own_s isAgg3 rfl rfl h_926 hp_1139 hin_1137) (fun _ h => h) ?_
 intro u_1144 hu_1145
 obtain ⟨rfl, hr_1146⟩ := cInt_rep hu_1145
 replace hr_1146 := has_I64 hr_1146
 replace hV := hV hr_1146
 intro q_1141 hq_1140
 obtain ⟨hin_1149, hV⟩ := hV
 refine Wd.runx rfl rfl rfl rfl (exAll (ex_index_own underlying23 sizeOf3 rfl rfl h_926 hin_1149)) ?_
 intro p_1150 hp_1151
 intro q_1148 hq_1147
 refine Wd.turn rfl rfl rfl fun w hS => ?_
 refine WL.store_own sizeOf3 rfl rfl rfl (cInt_mk (I64.has hr_1130)) hS h_926 hp_1151 hin_1149 ?_
 clear hS
 intro w fp_1153 h_1152 hS
 refine WL.nil (DQ.mk2 (C' := St w0 H (fp_1153 ++ ([(b_12, oc #[(pq b_15)] 43)] ++ ([(b_15, oc #[i6 n_17, v_20, v_25, v_30, v_35, v_40, v_45, v_50, i6 head_54, v_57, u_62, v_65, .bool dead_69] 60)] ++ (fp_22 ++ (fp_27 ++ (fp_32 ++ (fp_37 ++ (fp_42 ++ (fp_47 ++ (fp_52 ++ (fp_59 ++ (fp_67 ++ (fp_72 ++ L)))))))))))))) hS ⟨il, il, il, il, il, il, il, il, il, il, .inr (hq_1107 _), .inr (hq_1105 _), .inr (hq_1103 _), il, il, trivial⟩ ?_)
 clear hS w
 obtain ⟨hin_1156, hV⟩ := hV
 refine Wd.runx rfl rfl rfl rfl (exAll (ex_index_own underlying23 sizeOf3 rfl rfl h_1152 hin_1156)) ?_
 intro p_1157 hp_1158
 intro q_1155 hq_1154
 refine Wd.turn rfl rfl rfl fun w hS => ?_
 refine WL.store_own sizeOf3 rfl rfl rfl (cInt_mk (I64.has hr_1146)) hS h_1152 hp_1158 hin_1156 ?_
 clear hS
 intro w fp_1160 h_1159 hS
 refine WL.nil (DQ.mk2 (C' := St w0 H (fp_1160 ++ ([(b_12, oc #[(pq b_15)] 43)] ++ ([(b_15, oc #[i6 n_17, v_20, v_25, v_30, v_35, v_40, v_45, v_50, i6 head_54, v_57, u_62, v_65, .bool dead_69] 60)] ++ (fp_22 ++ (fp_27 ++ (fp_32 ++ (fp_37 ++ (fp_42 ++ (fp_47 ++ (fp_52 ++ (fp_59 ++ (fp_67 ++ (fp_72 ++ L)))))))))))))) hS ⟨il, il, il, il, il, il, il, il, il, il, il, il, il, il, il, il, trivial⟩ ?_)
 clear hS w
 refine Wd.nil fun w hS => ?_
 refine WQ.out nofun ?_
 refine WQ.next ?_
 refine Sb [(0, v_2), (1, i6 a_6), (2, i6 b_8), (3, .func (.func 46) #[] #[(pq b_12)]), (8, i6 i_441), (9, i6 j_927)] ?_
 refine WC.region ?_
 refine R hS ?_
 obtain ⟨hi_1162, hV⟩ := hV
 iterate 2 refine R hS ?_
 refine WL.nil ?_
 replace hS := hS.f13.f13.f13.f13.f13.f13.f13.f13.f13.f13.f13.f13.f13
 exact Wt fun a ha => ⟨(((data_924.set j_927.toNat (ix data_924 (j_927 - 1))).set (j_927 - 1).toNat (ix data_924 j_927)), (j_927 - 1)), ⟨((data_924.set j_927.toNat (ix data_924 (j_927 - 1))).set (j_927 - 1).toNat (ix data_924 j_927)), (j_927 - 1), fp_1160, rfl, hV.1, h_1159, hi_1162, hS, ha.os⟩, hV.2⟩
 intro hc_1165
 replace hV := hV.2 hc_1165
 refine WC.exit ?_
 refine Wp ?_
 refine Wp ?_
 refine WQ.hit ?_
 refine WQ.out nofun ?_
 refine WQ.next ?_
 refine WC.region ?_
 refine R hS ?_
 obtain ⟨hi_1164, hV⟩ := hV
 iterate 2 refine R hS ?_
 refine WL.nil ?_
 replace hS := hS.f13.f13.f13.f13.f13.f13.f13.f13.f13.f13.f13.f13.f13
 exact Wt fun a ha => ⟨(data_924, (i_441 + 1)), ⟨data_924, (i_441 + 1), fp_925, rfl, hV.1, h_926, hi_1164, hS, ha.os⟩, hV.2⟩
 clear hJ_1074
 replace hS := hS.f13.f13.f13.f13.f13.f13.f13.f13.f13.f13.f13.f13
 refine WC.quiet (C := St w0 H ([(b_12, oc #[(pq b_15)] 43)] ++ ([(b_15, oc #[i6 n_17, v_20, v_25, v_30, v_35, v_40, v_45, v_50, i6 head_54, v_57, u_62, v_65, .bool dead_69] 60)] ++ (fp_22 ++ (fp_27 ++ (fp_32 ++ (fp_37 ++ (fp_42 ++ (fp_47 ++ (fp_52 ++ (fp_59 ++ (fp_67 ++ (fp_72 ++ (fp_925 ++ L)))))))))))))) mixed (by kernel_rfl) (hS.drawn _) ?_
 clear hS w
 iterate 4 refine Rq ?_
 rcases bft (decide (a_6 < j_927)) with hg_1076 | hg_1076
 replace hV := hV.1 (od hg_1076)
 iterate 3 refine Rq ?_
 refine Uq hg_1076 ?_
 obtain ⟨hin_1077, hV⟩ := hV
 refine Wq.runx rfl rfl rfl (ex_index_own underlying23 sizeOf3 rfl rfl h_926 hin_1077) ?_
 intro p_1078 hp_1079
 refine Uq hg_1076 ?_
 refine Wq.runx rfl rfl rfl (exQ (ex_load_own_s isAgg3 rfl rfl h_926 hp_1079 hin_1077) _ (fun _ h => St.f13 h)) ?_
 intro u_1082 hu_1083
 obtain ⟨rfl, hr_1084⟩ := cInt_rep hu_1083
 replace hr_1084 := has_I64 hr_1084
 replace hV := hV hr_1084
 iterate 2 refine Rq ?_
 refine Uq hg_1076 ?_
 obtain ⟨hi_1086, hV⟩ := hV
 refine Rq ?_
 refine Uq hg_1076 ?_
 obtain ⟨hin_1087, hV⟩ := hV
 refine Wq.runx rfl rfl rfl (ex_index_own underlying23 sizeOf3 rfl rfl h_926 hin_1087) ?_
 intro p_1088 hp_1089
 refine Uq hg_1076 ?_
 refine Wq.runx rfl rfl rfl (exQ (ex_load_own_s isAgg3 rfl rfl h_926 hp_1089 hin_1087) _ (fun _ h => St.f13 h)) ?_
 intro u_1092 hu_1093
 obtain ⟨rfl, hr_1094⟩ := cInt_rep hu_1093
 replace hr_1094 := has_I64 hr_1094
 replace hV := hV hr_1094
 refine Uq hg_1076 ?_
 obtain ⟨r_1095, h_1097, hr_1096, hV⟩ := hV
 refine Wq.call (v := i6 r_1095) rfl rfl rfl (fun w => enters_c (vs := [i6 (ix data_924 j_927), i6 (ix data_924 (j_927 - 1))]) (caps := [(pq b_12)]) rfl call46 ⟨rfl, rfl, trivial⟩) (fun w hS => (S_add1 (Q := fun y0 => y0 = r_1095)  hr_1084 hr_1094 hr_18 h_21 h_26 h_31 h_36 h_41 h_46 h_51 hr_55 h_58 h_63 h_66 hA_71 hS h_1097).mono ?_) ?_
 rintro e w' ⟨_, rfl, he, _, hS⟩
 exact ⟨he, hS⟩
 iterate 2 refine Rq ?_
 refine Wq.nil fun w hS => ?_
 replace hS := hS.f12.f12.f12.f12.f12.f12.f12.f12.f12.f12.f12.f12.f13
 exact Wt fun a ha => ⟨decide (r_1095 < 0), hV, hS, ha.os⟩
 replace hV := hV.2 (ov hg_1076)
 iterate 13 refine Rq ?_
 refine Wq.nil fun w hS => ?_
 replace hS := hS.f12.f12.f12.f12.f12.f12.f12.f12.f12.f12.f12.f12.f13
 exact Wt fun a ha => ⟨false, hV, hS, ha.os⟩
 intro hc_1167
 replace hV := hV.2 (ov hc_1167)
 refine WC.exit ?_
 refine Wp ?_
 refine Wp ?_
 refine WQ.hit ?_
 replace hS := hS.f13.f13.f13.f13.f13.f13.f13.f13.f13.f13.f13.f13.f13
 exact leave0 (.inr rfl) rfl (⟨data_438, fp_439, hV, rfl, h_440, hS⟩)

theorem S_swapSF {w0 : World} {H : View} {L : Seg} {w : World} {v_2 : Value} {data_1 : LI} {fp_4 : Seg} {a_6 : Int} {b_8 : Int} {n_10 : Int} {b_14 : Nat} {b_17 : Nat} {n_19 : Int} {v_22 : Value} {clauses_21 : List Raw} {fp_24 : Seg} {v_27 : Value} {watch_26 : List (Int × Raw)} {fp_29 : Seg} {v_32 : Value} {value_31 : LI} {fp_34 : Seg} {v_37 : Value} {level_36 : LI} {fp_39 : Seg} {v_42 : Value} {reason_41 : LI} {fp_44 : Seg} {v_47 : Value} {trail_46 : LI} {fp_49 : Seg} {v_52 : Value} {starts_51 : LI} {fp_54 : Seg} {head_56 : Int} {v_59 : Value} {heat_58 : List Unit} {fp_61 : Seg} {u_64 : Value} {v_67 : Value} {proof_66 : List (Bool × LI)} {fp_69 : Seg} {dead_71 : Bool} {A_76 : Arena} {fp_74 : Seg} {Q : LI → Prop} (h_3 : OwnSl H (cInt .i64) 3 v_2 data_1 fp_4) (hr_7 : I64 a_6) (hr_9 : I64 b_8) (hr_11 : I64 n_10) (hr_20 : I64 n_19) (h_23 : OwnSl H cRaw 23 v_22 clauses_21 fp_24) (h_28 : OwnMp H kInt cRaw v_27 watch_26 fp_29) (h_33 : OwnSl H (cInt .i64) 3 v_32 value_31 fp_34) (h_38 : OwnSl H (cInt .i64) 3 v_37 level_36 fp_39) (h_43 : OwnSl H (cInt .i64) 3 v_42 reason_41 fp_44) (h_48 : OwnSl H (cInt .i64) 3 v_47 trail_46 fp_49) (h_53 : OwnSl H (cInt .i64) 3 v_52 starts_51 fp_54) (hr_57 : I64 head_56) (h_60 : OwnSl H cF 58 v_59 heat_58 fp_61) (h_65 : IsF u_64) (h_68 : OwnSl H (cPair cBool (cSl (cInt .i64))) 50 v_67 proof_66 fp_69) (hA_73 : IsAr 3 A_76 fp_74) (hS : St w0 H (fp_4 ++ ([(b_14, oc #[(pq b_17)] 43)] ++ ([(b_17, oc #[i6 n_19, v_22, v_27, v_32, v_37, v_42, v_47, v_52, i6 head_56, v_59, u_64, v_67, .bool dead_71] 60)] ++ (fp_24 ++ (fp_29 ++ (fp_34 ++ (fp_39 ++ (fp_44 ++ (fp_49 ++ (fp_54 ++ (fp_61 ++ (fp_69 ++ (fp_74 ++ L))))))))))))) w) (hV : V_swapSF data_1 a_6 b_8 n_10 n_19 clauses_21 watch_26 value_31 level_36 reason_41 trail_46 starts_51 head_56 heat_58 proof_66 dead_71 A_76 Q) :
 Calls Tryz.prog 88 #[v_2, i6 a_6, i6 b_8, i6 n_10, .func (.func 46) #[] #[(pq b_14)]] w fun e w' => ∃ (r1 : LI) (fp1 : Seg), Q r1 ∧ e = .returned (.tuple #[]) ∧ OwnSl H (cInt .i64) 3 v_2 r1 fp1 ∧ St w0 H (fp1 ++ ([(b_14, oc #[(pq b_17)] 43)] ++ ([(b_17, oc #[i6 n_19, v_22, v_27, v_32, v_37, v_42, v_47, v_52, i6 head_56, v_59, u_64, v_67, .bool dead_71] 60)] ++ (fp_24 ++ (fp_29 ++ (fp_34 ++ (fp_39 ++ (fp_44 ++ (fp_49 ++ (fp_54 ++ (fp_61 ++ (fp_69 ++ (fp_74 ++ L))))))))))))) w' := by
 unfold V_swapSF at hV
 refine enter func88 rfl ntmps88 rfl (lk_args_cons (d := 0) (v := v_2) rfl (lk_args_cons (d := 1) (v := i6 a_6) rfl (lk_args_cons (d := 2) (v := i6 b_8) rfl (lk_args_cons (d := 3) (v := i6 n_10) rfl (lk_args_cons (d := 4) (v := .func (.func 46) #[] #[(pq b_14)]) rfl (lk_args_nil _)))))) ?_
 refine WC.sr ?_
 refine R hS ?_
 refine WL.nx ?_
 refine WC.block ?_
 replace hS := hS.f13.f13.f13.f13.f13.f13.f13.f13.f13.f13.f13.f13.f13
 obtain ⟨I_246, mu_247, hI_331, hV⟩ := hV
 refine WC.loop (σ := LI × Int) (fun s a w => ∃ (data_159 : LI) (i_162 : Int) (fp_160 : Seg), s = (data_159, i_162) ∧ I_246 (data_159, i_162) ∧ OwnSl H (cInt .i64) 3 v_2 data_159 fp_160 ∧ I64 i_162 ∧ St w0 H (fp_160 ++ ([(b_14, oc #[(pq b_17)] 43)] ++ ([(b_17, oc #[i6 n_19, v_22, v_27, v_32, v_37, v_42, v_47, v_52, i6 head_56, v_59, u_64, v_67, .bool dead_71] 60)] ++ (fp_24 ++ (fp_29 ++ (fp_34 ++ (fp_39 ++ (fp_44 ++ (fp_49 ++ (fp_54 ++ (fp_61 ++ (fp_69 ++ (fp_74 ++ L))))))))))))) w ∧ Fr 38 [(0, v_2), (1, i6 a_6), (2, i6 b_8), (3, i6 n_10), (10, i6 i_162)] a) mu_247 (data_1, 0) ?_ ?_
 exact fun a ha => ⟨data_1, 0, fp_4, rfl, hI_331, h_3, (by unfold I64; omega), hS, ha.os⟩
 clear hS hI_331
 rintro _ a w ⟨data_159, i_162, fp_160, rfl, hI, h_161, hr_163, hS, ha⟩
 refine in_frame ha ?_
 clear ha
 replace hV := hV _ hI
 clear hI
 refine WC.seq ?_
 refine WC.sr ?_
 iterate 3 refine R hS ?_
 refine WL.nx ?_
 refine Cd ?_ ?_
 intro hc_330
 replace hV := hV.1 (od hc_330)
 refine WC.skip ?_
 refine WQ.next ?_
 refine WC.seq ?_
 refine WC.block ?_
 refine WC.drawn (σ := [0, 1, 2, 3, 4, 5, 6, 7, 8, 9, 10, 11, 12, 13, 14, 15, 16, 17, 18, 19, 20, 21, 22, 23]) (C := St w0 H (fp_160 ++ ([(b_14, oc #[(pq b_17)] 43)] ++ ([(b_17, oc #[i6 n_19, v_22, v_27, v_32, v_37, v_42, v_47, v_52, i6 head_56, v_59, u_64, v_67, .bool dead_71] 60)] ++ (fp_24 ++ (fp_29 ++ (fp_34 ++ (fp_39 ++ (fp_44 ++ (fp_49 ++ (fp_54 ++ (fp_61 ++ (fp_69 ++ (fp_74 ++ L)))))))))))))) [[], [], [], [1, 2], [], [], [], [5, 6], [], [], [], [9, 10], [8, 9, 10, 11], [8, 9, 10, 11, 12], [], [], [], [15, 16], [14, 15, 16, 17], [14, 15, 16, 17, 18], [0, 1, 2, 3, 8, 9, 10, 11, 12, 13, 14, 15, 16, 17, 18, 19], [0, 1, 2, 3, 8, 9, 10, 11, 12, 13, 14, 15, 16, 17, 18, 19, 20], [0, 1, 2, 3, 4, 5, 6, 7, 8, 9, 10, 11, 12, 13, 14, 15, 16, 17, 18, 19, 20, 21], [0, 1, 2, 3, 4, 5, 6, 7, 8, 9, 10, 11, 12, 13, 14, 15, 16, 17, 18, 19, 20, 21, 22]] [21, 23] mixed (by kernel_rfl) (hS.drawn _) ?_
 clear hS w
 refine Dm fun q_251 hq_250 => ?_
 refine Dm fun q_253 hq_252 => ?_
 refine Dm fun q_255 hq_254 => ?_
 obtain ⟨hi_259, hV⟩ := hV
 refine Wd.run rfl rfl rfl rfl (fun _ => ex_add rfl rfl hi_259) fun q_257 hq_256 => ?_
 refine Dm fun q_261 hq_260 => ?_
 refine Dm fun q_263 hq_262 => ?_
 refine Dm fun q_265 hq_264 => ?_
 obtain ⟨hi_269, hV⟩ := hV
 refine Wd.run rfl rfl rfl rfl (fun _ => ex_add rfl rfl hi_269) fun q_267 hq_266 => ?_
 refine Dm fun q_271 hq_270 => ?_
 refine Dm fun q_273 hq_272 => ?_
 refine Dm fun q_275 hq_274 => ?_
 obtain ⟨hi_279, hV⟩ := hV
 refine Wd.run rfl rfl rfl rfl (fun _ => ex_add rfl rfl hi_279) fun q_277 hq_276 => ?_
 obtain ⟨hin_282, hV⟩ := hV
 refine Wd.runx rfl rfl rfl rfl (exAll (ex_index_own underlying23 sizeOf3 rfl rfl h_161 hin_282)) ?_
 intro p_283 hp_284
 intro q_281 hq_280
 refine Wd.runs (fp := fp_160) rfl rfl rfl rfl (ex_load_own_s isAgg3 rfl rfl h_161 hp_284 hin_282) (fun _ h => h) ?_
 intro u_289 hu_290
 obtain ⟨rfl, hr_291⟩ := cInt_rep hu_290
 replace hr_291 := has_I64 hr_291
 replace hV := hV hr_291
 intro q_286 hq_285
 refine Dm fun q_293 hq_292 => ?_
 refine Dm fun q_295 hq_294 => ?_
 refine Dm fun q_297 hq_296 => ?_
 obtain ⟨hi_301, hV⟩ := hV
 refine Wd.run rfl rfl rfl rfl (fun _ => ex_add rfl rfl hi_301) fun q_299 hq_298 => ?_
 obtain ⟨hin_304, hV⟩ := hV
 refine Wd.runx rfl rfl rfl rfl (exAll (ex_index_own underlying23 sizeOf3 rfl rfl h_161 hin_304)) ?_
 intro p_305 hp_306
 intro q_303 hq_302
 refine Wd.runs (fp := fp_160) rfl rfl rfl rfl (ex_load_own_s isAgg3 rfl rfl h_161 hp_306 hin_304) (fun _ h => h) ?_
 intro u_311 hu_312
 obtain ⟨rfl, hr_313⟩ := cInt_rep hu_312
 replace hr_313 := has_I64 hr_313
 replace hV := hV hr_313
 intro q_308 hq_307
 obtain ⟨hin_316, hV⟩ := hV
 refine Wd.runx rfl rfl rfl rfl (exAll (ex_index_own underlying23 sizeOf3 rfl rfl h_161 hin_316)) ?_
 intro p_317 hp_318
 intro q_315 hq_314
 refine Wd.turn rfl rfl rfl fun w hS => ?_
 refine WL.store_own sizeOf3 rfl rfl rfl (cInt_mk (I64.has hr_291)) hS h_161 hp_318 hin_316 ?_
 clear hS
 intro w fp_320 h_319 hS
 refine WL.nil (DQ.mk2 (C' := St w0 H (fp_320 ++ ([(b_14, oc #[(pq b_17)] 43)] ++ ([(b_17, oc #[i6 n_19, v_22, v_27, v_32, v_37, v_42, v_47, v_52, i6 head_56, v_59, u_64, v_67, .bool dead_71] 60)] ++ (fp_24 ++ (fp_29 ++ (fp_34 ++ (fp_39 ++ (fp_44 ++ (fp_49 ++ (fp_54 ++ (fp_61 ++ (fp_69 ++ (fp_74 ++ L)))))))))))))) hS ⟨il, il, il, il, il, il, il, il, il, il, il, il, il, .inr (hq_266 _), .inr (hq_264 _), .inr (hq_262 _), .inr (hq_260 _), il, il, il, il, trivial⟩ ?_)
 clear hS w
 obtain ⟨hin_323, hV⟩ := hV
 refine Wd.runx rfl rfl rfl rfl (exAll (ex_index_own underlying23 sizeOf3 rfl rfl h_319 hin_323)) ?_
 intro p_324 hp_325
 intro q_322 hq_321
 refine Wd.turn rfl rfl rfl fun w hS => ?_
 refine WL.store_own sizeOf3 rfl rfl rfl (cInt_mk (I64.has hr_313)) hS h_319 hp_325 hin_323 ?_
 clear hS
 intro w fp_327 h_326 hS
 refine WL.nil (DQ.mk2 (C' := St w0 H (fp_327 ++ ([(b_14, oc #[(pq b_17)] 43)] ++ ([(b_17, oc #[i6 n_19, v_22, v_27, v_32, v_37, v_42, v_47, v_52, i6 head_56, v_59, u_64, v_67, .bool dead_71] 60)] ++ (fp_24 ++ (fp_29 ++ (fp_34 ++ (fp_39 ++ (fp_44 ++ (fp_49 ++ (fp_54 ++ (fp_61 ++ (fp_69 ++ (fp_74 ++ L)))))))))))))) hS ⟨il, il, il, il, il, il, il, il, il, il, il, il, il, il, il, il, il, il, il, il, il, il, trivial⟩ ?_)
 clear hS w
 refine Wd.nil fun w hS => ?_
 refine WQ.out nofun ?_
 refine WQ.next ?_
 refine Sb [(0, v_2), (1, i6 a_6), (2, i6 b_8), (3, i6 n_10), (10, i6 i_162)] ?_
 refine WC.region ?_
 refine R hS ?_
 obtain ⟨hi_329, hV⟩ := hV
 iterate 2 refine R hS ?_
 refine WL.nil ?_
 replace hS := hS.f13.f13.f13.f13.f13.f13.f13.f13.f13.f13.f13.f13.f13
 exact Wt fun a ha => ⟨(((data_159.set (a_6 + i_162).toNat (ix data_159 (b_8 + i_162))).set (b_8 + i_162).toNat (ix data_159 (a_6 + i_162))), (i_162 + 1)), ⟨((data_159.set (a_6 + i_162).toNat (ix data_159 (b_8 + i_162))).set (b_8 + i_162).toNat (ix data_159 (a_6 + i_162))), (i_162 + 1), fp_327, rfl, hV.1, h_326, hi_329, hS, ha.os⟩, hV.2⟩
 intro hc_330
 replace hV := hV.2 (ov hc_330)
 refine WC.exit ?_
 refine Wp ?_
 refine Wp ?_
 refine WQ.hit ?_
 replace hS := hS.f13.f13.f13.f13.f13.f13.f13.f13.f13.f13.f13.f13.f13
 exact leave0 (.inr rfl) rfl (⟨data_159, fp_160, hV, rfl, h_161, hS⟩)

theorem S_rotSF {w0 : World} {H : View} {L : Seg} {w : World} {v_2 : Value} {data_1 : LI} {fp_4 : Seg} {a_6 : Int} {m_8 : Int} {b_10 : Int} {b_14 : Nat} {b_17 : Nat} {n_19 : Int} {v_22 : Value} {clauses_21 : List Raw} {fp_24 : Seg} {v_27 : Value} {watch_26 : List (Int × Raw)} {fp_29 : Seg} {v_32 : Value} {value_31 : LI} {fp_34 : Seg} {v_37 : Value} {level_36 : LI} {fp_39 : Seg} {v_42 : Value} {reason_41 : LI} {fp_44 : Seg} {v_47 : Value} {trail_46 : LI} {fp_49 : Seg} {v_52 : Value} {starts_51 : LI} {fp_54 : Seg} {head_56 : Int} {v_59 : Value} {heat_58 : List Unit} {fp_61 : Seg} {u_64 : Value} {v_67 : Value} {proof_66 : List (Bool × LI)} {fp_69 : Seg} {dead_71 : Bool} {A_76 : Arena} {fp_74 : Seg} {Q : LI → Prop} (h_3 : OwnSl H (cInt .i64) 3 v_2 data_1 fp_4) (hr_7 : I64 a_6) (hr_9 : I64 m_8) (hr_11 : I64 b_10) (hr_20 : I64 n_19) (h_23 : OwnSl H cRaw 23 v_22 clauses_21 fp_24) (h_28 : OwnMp H kInt cRaw v_27 watch_26 fp_29) (h_33 : OwnSl H (cInt .i64) 3 v_32 value_31 fp_34) (h_38 : OwnSl H (cInt .i64) 3 v_37 level_36 fp_39) (h_43 : OwnSl H (cInt .i64) 3 v_42 reason_41 fp_44) (h_48 : OwnSl H (cInt .i64) 3 v_47 trail_46 fp_49) (h_53 : OwnSl H (cInt .i64) 3 v_52 starts_51 fp_54) (hr_57 : I64 head_56) (h_60 : OwnSl H cF 58 v_59 heat_58 fp_61) (h_65 : IsF u_64) (h_68 : OwnSl H (cPair cBool (cSl (cInt .i64))) 50 v_67 proof_66 fp_69) (hA_73 : IsAr 3 A_76 fp_74) (hS : St w0 H (fp_4 ++ ([(b_14, oc #[(pq b_17)] 43)] ++ ([(b_17, oc #[i6 n_19, v_22, v_27, v_32, v_37, v_42, v_47, v_52, i6 head_56, v_59, u_64, v_67, .bool dead_71] 60)] ++ (fp_24 ++ (fp_29 ++ (fp_34 ++ (fp_39 ++ (fp_44 ++ (fp_49 ++ (fp_54 ++ (fp_61 ++ (fp_69 ++ (fp_74 ++ L))))))))))))) w) (hV : V_rotSF data_1 a_6 m_8 b_10 n_19 clauses_21 watch_26 value_31 level_36 reason_41 trail_46 starts_51 head_56 heat_58 proof_66 dead_71 A_76 Q) :
 Calls Tryz.prog 81 #[v_2, i6 a_6, i6 m_8, i6 b_10, .func (.func 46) #[] #[(pq b_14)]] w fun e w' => ∃ (r1 : LI) (fp1 : Seg), Q r1 ∧ e = .returned (.tuple #[]) ∧ OwnSl H (cInt .i64) 3 v_2 r1 fp1 ∧ St w0 H (fp1 ++ ([(b_14, oc #[(pq b_17)] 43)] ++ ([(b_17, oc #[i6 n_19, v_22, v_27, v_32, v_37, v_42, v_47, v_52, i6 head_56, v_59, u_64, v_67, .bool dead_71] 60)] ++ (fp_24 ++ (fp_29 ++ (fp_34 ++ (fp_39 ++ (fp_44 ++ (fp_49 ++ (fp_54 ++ (fp_61 ++ (fp_69 ++ (fp_74 ++ L))))))))))))) w' := by
 unfold V_rotSF at hV
 refine enter func81 rfl ntmps81 rfl (lk_args_cons (d := 0) (v := v_2) rfl (lk_args_cons (d := 1) (v := i6 a_6) rfl (lk_args_cons (d := 2) (v := i6 m_8) rfl (lk_args_cons (d := 3) (v := i6 b_10) rfl (lk_args_cons (d := 4) (v := .func (.func 46) #[] #[(pq b_14)]) rfl (lk_args_nil _)))))) ?_
 refine WC.sr ?_
 iterate 2 refine R hS ?_
 obtain ⟨hi_78, hV⟩ := hV
 iterate 2 refine R hS ?_
 refine WL.nx ?_
 refine WC.sr ?_
 iterate 2 refine R hS ?_
 obtain ⟨hi_80, hV⟩ := hV
 iterate 2 refine R hS ?_
 refine WL.nx ?_
 refine WC.seq ?_
 refine WC.block ?_
 replace hS := hS.f13.f13.f13.f13.f13.f13.f13.f13.f13.f13.f13.f13.f13
 obtain ⟨I_136, mu_137, hI_169, hV⟩ := hV
 refine WC.loop (σ := LI × Int × Int) (fun s a w => ∃ (data_105 : LI) (i_108 : Int) (j_110 : Int) (fp_106 : Seg), s = (data_105, i_108, j_110) ∧ I_136 (data_105, i_108, j_110) ∧ OwnSl H (cInt .i64) 3 v_2 data_105 fp_106 ∧ I64 i_108 ∧ I64 j_110 ∧ St w0 H (fp_106 ++ ([(b_14, oc #[(pq b_17)] 43)] ++ ([(b_17, oc #[i6 n_19, v_22, v_27, v_32, v_37, v_42, v_47, v_52, i6 head_56, v_59, u_64, v_67, .bool dead_71] 60)] ++ (fp_24 ++ (fp_29 ++ (fp_34 ++ (fp_39 ++ (fp_44 ++ (fp_49 ++ (fp_54 ++ (fp_61 ++ (fp_69 ++ (fp_74 ++ L))))))))))))) w ∧ Fr 58 [(0, v_2), (2, i6 m_8), (4, .func (.func 46) #[] #[(pq b_14)]), (10, i6 i_108), (11, i6 j_110)] a) mu_137 (data_1, (m_8 - a_6), (b_10 - m_8)) ?_ ?_
 exact fun a ha => ⟨data_1, (m_8 - a_6), (b_10 - m_8), fp_4, rfl, hI_169, h_3, hi_78, hi_80, hS, ha.os⟩
 clear hS hI_169
 rintro _ a w ⟨data_105, i_108, j_110, fp_106, rfl, hI, h_107, hr_109, hr_111, hS, ha⟩
 refine in_frame ha ?_
 clear ha
 replace hV := hV _ hI
 clear hI
 refine WC.seq ?_
 refine WC.sr ?_
 iterate 3 refine R hS ?_
 refine WL.nx ?_
 refine Cd ?_ ?_
 intro hc_168
 replace hV := hV.1 (od hc_168)
 refine WC.skip ?_
 refine WQ.next ?_
 refine WC.block ?_
 refine WC.sr ?_
 iterate 3 refine R hS ?_
 refine WL.nx ?_
 refine Cd ?_ ?_
 intro hc_161
 replace hV := hV.1 (od hc_161)
 refine WC.sr ?_
 iterate 3 refine R hS ?_
 obtain ⟨hi_142, hV⟩ := hV
 iterate 4 refine R hS ?_
 replace hS := hS.f13.f13.f13.f13.f13.f13.f13.f13.f13.f13.f13.f13.f13
 refine Rc (enters0 (vs := [v_2, i6 (m_8 - i_108), i6 m_8, i6 j_110, .func (.func 46) #[] #[(pq b_14)]]) call88 ⟨rfl, rfl, rfl, rfl, rfl, trivial⟩) (S_swapSF  h_107 hi_142 hr_9 hr_111 hr_20 h_23 h_28 h_33 h_38 h_43 h_48 h_53 hr_57 h_60 h_65 h_68 hA_73 hS hV) ?_
 clear hV hS
 rintro _ w ⟨c_143, fp_144, hV, rfl, h_145, hS⟩
 refine ⟨_, rfl, ?_⟩
 refine WL.nx ?_
 refine Sb [(0, v_2), (2, i6 m_8), (4, .func (.func 46) #[] #[(pq b_14)]), (10, i6 i_108), (11, i6 j_110)] ?_
 refine WC.region ?_
 iterate 2 refine R hS ?_
 obtain ⟨hi_148, hV⟩ := hV
 iterate 2 refine R hS ?_
 refine WL.nil ?_
 refine WQ.out nofun ?_
 replace hS := hS.f13.f13.f13.f13.f13.f13.f13.f13.f13.f13.f13.f13.f13
 exact Wt fun a ha => ⟨(c_143, (i_108 - j_110), j_110), ⟨c_143, (i_108 - j_110), j_110, fp_144, rfl, hV.1, h_145, hi_148, hr_111, hS, ha.os⟩, hV.2⟩
 intro hc_161
 replace hV := hV.2 (ov hc_161)
 refine WC.sr ?_
 iterate 3 refine R hS ?_
 obtain ⟨hi_150, hV⟩ := hV
 iterate 3 refine R hS ?_
 obtain ⟨hi_152, hV⟩ := hV
 iterate 2 refine R hS ?_
 obtain ⟨hi_154, hV⟩ := hV
 iterate 3 refine R hS ?_
 replace hS := hS.f13.f13.f13.f13.f13.f13.f13.f13.f13.f13.f13.f13.f13
 refine Rc (enters0 (vs := [v_2, i6 (m_8 - i_108), i6 ((m_8 + j_110) - i_108), i6 i_108, .func (.func 46) #[] #[(pq b_14)]]) call88 ⟨rfl, rfl, rfl, rfl, rfl, trivial⟩) (S_swapSF  h_107 hi_150 hi_154 hr_109 hr_20 h_23 h_28 h_33 h_38 h_43 h_48 h_53 hr_57 h_60 h_65 h_68 hA_73 hS hV) ?_
 clear hV hS
 rintro _ w ⟨c_155, fp_156, hV, rfl, h_157, hS⟩
 refine ⟨_, rfl, ?_⟩
 refine WL.nx ?_
 refine Sb [(0, v_2), (2, i6 m_8), (4, .func (.func 46) #[] #[(pq b_14)]), (10, i6 i_108), (11, i6 j_110)] ?_
 refine WC.region ?_
 iterate 2 refine R hS ?_
 obtain ⟨hi_160, hV⟩ := hV
 iterate 2 refine R hS ?_
 refine WL.nil ?_
 refine WQ.out nofun ?_
 replace hS := hS.f13.f13.f13.f13.f13.f13.f13.f13.f13.f13.f13.f13.f13
 exact Wt fun a ha => ⟨(c_155, i_108, (j_110 - i_108)), ⟨c_155, i_108, (j_110 - i_108), fp_156, rfl, hV.1, h_157, hr_109, hi_160, hS, ha.os⟩, hV.2⟩
 intro hc_168
 replace hV := hV.2 (ov hc_168)
 refine WC.exit ?_
 refine Wp ?_
 refine Wp ?_
 refine WQ.hit ?_
 refine WQ.next ?_
 refine WC.region ?_
 iterate 3 refine R hS ?_
 obtain ⟨hi_163, hV⟩ := hV
 iterate 4 refine R hS ?_
 replace hS := hS.f13.f13.f13.f13.f13.f13.f13.f13.f13.f13.f13.f13.f13
 refine Rc (enters0 (vs := [v_2, i6 (m_8 - i_108), i6 m_8, i6 i_108, .func (.func 46) #[] #[(pq b_14)]]) call88 ⟨rfl, rfl, rfl, rfl, rfl, trivial⟩) (S_swapSF  h_107 hi_163 hr_9 hr_109 hr_20 h_23 h_28 h_33 h_38 h_43 h_48 h_53 hr_57 h_60 h_65 h_68 hA_73 hS hV) ?_
 clear hV hS
 rintro _ w ⟨c_164, fp_165, hV, rfl, h_166, hS⟩
 refine ⟨_, rfl, ?_⟩
 refine WL.nil ?_
 replace hS := hS.f13.f13.f13.f13.f13.f13.f13.f13.f13.f13.f13.f13.f13
 exact leave0 (.inr rfl) rfl (⟨c_164, fp_165, hV, rfl, h_166, hS⟩)

theorem S_symSF (m0 : Nat) : ∀ {w0 : World} {H : View} {L : Seg} {w : World} {v_2 : Value} {data_1 : LI} {fp_4 : Seg} {a_6 : Int} {m_8 : Int} {b_10 : Int} {b_14 : Nat} {b_17 : Nat} {n_19 : Int} {v_22 : Value} {clauses_21 : List Raw} {fp_24 : Seg} {v_27 : Value} {watch_26 : List (Int × Raw)} {fp_29 : Seg} {v_32 : Value} {value_31 : LI} {fp_34 : Seg} {v_37 : Value} {level_36 : LI} {fp_39 : Seg} {v_42 : Value} {reason_41 : LI} {fp_44 : Seg} {v_47 : Value} {trail_46 : LI} {fp_49 : Seg} {v_52 : Value} {starts_51 : LI} {fp_54 : Seg} {head_56 : Int} {v_59 : Value} {heat_58 : List Unit} {fp_61 : Seg} {u_64 : Value} {v_67 : Value} {proof_66 : List (Bool × LI)} {fp_69 : Seg} {dead_71 : Bool} {A_76 : Arena} {fp_74 : Seg} {Q : LI → Prop} (h_3 : OwnSl H (cInt .i64) 3 v_2 data_1 fp_4) (hr_7 : I64 a_6) (hr_9 : I64 m_8) (hr_11 : I64 b_10) (hr_20 : I64 n_19) (h_23 : OwnSl H cRaw 23 v_22 clauses_21 fp_24) (h_28 : OwnMp H kInt cRaw v_27 watch_26 fp_29) (h_33 : OwnSl H (cInt .i64) 3 v_32 value_31 fp_34) (h_38 : OwnSl H (cInt .i64) 3 v_37 level_36 fp_39) (h_43 : OwnSl H (cInt .i64) 3 v_42 reason_41 fp_44) (h_48 : OwnSl H (cInt .i64) 3 v_47 trail_46 fp_49) (h_53 : OwnSl H (cInt .i64) 3 v_52 starts_51 fp_54) (hr_57 : I64 head_56) (h_60 : OwnSl H cF 58 v_59 heat_58 fp_61) (h_65 : IsF u_64) (h_68 : OwnSl H (cPair cBool (cSl (cInt .i64))) 50 v_67 proof_66 fp_69) (hA_73 : IsAr 3 A_76 fp_74) (hS : St w0 H (fp_4 ++ ([(b_14, oc #[(pq b_17)] 43)] ++ ([(b_17, oc #[i6 n_19, v_22, v_27, v_32, v_37, v_42, v_47, v_52, i6 head_56, v_59, u_64, v_67, .bool dead_71] 60)] ++ (fp_24 ++ (fp_29 ++ (fp_34 ++ (fp_39 ++ (fp_44 ++ (fp_49 ++ (fp_54 ++ (fp_61 ++ (fp_69 ++ (fp_74 ++ L))))))))))))) w) (hV : V_symSF m0 data_1 a_6 m_8 b_10 n_19 clauses_21 watch_26 value_31 level_36 reason_41 trail_46 starts_51 head_56 heat_58 proof_66 dead_71 A_76 Q),
 Calls Tryz.prog 69 #[v_2, i6 a_6, i6 m_8, i6 b_10, .func (.func 46) #[] #[(pq b_14)]] w fun e w' => ∃ (r1 : LI) (fp1 : Seg), Q r1 ∧ e = .returned (.tuple #[]) ∧ OwnSl H (cInt .i64) 3 v_2 r1 fp1 ∧ St w0 H (fp1 ++ ([(b_14, oc #[(pq b_17)] 43)] ++ ([(b_17, oc #[i6 n_19, v_22, v_27, v_32, v_37, v_42, v_47, v_52, i6 head_56, v_59, u_64, v_67, .bool dead_71] 60)] ++ (fp_24 ++ (fp_29 ++ (fp_34 ++ (fp_39 ++ (fp_44 ++ (fp_49 ++ (fp_54 ++ (fp_61 ++ (fp_69 ++ (fp_74 ++ L))))))))))))) w' := by
 induction m0 with
 | zero => intro w0 H L w v_2 data_1 fp_4 a_6 m_8 b_10 b_14 b_17 n_19 v_22 clauses_21 fp_24 v_27 watch_26 fp_29 v_32 value_31 fp_34 v_37 level_36 fp_39 v_42 reason_41 fp_44 v_47 trail_46 fp_49 v_52 starts_51 fp_54 head_56 v_59 heat_58 fp_61 u_64 v_67 proof_66 fp_69 dead_71 A_76 fp_74 Q h_3 hr_7 hr_9 hr_11 hr_20 h_23 h_28 h_33 h_38 h_43 h_48 h_53 hr_57 h_60 h_65 h_68 hA_73 hS hV; exact hV.elim
 | succ m0 ih =>
  intro w0 H L w v_2 data_1 fp_4 a_6 m_8 b_10 b_14 b_17 n_19 v_22 clauses_21 fp_24 v_27 watch_26 fp_29 v_32 value_31 fp_34 v_37 level_36 fp_39 v_42 reason_41 fp_44 v_47 trail_46 fp_49 v_52 starts_51 fp_54 head_56 v_59 heat_58 fp_61 u_64 v_67 proof_66 fp_69 dead_71 A_76 fp_74 Q h_3 hr_7 hr_9 hr_11 hr_20 h_23 h_28 h_33 h_38 h_43 h_48 h_53 hr_57 h_60 h_65 h_68 hA_73 hS hV
  unfold V_symSF at hV
  refine enter func69 rfl ntmps69 rfl (lk_args_cons (d := 0) (v := v_2) rfl (lk_args_cons (d := 1) (v := i6 a_6) rfl (lk_args_cons (d := 2) (v := i6 m_8) rfl (lk_args_cons (d := 3) (v := i6 b_10) rfl (lk_args_cons (d := 4) (v := .func (.func 46) #[] #[(pq b_14)]) rfl (lk_args_nil _)))))) ?_
  refine WC.seq ?_
  refine WC.sr ?_
  iterate 2 refine R hS ?_
  obtain ⟨hi_78, hV⟩ := hV
  iterate 2 refine R hS ?_
  refine WL.nx ?_
  refine Cd ?_ ?_
  intro hc_859
  replace hV := hV.1 (od hc_859)
  refine WC.sr ?_
  iterate 2 refine R hS ?_
  refine WL.nx ?_
  refine WC.sr ?_
  iterate 2 refine R hS ?_
  refine WL.nx ?_
  refine WC.seq ?_
  refine WC.block ?_
  replace hS := hS.f13.f13.f13.f13.f13.f13.f13.f13.f13.f13.f13.f13.f13
  obtain ⟨I_138, mu_139, hI_381, hV⟩ := hV
  refine WC.loop (σ := Int × Int) (fun s a w => ∃ (i_107 : Int) (j_109 : Int), s = (i_107, j_109) ∧ I_138 (i_107, j_109) ∧ I64 i_107 ∧ I64 j_109 ∧ St w0 H (fp_4 ++ ([(b_14, oc #[(pq b_17)] 43)] ++ ([(b_17, oc #[i6 n_19, v_22, v_27, v_32, v_37, v_42, v_47, v_52, i6 head_56, v_59, u_64, v_67, .bool dead_71] 60)] ++ (fp_24 ++ (fp_29 ++ (fp_34 ++ (fp_39 ++ (fp_44 ++ (fp_49 ++ (fp_54 ++ (fp_61 ++ (fp_69 ++ (fp_74 ++ L))))))))))))) w ∧ Fr 220 [(0, v_2), (1, i6 a_6), (4, .func (.func 46) #[] #[(pq b_14)]), (10, i6 i_107), (11, i6 j_109)] a) mu_139 (m_8, b_10) ?_ ?_
  exact fun a ha => ⟨m_8, b_10, rfl, hI_381, hr_9, hr_11, hS, ha.os⟩
  clear hS hI_381
  rintro _ a w ⟨i_107, j_109, rfl, hI, hr_108, hr_110, hS, ha⟩
  refine in_frame ha ?_
  clear ha
  replace hV := hV _ hI
  clear hI
  refine WC.seq ?_
  refine WC.sr ?_
  iterate 3 refine R hS ?_
  refine WL.nx ?_
  refine Cd ?_ ?_
  intro hc_380
  replace hV := hV.1 (od hc_380)
  refine WC.skip ?_
  refine WQ.next ?_
  refine WC.block ?_
  refine WC.sr ?_
  iterate 2 refine R hS ?_
  obtain ⟨hi_143, hV⟩ := hV
  iterate 2 refine R hS ?_
  refine Rn hS (ex_ushr (q := 1) rfl rfl (wrap_has _ _) (by decide)) ?_
  iterate 2 refine R hS ?_
  refine WL.nx ?_
  refine WC.seq ?_
  replace hS := hS.f13.f13.f13.f13.f13.f13.f13.f13.f13.f13.f13.f13
  refine WC.quiet (C := St w0 H ([(b_14, oc #[(pq b_17)] 43)] ++ ([(b_17, oc #[i6 n_19, v_22, v_27, v_32, v_37, v_42, v_47, v_52, i6 head_56, v_59, u_64, v_67, .bool dead_71] 60)] ++ (fp_24 ++ (fp_29 ++ (fp_34 ++ (fp_39 ++ (fp_44 ++ (fp_49 ++ (fp_54 ++ (fp_61 ++ (fp_69 ++ (fp_74 ++ (fp_4 ++ L)))))))))))))) mixed (by kernel_rfl) (hS.drawn _) ?_
  clear hS w
  iterate 3 refine Rq ?_
  obtain ⟨hin_144, hV⟩ := hV
  refine Wq.runx rfl rfl rfl (ex_index_own underlying23 sizeOf3 rfl rfl h_3 hin_144) ?_
  intro p_145 hp_146
  refine Wq.runx rfl rfl rfl (exQ (ex_load_own_s isAgg3 rfl rfl h_3 hp_146 hin_144) _ (fun _ h => St.f13 h)) ?_
  intro u_149 hu_150
  obtain ⟨rfl, hr_151⟩ := cInt_rep hu_150
  replace hr_151 := has_I64 hr_151
  replace hV := hV hr_151
  iterate 2 refine Rq ?_
  obtain ⟨hin_152, hV⟩ := hV
  refine Wq.runx rfl rfl rfl (ex_index_own underlying23 sizeOf3 rfl rfl h_3 hin_152) ?_
  intro p_153 hp_154
  refine Wq.runx rfl rfl rfl (exQ (ex_load_own_s isAgg3 rfl rfl h_3 hp_154 hin_152) _ (fun _ h => St.f13 h)) ?_
  intro u_157 hu_158
  obtain ⟨rfl, hr_159⟩ := cInt_rep hu_158
  replace hr_159 := has_I64 hr_159
  replace hV := hV hr_159
  obtain ⟨r_160, h_162, hr_161, hV⟩ := hV
  refine Wq.call (v := i6 r_160) rfl rfl rfl (fun w => enters_c (vs := [i6 (ix data_1 (IntKind.i64.wrap ((IntKind.u64.wrap (i_107 + j_109)) / 2))), i6 (ix data_1 a_6)]) (caps := [(pq b_14)]) rfl call46 ⟨rfl, rfl, trivial⟩) (fun w hS => (S_add1 (Q := fun y0 => y0 = r_160)  hr_151 hr_159 hr_20 h_23 h_28 h_33 h_38 h_43 h_48 h_53 hr_57 h_60 h_65 h_68 hA_73 hS h_162).mono ?_) ?_
  rintro e w' ⟨_, rfl, he, _, hS⟩
  exact ⟨he, hS⟩
  refine Rq ?_
  refine Wq.nil fun w hS => ?_
  refine WQ.next ?_
  refine Sb [(0, v_2), (1, i6 a_6), (4, .func (.func 46) #[] #[(pq b_14)]), (10, i6 i_107), (11, i6 j_109), (12, i6 (IntKind.i64.wrap ((IntKind.u64.wrap (i_107 + j_109)) / 2))), (50, .bool (decide (r_160 < 0)))] ?_
  refine Cd ?_ ?_
  intro hc_166
  replace hV := hV.1 (od hc_166)
  refine WC.region ?_
  refine R hS ?_
  obtain ⟨hi_165, hV⟩ := hV
  iterate 2 refine R hS ?_
  refine WL.nil ?_
  refine WQ.out nofun ?_
  replace hS := hS.f12.f12.f12.f12.f12.f12.f12.f12.f12.f12.f12.f12.f13
  exact Wt fun a ha => ⟨(((IntKind.i64.wrap ((IntKind.u64.wrap (i_107 + j_109)) / 2)) + 1), j_109), ⟨((IntKind.i64.wrap ((IntKind.u64.wrap (i_107 + j_109)) / 2)) + 1), j_109, rfl, hV.1, hi_165, hr_110, hS, ha.os⟩, hV.2⟩
  intro hc_166
  replace hV := hV.2 (ov hc_166)
  refine WC.region ?_
  iterate 2 refine R hS ?_
  refine WL.nil ?_
  refine WQ.out nofun ?_
  replace hS := hS.f12.f12.f12.f12.f12.f12.f12.f12.f12.f12.f12.f12.f13
  exact Wt fun a ha => ⟨(i_107, (IntKind.i64.wrap ((IntKind.u64.wrap (i_107 + j_109)) / 2))), ⟨i_107, (IntKind.i64.wrap ((IntKind.u64.wrap (i_107 + j_109)) / 2)), rfl, hV.1, hr_108, (wrap_I64 _), hS, ha.os⟩, hV.2⟩
  intro hc_380
  replace hV := hV.2 (ov hc_380)
  refine WC.exit ?_
  refine Wp ?_
  refine Wp ?_
  refine WQ.hit ?_
  refine WQ.next ?_
  refine WC.seq ?_
  refine WC.sr ?_
  iterate 2 refine R hS ?_
  refine WL.nx ?_
  refine WC.block ?_
  replace hS := hS.f13.f13.f13.f13.f13.f13.f13.f13.f13.f13.f13.f13.f13
  obtain ⟨I_308, mu_309, hI_379, hV⟩ := hV
  refine WC.loop (σ := LI × Int) (fun s a w => ∃ (data_235 : LI) (k_238 : Int) (fp_236 : Seg), s = (data_235, k_238) ∧ I_308 (data_235, k_238) ∧ OwnSl H (cInt .i64) 3 v_2 data_235 fp_236 ∧ I64 k_238 ∧ St w0 H (fp_236 ++ ([(b_14, oc #[(pq b_17)] 43)] ++ ([(b_17, oc #[i6 n_19, v_22, v_27, v_32, v_37, v_42, v_47, v_52, i6 head_56, v_59, u_64, v_67, .bool dead_71] 60)] ++ (fp_24 ++ (fp_29 ++ (fp_34 ++ (fp_39 ++ (fp_44 ++ (fp_49 ++ (fp_54 ++ (fp_61 ++ (fp_69 ++ (fp_74 ++ L))))))))))))) w ∧ Fr 220 [(0, v_2), (10, i6 i_107), (13, i6 k_238)] a) mu_309 (data_1, a_6) ?_ ?_
  exact fun a ha => ⟨data_1, a_6, fp_4, rfl, hI_379, h_3, hr_7, hS, ha.os⟩
  clear hS hI_379
  rintro _ a w ⟨data_235, k_238, fp_236, rfl, hI, h_237, hr_239, hS, ha⟩
  refine in_frame ha ?_
  clear ha
  replace hV := hV _ hI
  clear hI
  refine WC.seq ?_
  refine WC.sr ?_
  iterate 2 refine R hS ?_
  obtain ⟨hi_312, hV⟩ := hV
  iterate 2 refine R hS ?_
  refine WL.nx ?_
  refine Cd ?_ ?_
  intro hc_378
  replace hV := hV.1 (od hc_378)
  refine WC.skip ?_
  refine WQ.next ?_
  refine WC.seq ?_
  refine WC.block ?_
  refine WC.drawn (σ := [0, 1, 2, 3, 4, 5, 6, 7, 8, 9, 10, 11, 12, 13, 14, 15, 16, 17]) (C := St w0 H (fp_236 ++ ([(b_14, oc #[(pq b_17)] 43)] ++ ([(b_17, oc #[i6 n_19, v_22, v_27, v_32, v_37, v_42, v_47, v_52, i6 head_56, v_59, u_64, v_67, .bool dead_71] 60)] ++ (fp_24 ++ (fp_29 ++ (fp_34 ++ (fp_39 ++ (fp_44 ++ (fp_49 ++ (fp_54 ++ (fp_61 ++ (fp_69 ++ (fp_74 ++ L)))))))))))))) [[], [], [], [], [3], [], [], [6], [5, 6, 7], [5, 6, 7, 8], [], [], [10, 11], [10, 11, 12], [0, 1, 5, 6, 7, 8, 9, 10, 11, 12, 13], [0, 1, 5, 6, 7, 8, 9, 10, 11, 12, 13, 14], [0, 1, 2, 3, 4, 5, 6, 7, 8, 9, 10, 11, 12, 13, 14, 15], [0, 1, 2, 3, 4, 5, 6, 7, 8, 9, 10, 11, 12, 13, 14, 15, 16]] [15, 17] mixed (by kernel_rfl) (hS.drawn _) ?_
  clear hS w
  refine Dm fun q_315 hq_314 => ?_
  refine Dm fun q_317 hq_316 => ?_
  refine Dm fun q_319 hq_318 => ?_
  refine Dm fun q_321 hq_320 => ?_
  obtain ⟨hi_325, hV⟩ := hV
  refine Wd.run rfl rfl rfl rfl (fun _ => ex_add rfl rfl hi_325) fun q_323 hq_322 => ?_
  refine Dm fun q_327 hq_326 => ?_
  refine Dm fun q_329 hq_328 => ?_
  obtain ⟨hi_333, hV⟩ := hV
  refine Wd.run rfl rfl rfl rfl (fun _ => ex_add rfl rfl hi_333) fun q_331 hq_330 => ?_
  obtain ⟨hin_336, hV⟩ := hV
  refine Wd.runx rfl rfl rfl rfl (exAll (ex_index_own underlying23 sizeOf3 rfl rfl h_237 hin_336)) ?_
  intro p_337 hp_338
  intro q_335 hq_334
  refine Wd.runs (fp := fp_236) rfl rfl rfl rfl (ex_load_own_s isAgg3 rfl rfl h_237 hp_338 hin_336) (fun _ h => h) ?_
  intro u_343 hu_344
  obtain ⟨rfl, hr_345⟩ := cInt_rep hu_344
  replace hr_345 := has_I64 hr_345
  replace hV := hV hr_345
  intro q_340 hq_339
  refine Dm fun q_347 hq_346 => ?_
  refine Dm fun q_349 hq_348 => ?_
  obtain ⟨hin_352, hV⟩ := hV
  refine Wd.runx rfl rfl rfl rfl (exAll (ex_index_own underlying23 sizeOf3 rfl rfl h_237 hin_352)) ?_
  intro p_353 hp_354
  intro q_351 hq_350
  refine Wd.runs (fp := fp_236) rfl rfl rfl rfl (ex_load_own_s isAgg3 rfl rfl h_237 hp_354 hin_352) (fun _ h => h) ?_
  intro u_359 hu_360
  obtain ⟨rfl, hr_361⟩ := cInt_rep hu_360
  replace hr_361 := has_I64 hr_361
  replace hV := hV hr_361
  intro q_356 hq_355
  obtain ⟨hin_364, hV⟩ := hV
  refine Wd.runx rfl rfl rfl rfl (exAll (ex_index_own underlying23 sizeOf3 rfl rfl h_237 hin_364)) ?_
  intro p_365 hp_366
  intro q_363 hq_362
  refine Wd.turn rfl rfl rfl fun w hS => ?_
  refine WL.store_own sizeOf3 rfl rfl rfl (cInt_mk (I64.has hr_345)) hS h_237 hp_366 hin_364 ?_
  clear hS
  intro w fp_368 h_367 hS
  refine WL.nil (DQ.mk2 (C' := St w0 H (fp_368 ++ ([(b_14, oc #[(pq b_17)] 43)] ++ ([(b_17, oc #[i6 n_19, v_22, v_27, v_32, v_37, v_42, v_47, v_52, i6 head_56, v_59, u_64, v_67, .bool dead_71] 60)] ++ (fp_24 ++ (fp_29 ++ (fp_34 ++ (fp_39 ++ (fp_44 ++ (fp_49 ++ (fp_54 ++ (fp_61 ++ (fp_69 ++ (fp_74 ++ L)))))))))))))) hS ⟨il, il, il, il, il, il, il, il, il, il, .inr (hq_322 _), .inr (hq_320 _), .inr (hq_318 _), il, il, trivial⟩ ?_)
  clear hS w
  obtain ⟨hin_371, hV⟩ := hV
  refine Wd.runx rfl rfl rfl rfl (exAll (ex_index_own underlying23 sizeOf3 rfl rfl h_367 hin_371)) ?_
  intro p_372 hp_373
  intro q_370 hq_369
  refine Wd.turn rfl rfl rfl fun w hS => ?_
  refine WL.store_own sizeOf3 rfl rfl rfl (cInt_mk (I64.has hr_361)) hS h_367 hp_373 hin_371 ?_
  clear hS
  intro w fp_375 h_374 hS
  refine WL.nil (DQ.mk2 (C' := St w0 H (fp_375 ++ ([(b_14, oc #[(pq b_17)] 43)] ++ ([(b_17, oc #[i6 n_19, v_22, v_27, v_32, v_37, v_42, v_47, v_52, i6 head_56, v_59, u_64, v_67, .bool dead_71] 60)] ++ (fp_24 ++ (fp_29 ++ (fp_34 ++ (fp_39 ++ (fp_44 ++ (fp_49 ++ (fp_54 ++ (fp_61 ++ (fp_69 ++ (fp_74 ++ L)))))))))))))) hS ⟨il, il, il, il, il, il, il, il, il, il, il, il, il, il, il, il, trivial⟩ ?_)
  clear hS w
  refine Wd.nil fun w hS => ?_
  refine WQ.out nofun ?_
  refine WQ.next ?_
  refine Sb [(0, v_2), (10, i6 i_107), (13, i6 k_238)] ?_
  refine WC.region ?_
  refine R hS ?_
  obtain ⟨hi_377, hV⟩ := hV
  iterate 2 refine R hS ?_
  refine WL.nil ?_
  replace hS := hS.f13.f13.f13.f13.f13.f13.f13.f13.f13.f13.f13.f13.f13
  exact Wt fun a ha => ⟨(((data_235.set k_238.toNat (ix data_235 (k_238 + 1))).set (k_238 + 1).toNat (ix data_235 k_238)), (k_238 + 1)), ⟨((data_235.set k_238.toNat (ix data_235 (k_238 + 1))).set (k_238 + 1).toNat (ix data_235 k_238)), (k_238 + 1), fp_375, rfl, hV.1, h_374, hi_377, hS, ha.os⟩, hV.2⟩
  intro hc_378
  replace hV := hV.2 (ov hc_378)
  refine WC.exit ?_
  refine Wp ?_
  refine Wp ?_
  refine WQ.hit ?_
  refine WQ.next ?_
  refine WC.ret ?_
  refine Wp ?_
  replace hS := hS.f13.f13.f13.f13.f13.f13.f13.f13.f13.f13.f13.f13.f13
  exact leave0 (il) rfl (⟨data_235, fp_236, hV, rfl, h_237, hS⟩)
  intro hc_859
  replace hV := hV.2 (ov hc_859)
  refine WC.skip ?_
  refine WQ.next ?_
  refine WC.seq ?_
  refine WC.sr ?_
  iterate 2 refine R hS ?_
  obtain ⟨hi_383, hV⟩ := hV
  iterate 2 refine R hS ?_
  refine WL.nx ?_
  refine Cd ?_ ?_
  intro hc_858
  replace hV := hV.1 (od hc_858)
  refine WC.sr ?_
  iterate 2 refine R hS ?_
  refine WL.nx ?_
  refine Sb [(0, v_2), (2, i6 m_8), (4, .func (.func 46) #[] #[(pq b_14)]), (14, i6 a_6)] ?_
  refine WC.sr ?_
  iterate 2 refine R hS ?_
  refine WL.nx ?_
  refine WC.seq ?_
  refine WC.block ?_
  replace hS := hS.f13.f13.f13.f13.f13.f13.f13.f13.f13.f13.f13.f13.f13
  obtain ⟨I_443, mu_444, hI_680, hV⟩ := hV
  refine WC.loop (σ := Int × Int) (fun s a w => ∃ (i_412 : Int) (j_414 : Int), s = (i_412, j_414) ∧ I_443 (i_412, j_414) ∧ I64 i_412 ∧ I64 j_414 ∧ St w0 H (fp_4 ++ ([(b_14, oc #[(pq b_17)] 43)] ++ ([(b_17, oc #[i6 n_19, v_22, v_27, v_32, v_37, v_42, v_47, v_52, i6 head_56, v_59, u_64, v_67, .bool dead_71] 60)] ++ (fp_24 ++ (fp_29 ++ (fp_34 ++ (fp_39 ++ (fp_44 ++ (fp_49 ++ (fp_54 ++ (fp_61 ++ (fp_69 ++ (fp_74 ++ L))))))))))))) w ∧ Fr 220 [(0, v_2), (2, i6 m_8), (4, .func (.func 46) #[] #[(pq b_14)]), (14, i6 i_412), (15, i6 j_414)] a) mu_444 (a_6, m_8) ?_ ?_
  exact fun a ha => ⟨a_6, m_8, rfl, hI_680, hr_7, hr_9, hS, ha.os⟩
  clear hS hI_680
  rintro _ a w ⟨i_412, j_414, rfl, hI, hr_413, hr_415, hS, ha⟩
  refine in_frame ha ?_
  clear ha
  replace hV := hV _ hI
  clear hI
  refine WC.seq ?_
  refine WC.sr ?_
  iterate 3 refine R hS ?_
  refine WL.nx ?_
  refine Cd ?_ ?_
  intro hc_679
  replace hV := hV.1 (od hc_679)
  refine WC.skip ?_
  refine WQ.next ?_
  refine WC.block ?_
  refine WC.sr ?_
  iterate 2 refine R hS ?_
  obtain ⟨hi_448, hV⟩ := hV
  iterate 2 refine R hS ?_
  refine Rn hS (ex_ushr (q := 1) rfl rfl (wrap_has _ _) (by decide)) ?_
  iterate 2 refine R hS ?_
  refine WL.nx ?_
  refine WC.seq ?_
  replace hS := hS.f13.f13.f13.f13.f13.f13.f13.f13.f13.f13.f13.f13
  refine WC.quiet (C := St w0 H ([(b_14, oc #[(pq b_17)] 43)] ++ ([(b_17, oc #[i6 n_19, v_22, v_27, v_32, v_37, v_42, v_47, v_52, i6 head_56, v_59, u_64, v_67, .bool dead_71] 60)] ++ (fp_24 ++ (fp_29 ++ (fp_34 ++ (fp_39 ++ (fp_44 ++ (fp_49 ++ (fp_54 ++ (fp_61 ++ (fp_69 ++ (fp_74 ++ (fp_4 ++ L)))))))))))))) mixed (by kernel_rfl) (hS.drawn _) ?_
  clear hS w
  iterate 3 refine Rq ?_
  obtain ⟨hin_449, hV⟩ := hV
  refine Wq.runx rfl rfl rfl (ex_index_own underlying23 sizeOf3 rfl rfl h_3 hin_449) ?_
  intro p_450 hp_451
  refine Wq.runx rfl rfl rfl (exQ (ex_load_own_s isAgg3 rfl rfl h_3 hp_451 hin_449) _ (fun _ h => St.f13 h)) ?_
  intro u_454 hu_455
  obtain ⟨rfl, hr_456⟩ := cInt_rep hu_455
  replace hr_456 := has_I64 hr_456
  replace hV := hV hr_456
  iterate 2 refine Rq ?_
  obtain ⟨hin_457, hV⟩ := hV
  refine Wq.runx rfl rfl rfl (ex_index_own underlying23 sizeOf3 rfl rfl h_3 hin_457) ?_
  intro p_458 hp_459
  refine Wq.runx rfl rfl rfl (exQ (ex_load_own_s isAgg3 rfl rfl h_3 hp_459 hin_457) _ (fun _ h => St.f13 h)) ?_
  intro u_462 hu_463
  obtain ⟨rfl, hr_464⟩ := cInt_rep hu_463
  replace hr_464 := has_I64 hr_464
  replace hV := hV hr_464
  obtain ⟨r_465, h_467, hr_466, hV⟩ := hV
  refine Wq.call (v := i6 r_465) rfl rfl rfl (fun w => enters_c (vs := [i6 (ix data_1 m_8), i6 (ix data_1 (IntKind.i64.wrap ((IntKind.u64.wrap (i_412 + j_414)) / 2)))]) (caps := [(pq b_14)]) rfl call46 ⟨rfl, rfl, trivial⟩) (fun w hS => (S_add1 (Q := fun y0 => y0 = r_465)  hr_456 hr_464 hr_20 h_23 h_28 h_33 h_38 h_43 h_48 h_53 hr_57 h_60 h_65 h_68 hA_73 hS h_467).mono ?_) ?_
  rintro e w' ⟨_, rfl, he, _, hS⟩
  exact ⟨he, hS⟩
  iterate 2 refine Rq ?_
  refine Wq.nil fun w hS => ?_
  refine WQ.next ?_
  refine Sb [(0, v_2), (2, i6 m_8), (4, .func (.func 46) #[] #[(pq b_14)]), (14, i6 i_412), (15, i6 j_414), (16, i6 (IntKind.i64.wrap ((IntKind.u64.wrap (i_412 + j_414)) / 2))), (103, .bool (!(decide (r_465 < 0))))] ?_
  refine Cd ?_ ?_
  intro hc_471
  replace hV := hV.1 (not_dec_t hc_471)
  refine WC.region ?_
  refine R hS ?_
  obtain ⟨hi_470, hV⟩ := hV
  iterate 2 refine R hS ?_
  refine WL.nil ?_
  refine WQ.out nofun ?_
  replace hS := hS.f12.f12.f12.f12.f12.f12.f12.f12.f12.f12.f12.f12.f13
  exact Wt fun a ha => ⟨(((IntKind.i64.wrap ((IntKind.u64.wrap (i_412 + j_414)) / 2)) + 1), j_414), ⟨((IntKind.i64.wrap ((IntKind.u64.wrap (i_412 + j_414)) / 2)) + 1), j_414, rfl, hV.1, hi_470, hr_415, hS, ha.os⟩, hV.2⟩
  intro hc_471
  replace hV := hV.2 (not_dec_f hc_471)
  refine WC.region ?_
  iterate 2 refine R hS ?_
  refine WL.nil ?_
  refine WQ.out nofun ?_
  replace hS := hS.f12.f12.f12.f12.f12.f12.f12.f12.f12.f12.f12.f12.f13
  exact Wt fun a ha => ⟨(i_412, (IntKind.i64.wrap ((IntKind.u64.wrap (i_412 + j_414)) / 2))), ⟨i_412, (IntKind.i64.wrap ((IntKind.u64.wrap (i_412 + j_414)) / 2)), rfl, hV.1, hr_413, (wrap_I64 _), hS, ha.os⟩, hV.2⟩
  intro hc_679
  replace hV := hV.2 (ov hc_679)
  refine WC.exit ?_
  refine Wp ?_
  refine Wp ?_
  refine WQ.hit ?_
  refine WQ.next ?_
  refine WC.seq ?_
  refine WC.sr ?_
  iterate 2 refine R hS ?_
  refine WL.nx ?_
  refine WC.block ?_
  replace hS := hS.f13.f13.f13.f13.f13.f13.f13.f13.f13.f13.f13.f13.f13
  obtain ⟨I_609, mu_610, hI_678, hV⟩ := hV
  refine WC.loop (σ := LI × Int) (fun s a w => ∃ (data_538 : LI) (k_541 : Int) (fp_539 : Seg), s = (data_538, k_541) ∧ I_609 (data_538, k_541) ∧ OwnSl H (cInt .i64) 3 v_2 data_538 fp_539 ∧ I64 k_541 ∧ St w0 H (fp_539 ++ ([(b_14, oc #[(pq b_17)] 43)] ++ ([(b_17, oc #[i6 n_19, v_22, v_27, v_32, v_37, v_42, v_47, v_52, i6 head_56, v_59, u_64, v_67, .bool dead_71] 60)] ++ (fp_24 ++ (fp_29 ++ (fp_34 ++ (fp_39 ++ (fp_44 ++ (fp_49 ++ (fp_54 ++ (fp_61 ++ (fp_69 ++ (fp_74 ++ L))))))))))))) w ∧ Fr 220 [(0, v_2), (14, i6 i_412), (17, i6 k_541)] a) mu_610 (data_1, m_8) ?_ ?_
  exact fun a ha => ⟨data_1, m_8, fp_4, rfl, hI_678, h_3, hr_9, hS, ha.os⟩
  clear hS hI_678
  rintro _ a w ⟨data_538, k_541, fp_539, rfl, hI, h_540, hr_542, hS, ha⟩
  refine in_frame ha ?_
  clear ha
  replace hV := hV _ hI
  clear hI
  refine WC.seq ?_
  refine WC.sr ?_
  iterate 3 refine R hS ?_
  refine WL.nx ?_
  refine Cd ?_ ?_
  intro hc_677
  replace hV := hV.1 (od hc_677)
  refine WC.skip ?_
  refine WQ.next ?_
  refine WC.seq ?_
  refine WC.block ?_
  refine WC.drawn (σ := [0, 1, 2, 3, 4, 5, 6, 7, 8, 9, 10, 11, 12, 13, 14, 15, 16, 17]) (C := St w0 H (fp_539 ++ ([(b_14, oc #[(pq b_17)] 43)] ++ ([(b_17, oc #[i6 n_19, v_22, v_27, v_32, v_37, v_42, v_47, v_52, i6 head_56, v_59, u_64, v_67, .bool dead_71] 60)] ++ (fp_24 ++ (fp_29 ++ (fp_34 ++ (fp_39 ++ (fp_44 ++ (fp_49 ++ (fp_54 ++ (fp_61 ++ (fp_69 ++ (fp_74 ++ L)))))))))))))) [[], [], [], [], [3], [], [], [6], [5, 6, 7], [5, 6, 7, 8], [], [], [10, 11], [10, 11, 12], [0, 1, 5, 6, 7, 8, 9, 10, 11, 12, 13], [0, 1, 5, 6, 7, 8, 9, 10, 11, 12, 13, 14], [0, 1, 2, 3, 4, 5, 6, 7, 8, 9, 10, 11, 12, 13, 14, 15], [0, 1, 2, 3, 4, 5, 6, 7, 8, 9, 10, 11, 12, 13, 14, 15, 16]] [15, 17] mixed (by kernel_rfl) (hS.drawn _) ?_
  clear hS w
  refine Dm fun q_614 hq_613 => ?_
  refine Dm fun q_616 hq_615 => ?_
  refine Dm fun q_618 hq_617 => ?_
  refine Dm fun q_620 hq_619 => ?_
  obtain ⟨hi_624, hV⟩ := hV
  refine Wd.run rfl rfl rfl rfl (fun _ => ex_sub rfl rfl hi_624) fun q_622 hq_621 => ?_
  refine Dm fun q_626 hq_625 => ?_
  refine Dm fun q_628 hq_627 => ?_
  obtain ⟨hi_632, hV⟩ := hV
  refine Wd.run rfl rfl rfl rfl (fun _ => ex_sub rfl rfl hi_632) fun q_630 hq_629 => ?_
  obtain ⟨hin_635, hV⟩ := hV
  refine Wd.runx rfl rfl rfl rfl (exAll (ex_index_own underlying23 sizeOf3 rfl rfl h_540 hin_635)) ?_
  intro p_636 hp_637
  intro q_634 hq_633
  refine Wd.runs (fp := fp_539) rfl rfl rfl rfl (ex_load_own_s isAgg3 rfl rfl h_540 hp_637 hin_635) (fun _ h => h) ?_
  intro u_642 hu_643
  obtain ⟨rfl, hr_644⟩ := cInt_rep hu_643
  replace hr_644 := has_I64 hr_644
  replace hV := hV hr_644
  intro q_639 hq_638
  refine Dm fun q_646 hq_645 => ?_
  refine Dm fun q_648 hq_647 => ?_
  obtain ⟨hin_651, hV⟩ := hV
  refine Wd.runx rfl rfl rfl rfl (exAll (ex_index_own underlying23 sizeOf3 rfl rfl h_540 hin_651)) ?_
  intro p_652 hp_653
  intro q_650 hq_649
  refine Wd.runs (fp := fp_539) rfl rfl rfl rfl (ex_load_own_s isAgg3 rfl rfl h_540 hp_653 hin_651) (fun _ h => h) ?_
  intro u_658 hu_659
  obtain ⟨rfl, hr_660⟩ := cInt_rep hu_659
  replace hr_660 := has_I64 hr_660
  replace hV := hV hr_660
  intro q_655 hq_654
  obtain ⟨hin_663, hV⟩ := hV
  refine Wd.runx rfl rfl rfl rfl (exAll (ex_index_own underlying23 sizeOf3 rfl rfl h_540 hin_663)) ?_
  intro p_664 hp_665
  intro q_662 hq_661
  refine Wd.turn rfl rfl rfl fun w hS => ?_
  refine WL.store_own sizeOf3 rfl rfl rfl (cInt_mk (I64.has hr_644)) hS h_540 hp_665 hin_663 ?_
  clear hS
  intro w fp_667 h_666 hS
  refine WL.nil (DQ.mk2 (C' := St w0 H (fp_667 ++ ([(b_14, oc #[(pq b_17)] 43)] ++ ([(b_17, oc #[i6 n_19, v_22, v_27, v_32, v_37, v_42, v_47, v_52, i6 head_56, v_59, u_64, v_67, .bool dead_71] 60)] ++ (fp_24 ++ (fp_29 ++ (fp_34 ++ (fp_39 ++ (fp_44 ++ (fp_49 ++ (fp_54 ++ (fp_61 ++ (fp_69 ++ (fp_74 ++ L)))))))))))))) hS ⟨il, il, il, il, il, il, il, il, il, il, .inr (hq_621 _), .inr (hq_619 _), .inr (hq_617 _), il, il, trivial⟩ ?_)
  clear hS w
  obtain ⟨hin_670, hV⟩ := hV
  refine Wd.runx rfl rfl rfl rfl (exAll (ex_index_own underlying23 sizeOf3 rfl rfl h_666 hin_670)) ?_
  intro p_671 hp_672
  intro q_669 hq_668
  refine Wd.turn rfl rfl rfl fun w hS => ?_
  refine WL.store_own sizeOf3 rfl rfl rfl (cInt_mk (I64.has hr_660)) hS h_666 hp_672 hin_670 ?_
  clear hS
  intro w fp_674 h_673 hS
  refine WL.nil (DQ.mk2 (C' := St w0 H (fp_674 ++ ([(b_14, oc #[(pq b_17)] 43)] ++ ([(b_17, oc #[i6 n_19, v_22, v_27, v_32, v_37, v_42, v_47, v_52, i6 head_56, v_59, u_64, v_67, .bool dead_71] 60)] ++ (fp_24 ++ (fp_29 ++ (fp_34 ++ (fp_39 ++ (fp_44 ++ (fp_49 ++ (fp_54 ++ (fp_61 ++ (fp_69 ++ (fp_74 ++ L)))))))))))))) hS ⟨il, il, il, il, il, il, il, il, il, il, il, il, il, il, il, il, trivial⟩ ?_)
  clear hS w
  refine Wd.nil fun w hS => ?_
  refine WQ.out nofun ?_
  refine WQ.next ?_
  refine Sb [(0, v_2), (14, i6 i_412), (17, i6 k_541)] ?_
  refine WC.region ?_
  refine R hS ?_
  obtain ⟨hi_676, hV⟩ := hV
  iterate 2 refine R hS ?_
  refine WL.nil ?_
  replace hS := hS.f13.f13.f13.f13.f13.f13.f13.f13.f13.f13.f13.f13.f13
  exact Wt fun a ha => ⟨(((data_538.set k_541.toNat (ix data_538 (k_541 - 1))).set (k_541 - 1).toNat (ix data_538 k_541)), (k_541 - 1)), ⟨((data_538.set k_541.toNat (ix data_538 (k_541 - 1))).set (k_541 - 1).toNat (ix data_538 k_541)), (k_541 - 1), fp_674, rfl, hV.1, h_673, hi_676, hS, ha.os⟩, hV.2⟩
  intro hc_677
  replace hV := hV.2 (ov hc_677)
  refine WC.exit ?_
  refine Wp ?_
  refine Wp ?_
  refine WQ.hit ?_
  refine WQ.next ?_
  refine WC.ret ?_
  refine Wp ?_
  replace hS := hS.f13.f13.f13.f13.f13.f13.f13.f13.f13.f13.f13.f13.f13
  exact leave0 (il) rfl (⟨data_538, fp_539, hV, rfl, h_540, hS⟩)
  intro hc_858
  replace hV := hV.2 (ov hc_858)
  refine WC.skip ?_
  refine WQ.next ?_
  refine WC.sr ?_
  iterate 2 refine R hS ?_
  obtain ⟨hi_682, hV⟩ := hV
  iterate 2 refine R hS ?_
  refine Rn hS (ex_ushr (q := 1) rfl rfl (wrap_has _ _) (by decide)) ?_
  iterate 2 refine R hS ?_
  refine WL.nx ?_
  refine Sb [(0, v_2), (1, i6 a_6), (2, i6 m_8), (3, i6 b_10), (4, .func (.func 46) #[] #[(pq b_14)]), (18, i6 (IntKind.i64.wrap ((IntKind.u64.wrap (a_6 + b_10)) / 2)))] ?_
  refine WC.sr ?_
  iterate 2 refine R hS ?_
  obtain ⟨hi_684, hV⟩ := hV
  iterate 2 refine R hS ?_
  refine WL.nx ?_
  refine WC.sr ?_
  iterate 2 refine R hS ?_
  refine WL.nx ?_
  obtain ⟨J_693, hJ_694, hV⟩ := hV
  refine WC.meet (fun a w => ∃ (start_689 : Int) (r_691 : Int), J_693 (start_689, r_691) ∧ I64 start_689 ∧ I64 r_691 ∧ St w0 H (fp_4 ++ ([(b_14, oc #[(pq b_17)] 43)] ++ ([(b_17, oc #[i6 n_19, v_22, v_27, v_32, v_37, v_42, v_47, v_52, i6 head_56, v_59, u_64, v_67, .bool dead_71] 60)] ++ (fp_24 ++ (fp_29 ++ (fp_34 ++ (fp_39 ++ (fp_44 ++ (fp_49 ++ (fp_54 ++ (fp_61 ++ (fp_69 ++ (fp_74 ++ L))))))))))))) w ∧ Fr 220 [(0, v_2), (1, i6 a_6), (2, i6 m_8), (3, i6 b_10), (4, .func (.func 46) #[] #[(pq b_14)]), (18, i6 (IntKind.i64.wrap ((IntKind.u64.wrap (a_6 + b_10)) / 2))), (19, i6 ((IntKind.i64.wrap ((IntKind.u64.wrap (a_6 + b_10)) / 2)) + m_8)), (20, i6 start_689), (21, i6 r_691)] a) ?_ ?_
  rintro a w ⟨start_689, r_691, hI, hr_690, hr_692, hS, ha⟩
  refine in_frame ha ?_
  clear ha hV
  have hV := hJ_694 _ hI
  clear hI hJ_694
  refine WC.sr ?_
  refine R hS ?_
  obtain ⟨hi_700, hV⟩ := hV
  iterate 2 refine R hS ?_
  refine WL.nx ?_
  refine WC.seq ?_
  refine WC.block ?_
  replace hS := hS.f13.f13.f13.f13.f13.f13.f13.f13.f13.f13.f13.f13.f13
  obtain ⟨I_763, mu_764, hI_857, hV⟩ := hV
  refine WC.loop (σ := Int × Int) (fun s a w => ∃ (start_730 : Int) (r_732 : Int), s = (start_730, r_732) ∧ I_763 (start_730, r_732) ∧ I64 start_730 ∧ I64 r_732 ∧ St w0 H (fp_4 ++ ([(b_14, oc #[(pq b_17)] 43)] ++ ([(b_17, oc #[i6 n_19, v_22, v_27, v_32, v_37, v_42, v_47, v_52, i6 head_56, v_59, u_64, v_67, .bool dead_71] 60)] ++ (fp_24 ++ (fp_29 ++ (fp_34 ++ (fp_39 ++ (fp_44 ++ (fp_49 ++ (fp_54 ++ (fp_61 ++ (fp_69 ++ (fp_74 ++ L))))))))))))) w ∧ Fr 220 [(0, v_2), (1, i6 a_6), (2, i6 m_8), (3, i6 b_10), (4, .func (.func 46) #[] #[(pq b_14)]), (18, i6 (IntKind.i64.wrap ((IntKind.u64.wrap (a_6 + b_10)) / 2))), (19, i6 ((IntKind.i64.wrap ((IntKind.u64.wrap (a_6 + b_10)) / 2)) + m_8)), (20, i6 start_730), (21, i6 r_732), (22, i6 (((IntKind.i64.wrap ((IntKind.u64.wrap (a_6 + b_10)) / 2)) + m_8) - 1))] a) mu_764 (start_689, r_691) ?_ ?_
  exact fun a ha => ⟨start_689, r_691, rfl, hI_857, hr_690, hr_692, hS, ha.os⟩
  clear hS hI_857
  rintro _ a w ⟨start_730, r_732, rfl, hI, hr_731, hr_733, hS, ha⟩
  refine in_frame ha ?_
  clear ha
  replace hV := hV _ hI
  clear hI
  refine WC.seq ?_
  refine WC.sr ?_
  iterate 3 refine R hS ?_
  refine WL.nx ?_
  refine Cd ?_ ?_
  intro hc_856
  replace hV := hV.1 (od hc_856)
  refine WC.skip ?_
  refine WQ.next ?_
  refine WC.block ?_
  refine WC.sr ?_
  iterate 2 refine R hS ?_
  obtain ⟨hi_768, hV⟩ := hV
  iterate 2 refine R hS ?_
  refine Rn hS (ex_ushr (q := 1) rfl rfl (wrap_has _ _) (by decide)) ?_
  iterate 2 refine R hS ?_
  refine WL.nx ?_
  refine WC.seq ?_
  replace hS := hS.f13.f13.f13.f13.f13.f13.f13.f13.f13.f13.f13.f13
  refine WC.quiet (C := St w0 H ([(b_14, oc #[(pq b_17)] 43)] ++ ([(b_17, oc #[i6 n_19, v_22, v_27, v_32, v_37, v_42, v_47, v_52, i6 head_56, v_59, u_64, v_67, .bool dead_71] 60)] ++ (fp_24 ++ (fp_29 ++ (fp_34 ++ (fp_39 ++ (fp_44 ++ (fp_49 ++ (fp_54 ++ (fp_61 ++ (fp_69 ++ (fp_74 ++ (fp_4 ++ L)))))))))))))) mixed (by kernel_rfl) (hS.drawn _) ?_
  clear hS w
  iterate 4 refine Rq ?_
  obtain ⟨hi_770, hV⟩ := hV
  refine Rq ?_
  obtain ⟨hin_771, hV⟩ := hV
  refine Wq.runx rfl rfl rfl (ex_index_own underlying23 sizeOf3 rfl rfl h_3 hin_771) ?_
  intro p_772 hp_773
  refine Wq.runx rfl rfl rfl (exQ (ex_load_own_s isAgg3 rfl rfl h_3 hp_773 hin_771) _ (fun _ h => St.f13 h)) ?_
  intro u_776 hu_777
  obtain ⟨rfl, hr_778⟩ := cInt_rep hu_777
  replace hr_778 := has_I64 hr_778
  replace hV := hV hr_778
  iterate 2 refine Rq ?_
  obtain ⟨hin_779, hV⟩ := hV
  refine Wq.runx rfl rfl rfl (ex_index_own underlying23 sizeOf3 rfl rfl h_3 hin_779) ?_
  intro p_780 hp_781
  refine Wq.runx rfl rfl rfl (exQ (ex_load_own_s isAgg3 rfl rfl h_3 hp_781 hin_779) _ (fun _ h => St.f13 h)) ?_
  intro u_784 hu_785
  obtain ⟨rfl, hr_786⟩ := cInt_rep hu_785
  replace hr_786 := has_I64 hr_786
  replace hV := hV hr_786
  obtain ⟨r_787, h_789, hr_788, hV⟩ := hV
  refine Wq.call (v := i6 r_787) rfl rfl rfl (fun w => enters_c (vs := [i6 (ix data_1 ((((IntKind.i64.wrap ((IntKind.u64.wrap (a_6 + b_10)) / 2)) + m_8) - 1) - (IntKind.i64.wrap ((IntKind.u64.wrap (start_730 + r_732)) / 2)))), i6 (ix data_1 (IntKind.i64.wrap ((IntKind.u64.wrap (start_730 + r_732)) / 2)))]) (caps := [(pq b_14)]) rfl call46 ⟨rfl, rfl, trivial⟩) (fun w hS => (S_add1 (Q := fun y0 => y0 = r_787)  hr_778 hr_786 hr_20 h_23 h_28 h_33 h_38 h_43 h_48 h_53 hr_57 h_60 h_65 h_68 hA_73 hS h_789).mono ?_) ?_
  rintro e w' ⟨_, rfl, he, _, hS⟩
  exact ⟨he, hS⟩
  iterate 2 refine Rq ?_
  refine Wq.nil fun w hS => ?_
  refine WQ.next ?_
  refine Sb [(0, v_2), (1, i6 a_6), (2, i6 m_8), (3, i6 b_10), (4, .func (.func 46) #[] #[(pq b_14)]), (18, i6 (IntKind.i64.wrap ((IntKind.u64.wrap (a_6 + b_10)) / 2))), (19, i6 ((IntKind.i64.wrap ((IntKind.u64.wrap (a_6 + b_10)) / 2)) + m_8)), (20, i6 start_730), (21, i6 r_732), (22, i6 (((IntKind.i64.wrap ((IntKind.u64.wrap (a_6 + b_10)) / 2)) + m_8) - 1)), (23, i6 (IntKind.i64.wrap ((IntKind.u64.wrap (start_730 + r_732)) / 2))), (171, .bool (!(decide (r_787 < 0))))] ?_
  refine Cd ?_ ?_
  intro hc_793
  replace hV := hV.1 (not_dec_t hc_793)
  refine WC.region ?_
  refine R hS ?_
  obtain ⟨hi_792, hV⟩ := hV
  iterate 2 refine R hS ?_
  refine WL.nil ?_
  refine WQ.out nofun ?_
  replace hS := hS.f12.f12.f12.f12.f12.f12.f12.f12.f12.f12.f12.f12.f13
  exact Wt fun a ha => ⟨(((IntKind.i64.wrap ((IntKind.u64.wrap (start_730 + r_732)) / 2)) + 1), r_732), ⟨((IntKind.i64.wrap ((IntKind.u64.wrap (start_730 + r_732)) / 2)) + 1), r_732, rfl, hV.1, hi_792, hr_733, hS, ha.os⟩, hV.2⟩
  intro hc_793
  replace hV := hV.2 (not_dec_f hc_793)
  refine WC.region ?_
  iterate 2 refine R hS ?_
  refine WL.nil ?_
  refine WQ.out nofun ?_
  replace hS := hS.f12.f12.f12.f12.f12.f12.f12.f12.f12.f12.f12.f12.f13
  exact Wt fun a ha => ⟨(start_730, (IntKind.i64.wrap ((IntKind.u64.wrap (start_730 + r_732)) / 2))), ⟨start_730, (IntKind.i64.wrap ((IntKind.u64.wrap (start_730 + r_732)) / 2)), rfl, hV.1, hr_731, (wrap_I64 _), hS, ha.os⟩, hV.2⟩
  intro hc_856
  replace hV := hV.2 (ov hc_856)
  refine WC.exit ?_
  refine Wp ?_
  refine Wp ?_
  refine WQ.hit ?_
  refine WQ.next ?_
  refine WC.sr ?_
  iterate 2 refine R hS ?_
  obtain ⟨hi_795, hV⟩ := hV
  iterate 2 refine R hS ?_
  refine WL.nx ?_
  obtain ⟨J_809, hJ_810, hV⟩ := hV
  refine WC.meet (fun a w => ∃ (data_806 : LI) (fp_807 : Seg), J_809 data_806 ∧ OwnSl H (cInt .i64) 3 v_2 data_806 fp_807 ∧ St w0 H (fp_807 ++ ([(b_14, oc #[(pq b_17)] 43)] ++ ([(b_17, oc #[i6 n_19, v_22, v_27, v_32, v_37, v_42, v_47, v_52, i6 head_56, v_59, u_64, v_67, .bool dead_71] 60)] ++ (fp_24 ++ (fp_29 ++ (fp_34 ++ (fp_39 ++ (fp_44 ++ (fp_49 ++ (fp_54 ++ (fp_61 ++ (fp_69 ++ (fp_74 ++ L))))))))))))) w ∧ Fr 220 [(0, v_2), (1, i6 a_6), (3, i6 b_10), (4, .func (.func 46) #[] #[(pq b_14)]), (18, i6 (IntKind.i64.wrap ((IntKind.u64.wrap (a_6 + b_10)) / 2))), (20, i6 start_730), (24, i6 (((IntKind.i64.wrap ((IntKind.u64.wrap (a_6 + b_10)) / 2)) + m_8) - start_730))] a) ?_ ?_
  rintro a w ⟨data_806, fp_807, hI, h_808, hS, ha⟩
  refine in_frame ha ?_
  clear ha hV
  have hV := hJ_810 _ hI
  clear hI hJ_810
  obtain ⟨J_834, hJ_835, hV⟩ := hV
  refine WC.meet (fun a w => ∃ (data_831 : LI) (fp_832 : Seg), J_834 data_831 ∧ OwnSl H (cInt .i64) 3 v_2 data_831 fp_832 ∧ St w0 H (fp_832 ++ ([(b_14, oc #[(pq b_17)] 43)] ++ ([(b_17, oc #[i6 n_19, v_22, v_27, v_32, v_37, v_42, v_47, v_52, i6 head_56, v_59, u_64, v_67, .bool dead_71] 60)] ++ (fp_24 ++ (fp_29 ++ (fp_34 ++ (fp_39 ++ (fp_44 ++ (fp_49 ++ (fp_54 ++ (fp_61 ++ (fp_69 ++ (fp_74 ++ L))))))))))))) w ∧ Fr 220 [(0, v_2), (3, i6 b_10), (4, .func (.func 46) #[] #[(pq b_14)]), (18, i6 (IntKind.i64.wrap ((IntKind.u64.wrap (a_6 + b_10)) / 2))), (24, i6 (((IntKind.i64.wrap ((IntKind.u64.wrap (a_6 + b_10)) / 2)) + m_8) - start_730))] a) ?_ ?_
  rintro a w ⟨data_831, fp_832, hI, h_833, hS, ha⟩
  refine in_frame ha ?_
  clear ha hV
  have hV := hJ_835 _ hI
  clear hI hJ_835
  refine WC.seq ?_
  refine WC.via (m := [(0, v_2), (3, i6 b_10), (4, .func (.func 46) #[] #[(pq b_14)]), (18, i6 (IntKind.i64.wrap ((IntKind.u64.wrap (a_6 + b_10)) / 2))), (24, i6 (((IntKind.i64.wrap ((IntKind.u64.wrap (a_6 + b_10)) / 2)) + m_8) - start_730)), (213, .bool (decide (((IntKind.i64.wrap ((IntKind.u64.wrap (a_6 + b_10)) / 2)) < (((IntKind.i64.wrap ((IntKind.u64.wrap (a_6 + b_10)) / 2)) + m_8) - start_730)) ∧ ((((IntKind.i64.wrap ((IntKind.u64.wrap (a_6 + b_10)) / 2)) + m_8) - start_730) < b_10))))]) ?_ ?_
  refine WC.region ?_
  iterate 4 refine R hS ?_
  rcases bft (decide ((IntKind.i64.wrap ((IntKind.u64.wrap (a_6 + b_10)) / 2)) < (((IntKind.i64.wrap ((IntKind.u64.wrap (a_6 + b_10)) / 2)) + m_8) - start_730))) with hg_849 | hg_849
  iterate 4 refine R hS ?_
  refine WL.up (s := 213) rfl (and_t hg_849 : decide ((((IntKind.i64.wrap ((IntKind.u64.wrap (a_6 + b_10)) / 2)) + m_8) - start_730) < b_10) = decide (((IntKind.i64.wrap ((IntKind.u64.wrap (a_6 + b_10)) / 2)) < (((IntKind.i64.wrap ((IntKind.u64.wrap (a_6 + b_10)) / 2)) + m_8) - start_730)) ∧ ((((IntKind.i64.wrap ((IntKind.u64.wrap (a_6 + b_10)) / 2)) + m_8) - start_730) < b_10))) ?_
  exact WL.nil At.os
  iterate 4 refine R hS ?_
  refine WL.up (s := 213) rfl (and_f hg_849 : false = decide (((IntKind.i64.wrap ((IntKind.u64.wrap (a_6 + b_10)) / 2)) < (((IntKind.i64.wrap ((IntKind.u64.wrap (a_6 + b_10)) / 2)) + m_8) - start_730)) ∧ ((((IntKind.i64.wrap ((IntKind.u64.wrap (a_6 + b_10)) / 2)) + m_8) - start_730) < b_10))) ?_
  exact WL.nil At.os
  refine WQ.next ?_
  refine Cd ?_ ?_
  intro hc_855
  replace hV := hV.1 (od hc_855)
  refine WC.region ?_
  iterate 5 refine R hS ?_
  replace hS := hS.f13.f13.f13.f13.f13.f13.f13.f13.f13.f13.f13.f13.f13
  refine Rc (enters0 (vs := [v_2, i6 (IntKind.i64.wrap ((IntKind.u64.wrap (a_6 + b_10)) / 2)), i6 (((IntKind.i64.wrap ((IntKind.u64.wrap (a_6 + b_10)) / 2)) + m_8) - start_730), i6 b_10, .func (.func 46) #[] #[(pq b_14)]]) call69 ⟨rfl, rfl, rfl, rfl, rfl, trivial⟩) (ih  h_833 (wrap_I64 _) hi_795 hr_11 hr_20 h_23 h_28 h_33 h_38 h_43 h_48 h_53 hr_57 h_60 h_65 h_68 hA_73 hS hV) ?_
  clear hV hS
  rintro _ w ⟨c_851, fp_852, hV, rfl, h_853, hS⟩
  refine ⟨_, rfl, ?_⟩
  refine WL.nil ?_
  replace hS := hS.f13.f13.f13.f13.f13.f13.f13.f13.f13.f13.f13.f13.f13
  exact leave0 (.inr rfl) rfl (⟨c_851, fp_852, hV, rfl, h_853, hS⟩)
  intro hc_855
  replace hV := hV.2 (ov hc_855)
  refine WC.skip ?_
  replace hS := hS.f13.f13.f13.f13.f13.f13.f13.f13.f13.f13.f13.f13.f13
  exact leave0 (.inr rfl) rfl (⟨data_831, fp_832, hV, rfl, h_833, hS⟩)
  clear hJ_835
  refine WC.seq ?_
  refine WC.via (m := [(0, v_2), (1, i6 a_6), (3, i6 b_10), (4, .func (.func 46) #[] #[(pq b_14)]), (18, i6 (IntKind.i64.wrap ((IntKind.u64.wrap (a_6 + b_10)) / 2))), (20, i6 start_730), (24, i6 (((IntKind.i64.wrap ((IntKind.u64.wrap (a_6 + b_10)) / 2)) + m_8) - start_730)), (199, .bool (decide ((a_6 < start_730) ∧ (start_730 < (IntKind.i64.wrap ((IntKind.u64.wrap (a_6 + b_10)) / 2))))))]) ?_ ?_
  refine WC.region ?_
  iterate 4 refine R hS ?_
  rcases bft (decide (a_6 < start_730)) with hg_839 | hg_839
  iterate 4 refine R hS ?_
  refine WL.up (s := 199) rfl (and_t hg_839 : decide (start_730 < (IntKind.i64.wrap ((IntKind.u64.wrap (a_6 + b_10)) / 2))) = decide ((a_6 < start_730) ∧ (start_730 < (IntKind.i64.wrap ((IntKind.u64.wrap (a_6 + b_10)) / 2))))) ?_
  exact WL.nil At.os
  iterate 4 refine R hS ?_
  refine WL.up (s := 199) rfl (and_f hg_839 : false = decide ((a_6 < start_730) ∧ (start_730 < (IntKind.i64.wrap ((IntKind.u64.wrap (a_6 + b_10)) / 2))))) ?_
  exact WL.nil At.os
  refine WQ.next ?_
  refine Cd ?_ ?_
  intro hc_845
  replace hV := hV.1 (od hc_845)
  refine WC.region ?_
  iterate 5 refine R hS ?_
  replace hS := hS.f13.f13.f13.f13.f13.f13.f13.f13.f13.f13.f13.f13.f13
  refine Rc (enters0 (vs := [v_2, i6 a_6, i6 start_730, i6 (IntKind.i64.wrap ((IntKind.u64.wrap (a_6 + b_10)) / 2)), .func (.func 46) #[] #[(pq b_14)]]) call69 ⟨rfl, rfl, rfl, rfl, rfl, trivial⟩) (ih  h_808 hr_7 hr_731 (wrap_I64 _) hr_20 h_23 h_28 h_33 h_38 h_43 h_48 h_53 hr_57 h_60 h_65 h_68 hA_73 hS hV) ?_
  clear hV hS
  rintro _ w ⟨c_841, fp_842, hV, rfl, h_843, hS⟩
  refine ⟨_, rfl, ?_⟩
  refine WL.nil ?_
  replace hS := hS.f13.f13.f13.f13.f13.f13.f13.f13.f13.f13.f13.f13.f13
  exact Wt fun a ha => ⟨c_841, fp_842, hV, h_843, hS, ha.os⟩
  intro hc_845
  replace hV := hV.2 (ov hc_845)
  refine WC.skip ?_
  replace hS := hS.f13.f13.f13.f13.f13.f13.f13.f13.f13.f13.f13.f13.f13
  exact Wt fun a ha => ⟨data_806, fp_807, hV, h_808, hS, ha.os⟩
  clear hJ_810
  refine WC.seq ?_
  refine WC.via (m := [(0, v_2), (1, i6 a_6), (2, i6 m_8), (3, i6 b_10), (4, .func (.func 46) #[] #[(pq b_14)]), (18, i6 (IntKind.i64.wrap ((IntKind.u64.wrap (a_6 + b_10)) / 2))), (20, i6 start_730), (24, i6 (((IntKind.i64.wrap ((IntKind.u64.wrap (a_6 + b_10)) / 2)) + m_8) - start_730)), (185, .bool (decide ((start_730 < m_8) ∧ (m_8 < (((IntKind.i64.wrap ((IntKind.u64.wrap (a_6 + b_10)) / 2)) + m_8) - start_730)))))]) ?_ ?_
  refine WC.region ?_
  iterate 4 refine R hS ?_
  rcases bft (decide (start_730 < m_8)) with hg_814 | hg_814
  iterate 4 refine R hS ?_
  refine WL.up (s := 185) rfl (and_t hg_814 : decide (m_8 < (((IntKind.i64.wrap ((IntKind.u64.wrap (a_6 + b_10)) / 2)) + m_8) - start_730)) = decide ((start_730 < m_8) ∧ (m_8 < (((IntKind.i64.wrap ((IntKind.u64.wrap (a_6 + b_10)) / 2)) + m_8) - start_730)))) ?_
  exact WL.nil At.os
  iterate 4 refine R hS ?_
  refine WL.up (s := 185) rfl (and_f hg_814 : false = decide ((start_730 < m_8) ∧ (m_8 < (((IntKind.i64.wrap ((IntKind.u64.wrap (a_6 + b_10)) / 2)) + m_8) - start_730)))) ?_
  exact WL.nil At.os
  refine WQ.next ?_
  refine Cd ?_ ?_
  intro hc_820
  replace hV := hV.1 (od hc_820)
  refine WC.region ?_
  iterate 5 refine R hS ?_
  replace hS := hS.f13.f13.f13.f13.f13.f13.f13.f13.f13.f13.f13.f13.f13
  refine Rc (enters0 (vs := [v_2, i6 start_730, i6 m_8, i6 (((IntKind.i64.wrap ((IntKind.u64.wrap (a_6 + b_10)) / 2)) + m_8) - start_730), .func (.func 46) #[] #[(pq b_14)]]) call81 ⟨rfl, rfl, rfl, rfl, rfl, trivial⟩) (S_rotSF  h_3 hr_731 hr_9 hi_795 hr_20 h_23 h_28 h_33 h_38 h_43 h_48 h_53 hr_57 h_60 h_65 h_68 hA_73 hS hV) ?_
  clear hV hS
  rintro _ w ⟨c_816, fp_817, hV, rfl, h_818, hS⟩
  refine ⟨_, rfl, ?_⟩
  refine WL.nil ?_
  replace hS := hS.f13.f13.f13.f13.f13.f13.f13.f13.f13.f13.f13.f13.f13
  exact Wt fun a ha => ⟨c_816, fp_817, hV, h_818, hS, ha.os⟩
  intro hc_820
  replace hV := hV.2 (ov hc_820)
  refine WC.skip ?_
  replace hS := hS.f13.f13.f13.f13.f13.f13.f13.f13.f13.f13.f13.f13.f13
  exact Wt fun a ha => ⟨data_1, fp_4, hV, h_3, hS, ha.os⟩
  clear hJ_694
  refine WC.sr ?_
  iterate 3 refine R hS ?_
  refine WL.nx ?_
  refine Cd ?_ ?_
  intro hc_698
  replace hV := hV.1 (od hc_698)
  refine WC.sr ?_
  iterate 2 refine R hS ?_
  obtain ⟨hi_697, hV⟩ := hV
  iterate 2 refine R hS ?_
  refine WL.nx ?_
  refine Sb [(0, v_2), (1, i6 a_6), (2, i6 m_8), (3, i6 b_10), (4, .func (.func 46) #[] #[(pq b_14)]), (18, i6 (IntKind.i64.wrap ((IntKind.u64.wrap (a_6 + b_10)) / 2))), (19, i6 ((IntKind.i64.wrap ((IntKind.u64.wrap (a_6 + b_10)) / 2)) + m_8)), (20, i6 (((IntKind.i64.wrap ((IntKind.u64.wrap (a_6 + b_10)) / 2)) + m_8) - b_10))] ?_
  refine WC.region ?_
  iterate 2 refine R hS ?_
  refine WL.nil ?_
  replace hS := hS.f13.f13.f13.f13.f13.f13.f13.f13.f13.f13.f13.f13.f13
  exact Wt fun a ha => ⟨(((IntKind.i64.wrap ((IntKind.u64.wrap (a_6 + b_10)) / 2)) + m_8) - b_10), (IntKind.i64.wrap ((IntKind.u64.wrap (a_6 + b_10)) / 2)), hV, hi_697, (wrap_I64 _), hS, ha.os⟩
  intro hc_698
  replace hV := hV.2 (ov hc_698)
  refine WC.sr ?_
  iterate 2 refine R hS ?_
  refine WL.nx ?_
  refine WC.region ?_
  iterate 2 refine R hS ?_
  refine WL.nil ?_
  replace hS := hS.f13.f13.f13.f13.f13.f13.f13.f13.f13.f13.f13.f13.f13
  exact Wt fun a ha => ⟨a_6, m_8, hV, hr_7, hr_9, hS, ha.os⟩

end Go.Proofs.YtmdoicffgeihcaaGreatDoor
