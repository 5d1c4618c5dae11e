/- For each function: called, it does its work where its condition is so. Printed by program. -/
import Derived.Test.YtmdoicffgeihcaaGreatDoorFacts
import Derived.Test.YtmdoicffgeihcaaGreatDoorConds
import Derived.Test.YtmdoicffgeihcaaGreatDoorTold
import Derived.Test.YtmdoicffgeihcaaGreatDoorManSS
import Derived.Test.YtmdoicffgeihcaaGreatDoorBkw
import Derived.Test.YtmdoicffgeihcaaGreatDoorWalks1
set_option linter.unusedVariables false
set_option linter.unusedSimpArgs false
set_option maxRecDepth 100000
set_option maxHeartbeats 1000000
namespace Go.Proofs.YtmdoicffgeihcaaGreatDoor
open Go.Vc _root_.Go.Proofs.Tryz _root_.Go.Proofs.YtmdoicffgeihcaaGreatDoor.Tryz
theorem S_stabSF {w0 : World} {H : View} {L : Seg} {w : World} {v_2 : Value} {data_1 : LI} {fp_4 : Seg} {n_6 : Int} {b_10 : Nat} {b_13 : Nat} {n_15 : Int} {v_18 : Value} {clauses_17 : List Raw} {fp_20 : Seg} {v_23 : Value} {watch_22 : List (Int × Raw)} {fp_25 : Seg} {v_28 : Value} {value_27 : LI} {fp_30 : Seg} {v_33 : Value} {level_32 : LI} {fp_35 : Seg} {v_38 : Value} {reason_37 : LI} {fp_40 : Seg} {v_43 : Value} {trail_42 : LI} {fp_45 : Seg} {v_48 : Value} {starts_47 : LI} {fp_50 : Seg} {head_52 : Int} {v_55 : Value} {heat_54 : List Unit} {fp_57 : Seg} {u_60 : Value} {v_63 : Value} {proof_62 : List (Bool × LI)} {fp_65 : Seg} {dead_67 : Bool} {A_72 : Arena} {fp_70 : Seg} {Q : LI → Prop} (h_3 : OwnSl H (cInt .i64) 3 v_2 data_1 fp_4) (hr_7 : I64 n_6) (hr_16 : I64 n_15) (h_19 : OwnSl H cRaw 23 v_18 clauses_17 fp_20) (h_24 : OwnMp H kInt cRaw v_23 watch_22 fp_25) (h_29 : OwnSl H (cInt .i64) 3 v_28 value_27 fp_30) (h_34 : OwnSl H (cInt .i64) 3 v_33 level_32 fp_35) (h_39 : OwnSl H (cInt .i64) 3 v_38 reason_37 fp_40) (h_44 : OwnSl H (cInt .i64) 3 v_43 trail_42 fp_45) (h_49 : OwnSl H (cInt .i64) 3 v_48 starts_47 fp_50) (hr_53 : I64 head_52) (h_56 : OwnSl H cF 58 v_55 heat_54 fp_57) (h_61 : IsF u_60) (h_64 : OwnSl H (cPair cBool (cSl (cInt .i64))) 50 v_63 proof_62 fp_65) (hA_69 : IsAr 3 A_72 fp_70) (hS : St w0 H (fp_4 ++ ([(b_10, oc #[(pq b_13)] 43)] ++ ([(b_13, oc #[i6 n_15, v_18, v_23, v_28, v_33, v_38, v_43, v_48, i6 head_52, v_55, u_60, v_63, .bool dead_67] 60)] ++ (fp_20 ++ (fp_25 ++ (fp_30 ++ (fp_35 ++ (fp_40 ++ (fp_45 ++ (fp_50 ++ (fp_57 ++ (fp_65 ++ (fp_70 ++ L))))))))))))) w) (hV : V_stabSF data_1 n_6 n_15 clauses_17 watch_22 value_27 level_32 reason_37 trail_42 starts_47 head_52 heat_54 proof_62 dead_67 A_72 Q) :
 Calls Tryz.prog 60 #[v_2, i6 n_6, .func (.func 46) #[] #[(pq b_10)]] w fun e w' => ∃ (r1 : LI) (fp1 : Seg), Q r1 ∧ e = .returned (.tuple #[]) ∧ OwnSl H (cInt .i64) 3 v_2 r1 fp1 ∧ St w0 H (fp1 ++ ([(b_10, oc #[(pq b_13)] 43)] ++ ([(b_13, oc #[i6 n_15, v_18, v_23, v_28, v_33, v_38, v_43, v_48, i6 head_52, v_55, u_60, v_63, .bool dead_67] 60)] ++ (fp_20 ++ (fp_25 ++ (fp_30 ++ (fp_35 ++ (fp_40 ++ (fp_45 ++ (fp_50 ++ (fp_57 ++ (fp_65 ++ (fp_70 ++ L))))))))))))) w' := by
 unfold V_stabSF at hV
 refine enter func60 rfl ntmps60 rfl (lk_args_cons (d := 0) (v := v_2) rfl (lk_args_cons (d := 1) (v := i6 n_6) rfl (lk_args_cons (d := 2) (v := .func (.func 46) #[] #[(pq b_10)]) rfl (lk_args_nil _)))) ?_
 refine WC.sr ?_
 refine R hS ?_
 refine WL.nx ?_
 refine WC.sr ?_
 iterate 3 refine R hS ?_
 refine WL.nx ?_
 refine WC.seq ?_
 refine WC.block ?_
 replace hS := hS.f13.f13.f13.f13.f13.f13.f13.f13.f13.f13.f13.f13.f13
 obtain ⟨I_96, mu_97, hI_342, hV⟩ := hV
 refine WC.loop (σ := LI × Int × Int) (fun s a w => ∃ (data_81 : LI) (a_84 : Int) (b_86 : Int) (fp_82 : Seg), s = (data_81, a_84, b_86) ∧ I_96 (data_81, a_84, b_86) ∧ OwnSl H (cInt .i64) 3 v_2 data_81 fp_82 ∧ I64 a_84 ∧ I64 b_86 ∧ St w0 H (fp_82 ++ ([(b_10, oc #[(pq b_13)] 43)] ++ ([(b_13, oc #[i6 n_15, v_18, v_23, v_28, v_33, v_38, v_43, v_48, i6 head_52, v_55, u_60, v_63, .bool dead_67] 60)] ++ (fp_20 ++ (fp_25 ++ (fp_30 ++ (fp_35 ++ (fp_40 ++ (fp_45 ++ (fp_50 ++ (fp_57 ++ (fp_65 ++ (fp_70 ++ L))))))))))))) w ∧ Fr 63 [(0, v_2), (1, i6 n_6), (2, .func (.func 46) #[] #[(pq b_10)]), (6, i6 20), (7, i6 a_84), (8, i6 b_86)] a) mu_97 (data_1, 0, 20) ?_ ?_
 exact fun a ha => ⟨data_1, 0, 20, fp_4, rfl, hI_342, h_3, (by unfold I64; omega), (by unfold I64; omega), hS, ha.os⟩
 clear hS hI_342
 rintro _ a w ⟨data_81, a_84, b_86, fp_82, rfl, hI, h_83, hr_85, hr_87, hS, ha⟩
 refine in_frame ha ?_
 clear ha
 replace hV := hV _ hI
 clear hI
 refine WC.seq ?_
 refine WC.sr ?_
 iterate 3 refine R hS ?_
 refine WL.nx ?_
 refine Cd ?_ ?_
 intro hc_341
 replace hV := hV.1 (od hc_341)
 refine WC.skip ?_
 refine WQ.next ?_
 refine WC.block ?_
 refine WC.sr ?_
 iterate 4 refine R hS ?_
 replace hS := hS.f13.f13.f13.f13.f13.f13.f13.f13.f13.f13.f13.f13.f13
 refine Rc (enters0 (vs := [v_2, i6 a_84, i6 b_86, .func (.func 46) #[] #[(pq b_10)]]) call68 ⟨rfl, rfl, rfl, rfl, trivial⟩) (S_insSF  h_83 hr_85 hr_87 hr_16 h_19 h_24 h_29 h_34 h_39 h_44 h_49 hr_53 h_56 h_61 h_64 hA_69 hS hV) ?_
 clear hV hS
 rintro _ w ⟨c_100, fp_101, hV, rfl, h_102, hS⟩
 refine ⟨_, rfl, ?_⟩
 refine WL.nx ?_
 refine WC.sr ?_
 iterate 2 refine R hS ?_
 refine WL.nx ?_
 refine Sb [(0, v_2), (1, i6 n_6), (2, .func (.func 46) #[] #[(pq b_10)]), (6, i6 20), (7, i6 b_86), (8, i6 b_86)] ?_
 refine WC.region ?_
 iterate 2 refine R hS ?_
 obtain ⟨hi_105, hV⟩ := hV
 iterate 2 refine R hS ?_
 refine WL.nil ?_
 refine WQ.out nofun ?_
 replace hS := hS.f13.f13.f13.f13.f13.f13.f13.f13.f13.f13.f13.f13.f13
 exact Wt fun a ha => ⟨(c_100, b_86, (b_86 + 20)), ⟨c_100, b_86, (b_86 + 20), fp_101, rfl, hV.1, h_102, hr_87, hi_105, hS, ha.os⟩, hV.2⟩
 intro hc_341
 replace hV := hV.2 (ov hc_341)
 refine WC.exit ?_
 refine Wp ?_
 refine Wp ?_
 refine WQ.hit ?_
 refine WQ.next ?_
 refine WC.sr ?_
 iterate 4 refine R hS ?_
 replace hS := hS.f13.f13.f13.f13.f13.f13.f13.f13.f13.f13.f13.f13.f13
 refine Rc (enters0 (vs := [v_2, i6 a_84, i6 n_6, .func (.func 46) #[] #[(pq b_10)]]) call68 ⟨rfl, rfl, rfl, rfl, trivial⟩) (S_insSF  h_83 hr_85 hr_7 hr_16 h_19 h_24 h_29 h_34 h_39 h_44 h_49 hr_53 h_56 h_61 h_64 hA_69 hS hV) ?_
 clear hV hS
 rintro _ w ⟨c_106, fp_107, hV, rfl, h_108, hS⟩
 refine ⟨_, rfl, ?_⟩
 refine WL.nx ?_
 refine Sb [(0, v_2), (1, i6 n_6), (2, .func (.func 46) #[] #[(pq b_10)]), (6, i6 20)] ?_
 refine WC.block ?_
 replace hS := hS.f13.f13.f13.f13.f13.f13.f13.f13.f13.f13.f13.f13.f13
 obtain ⟨I_263, mu_264, hI_340, hV⟩ := hV
 refine WC.loop (σ := LI × Int) (fun s a w => ∃ (data_184 : LI) (blockSize_187 : Int) (fp_185 : Seg), s = (data_184, blockSize_187) ∧ I_263 (data_184, blockSize_187) ∧ OwnSl H (cInt .i64) 3 v_2 data_184 fp_185 ∧ I64 blockSize_187 ∧ St w0 H (fp_185 ++ ([(b_10, oc #[(pq b_13)] 43)] ++ ([(b_13, oc #[i6 n_15, v_18, v_23, v_28, v_33, v_38, v_43, v_48, i6 head_52, v_55, u_60, v_63, .bool dead_67] 60)] ++ (fp_20 ++ (fp_25 ++ (fp_30 ++ (fp_35 ++ (fp_40 ++ (fp_45 ++ (fp_50 ++ (fp_57 ++ (fp_65 ++ (fp_70 ++ L))))))))))))) w ∧ Fr 63 [(0, v_2), (1, i6 n_6), (2, .func (.func 46) #[] #[(pq b_10)]), (6, i6 blockSize_187)] a) mu_264 (c_106, 20) ?_ ?_
 exact fun a ha => ⟨c_106, 20, fp_107, rfl, hI_340, h_108, (by unfold I64; omega), hS, ha.os⟩
 clear hS hI_340
 rintro _ a w ⟨data_184, blockSize_187, fp_185, rfl, hI, h_186, hr_188, hS, ha⟩
 refine in_frame ha ?_
 clear ha
 replace hV := hV _ hI
 clear hI
 refine WC.seq ?_
 refine WC.sr ?_
 iterate 3 refine R hS ?_
 refine WL.nx ?_
 refine Cd ?_ ?_
 intro hc_339
 replace hV := hV.1 (od hc_339)
 refine WC.skip ?_
 refine WQ.next ?_
 refine WC.block ?_
 refine WC.sr ?_
 refine R hS ?_
 obtain ⟨hi_268, hV⟩ := hV
 iterate 3 refine R hS ?_
 refine WL.nx ?_
 refine WC.seq ?_
 refine WC.block ?_
 replace hS := hS.f13.f13.f13.f13.f13.f13.f13.f13.f13.f13.f13.f13.f13
 obtain ⟨I_300, mu_301, hI_338, hV⟩ := hV
 refine WC.loop (σ := LI × Int × Int) (fun s a w => ∃ (data_281 : LI) (a_284 : Int) (b_286 : Int) (fp_282 : Seg), s = (data_281, a_284, b_286) ∧ I_300 (data_281, a_284, b_286) ∧ OwnSl H (cInt .i64) 3 v_2 data_281 fp_282 ∧ I64 a_284 ∧ I64 b_286 ∧ St w0 H (fp_282 ++ ([(b_10, oc #[(pq b_13)] 43)] ++ ([(b_13, oc #[i6 n_15, v_18, v_23, v_28, v_33, v_38, v_43, v_48, i6 head_52, v_55, u_60, v_63, .bool dead_67] 60)] ++ (fp_20 ++ (fp_25 ++ (fp_30 ++ (fp_35 ++ (fp_40 ++ (fp_45 ++ (fp_50 ++ (fp_57 ++ (fp_65 ++ (fp_70 ++ L))))))))))))) w ∧ Fr 63 [(0, v_2), (1, i6 n_6), (2, .func (.func 46) #[] #[(pq b_10)]), (6, i6 blockSize_187), (7, i6 a_284), (8, i6 b_286)] a) mu_301 (data_184, 0, (2 * blockSize_187)) ?_ ?_
 exact fun a ha => ⟨data_184, 0, (2 * blockSize_187), fp_185, rfl, hI_338, h_186, (by unfold I64; omega), hi_268, hS, ha.os⟩
 clear hS hI_338
 rintro _ a w ⟨data_281, a_284, b_286, fp_282, rfl, hI, h_283, hr_285, hr_287, hS, ha⟩
 refine in_frame ha ?_
 clear ha
 replace hV := hV _ hI
 clear hI
 refine WC.seq ?_
 refine WC.sr ?_
 iterate 3 refine R hS ?_
 refine WL.nx ?_
 refine Cd ?_ ?_
 intro hc_337
 replace hV := hV.1 (od hc_337)
 refine WC.skip ?_
 refine WQ.next ?_
 refine WC.block ?_
 refine WC.sr ?_
 iterate 4 refine R hS ?_
 obtain ⟨hi_305, hV⟩ := hV
 iterate 3 refine R hS ?_
 replace hS := hS.f13.f13.f13.f13.f13.f13.f13.f13.f13.f13.f13.f13.f13
 obtain ⟨mf, hV⟩ := hV
 refine Rc (enters0 (vs := [v_2, i6 a_284, i6 (a_284 + blockSize_187), i6 b_286, .func (.func 46) #[] #[(pq b_10)]]) call69 ⟨rfl, rfl, rfl, rfl, rfl, trivial⟩) (S_symSF mf  h_283 hr_285 hi_305 hr_287 hr_16 h_19 h_24 h_29 h_34 h_39 h_44 h_49 hr_53 h_56 h_61 h_64 hA_69 hS hV) ?_
 clear hV hS
 rintro _ w ⟨c_306, fp_307, hV, rfl, h_308, hS⟩
 refine ⟨_, rfl, ?_⟩
 refine WL.nx ?_
 refine Sb [(0, v_2), (1, i6 n_6), (2, .func (.func 46) #[] #[(pq b_10)]), (6, i6 blockSize_187), (8, i6 b_286)] ?_
 refine WC.sr ?_
 iterate 2 refine R hS ?_
 refine WL.nx ?_
 refine WC.region ?_
 iterate 2 refine R hS ?_
 obtain ⟨hi_311, hV⟩ := hV
 refine R hS ?_
 obtain ⟨hi_313, hV⟩ := hV
 iterate 2 refine R hS ?_
 refine WL.nil ?_
 refine WQ.out nofun ?_
 replace hS := hS.f13.f13.f13.f13.f13.f13.f13.f13.f13.f13.f13.f13.f13
 exact Wt fun a ha => ⟨(c_306, b_286, (b_286 + (2 * blockSize_187))), ⟨c_306, b_286, (b_286 + (2 * blockSize_187)), fp_307, rfl, hV.1, h_308, hr_287, hi_313, hS, ha.os⟩, hV.2⟩
 intro hc_337
 replace hV := hV.2 (ov hc_337)
 refine WC.exit ?_
 refine Wp ?_
 refine Wp ?_
 refine WQ.hit ?_
 refine WQ.next ?_
 obtain ⟨J_325, hJ_326, hV⟩ := hV
 refine WC.meet (fun a w => ∃ (data_322 : LI) (fp_323 : Seg), J_325 data_322 ∧ OwnSl H (cInt .i64) 3 v_2 data_322 fp_323 ∧ St w0 H (fp_323 ++ ([(b_10, oc #[(pq b_13)] 43)] ++ ([(b_13, oc #[i6 n_15, v_18, v_23, v_28, v_33, v_38, v_43, v_48, i6 head_52, v_55, u_60, v_63, .bool dead_67] 60)] ++ (fp_20 ++ (fp_25 ++ (fp_30 ++ (fp_35 ++ (fp_40 ++ (fp_45 ++ (fp_50 ++ (fp_57 ++ (fp_65 ++ (fp_70 ++ L))))))))))))) w ∧ Fr 63 [(0, v_2), (1, i6 n_6), (2, .func (.func 46) #[] #[(pq b_10)]), (6, i6 blockSize_187)] a) ?_ ?_
 rintro a w ⟨data_322, fp_323, hI, h_324, hS, ha⟩
 refine in_frame ha ?_
 clear ha hV
 have hV := hJ_326 _ hI
 clear hI hJ_326
 refine WC.region ?_
 refine R hS ?_
 obtain ⟨hi_336, hV⟩ := hV
 iterate 2 refine R hS ?_
 refine WL.nil ?_
 refine WQ.out nofun ?_
 replace hS := hS.f13.f13.f13.f13.f13.f13.f13.f13.f13.f13.f13.f13.f13
 exact Wt fun a ha => ⟨(data_322, (blockSize_187 * 2)), ⟨data_322, (blockSize_187 * 2), fp_323, rfl, hV.1, h_324, hi_336, hS, ha.os⟩, hV.2⟩
 clear hJ_326
 refine WC.sr ?_
 iterate 2 refine R hS ?_
 obtain ⟨hi_328, hV⟩ := hV
 iterate 2 refine R hS ?_
 refine WL.nx ?_
 refine WC.sr ?_
 iterate 3 refine R hS ?_
 refine WL.nx ?_
 refine Cd ?_ ?_
 intro hc_334
 replace hV := hV.1 (od hc_334)
 refine WC.region ?_
 iterate 5 refine R hS ?_
 replace hS := hS.f13.f13.f13.f13.f13.f13.f13.f13.f13.f13.f13.f13.f13
 obtain ⟨mf, hV⟩ := hV
 refine Rc (enters0 (vs := [v_2, i6 a_284, i6 (a_284 + blockSize_187), i6 n_6, .func (.func 46) #[] #[(pq b_10)]]) call69 ⟨rfl, rfl, rfl, rfl, rfl, trivial⟩) (S_symSF mf  h_283 hr_285 hi_328 hr_7 hr_16 h_19 h_24 h_29 h_34 h_39 h_44 h_49 hr_53 h_56 h_61 h_64 hA_69 hS hV) ?_
 clear hV hS
 rintro _ w ⟨c_330, fp_331, hV, rfl, h_332, hS⟩
 refine ⟨_, rfl, ?_⟩
 refine WL.nil ?_
 replace hS := hS.f13.f13.f13.f13.f13.f13.f13.f13.f13.f13.f13.f13.f13
 exact Wt fun a ha => ⟨c_330, fp_331, hV, h_332, hS, ha.os⟩
 intro hc_334
 replace hV := hV.2 (ov hc_334)
 refine WC.skip ?_
 replace hS := hS.f13.f13.f13.f13.f13.f13.f13.f13.f13.f13.f13.f13.f13
 exact Wt fun a ha => ⟨data_281, fp_282, hV, h_283, hS, ha.os⟩
 intro hc_339
 replace hV := hV.2 (ov hc_339)
 refine WC.exit ?_
 refine Wp ?_
 refine Wp ?_
 refine WQ.hit ?_
 replace hS := hS.f13.f13.f13.f13.f13.f13.f13.f13.f13.f13.f13.f13.f13
 exact leave0 (.inr rfl) rfl (⟨data_184, fp_185, hV, rfl, h_186, hS⟩)

theorem S_SortSF {w0 : World} {H : View} {L : Seg} {w : World} {v_2 : Value} {x_1 : LI} {fp_4 : Seg} {b_8 : Nat} {b_11 : Nat} {n_13 : Int} {v_16 : Value} {clauses_15 : List Raw} {fp_18 : Seg} {v_21 : Value} {watch_20 : List (Int × Raw)} {fp_23 : Seg} {v_26 : Value} {value_25 : LI} {fp_28 : Seg} {v_31 : Value} {level_30 : LI} {fp_33 : Seg} {v_36 : Value} {reason_35 : LI} {fp_38 : Seg} {v_41 : Value} {trail_40 : LI} {fp_43 : Seg} {v_46 : Value} {starts_45 : LI} {fp_48 : Seg} {head_50 : Int} {v_53 : Value} {heat_52 : List Unit} {fp_55 : Seg} {u_58 : Value} {v_61 : Value} {proof_60 : List (Bool × LI)} {fp_63 : Seg} {dead_65 : Bool} {A_70 : Arena} {fp_68 : Seg} {Q : LI → Prop} (h_3 : OwnSl H (cInt .i64) 3 v_2 x_1 fp_4) (hr_14 : I64 n_13) (h_17 : OwnSl H cRaw 23 v_16 clauses_15 fp_18) (h_22 : OwnMp H kInt cRaw v_21 watch_20 fp_23) (h_27 : OwnSl H (cInt .i64) 3 v_26 value_25 fp_28) (h_32 : OwnSl H (cInt .i64) 3 v_31 level_30 fp_33) (h_37 : OwnSl H (cInt .i64) 3 v_36 reason_35 fp_38) (h_42 : OwnSl H (cInt .i64) 3 v_41 trail_40 fp_43) (h_47 : OwnSl H (cInt .i64) 3 v_46 starts_45 fp_48) (hr_51 : I64 head_50) (h_54 : OwnSl H cF 58 v_53 heat_52 fp_55) (h_59 : IsF u_58) (h_62 : OwnSl H (cPair cBool (cSl (cInt .i64))) 50 v_61 proof_60 fp_63) (hA_67 : IsAr 3 A_70 fp_68) (hS : St w0 H (fp_4 ++ ([(b_8, oc #[(pq b_11)] 43)] ++ ([(b_11, oc #[i6 n_13, v_16, v_21, v_26, v_31, v_36, v_41, v_46, i6 head_50, v_53, u_58, v_61, .bool dead_65] 60)] ++ (fp_18 ++ (fp_23 ++ (fp_28 ++ (fp_33 ++ (fp_38 ++ (fp_43 ++ (fp_48 ++ (fp_55 ++ (fp_63 ++ (fp_68 ++ L))))))))))))) w) (hV : V_SortSF x_1 n_13 clauses_15 watch_20 value_25 level_30 reason_35 trail_40 starts_45 head_50 heat_52 proof_60 dead_65 A_70 Q) :
 Calls Tryz.prog 45 #[v_2, .func (.func 46) #[] #[(pq b_8)]] w fun e w' => ∃ (r1 : LI) (fp1 : Seg), Q r1 ∧ e = .returned (.tuple #[]) ∧ OwnSl H (cInt .i64) 3 v_2 r1 fp1 ∧ St w0 H (fp1 ++ ([(b_8, oc #[(pq b_11)] 43)] ++ ([(b_11, oc #[i6 n_13, v_16, v_21, v_26, v_31, v_36, v_41, v_46, i6 head_50, v_53, u_58, v_61, .bool dead_65] 60)] ++ (fp_18 ++ (fp_23 ++ (fp_28 ++ (fp_33 ++ (fp_38 ++ (fp_43 ++ (fp_48 ++ (fp_55 ++ (fp_63 ++ (fp_68 ++ L))))))))))))) w' := by
 unfold V_SortSF at hV
 refine enter func45 rfl ntmps45 rfl (lk_args_cons (d := 0) (v := v_2) rfl (lk_args_cons (d := 1) (v := .func (.func 46) #[] #[(pq b_8)]) rfl (lk_args_nil _))) ?_
 refine WC.region ?_
 iterate 2 refine R hS ?_
 have hl_71 : Len x_1 := h_3.bound
 replace hV := hV hl_71
 refine Rn hS (ex_len_own underlying23 rfl h_3) ?_
 refine R hS ?_
 replace hS := hS.f13.f13.f13.f13.f13.f13.f13.f13.f13.f13.f13.f13.f13
 refine Rc (enters0 (vs := [v_2, i6 (x_1.length : Int), .func (.func 46) #[] #[(pq b_8)]]) call60 ⟨rfl, rfl, rfl, trivial⟩) (S_stabSF  h_3 (Len.i64 hl_71) hr_14 h_17 h_22 h_27 h_32 h_37 h_42 h_47 hr_51 h_54 h_59 h_62 hA_67 hS hV) ?_
 clear hV hS
 rintro _ w ⟨c_72, fp_73, hV, rfl, h_74, hS⟩
 refine ⟨_, rfl, ?_⟩
 refine WL.nil ?_
 replace hS := hS.f13.f13.f13.f13.f13.f13.f13.f13.f13.f13.f13.f13.f13
 exact leave0 (.inr rfl) rfl (⟨c_72, fp_73, hV, rfl, h_74, hS⟩)

theorem S_set {w0 : World} {H : View} {L : Seg} {w : World} {b_2 : Nat} {n_4 : Int} {v_7 : Value} {clauses_6 : List Raw} {fp_9 : Seg} {v_12 : Value} {watch_11 : List (Int × Raw)} {fp_14 : Seg} {v_17 : Value} {value_16 : LI} {fp_19 : Seg} {v_22 : Value} {level_21 : LI} {fp_24 : Seg} {v_27 : Value} {reason_26 : LI} {fp_29 : Seg} {v_32 : Value} {trail_31 : LI} {fp_34 : Seg} {v_37 : Value} {starts_36 : LI} {fp_39 : Seg} {head_41 : Int} {v_44 : Value} {heat_43 : List Unit} {fp_46 : Seg} {u_49 : Value} {v_52 : Value} {proof_51 : List (Bool × LI)} {fp_54 : Seg} {dead_56 : Bool} {A_61 : Arena} {fp_59 : Seg} {l_62 : Int} {reason_64 : Int} {Q : LI → LI → LI → LI → Prop} (hr_5 : I64 n_4) (h_8 : OwnSl H cRaw 23 v_7 clauses_6 fp_9) (h_13 : OwnMp H kInt cRaw v_12 watch_11 fp_14) (h_18 : OwnSl H (cInt .i64) 3 v_17 value_16 fp_19) (h_23 : OwnSl H (cInt .i64) 3 v_22 level_21 fp_24) (h_28 : OwnSl H (cInt .i64) 3 v_27 reason_26 fp_29) (h_33 : OwnSl H (cInt .i64) 3 v_32 trail_31 fp_34) (h_38 : OwnSl H (cInt .i64) 3 v_37 starts_36 fp_39) (hr_42 : I64 head_41) (h_45 : OwnSl H cF 58 v_44 heat_43 fp_46) (h_50 : IsF u_49) (h_53 : OwnSl H (cPair cBool (cSl (cInt .i64))) 50 v_52 proof_51 fp_54) (hA_58 : IsAr 3 A_61 fp_59) (hr_63 : I64 l_62) (hr_65 : I64 reason_64) (hS : St w0 H ([(b_2, oc #[i6 n_4, v_7, v_12, v_17, v_22, v_27, v_32, v_37, i6 head_41, v_44, u_49, v_52, .bool dead_56] 60)] ++ (fp_9 ++ (fp_14 ++ (fp_19 ++ (fp_24 ++ (fp_29 ++ (fp_34 ++ (fp_39 ++ (fp_46 ++ (fp_54 ++ (fp_59 ++ L))))))))))) w) (hV : V_set n_4 clauses_6 watch_11 value_16 level_21 reason_26 trail_31 starts_36 head_41 heat_43 proof_51 dead_56 A_61 l_62 reason_64 Q) :
 Calls Tryz.prog 31 #[(pq b_2), i6 l_62, i6 reason_64] w fun e w' => ∃ (r1 : LI) (r2 : LI) (r3 : LI) (r4 : LI) (v1 : Value) (fp1 : Seg) (v2 : Value) (fp2 : Seg) (v3 : Value) (fp3 : Seg) (v4 : Value) (fp4 : Seg), Q r1 r2 r3 r4 ∧ e = .returned (.tuple #[]) ∧ OwnSl H (cInt .i64) 3 v1 r1 fp1 ∧ OwnSl H (cInt .i64) 3 v2 r2 fp2 ∧ OwnSl H (cInt .i64) 3 v3 r3 fp3 ∧ OwnSl H (cInt .i64) 3 v4 r4 fp4 ∧ St w0 H ([(b_2, oc #[i6 n_4, v_7, v_12, v1, v2, v3, v4, v_37, i6 head_41, v_44, u_49, v_52, .bool dead_56] 60)] ++ (fp_9 ++ (fp_14 ++ (fp1 ++ (fp2 ++ (fp3 ++ (fp4 ++ (fp_39 ++ (fp_46 ++ (fp_54 ++ (fp_59 ++ L))))))))))) w' := by
 unfold V_set at hV
 refine enter func31 rfl ntmps31 rfl (lk_args_cons (d := 0) (v := (pq b_2)) rfl (lk_args_cons (d := 1) (v := i6 l_62) rfl (lk_args_cons (d := 2) (v := i6 reason_64) rfl (lk_args_nil _)))) ?_
 refine WC.sr ?_
 iterate 2 refine R hS ?_
 obtain ⟨hi_66, hV⟩ := hV
 iterate 3 refine R hS ?_
 refine WL.nx ?_
 refine WC.sr ?_
 iterate 5 refine R hS ?_
 obtain ⟨hin_67, hV⟩ := hV
 refine Rx hS (ex_index_own underlying23 sizeOf3 rfl rfl h_18 hin_67) ?_
 intro p_68 hp_69
 replace hS := hS.f4
 refine WL.store_own sizeOf3 rfl rfl rfl (cInt_mk (I64.has (by unfold I64; omega))) hS h_18 hp_69 hin_67 ?_
 clear hS
 intro w fp_71 h_70 hS
 refine WL.nx ?_
 refine Sb [(0, (pq b_2)), (1, i6 l_62), (2, i6 reason_64), (6, i6 (max l_62 (-l_62)))] ?_
 obtain ⟨J_84, hJ_85, hV⟩ := hV
 refine WC.meet (fun a w => ∃ (c_80 : LI) (v_81 : Value) (fp_82 : Seg), J_84 c_80 ∧ OwnSl H (cInt .i64) 3 v_81 c_80 fp_82 ∧ St w0 H ([(b_2, oc #[i6 n_4, v_7, v_12, v_81, v_22, v_27, v_32, v_37, i6 head_41, v_44, u_49, v_52, .bool dead_56] 60)] ++ (fp_9 ++ (fp_14 ++ (fp_82 ++ (fp_24 ++ (fp_29 ++ (fp_34 ++ (fp_39 ++ (fp_46 ++ (fp_54 ++ (fp_59 ++ L))))))))))) w ∧ Fr 53 [(0, (pq b_2)), (1, i6 l_62), (2, i6 reason_64), (6, i6 (max l_62 (-l_62)))] a) ?_ ?_
 rintro a w ⟨c_80, v_81, fp_82, hI, h_83, hS, ha⟩
 refine in_frame ha ?_
 clear ha hV
 have hV := hJ_85 _ hI
 clear hI hJ_85
 refine WC.seq ?_
 refine WC.drawn (σ := [0, 1, 2, 3, 4, 5, 6, 7, 8, 9, 10, 11, 12, 13, 14, 15, 16, 17, 18, 19]) (C := St w0 H ([(b_2, oc #[i6 n_4, v_7, v_12, v_81, v_22, v_27, v_32, v_37, i6 head_41, v_44, u_49, v_52, .bool dead_56] 60)] ++ (fp_9 ++ (fp_14 ++ (fp_82 ++ (fp_24 ++ (fp_29 ++ (fp_34 ++ (fp_39 ++ (fp_46 ++ (fp_54 ++ (fp_59 ++ L)))))))))))) [[], [0], [0, 1], [0, 1, 2], [], [], [5], [5, 6], [5, 6, 7], [], [], [10], [10, 11], [10, 11, 12], [10, 11, 12, 13], [], [0, 1, 2, 3, 4, 5, 6, 7, 8, 10, 11, 12, 13, 14], [0, 1, 2, 3, 4, 5, 6, 7, 8, 10, 11, 12, 13, 14, 16], [0, 1, 2, 3, 4, 5, 6, 7, 8, 9, 10, 11, 12, 13, 14, 15, 16, 17], [0, 1, 2, 3, 4, 5, 6, 7, 8, 9, 10, 11, 12, 13, 14, 15, 16, 17, 18]] [17, 19] mixed (by kernel_rfl) (hS.drawn _) ?_
 clear hS w
 refine Dm fun q_94 hq_93 => ?_
 refine Wd.run rfl rfl rfl rfl (fun _ => ex_nilCheck rfl) fun q_96 hq_95 => ?_
 refine Wd.run rfl rfl rfl rfl (fun _ => ex_fieldAddr (o' := 4) underlying60 rfl sizeOf23 rfl rfl) fun q_98 hq_97 => ?_
 refine Wd.runb (off := 4) rfl rfl rfl rfl (fun _ _ _ h => ex_load_box isAgg23 rfl h) rfl (fun _ h => h) fun q_100 hq_99 => ?_
 refine Dm fun q_102 hq_101 => ?_
 refine Dm fun q_104 hq_103 => ?_
 refine Wd.run rfl rfl rfl rfl (fun _ => ex_nilCheck rfl) fun q_106 hq_105 => ?_
 refine Wd.run rfl rfl rfl rfl (fun _ => ex_fieldAddr (o' := 5) underlying60 rfl sizeOf23 rfl rfl) fun q_108 hq_107 => ?_
 refine Wd.runb (off := 5) rfl rfl rfl rfl (fun _ _ _ h => ex_load_box isAgg23 rfl h) rfl (fun _ h => h) fun q_110 hq_109 => ?_
 refine Dm fun q_112 hq_111 => ?_
 refine Dm fun q_114 hq_113 => ?_
 refine Wd.run rfl rfl rfl rfl (fun _ => ex_nilCheck rfl) fun q_116 hq_115 => ?_
 refine Wd.run rfl rfl rfl rfl (fun _ => ex_fieldAddr (o' := 7) underlying60 rfl sizeOf23 rfl rfl) fun q_118 hq_117 => ?_
 refine Wd.runb (off := 7) rfl rfl rfl rfl (fun _ _ _ h => ex_load_box isAgg23 rfl h) rfl (fun _ h => h) fun q_120 hq_119 => ?_
 have hl_123 : Len starts_36 := h_38.bound
 replace hV := hV hl_123
 refine Wd.run rfl rfl rfl rfl (fun _ => ex_len_own underlying23 rfl h_38) fun q_122 hq_121 => ?_
 refine Dm fun q_125 hq_124 => ?_
 obtain ⟨hin_128, hV⟩ := hV
 refine Wd.runx rfl rfl rfl rfl (exAll (ex_index_own underlying23 sizeOf3 rfl rfl h_23 hin_128)) ?_
 intro p_129 hp_130
 intro q_127 hq_126
 refine Wd.turn rfl rfl rfl fun w hS => ?_
 replace hS := hS.f5
 refine WL.store_own sizeOf3 rfl rfl rfl (cInt_mk (I64.has (Len.i64 hl_123))) hS h_23 hp_130 hin_128 ?_
 clear hS
 intro w fp_132 h_131 hS
 refine WL.nil (DQ.mk2 (C' := St w0 H (fp_132 ++ ([(b_2, oc #[i6 n_4, v_7, v_12, v_81, v_22, v_27, v_32, v_37, i6 head_41, v_44, u_49, v_52, .bool dead_56] 60)] ++ (fp_9 ++ (fp_14 ++ (fp_82 ++ (fp_29 ++ (fp_34 ++ (fp_39 ++ (fp_46 ++ (fp_54 ++ (fp_59 ++ L)))))))))))) hS ⟨il, .inr (hq_124 _), il, il, il, il, il, .inr (hq_111 _), il, il, il, il, il, il, il, il, il, trivial⟩ ?_)
 clear hS w
 obtain ⟨hin_135, hV⟩ := hV
 refine Wd.runx rfl rfl rfl rfl (exAll (ex_index_own underlying23 sizeOf3 rfl rfl h_28 hin_135)) ?_
 intro p_136 hp_137
 intro q_134 hq_133
 refine Wd.turn rfl rfl rfl fun w hS => ?_
 replace hS := hS.f6
 refine WL.store_own sizeOf3 rfl rfl rfl (cInt_mk (I64.has hr_65)) hS h_28 hp_137 hin_135 ?_
 clear hS
 intro w fp_139 h_138 hS
 refine WL.nil (DQ.mk2 (C' := St w0 H (fp_139 ++ (fp_132 ++ ([(b_2, oc #[i6 n_4, v_7, v_12, v_81, v_22, v_27, v_32, v_37, i6 head_41, v_44, u_49, v_52, .bool dead_56] 60)] ++ (fp_9 ++ (fp_14 ++ (fp_82 ++ (fp_34 ++ (fp_39 ++ (fp_46 ++ (fp_54 ++ (fp_59 ++ L)))))))))))) hS ⟨il, il, il, il, il, il, il, il, il, il, il, il, il, il, il, il, il, il, trivial⟩ ?_)
 clear hS w
 refine Wd.nil fun w hS => ?_
 refine WQ.next ?_
 refine Sb [(0, (pq b_2)), (1, i6 l_62)] ?_
 refine WC.region ?_
 iterate 4 refine R hS ?_
 replace hS := hS.f3
 iterate 2 refine R hS ?_
 refine WL.build1 (c := (cInt .i64)) rfl underlying23 info3 rfl rfl (cInt_mk (I64.has hr_63)) hS ?_
 clear hS
 intro v_141 w fp_142 h_143 hS
 obtain ⟨hr_144, hV⟩ := hV
 replace hS := hS.f8
 refine WL.append (c := (cInt .i64)) (xs := trail_31) (ys := ([l_62])) rfl underlying23 info3 rfl rfl rfl hS h_33 (h_143.src hS.f2) hr_144.1 hr_144.2 ?_
 clear hS
 intro v_145 w fp_146 h_147 hS
 iterate 2 refine R hS ?_
 replace hS := hS.f3
 refine St1 #[i6 n_4, v_7, v_12, v_81, v_22, v_27, v_145, v_37, i6 head_41, v_44, u_49, v_52, .bool dead_56] sizeOf23 hS ?_ (cs := [v_145]) (hc := (congrArg Array.toList (cells_one (OwnSl.one h_147)))) (hone := ⟨(OwnSl.one h_147), trivial⟩)
 clear hS
 intro w hS
 refine WL.nil ?_
 replace hS := hS.f3.drop
 replace hS := hS.f11.f11.f11.f11.f6.f7.f8.f11.f11.f11.f11
 exact leave0 (.inr rfl) rfl (⟨c_80, (level_21.set (max l_62 (-l_62)).toNat (starts_36.length : Int)), (reason_26.set (max l_62 (-l_62)).toNat reason_64), (trail_31 ++ ([l_62])), v_81, fp_82, v_22, fp_132, v_27, fp_139, v_145, fp_146, hV, rfl, h_83, h_131, h_138, h_147, hS⟩)
 clear hJ_85
 refine WC.sr ?_
 iterate 2 refine R hS ?_
 refine WL.nx ?_
 refine Cd ?_ ?_
 intro hc_92
 replace hV := hV.1 (od hc_92)
 refine WC.region ?_
 iterate 3 refine R hS ?_
 replace hS := hS.f2
 iterate 2 refine R hS ?_
 obtain ⟨hin_87, hV⟩ := hV
 refine Rx hS (ex_index_own underlying23 sizeOf3 rfl rfl h_70 hin_87) ?_
 intro p_88 hp_89
 replace hS := hS.f2
 refine WL.store_own sizeOf3 rfl rfl rfl (cInt_mk (I64.has (by unfold I64; omega))) hS h_70 hp_89 hin_87 ?_
 clear hS
 intro w fp_91 h_90 hS
 refine WL.nil ?_
 replace hS := hS.f11.f11.f11.f11.f11.f11.f11.f8.f11.f11.f11
 exact Wt fun a ha => ⟨((value_16.set (max l_62 (-l_62)).toNat 1).set (max l_62 (-l_62)).toNat (-1)), v_17, fp_91, hV, h_90, hS, ha.os⟩
 intro hc_92
 replace hV := hV.2 (ov hc_92)
 refine WC.skip ?_
 replace hS := hS.f11.f11.f11.f11.f11.f11.f11.f8.f11.f11.f11
 exact Wt fun a ha => ⟨(value_16.set (max l_62 (-l_62)).toNat 1), v_17, fp_71, hV, h_70, hS, ha.os⟩

theorem S_move {w0 : World} {H : View} {L : Seg} {w : World} {b_2 : Nat} {n_4 : Int} {v_7 : Value} {clauses_6 : List Raw} {fp_9 : Seg} {v_12 : Value} {watch_11 : List (Int × Raw)} {fp_14 : Seg} {v_17 : Value} {value_16 : LI} {fp_19 : Seg} {v_22 : Value} {level_21 : LI} {fp_24 : Seg} {v_27 : Value} {reason_26 : LI} {fp_29 : Seg} {v_32 : Value} {trail_31 : LI} {fp_34 : Seg} {v_37 : Value} {starts_36 : LI} {fp_39 : Seg} {head_41 : Int} {v_44 : Value} {heat_43 : List Unit} {fp_46 : Seg} {u_49 : Value} {v_52 : Value} {proof_51 : List (Bool × LI)} {fp_54 : Seg} {dead_56 : Bool} {A_61 : Arena} {fp_59 : Seg} {c_62 : Raw} {i_63 : Int} {l_65 : Int} {Q : Bool → (List (Int × Raw)) → Arena → Prop} (hr_5 : I64 n_4) (h_8 : OwnSl H cRaw 23 v_7 clauses_6 fp_9) (h_13 : OwnMp H kInt cRaw v_12 watch_11 fp_14) (h_18 : OwnSl H (cInt .i64) 3 v_17 value_16 fp_19) (h_23 : OwnSl H (cInt .i64) 3 v_22 level_21 fp_24) (h_28 : OwnSl H (cInt .i64) 3 v_27 reason_26 fp_29) (h_33 : OwnSl H (cInt .i64) 3 v_32 trail_31 fp_34) (h_38 : OwnSl H (cInt .i64) 3 v_37 starts_36 fp_39) (hr_42 : I64 head_41) (h_45 : OwnSl H cF 58 v_44 heat_43 fp_46) (h_50 : IsF u_49) (h_53 : OwnSl H (cPair cBool (cSl (cInt .i64))) 50 v_52 proof_51 fp_54) (hA_58 : IsAr 3 A_61 fp_59) (hr_64 : I64 i_63) (hr_66 : I64 l_65) (hS : St w0 H ([(b_2, oc #[i6 n_4, v_7, v_12, v_17, v_22, v_27, v_32, v_37, i6 head_41, v_44, u_49, v_52, .bool dead_56] 60)] ++ (fp_9 ++ (fp_14 ++ (fp_19 ++ (fp_24 ++ (fp_29 ++ (fp_34 ++ (fp_39 ++ (fp_46 ++ (fp_54 ++ (fp_59 ++ L))))))))))) w) (hV : V_move n_4 clauses_6 watch_11 value_16 level_21 reason_26 trail_31 starts_36 head_41 heat_43 proof_51 dead_56 A_61 c_62 i_63 l_65 Q) :
 Calls Tryz.prog 47 #[(pq b_2), rawV c_62, i6 i_63, i6 l_65] w fun e w' => ∃ (r1 : Bool) (r2 : List (Int × Raw)) (r3 : Arena) (fp2 : Seg) (fp3 : Seg), Q r1 r2 r3 ∧ e = .returned (.bool r1) ∧ OwnMp H kInt cRaw v_12 r2 fp2 ∧ IsAr 3 r3 fp3 ∧ St w0 H ([(b_2, oc #[i6 n_4, v_7, v_12, v_17, v_22, v_27, v_32, v_37, i6 head_41, v_44, u_49, v_52, .bool dead_56] 60)] ++ (fp_9 ++ (fp2 ++ (fp_19 ++ (fp_24 ++ (fp_29 ++ (fp_34 ++ (fp_39 ++ (fp_46 ++ (fp_54 ++ (fp3 ++ L))))))))))) w' := by
 unfold V_move at hV
 refine enter func47 rfl ntmps47 rfl (lk_args_cons (d := 0) (v := (pq b_2)) rfl (lk_args_cons (d := 1) (v := rawV c_62) rfl (lk_args_cons (d := 2) (v := i6 i_63) rfl (lk_args_cons (d := 3) (v := i6 l_65) rfl (lk_args_nil _))))) ?_
 refine WC.sr ?_
 refine R hS ?_
 refine WL.nx ?_
 refine WC.seq ?_
 refine WC.sr ?_
 iterate 2 refine R hS ?_
 obtain ⟨hin_67, hV⟩ := hV
 refine Rn hS (ex_r_index underlying23 sizeOf3 rfl rfl hin_67) ?_
 replace hS := hS.f11
 obtain ⟨hrd_68, hV⟩ := hV
 refine Rn hS (ex_r_load isAgg3 rfl hA_58 hrd_68) ?_
 replace hS := hS.f11.f11.f11.f11.f11.f11.f11.f11.f11.f11
 refine Rc (enters0 (vs := [(pq b_2), i6 (ag A_61 c_62 0)]) call32 ⟨rfl, rfl, trivial⟩) (S_of  hr_5 h_8 h_13 h_18 h_23 h_28 h_33 h_38 hr_42 h_45 h_50 h_53 hA_58 (IsAr.ag64 hA_58 _ _) hS hV) ?_
 clear hV hS
 rintro _ w ⟨r_70, hV, rfl, hr_71, hS⟩
 refine ⟨_, rfl, ?_⟩
 refine R hS ?_
 refine WL.nx ?_
 refine Cd ?_ ?_
 intro hc_398
 replace hV := hV.1 (od hc_398)
 refine WC.sr ?_
 refine R hS ?_
 refine WL.nx ?_
 refine Sb [(8, .bool false)] ?_
 refine WC.ret ?_
 refine Wp ?_
 replace hS := hS.f11.f11.f11.f11.f11.f11.f11.f11.f11.f11.f11
 exact leave1 rfl rfl (⟨false, watch_11, A_61, fp_14, fp_59, hV, rfl, h_13, hA_58, hS⟩)
 intro hc_398
 replace hV := hV.2 (ov hc_398)
 refine WC.skip ?_
 refine WQ.next ?_
 refine WC.seq ?_
 refine WC.sr ?_
 refine R hS ?_
 refine WL.nx ?_
 refine WC.block ?_
 replace hS := hS.f11.f11.f11.f11.f11.f11.f11.f11.f11.f11.f11
 obtain ⟨I_288, mu_289, hI_397, hV⟩ := hV
 refine WC.loop (σ := Int) (fun s a w => ∃ (k_180 : Int), s = k_180 ∧ I_288 k_180 ∧ I64 k_180 ∧ St w0 H ([(b_2, oc #[i6 n_4, v_7, v_12, v_17, v_22, v_27, v_32, v_37, i6 head_41, v_44, u_49, v_52, .bool dead_56] 60)] ++ (fp_9 ++ (fp_14 ++ (fp_19 ++ (fp_24 ++ (fp_29 ++ (fp_34 ++ (fp_39 ++ (fp_46 ++ (fp_54 ++ (fp_59 ++ L))))))))))) w ∧ Fr 59 [(0, (pq b_2)), (1, rawV c_62), (2, i6 i_63), (9, i6 k_180)] a) mu_289 2 ?_ ?_
 exact fun a ha => ⟨2, rfl, hI_397, (by unfold I64; omega), hS, ha.os⟩
 clear hS hI_397
 rintro k_180 a w ⟨_, rfl, hI, hr_181, hS, ha⟩
 refine in_frame ha ?_
 clear ha
 replace hV := hV _ hI
 clear hI
 refine WC.seq ?_
 refine WC.sr ?_
 iterate 2 refine R hS ?_
 obtain ⟨hl_291, hV⟩ := hV
 iterate 2 refine R hS ?_
 refine WL.nx ?_
 refine Cd ?_ ?_
 intro hc_396
 replace hV := hV.1 (od hc_396)
 refine WC.skip ?_
 refine WQ.next ?_
 refine WC.seq ?_
 refine WC.block ?_
 refine WC.sr ?_
 iterate 3 refine R hS ?_
 obtain ⟨hin_293, hV⟩ := hV
 refine Rn hS (ex_r_index underlying23 sizeOf3 rfl rfl hin_293) ?_
 replace hS := hS.f11
 obtain ⟨hrd_294, hV⟩ := hV
 refine Rn hS (ex_r_load isAgg3 rfl hA_58 hrd_294) ?_
 replace hS := hS.f11.f11.f11.f11.f11.f11.f11.f11.f11.f11
 refine Rc (enters0 (vs := [(pq b_2), i6 (ag A_61 c_62 k_180)]) call32 ⟨rfl, rfl, trivial⟩) (S_of  hr_5 h_8 h_13 h_18 h_23 h_28 h_33 h_38 hr_42 h_45 h_50 h_53 hA_58 (IsAr.ag64 hA_58 _ _) hS hV) ?_
 clear hV hS
 rintro _ w ⟨r_296, hV, rfl, hr_297, hS⟩
 refine ⟨_, rfl, ?_⟩
 refine R hS ?_
 refine WL.nx ?_
 refine Sb [(0, (pq b_2)), (1, rawV c_62), (2, i6 i_63), (9, i6 k_180), (28, .bool (decide (0 ≤ r_296)))] ?_
 refine Cd ?_ ?_
 intro hc_395
 replace hV := hV.1 (od hc_395)
 refine WC.seq ?_
 refine WC.drawn (σ := [0, 1, 2, 3, 4, 5, 6, 7, 8, 9, 10, 11, 12, 13]) (C := St w0 H ([(b_2, oc #[i6 n_4, v_7, v_12, v_17, v_22, v_27, v_32, v_37, i6 head_41, v_44, u_49, v_52, .bool dead_56] 60)] ++ (fp_9 ++ (fp_14 ++ (fp_19 ++ (fp_24 ++ (fp_29 ++ (fp_34 ++ (fp_39 ++ (fp_46 ++ (fp_54 ++ (fp_59 ++ L)))))))))))) [[], [], [], [], [], [3, 4], [3, 4, 5], [], [7], [7, 8], [0, 3, 4, 5, 6, 7, 8, 9], [0, 3, 4, 5, 6, 7, 8, 9, 10], [0, 1, 2, 3, 4, 5, 6, 7, 8, 9, 10, 11], [0, 1, 2, 3, 4, 5, 6, 7, 8, 9, 10, 11, 12]] [11, 13] mixed (by kernel_rfl) (hS.drawn _) ?_
 clear hS w
 refine Dm fun q_301 hq_300 => ?_
 refine Dm fun q_303 hq_302 => ?_
 refine Dm fun q_305 hq_304 => ?_
 refine Dm fun q_307 hq_306 => ?_
 refine Dm fun q_309 hq_308 => ?_
 obtain ⟨hin_312, hV⟩ := hV
 refine Wd.run rfl rfl rfl rfl (fun _ => ex_r_index underlying23 sizeOf3 rfl rfl hin_312) fun q_311 hq_310 => ?_
 obtain ⟨hrd_315, hV⟩ := hV
 refine Wd.runr rfl rfl rfl rfl isAgg3 rfl hA_58 hrd_315 (fun _ h => St.f11 h) fun q_314 hq_313 => ?_
 refine Dm fun q_318 hq_317 => ?_
 obtain ⟨hin_321, hV⟩ := hV
 refine Wd.run rfl rfl rfl rfl (fun _ => ex_r_index underlying23 sizeOf3 rfl rfl hin_321) fun q_320 hq_319 => ?_
 obtain ⟨hrd_324, hV⟩ := hV
 refine Wd.runr rfl rfl rfl rfl isAgg3 rfl hA_58 hrd_324 (fun _ h => St.f11 h) fun q_323 hq_322 => ?_
 obtain ⟨hin_328, hV⟩ := hV
 refine Wd.run rfl rfl rfl rfl (fun _ => ex_r_index underlying23 sizeOf3 rfl rfl hin_328) fun q_327 hq_326 => ?_
 refine Wd.turn rfl rfl rfl fun w hS => ?_
 replace hS := hS.f11
 obtain ⟨hrd_329, hV⟩ := hV
 refine WL.r_store sizeOf3 rfl rfl (IsAr.ag64 hA_58 _ _) hS hA_58 hrd_329 ?_
 clear hS
 intro w fp_331 hA_330 hS
 refine WL.nil (DQ.mk2 (C' := St w0 H (fp_331 ++ ([(b_2, oc #[i6 n_4, v_7, v_12, v_17, v_22, v_27, v_32, v_37, i6 head_41, v_44, u_49, v_52, .bool dead_56] 60)] ++ (fp_9 ++ (fp_14 ++ (fp_19 ++ (fp_24 ++ (fp_29 ++ (fp_34 ++ (fp_39 ++ (fp_46 ++ (fp_54 ++ L)))))))))))) hS ⟨il, il, il, il, il, il, il, il, .inr (hq_304 _), .inr (hq_302 _), il, trivial⟩ ?_)
 clear hS w
 obtain ⟨hin_334, hV⟩ := hV
 refine Wd.run rfl rfl rfl rfl (fun _ => ex_r_index underlying23 sizeOf3 rfl rfl hin_334) fun q_333 hq_332 => ?_
 refine Wd.turn rfl rfl rfl fun w hS => ?_
 obtain ⟨hrd_335, hV⟩ := hV
 refine WL.r_store sizeOf3 rfl rfl (IsAr.ag64 hA_58 _ _) hS hA_330 hrd_335 ?_
 clear hS
 intro w fp_337 hA_336 hS
 refine WL.nil (DQ.mk2 (C' := St w0 H (fp_337 ++ ([(b_2, oc #[i6 n_4, v_7, v_12, v_17, v_22, v_27, v_32, v_37, i6 head_41, v_44, u_49, v_52, .bool dead_56] 60)] ++ (fp_9 ++ (fp_14 ++ (fp_19 ++ (fp_24 ++ (fp_29 ++ (fp_34 ++ (fp_39 ++ (fp_46 ++ (fp_54 ++ L)))))))))))) hS ⟨il, il, il, il, il, il, il, il, il, il, il, il, trivial⟩ ?_)
 clear hS w
 refine Wd.nil fun w hS => ?_
 refine WQ.next ?_
 refine Sb [(0, (pq b_2)), (1, rawV c_62), (2, i6 i_63)] ?_
 refine WC.seq ?_
 refine WC.drawn (σ := [0, 1, 2, 3, 4, 5, 6, 7, 8, 9, 10, 11, 12, 13, 14, 15, 16, 17, 18]) (C := St w0 H (fp_337 ++ ([(b_2, oc #[i6 n_4, v_7, v_12, v_17, v_22, v_27, v_32, v_37, i6 head_41, v_44, u_49, v_52, .bool dead_56] 60)] ++ (fp_9 ++ (fp_14 ++ (fp_19 ++ (fp_24 ++ (fp_29 ++ (fp_34 ++ (fp_39 ++ (fp_46 ++ (fp_54 ++ L)))))))))))) [[], [0], [0, 1], [0, 1, 2], [], [4], [4, 5], [], [7], [7, 8], [7, 8, 9], [], [11], [11, 12], [7, 8, 9, 10, 11, 12, 13], [], [15], [7, 8, 9, 10, 11, 12, 13, 14, 15, 16], [0, 1, 2, 3, 4, 5, 6, 7, 8, 9, 10, 11, 12, 13, 14, 15, 16, 17]] [16, 17, 18] mixed (by kernel_rfl) (hS.drawn _) ?_
 clear hS w
 refine Dm fun q_339 hq_338 => ?_
 refine Wd.run rfl rfl rfl rfl (fun _ => ex_nilCheck rfl) fun q_341 hq_340 => ?_
 refine Wd.run rfl rfl rfl rfl (fun _ => ex_fieldAddr (o' := 2) underlying60 rfl sizeOf56 rfl rfl) fun q_343 hq_342 => ?_
 refine Wd.runb (off := 2) rfl rfl rfl rfl (fun _ _ _ h => ex_load_box isAgg56 rfl h) rfl (fun _ h => St.f2 h) fun q_345 hq_344 => ?_
 refine Dm fun q_347 hq_346 => ?_
 obtain ⟨hin_350, hV⟩ := hV
 refine Wd.run rfl rfl rfl rfl (fun _ => ex_r_index underlying23 sizeOf3 rfl rfl hin_350) fun q_349 hq_348 => ?_
 obtain ⟨hrd_353, hV⟩ := hV
 refine Wd.runr rfl rfl rfl rfl isAgg3 rfl hA_336 hrd_353 (fun _ h => h) fun q_352 hq_351 => ?_
 refine Dm fun q_356 hq_355 => ?_
 refine Wd.run rfl rfl rfl rfl (fun _ => ex_nilCheck rfl) fun q_358 hq_357 => ?_
 refine Wd.run rfl rfl rfl rfl (fun _ => ex_fieldAddr (o' := 2) underlying60 rfl sizeOf56 rfl rfl) fun q_360 hq_359 => ?_
 refine Wd.runb (off := 2) rfl rfl rfl rfl (fun _ _ _ h => ex_load_box isAgg56 rfl h) rfl (fun _ h => St.f2 h) fun q_362 hq_361 => ?_
 refine Dm fun q_364 hq_363 => ?_
 obtain ⟨hin_367, hV⟩ := hV
 refine Wd.run rfl rfl rfl rfl (fun _ => ex_r_index underlying23 sizeOf3 rfl rfl hin_367) fun q_366 hq_365 => ?_
 obtain ⟨hrd_370, hV⟩ := hV
 refine Wd.runr rfl rfl rfl rfl isAgg3 rfl hA_336 hrd_370 (fun _ h => h) fun q_369 hq_368 => ?_
 refine Wd.runs (fp := fp_14) rfl rfl rfl rfl (ex_lookup (c := cRaw) (k := (ag (aset (aset A_61 c_62 1 (ag A_61 c_62 k_180)) c_62 k_180 (ag A_61 c_62 1)) c_62 1)) (d := rnil) underlying56 Tryz.key3 zeroValue23 rfl rfl rfl h_13) (fun _ h => St.f4 h) ?_
 intro u_374 hu_375
 obtain rfl := cRaw_rep hu_375
 intro q_373 hq_372
 refine Dm fun q_377 hq_376 => ?_
 refine Wd.turn rfl rfl rfl fun w hS => ?_
 refine WL.build1 (c := (cInt .i64)) rfl underlying23 info3 rfl rfl (cInt_mk (I64.has hr_64)) hS ?_
 clear hS
 intro v_379 w fp_380 h_381 hS
 refine WL.nil (DQ.mk2 (C' := St w0 H (fp_380 ++ (fp_337 ++ ([(b_2, oc #[i6 n_4, v_7, v_12, v_17, v_22, v_27, v_32, v_37, i6 head_41, v_44, u_49, v_52, .bool dead_56] 60)] ++ (fp_9 ++ (fp_14 ++ (fp_19 ++ (fp_24 ++ (fp_29 ++ (fp_34 ++ (fp_39 ++ (fp_46 ++ (fp_54 ++ L))))))))))))) hS ⟨il, .inr (hq_372 H (fp_380 ++ (fp_337 ++ ([(b_2, oc #[i6 n_4, v_7, v_12, v_17, v_22, v_27, v_32, v_37, i6 head_41, v_44, u_49, v_52, .bool dead_56] 60)] ++ (fp_9 ++ (fp_19 ++ (fp_24 ++ (fp_29 ++ (fp_34 ++ (fp_39 ++ (fp_46 ++ (fp_54 ++ L))))))))))) _ (View.le.refl _) (fun _ h => St.f5 h)), .inr (hq_368 H (fp_380 ++ ([(b_2, oc #[i6 n_4, v_7, v_12, v_17, v_22, v_27, v_32, v_37, i6 head_41, v_44, u_49, v_52, .bool dead_56] 60)] ++ (fp_9 ++ (fp_14 ++ (fp_19 ++ (fp_24 ++ (fp_29 ++ (fp_34 ++ (fp_39 ++ (fp_46 ++ (fp_54 ++ L))))))))))) _ _ _ hA_336 hrd_370 rfl (fun _ h => St.f2 h)), .inr (hq_365 _), .inr (hq_363 _), .inr (hq_361 H (fp_380 ++ (fp_337 ++ (fp_9 ++ (fp_14 ++ (fp_19 ++ (fp_24 ++ (fp_29 ++ (fp_34 ++ (fp_39 ++ (fp_46 ++ (fp_54 ++ L))))))))))) #[i6 n_4, v_7, v_12, v_17, v_22, v_27, v_32, v_37, i6 head_41, v_44, u_49, v_52, .bool dead_56] _ rfl (fun _ h => St.f3 h)), .inr (hq_359 _), .inr (hq_357 _), .inr (hq_355 _), .inr (hq_351 H (fp_380 ++ ([(b_2, oc #[i6 n_4, v_7, v_12, v_17, v_22, v_27, v_32, v_37, i6 head_41, v_44, u_49, v_52, .bool dead_56] 60)] ++ (fp_9 ++ (fp_14 ++ (fp_19 ++ (fp_24 ++ (fp_29 ++ (fp_34 ++ (fp_39 ++ (fp_46 ++ (fp_54 ++ L))))))))))) _ _ _ hA_336 hrd_353 rfl (fun _ h => St.f2 h)), .inr (hq_348 _), .inr (hq_346 _), .inr (hq_344 H (fp_380 ++ (fp_337 ++ (fp_9 ++ (fp_14 ++ (fp_19 ++ (fp_24 ++ (fp_29 ++ (fp_34 ++ (fp_39 ++ (fp_46 ++ (fp_54 ++ L))))))))))) #[i6 n_4, v_7, v_12, v_17, v_22, v_27, v_32, v_37, i6 head_41, v_44, u_49, v_52, .bool dead_56] _ rfl (fun _ h => St.f3 h)), .inr (hq_342 _), .inr (hq_340 _), .inr (hq_338 _), trivial⟩ ?_)
 clear hS w
 refine Wd.turn rfl rfl rfl fun w hS => ?_
 replace hS := hS.f2
 obtain ⟨hap_383, hV⟩ := hV
 obtain ⟨hr_382, hV⟩ := hV
 refine WL.r_append (ys := ([i_63])) rfl underlying23 info3 rfl rfl hS hA_336 (h_381.src hS.f2) hap_383 hr_382 ?_
 clear hS
 intro A_385 r_386 w fp_387 hap_388 hA_389 hS
 replace hV := hV A_385 r_386 hap_388
 obtain ⟨hst_390, hV⟩ := hV
 refine WL.nil (DQ.mk2 (C' := St w0 H (fp_387 ++ (fp_380 ++ ([(b_2, oc #[i6 n_4, v_7, v_12, v_17, v_22, v_27, v_32, v_37, i6 head_41, v_44, u_49, v_52, .bool dead_56] 60)] ++ (fp_9 ++ (fp_14 ++ (fp_19 ++ (fp_24 ++ (fp_29 ++ (fp_34 ++ (fp_39 ++ (fp_46 ++ (fp_54 ++ L))))))))))))) hS ⟨il, il, il, il, il, il, il, il, il, .inr (hq_351 H (fp_380 ++ ([(b_2, oc #[i6 n_4, v_7, v_12, v_17, v_22, v_27, v_32, v_37, i6 head_41, v_44, u_49, v_52, .bool dead_56] 60)] ++ (fp_9 ++ (fp_14 ++ (fp_19 ++ (fp_24 ++ (fp_29 ++ (fp_34 ++ (fp_39 ++ (fp_46 ++ (fp_54 ++ L))))))))))) _ _ _ hA_389 hst_390.1 hst_390.2 (fun _ h => h)), .inr (hq_348 _), .inr (hq_346 _), .inr (hq_344 H (fp_387 ++ (fp_380 ++ (fp_9 ++ (fp_14 ++ (fp_19 ++ (fp_24 ++ (fp_29 ++ (fp_34 ++ (fp_39 ++ (fp_46 ++ (fp_54 ++ L))))))))))) #[i6 n_4, v_7, v_12, v_17, v_22, v_27, v_32, v_37, i6 head_41, v_44, u_49, v_52, .bool dead_56] _ rfl (fun _ h => St.f3 h)), .inr (hq_342 _), .inr (hq_340 _), .inr (hq_338 _), trivial⟩ ?_)
 clear hS w
 refine Wd.turn rfl rfl rfl fun w hS => ?_
 replace hS := hS.f5
 refine WL.mapUpdate (k := (ag (aset (aset A_61 c_62 1 (ag A_61 c_62 k_180)) c_62 k_180 (ag A_61 c_62 1)) c_62 1)) (e := r_386) underlying56 Tryz.key3 (IsAr.ag64 hA_336 _ _) cRaw_mk rfl rfl rfl hS h_13 ?_
 clear hS
 intro w fp_391 h_392 hS
 refine WL.nil (DQ.mk2 (C' := St w0 H (fp_391 ++ (fp_387 ++ (fp_380 ++ ([(b_2, oc #[i6 n_4, v_7, v_12, v_17, v_22, v_27, v_32, v_37, i6 head_41, v_44, u_49, v_52, .bool dead_56] 60)] ++ (fp_9 ++ (fp_19 ++ (fp_24 ++ (fp_29 ++ (fp_34 ++ (fp_39 ++ (fp_46 ++ (fp_54 ++ L))))))))))))) hS ⟨il, il, il, il, il, il, il, il, il, il, il, il, il, il, il, il, trivial⟩ ?_)
 clear hS w
 refine Wd.nil fun w hS => ?_
 refine WQ.next ?_
 refine WC.sub (m := []) trivial ?_
 replace hS := hS.f3.drop
 refine WC.sr ?_
 refine R hS ?_
 refine WL.nx ?_
 refine WC.ret ?_
 refine WQ.out nofun ?_
 refine Wp ?_
 refine Wp ?_
 refine WQ.out nofun ?_
 refine Wp ?_
 replace hS := hS.f2.f11.f11.f11.f11.f11.f11.f11.f9.f11.f11
 exact leave1 rfl rfl (⟨true, (mset watch_11 (ag (aset (aset A_61 c_62 1 (ag A_61 c_62 k_180)) c_62 k_180 (ag A_61 c_62 1)) c_62 1) r_386), A_385, fp_391, fp_387, hV, rfl, h_392, hA_389, hS⟩)
 intro hc_395
 replace hV := hV.2 (ov hc_395)
 refine WC.skip ?_
 refine WQ.out nofun ?_
 refine WQ.next ?_
 refine WC.region ?_
 refine R hS ?_
 obtain ⟨hi_394, hV⟩ := hV
 iterate 2 refine R hS ?_
 refine WL.nil ?_
 replace hS := hS.f11.f11.f11.f11.f11.f11.f11.f11.f11.f11.f11
 exact Wt fun a ha => ⟨(k_180 + 1), ⟨(k_180 + 1), rfl, hV.1, hi_394, hS, ha.os⟩, hV.2⟩
 intro hc_396
 replace hV := hV.2 (ov hc_396)
 refine WC.exit ?_
 refine Wp ?_
 refine Wp ?_
 refine WQ.hit ?_
 refine WQ.next ?_
 refine WC.sr ?_
 refine R hS ?_
 refine WL.nx ?_
 refine WC.ret ?_
 replace hS := hS.f11.f11.f11.f11.f11.f11.f11.f11.f11.f11.f11
 exact leave1 rfl rfl (⟨false, watch_11, A_61, fp_14, fp_59, hV, rfl, h_13, hA_58, hS⟩)

theorem S_sfollow {w0 : World} {H : View} {L : Seg} {w : World} {b_2 : Nat} {n_4 : Int} {v_7 : Value} {clauses_6 : List Raw} {fp_9 : Seg} {v_12 : Value} {watch_11 : List (Int × Raw)} {fp_14 : Seg} {v_17 : Value} {value_16 : LI} {fp_19 : Seg} {v_22 : Value} {level_21 : LI} {fp_24 : Seg} {v_27 : Value} {reason_26 : LI} {fp_29 : Seg} {v_32 : Value} {trail_31 : LI} {fp_34 : Seg} {v_37 : Value} {starts_36 : LI} {fp_39 : Seg} {head_41 : Int} {v_44 : Value} {heat_43 : List Unit} {fp_46 : Seg} {u_49 : Value} {v_52 : Value} {proof_51 : List (Bool × LI)} {fp_54 : Seg} {dead_56 : Bool} {A_61 : Arena} {fp_59 : Seg} {Q : Int → (List (Int × Raw)) → LI → LI → LI → LI → Int → Arena → Prop} (hr_5 : I64 n_4) (h_8 : OwnSl H cRaw 23 v_7 clauses_6 fp_9) (h_13 : OwnMp H kInt cRaw v_12 watch_11 fp_14) (h_18 : OwnSl H (cInt .i64) 3 v_17 value_16 fp_19) (h_23 : OwnSl H (cInt .i64) 3 v_22 level_21 fp_24) (h_28 : OwnSl H (cInt .i64) 3 v_27 reason_26 fp_29) (h_33 : OwnSl H (cInt .i64) 3 v_32 trail_31 fp_34) (h_38 : OwnSl H (cInt .i64) 3 v_37 starts_36 fp_39) (hr_42 : I64 head_41) (h_45 : OwnSl H cF 58 v_44 heat_43 fp_46) (h_50 : IsF u_49) (h_53 : OwnSl H (cPair cBool (cSl (cInt .i64))) 50 v_52 proof_51 fp_54) (hA_58 : IsAr 3 A_61 fp_59) (hS : St w0 H ([(b_2, oc #[i6 n_4, v_7, v_12, v_17, v_22, v_27, v_32, v_37, i6 head_41, v_44, u_49, v_52, .bool dead_56] 60)] ++ (fp_9 ++ (fp_14 ++ (fp_19 ++ (fp_24 ++ (fp_29 ++ (fp_34 ++ (fp_39 ++ (fp_46 ++ (fp_54 ++ (fp_59 ++ L))))))))))) w) (hV : V_sfollow n_4 clauses_6 watch_11 value_16 level_21 reason_26 trail_31 starts_36 head_41 heat_43 proof_51 dead_56 A_61 Q) :
 Calls Tryz.prog 26 #[(pq b_2)] w fun e w' => ∃ (r1 : Int) (r2 : List (Int × Raw)) (r3 : LI) (r4 : LI) (r5 : LI) (r6 : LI) (r7 : Int) (r8 : Arena) (fp2 : Seg) (v3 : Value) (fp3 : Seg) (v4 : Value) (fp4 : Seg) (v5 : Value) (fp5 : Seg) (v6 : Value) (fp6 : Seg) (fp8 : Seg), Q r1 r2 r3 r4 r5 r6 r7 r8 ∧ e = .returned (i6 r1) ∧ I64 r1 ∧ OwnMp H kInt cRaw v_12 r2 fp2 ∧ OwnSl H (cInt .i64) 3 v3 r3 fp3 ∧ OwnSl H (cInt .i64) 3 v4 r4 fp4 ∧ OwnSl H (cInt .i64) 3 v5 r5 fp5 ∧ OwnSl H (cInt .i64) 3 v6 r6 fp6 ∧ I64 r7 ∧ IsAr 3 r8 fp8 ∧ St w0 H ([(b_2, oc #[i6 n_4, v_7, v_12, v3, v4, v5, v6, v_37, i6 r7, v_44, u_49, v_52, .bool dead_56] 60)] ++ (fp_9 ++ (fp2 ++ (fp3 ++ (fp4 ++ (fp5 ++ (fp6 ++ (fp_39 ++ (fp_46 ++ (fp_54 ++ (fp8 ++ L))))))))))) w' := by
 unfold V_sfollow at hV
 refine enter func26 rfl ntmps26 rfl (lk_args_cons (d := 0) (v := (pq b_2)) rfl (lk_args_nil _)) ?_
 refine WC.sr ?_
 refine R hS ?_
 refine WL.nx ?_
 refine WC.seq ?_
 refine WC.block ?_
 replace hS := hS.f11.f11.f11.f11.f11.f11.f11.f11.f11.f11.f11
 obtain ⟨I_2614, mu_2615, hI_3879, hV⟩ := hV
 refine WC.loop (σ := (List (Int × Raw)) × LI × LI × LI × LI × Int × Arena) (fun s a w => ∃ (c_1324 : List (Int × Raw)) (c_1328 : LI) (c_1333 : LI) (c_1338 : LI) (c_1343 : LI) (c_1347 : Int) (A_1349 : Arena) (fp_1325 : Seg) (v_1329 : Value) (fp_1330 : Seg) (v_1334 : Value) (fp_1335 : Seg) (v_1339 : Value) (fp_1340 : Seg) (v_1344 : Value) (fp_1345 : Seg) (fp_1350 : Seg), s = (c_1324, c_1328, c_1333, c_1338, c_1343, c_1347, A_1349) ∧ I_2614 (c_1324, c_1328, c_1333, c_1338, c_1343, c_1347, A_1349) ∧ OwnMp H kInt cRaw v_12 c_1324 fp_1325 ∧ OwnSl H (cInt .i64) 3 v_1329 c_1328 fp_1330 ∧ OwnSl H (cInt .i64) 3 v_1334 c_1333 fp_1335 ∧ OwnSl H (cInt .i64) 3 v_1339 c_1338 fp_1340 ∧ OwnSl H (cInt .i64) 3 v_1344 c_1343 fp_1345 ∧ I64 c_1347 ∧ IsAr 3 A_1349 fp_1350 ∧ St w0 H ([(b_2, oc #[i6 n_4, v_7, v_12, v_1329, v_1334, v_1339, v_1344, v_37, i6 c_1347, v_44, u_49, v_52, .bool dead_56] 60)] ++ (fp_9 ++ (fp_1325 ++ (fp_1330 ++ (fp_1335 ++ (fp_1340 ++ (fp_1345 ++ (fp_39 ++ (fp_46 ++ (fp_54 ++ (fp_1350 ++ L))))))))))) w ∧ Fr 125 [(0, (pq b_2))] a) mu_2615 (watch_11, value_16, level_21, reason_26, trail_31, head_41, A_61) ?_ ?_
 exact fun a ha => ⟨watch_11, value_16, level_21, reason_26, trail_31, head_41, A_61, fp_14, v_17, fp_19, v_22, fp_24, v_27, fp_29, v_32, fp_34, fp_59, rfl, hI_3879, h_13, h_18, h_23, h_28, h_33, hr_42, hA_58, hS, ha.os⟩
 clear hS hI_3879
 rintro _ a w ⟨c_1324, c_1328, c_1333, c_1338, c_1343, c_1347, A_1349, fp_1325, v_1329, fp_1330, v_1334, fp_1335, v_1339, fp_1340, v_1344, fp_1345, fp_1350, rfl, hI, h_1326, h_1331, h_1336, h_1341, h_1346, hr_1348, hA_1351, hS, ha⟩
 refine in_frame ha ?_
 clear ha
 replace hV := hV _ hI
 clear hI
 refine WC.seq ?_
 refine WC.seq ?_
 refine WC.quiet (C := St w0 H ([(b_2, oc #[i6 n_4, v_7, v_12, v_1329, v_1334, v_1339, v_1344, v_37, i6 c_1347, v_44, u_49, v_52, .bool dead_56] 60)] ++ (fp_9 ++ (fp_1325 ++ (fp_1330 ++ (fp_1335 ++ (fp_1340 ++ (fp_1345 ++ (fp_39 ++ (fp_46 ++ (fp_54 ++ (fp_1350 ++ L)))))))))))) mixed (by kernel_rfl) (hS.drawn _) ?_
 clear hS w
 iterate 8 refine Rq ?_
 have hl_2617 : Len c_1343 := h_1346.bound
 replace hV := hV hl_2617
 refine Rm (ex_len_own underlying23 rfl h_1346) ?_
 refine Rq ?_
 refine Wq.nil fun w hS => ?_
 refine WQ.next ?_
 refine Cd ?_ ?_
 intro hc_3878
 replace hV := hV.1 (od hc_3878)
 refine WC.skip ?_
 refine WQ.next ?_
 refine Sb [(0, (pq b_2))] ?_
 refine WC.block ?_
 refine WC.seq ?_
 refine WC.quiet (C := St w0 H ([(b_2, oc #[i6 n_4, v_7, v_12, v_1329, v_1334, v_1339, v_1344, v_37, i6 c_1347, v_44, u_49, v_52, .bool dead_56] 60)] ++ (fp_9 ++ (fp_1325 ++ (fp_1330 ++ (fp_1335 ++ (fp_1340 ++ (fp_1345 ++ (fp_39 ++ (fp_46 ++ (fp_54 ++ (fp_1350 ++ L)))))))))))) mixed (by kernel_rfl) (hS.drawn _) ?_
 clear hS w
 iterate 8 refine Rq ?_
 obtain ⟨hin_2619, hV⟩ := hV
 refine Wq.runx rfl rfl rfl (ex_index_own underlying23 sizeOf3 rfl rfl h_1346 hin_2619) ?_
 intro p_2620 hp_2621
 refine Wq.runx rfl rfl rfl (exQ (ex_load_own_s isAgg3 rfl rfl h_1346 hp_2621 hin_2619) _ (fun _ h => St.f7 h)) ?_
 intro u_2624 hu_2625
 obtain ⟨rfl, hr_2626⟩ := cInt_rep hu_2625
 replace hr_2626 := has_I64 hr_2626
 replace hV := hV hr_2626
 obtain ⟨hi_2627, hV⟩ := hV
 iterate 2 refine Rq ?_
 refine Wq.nil fun w hS => ?_
 refine WQ.next ?_
 refine Sb [(0, (pq b_2)), (3, i6 (-(ix c_1343 c_1347)))] ?_
 refine WC.sr ?_
 iterate 4 refine R hS ?_
 obtain ⟨hi_2629, hV⟩ := hV
 iterate 3 refine R hS ?_
 refine St1 #[i6 n_4, v_7, v_12, v_1329, v_1334, v_1339, v_1344, v_37, i6 (c_1347 + 1), v_44, u_49, v_52, .bool dead_56] sizeOf3 hS ?_
 clear hS
 intro w hS
 refine WL.nx ?_
 refine WC.sr ?_
 iterate 5 refine R hS ?_
 replace hS := hS.f3
 refine Rx hS (exNow (H := H) (L := [(b_2, oc #[i6 n_4, v_7, v_12, v_1329, v_1334, v_1339, v_1344, v_37, i6 (c_1347 + 1), v_44, u_49, v_52, .bool dead_56] 60)] ++ (fp_9 ++ (fp_1330 ++ (fp_1335 ++ (fp_1340 ++ (fp_1345 ++ (fp_39 ++ (fp_46 ++ (fp_54 ++ (fp_1350 ++ L)))))))))) (ex_lookup (c := cRaw) (k := (-(ix c_1343 c_1347))) (d := rnil) underlying56 Tryz.key3 zeroValue23 rfl rfl rfl h_1326)) ?_
 intro u_2630 hu_2631
 obtain rfl := cRaw_rep hu_2631
 refine R hS ?_
 refine WL.nx ?_
 refine Sb [(0, (pq b_2)), (3, i6 (-(ix c_1343 c_1347))), (4, rawV (mgetD c_1324 (-(ix c_1343 c_1347)) rnil))] ?_
 refine WC.sr ?_
 refine R hS ?_
 obtain ⟨hb_2632, hV⟩ := hV
 refine Rn hS (ex_r_hi underlying23 sizeOf3 rfl rfl hb_2632) ?_
 refine R hS ?_
 refine WL.nx ?_
 refine WC.seq ?_
 refine WC.sr ?_
 refine R hS ?_
 obtain ⟨hl_2633, hV⟩ := hV
 iterate 2 refine R hS ?_
 refine WL.nx ?_
 refine WC.block ?_
 replace hS := hS.f11.f11.f11.f11.f11.f11.f11.f11.f9.f11.f11
 obtain ⟨I_3469, mu_3470, hI_3877, hV⟩ := hV
 refine WC.loop (σ := (List (Int × Raw)) × LI × LI × LI × LI × Arena × Raw × Int) (fun s a w => ∃ (c_3037 : List (Int × Raw)) (c_3041 : LI) (c_3046 : LI) (c_3051 : LI) (c_3056 : LI) (A_3060 : Arena) (kept_3063 : Raw) (x_3064 : Int) (fp_3038 : Seg) (v_3042 : Value) (fp_3043 : Seg) (v_3047 : Value) (fp_3048 : Seg) (v_3052 : Value) (fp_3053 : Seg) (v_3057 : Value) (fp_3058 : Seg) (fp_3061 : Seg), s = (c_3037, c_3041, c_3046, c_3051, c_3056, A_3060, kept_3063, x_3064) ∧ I_3469 (c_3037, c_3041, c_3046, c_3051, c_3056, A_3060, kept_3063, x_3064) ∧ OwnMp H kInt cRaw v_12 c_3037 fp_3038 ∧ OwnSl H (cInt .i64) 3 v_3042 c_3041 fp_3043 ∧ OwnSl H (cInt .i64) 3 v_3047 c_3046 fp_3048 ∧ OwnSl H (cInt .i64) 3 v_3052 c_3051 fp_3053 ∧ OwnSl H (cInt .i64) 3 v_3057 c_3056 fp_3058 ∧ IsAr 3 A_3060 fp_3061 ∧ I64 x_3064 ∧ St w0 H ([(b_2, oc #[i6 n_4, v_7, v_12, v_3042, v_3047, v_3052, v_3057, v_37, i6 (c_1347 + 1), v_44, u_49, v_52, .bool dead_56] 60)] ++ (fp_9 ++ (fp_3038 ++ (fp_3043 ++ (fp_3048 ++ (fp_3053 ++ (fp_3058 ++ (fp_39 ++ (fp_46 ++ (fp_54 ++ (fp_3061 ++ L))))))))))) w ∧ Fr 125 [(0, (pq b_2)), (3, i6 (-(ix c_1343 c_1347))), (4, rawV (mgetD c_1324 (-(ix c_1343 c_1347)) rnil)), (5, rawV kept_3063), (46, rawV (mgetD c_1324 (-(ix c_1343 c_1347)) rnil)), (47, i6 ((mgetD c_1324 (-(ix c_1343 c_1347)) rnil).n : Int)), (48, i6 x_3064)] a) mu_3470 (c_1324, c_1328, c_1333, c_1338, c_1343, A_1349, (rhi (mgetD c_1324 (-(ix c_1343 c_1347)) rnil) 0), 0) ?_ ?_
 exact fun a ha => ⟨c_1324, c_1328, c_1333, c_1338, c_1343, A_1349, (rhi (mgetD c_1324 (-(ix c_1343 c_1347)) rnil) 0), 0, fp_1325, v_1329, fp_1330, v_1334, fp_1335, v_1339, fp_1340, v_1344, fp_1345, fp_1350, rfl, hI_3877, h_1326, h_1331, h_1336, h_1341, h_1346, hA_1351, (by unfold I64; omega), hS, ha.os⟩
 clear hS hI_3877
 rintro _ a w ⟨c_3037, c_3041, c_3046, c_3051, c_3056, A_3060, kept_3063, x_3064, fp_3038, v_3042, fp_3043, v_3047, fp_3048, v_3052, fp_3053, v_3057, fp_3058, fp_3061, rfl, hI, h_3039, h_3044, h_3049, h_3054, h_3059, hA_3062, hr_3065, hS, ha⟩
 refine in_frame ha ?_
 clear ha
 replace hV := hV _ hI
 clear hI
 refine WC.sr ?_
 refine R hS ?_
 refine WL.nx ?_
 refine WC.seq ?_
 refine Cd ?_ ?_
 intro hc_3876
 replace hV := hV.1 (od hc_3876)
 refine WC.skip ?_
 refine WQ.next ?_
 obtain ⟨J_3685, hJ_3686, hV⟩ := hV
 refine WC.meet (fun a w => ∃ (c_3658 : List (Int × Raw)) (c_3662 : LI) (c_3667 : LI) (c_3672 : LI) (c_3677 : LI) (A_3681 : Arena) (kept_3684 : Raw) (fp_3659 : Seg) (v_3663 : Value) (fp_3664 : Seg) (v_3668 : Value) (fp_3669 : Seg) (v_3673 : Value) (fp_3674 : Seg) (v_3678 : Value) (fp_3679 : Seg) (fp_3682 : Seg), J_3685 (c_3658, c_3662, c_3667, c_3672, c_3677, A_3681, kept_3684) ∧ OwnMp H kInt cRaw v_12 c_3658 fp_3659 ∧ OwnSl H (cInt .i64) 3 v_3663 c_3662 fp_3664 ∧ OwnSl H (cInt .i64) 3 v_3668 c_3667 fp_3669 ∧ OwnSl H (cInt .i64) 3 v_3673 c_3672 fp_3674 ∧ OwnSl H (cInt .i64) 3 v_3678 c_3677 fp_3679 ∧ IsAr 3 A_3681 fp_3682 ∧ St w0 H ([(b_2, oc #[i6 n_4, v_7, v_12, v_3663, v_3668, v_3673, v_3678, v_37, i6 (c_1347 + 1), v_44, u_49, v_52, .bool dead_56] 60)] ++ (fp_9 ++ (fp_3659 ++ (fp_3664 ++ (fp_3669 ++ (fp_3674 ++ (fp_3679 ++ (fp_39 ++ (fp_46 ++ (fp_54 ++ (fp_3682 ++ L))))))))))) w ∧ Fr 125 [(0, (pq b_2)), (3, i6 (-(ix c_1343 c_1347))), (4, rawV (mgetD c_1324 (-(ix c_1343 c_1347)) rnil)), (5, rawV kept_3684), (46, rawV (mgetD c_1324 (-(ix c_1343 c_1347)) rnil)), (47, i6 ((mgetD c_1324 (-(ix c_1343 c_1347)) rnil).n : Int)), (48, i6 x_3064)] a) ?_ ?_
 rintro a w ⟨c_3658, c_3662, c_3667, c_3672, c_3677, A_3681, kept_3684, fp_3659, v_3663, fp_3664, v_3668, fp_3669, v_3673, fp_3674, v_3678, fp_3679, fp_3682, hI, h_3660, h_3665, h_3670, h_3675, h_3680, hA_3683, hS, ha⟩
 refine in_frame ha ?_
 clear ha hV
 have hV := hJ_3686 _ hI
 clear hI hJ_3686
 refine WC.region ?_
 obtain ⟨hi_3873, hV⟩ := hV
 iterate 2 refine R hS ?_
 refine WL.nil ?_
 replace hS := hS.f11.f11.f11.f11.f11.f11.f11.f11.f11.f11.f11
 exact Wt fun a ha => ⟨(c_3658, c_3662, c_3667, c_3672, c_3677, A_3681, kept_3684, (x_3064 + 1)), ⟨c_3658, c_3662, c_3667, c_3672, c_3677, A_3681, kept_3684, (x_3064 + 1), fp_3659, v_3663, fp_3664, v_3668, fp_3669, v_3673, fp_3674, v_3678, fp_3679, fp_3682, rfl, hV.1, h_3660, h_3665, h_3670, h_3675, h_3680, hA_3683, hi_3873, hS, ha.os⟩, hV.2⟩
 clear hJ_3686
 refine WC.block ?_
 refine WC.sr ?_
 refine R hS ?_
 obtain ⟨hin_3687, hV⟩ := hV
 refine Rn hS (ex_r_index underlying23 sizeOf3 rfl rfl hin_3687) ?_
 replace hS := hS.f11
 obtain ⟨hrd_3688, hV⟩ := hV
 refine Rn hS (ex_r_load isAgg3 rfl hA_3062 hrd_3688) ?_
 iterate 2 refine R hS ?_
 refine WL.nx ?_
 refine WC.sr ?_
 iterate 3 refine R hS ?_
 replace hS := hS.f2
 iterate 2 refine R hS ?_
 obtain ⟨hin_3690, hV⟩ := hV
 refine Rx hS (ex_index_own underlying22 sizeOf23 rfl rfl h_8 hin_3690) ?_
 intro p_3691 hp_3692
 replace hS := hS.f3
 refine Rx hS (exNow (H := H) (L := [(b_2, oc #[i6 n_4, v_7, v_12, v_3042, v_3047, v_3052, v_3057, v_37, i6 (c_1347 + 1), v_44, u_49, v_52, .bool dead_56] 60)] ++ (fp_3061 ++ (fp_3038 ++ (fp_3043 ++ (fp_3048 ++ (fp_3053 ++ (fp_3058 ++ (fp_39 ++ (fp_46 ++ (fp_54 ++ L)))))))))) (ex_load_own_s isAgg23 rfl rfl h_8 hp_3692 hin_3690)) ?_
 intro u_3693 hu_3694
 obtain rfl := cRaw_rep hu_3694
 refine R hS ?_
 refine WL.nx ?_
 refine Sb [(0, (pq b_2)), (3, i6 (-(ix c_1343 c_1347))), (4, rawV (mgetD c_1324 (-(ix c_1343 c_1347)) rnil)), (5, rawV kept_3063), (6, i6 x_3064), (7, i6 (ag A_3060 (mgetD c_1324 (-(ix c_1343 c_1347)) rnil) x_3064)), (8, rawV (ix clauses_6 (ag A_3060 (mgetD c_1324 (-(ix c_1343 c_1347)) rnil) x_3064))), (46, rawV (mgetD c_1324 (-(ix c_1343 c_1347)) rnil)), (47, i6 ((mgetD c_1324 (-(ix c_1343 c_1347)) rnil).n : Int)), (48, i6 x_3064)] ?_
 obtain ⟨J_3750, hJ_3751, hV⟩ := hV
 refine WC.meet (fun a w => ∃ (A_3747 : Arena) (fp_3748 : Seg), J_3750 A_3747 ∧ IsAr 3 A_3747 fp_3748 ∧ St w0 H ([(b_2, oc #[i6 n_4, v_7, v_12, v_3042, v_3047, v_3052, v_3057, v_37, i6 (c_1347 + 1), v_44, u_49, v_52, .bool dead_56] 60)] ++ (fp_9 ++ (fp_3038 ++ (fp_3043 ++ (fp_3048 ++ (fp_3053 ++ (fp_3058 ++ (fp_39 ++ (fp_46 ++ (fp_54 ++ (fp_3748 ++ L))))))))))) w ∧ Fr 125 [(0, (pq b_2)), (3, i6 (-(ix c_1343 c_1347))), (4, rawV (mgetD c_1324 (-(ix c_1343 c_1347)) rnil)), (5, rawV kept_3063), (6, i6 x_3064), (7, i6 (ag A_3060 (mgetD c_1324 (-(ix c_1343 c_1347)) rnil) x_3064)), (8, rawV (ix clauses_6 (ag A_3060 (mgetD c_1324 (-(ix c_1343 c_1347)) rnil) x_3064))), (46, rawV (mgetD c_1324 (-(ix c_1343 c_1347)) rnil)), (47, i6 ((mgetD c_1324 (-(ix c_1343 c_1347)) rnil).n : Int)), (48, i6 x_3064)] a) ?_ ?_
 rintro a w ⟨A_3747, fp_3748, hI, hA_3749, hS, ha⟩
 refine in_frame ha ?_
 clear ha hV
 have hV := hJ_3751 _ hI
 clear hI hJ_3751
 refine WC.seq ?_
 refine WC.sr ?_
 iterate 4 refine R hS ?_
 replace hS := hS.f11.f11.f11.f11.f11.f11.f11.f11.f11.f11.f11
 refine Rc (enters0 (vs := [(pq b_2), rawV (ix clauses_6 (ag A_3060 (mgetD c_1324 (-(ix c_1343 c_1347)) rnil) x_3064)), i6 (ag A_3060 (mgetD c_1324 (-(ix c_1343 c_1347)) rnil) x_3064), i6 (-(ix c_1343 c_1347))]) call47 ⟨rfl, rfl, rfl, rfl, trivial⟩) (S_move  hr_5 h_8 h_3039 h_3044 h_3049 h_3054 h_3059 h_38 hi_2629 h_45 h_50 h_53 hA_3749 (IsAr.ag64 hA_3062 _ _) hi_2627 hS hV) ?_
 clear hV hS
 rintro _ w ⟨r_3804, m_3805, A_3808, fp_3806, fp_3809, hV, rfl, h_3807, hA_3810, hS⟩
 refine ⟨_, rfl, ?_⟩
 refine R hS ?_
 refine WL.nx ?_
 refine WC.sr ?_
 refine R hS ?_
 refine WL.nx ?_
 refine Cd ?_ ?_
 intro hc_3871
 replace hV := hV.1 hc_3871
 refine WC.exit ?_
 refine Wp ?_
 refine WQ.hit ?_
 replace hS := hS.f11.f11.f11.f11.f11.f11.f11.f11.f11.f11.f11
 exact Wt fun a ha => ⟨m_3805, c_3041, c_3046, c_3051, c_3056, A_3808, kept_3063, fp_3806, v_3042, fp_3043, v_3047, fp_3048, v_3052, fp_3053, v_3057, fp_3058, fp_3809, hV, h_3807, h_3044, h_3049, h_3054, h_3059, hA_3810, hS, ha.os⟩
 intro hc_3871
 replace hV := hV.2 hc_3871
 refine WC.skip ?_
 refine WQ.next ?_
 refine WC.sr ?_
 iterate 2 refine R hS ?_
 refine WL.build1 (c := (cInt .i64)) rfl underlying23 info3 rfl rfl (cInt_mk (I64.has (IsAr.ag64 hA_3062 _ _))) hS ?_
 clear hS
 intro v_3813 w fp_3814 h_3815 hS
 replace hS := hS.f12
 obtain ⟨hap_3817, hV⟩ := hV
 obtain ⟨hr_3816, hV⟩ := hV
 refine WL.r_append (ys := ([(ag A_3060 (mgetD c_1324 (-(ix c_1343 c_1347)) rnil) x_3064)])) rfl underlying23 info3 rfl rfl hS hA_3810 (h_3815.src hS.f2) hap_3817 hr_3816 ?_
 clear hS
 intro A_3819 r_3820 w fp_3821 hap_3822 hA_3823 hS
 replace hV := hV A_3819 r_3820 hap_3822
 refine R hS ?_
 refine WL.nx ?_
 refine Sb [(0, (pq b_2)), (3, i6 (-(ix c_1343 c_1347))), (4, rawV (mgetD c_1324 (-(ix c_1343 c_1347)) rnil)), (5, rawV r_3820), (6, i6 x_3064), (7, i6 (ag A_3060 (mgetD c_1324 (-(ix c_1343 c_1347)) rnil) x_3064)), (8, rawV (ix clauses_6 (ag A_3060 (mgetD c_1324 (-(ix c_1343 c_1347)) rnil) x_3064))), (46, rawV (mgetD c_1324 (-(ix c_1343 c_1347)) rnil)), (47, i6 ((mgetD c_1324 (-(ix c_1343 c_1347)) rnil).n : Int)), (48, i6 x_3064)] ?_
 replace hS := hS.f2.drop
 refine WC.sr ?_
 iterate 2 refine R hS ?_
 obtain ⟨hin_3824, hV⟩ := hV
 refine Rn hS (ex_r_index underlying23 sizeOf3 rfl rfl hin_3824) ?_
 obtain ⟨hrd_3825, hV⟩ := hV
 refine Rn hS (ex_r_load isAgg3 rfl hA_3823 hrd_3825) ?_
 replace hS := hS.f11.f11.f11.f11.f11.f11.f11.f11.f11.f11
 refine Rc (enters0 (vs := [(pq b_2), i6 (ag A_3819 (ix clauses_6 (ag A_3060 (mgetD c_1324 (-(ix c_1343 c_1347)) rnil) x_3064)) 0)]) call32 ⟨rfl, rfl, trivial⟩) (S_of  hr_5 h_8 h_3807 h_3044 h_3049 h_3054 h_3059 h_38 hi_2629 h_45 h_50 h_53 hA_3823 (IsAr.ag64 hA_3823 _ _) hS hV) ?_
 clear hV hS
 rintro _ w ⟨r_3827, hV, rfl, hr_3828, hS⟩
 refine ⟨_, rfl, ?_⟩
 refine WL.nx ?_
 refine WC.block ?_
 refine WC.sr ?_
 iterate 2 refine R hS ?_
 refine WL.nx ?_
 refine Cd ?_ ?_
 intro hc_3870
 replace hV := hV.1 (od hc_3870)
 refine WC.region ?_
 iterate 2 refine R hS ?_
 obtain ⟨hin_3831, hV⟩ := hV
 refine Rn hS (ex_r_index underlying23 sizeOf3 rfl rfl hin_3831) ?_
 replace hS := hS.f11
 obtain ⟨hrd_3832, hV⟩ := hV
 refine Rn hS (ex_r_load isAgg3 rfl hA_3823 hrd_3832) ?_
 refine R hS ?_
 replace hS := hS.f11.f11.f11.f11.f11.f11.f11.f11.f11.f11
 refine Rc (enters0 (vs := [(pq b_2), i6 (ag A_3819 (ix clauses_6 (ag A_3060 (mgetD c_1324 (-(ix c_1343 c_1347)) rnil) x_3064)) 0), i6 (ag A_3060 (mgetD c_1324 (-(ix c_1343 c_1347)) rnil) x_3064)]) call31 ⟨rfl, rfl, rfl, trivial⟩) (S_set  hr_5 h_8 h_3807 h_3044 h_3049 h_3054 h_3059 h_38 hi_2629 h_45 h_50 h_53 hA_3823 (IsAr.ag64 hA_3823 _ _) (IsAr.ag64 hA_3062 _ _) hS hV) ?_
 clear hV hS
 rintro _ w ⟨c_3834, c_3838, c_3842, c_3846, v_3835, fp_3836, v_3839, fp_3840, v_3843, fp_3844, v_3847, fp_3848, hV, rfl, h_3837, h_3841, h_3845, h_3849, hS⟩
 refine ⟨_, rfl, ?_⟩
 refine WL.nil ?_
 refine WQ.out nofun ?_
 refine WQ.out nofun ?_
 replace hS := hS.f11.f11.f11.f11.f11.f11.f11.f11.f11.f11.f11
 exact Wt fun a ha => ⟨m_3805, c_3834, c_3838, c_3842, c_3846, A_3819, r_3820, fp_3806, v_3835, fp_3836, v_3839, fp_3840, v_3843, fp_3844, v_3847, fp_3848, fp_3821, hV, h_3807, h_3837, h_3841, h_3845, h_3849, hA_3823, hS, ha.os⟩
 intro hc_3870
 replace hV := hV.2 (ov hc_3870)
 refine WC.sr ?_
 iterate 2 refine R hS ?_
 refine WL.nx ?_
 refine Cd ?_ ?_
 intro hc_3869
 replace hV := hV.1 (od hc_3869)
 refine WC.sr ?_
 iterate 3 refine R hS ?_
 obtain ⟨hi_3857, hV⟩ := hV
 refine R hS ?_
 obtain ⟨hb_3858, hV⟩ := hV
 refine Rn hS (ex_r_lo underlying23 sizeOf3 rfl rfl hb_3858) ?_
 replace hS := hS.f11
 obtain ⟨hsr_3861, hV⟩ := hV
 obtain ⟨hap_3860, hV⟩ := hV
 obtain ⟨hr_3859, hV⟩ := hV
 refine WL.r_append (ys := (aread A_3819 (rlo (mgetD c_1324 (-(ix c_1343 c_1347)) rnil) (x_3064 + 1)))) rfl underlying23 info3 rfl rfl hS hA_3823 (raw_src hA_3823 hS hsr_3861) hap_3860 hr_3859 ?_
 clear hS
 intro A_3862 r_3863 w fp_3864 hap_3865 hA_3866 hS
 replace hV := hV A_3862 r_3863 hap_3865
 refine R hS ?_
 refine WL.nx ?_
 refine Sb [(0, (pq b_2)), (3, i6 (-(ix c_1343 c_1347))), (5, rawV r_3863), (7, i6 (ag A_3060 (mgetD c_1324 (-(ix c_1343 c_1347)) rnil) x_3064))] ?_
 refine WC.sr ?_
 iterate 3 refine R hS ?_
 replace hS := hS.f2
 iterate 3 refine R hS ?_
 replace hS := hS.f4
 refine WL.mapUpdate (k := (-(ix c_1343 c_1347))) (e := r_3863) underlying56 Tryz.key3 hi_2627 cRaw_mk rfl rfl rfl hS h_3807 ?_
 clear hS
 intro w fp_3867 h_3868 hS
 refine WL.nx ?_
 refine WC.sr ?_
 iterate 2 refine R hS ?_
 refine WL.nx ?_
 refine Sb [(2, i6 (ag A_3060 (mgetD c_1324 (-(ix c_1343 c_1347)) rnil) x_3064))] ?_
 refine WC.ret ?_
 refine WQ.out nofun ?_
 refine WQ.out nofun ?_
 refine Wp ?_
 refine Wp ?_
 refine WQ.out nofun ?_
 refine Wp ?_
 refine WQ.out nofun ?_
 refine Wp ?_
 refine WQ.out nofun ?_
 refine Wp ?_
 replace hS := hS.f3.f11.f11.f11.f11.f11.f11.f11.f9.f11.f11
 exact leave1 rfl rfl (⟨(ag A_3060 (mgetD c_1324 (-(ix c_1343 c_1347)) rnil) x_3064), (mset m_3805 (-(ix c_1343 c_1347)) r_3863), c_3041, c_3046, c_3051, c_3056, (c_1347 + 1), A_3862, fp_3867, v_3042, fp_3043, v_3047, fp_3048, v_3052, fp_3053, v_3057, fp_3058, fp_3864, hV, rfl, (IsAr.ag64 hA_3062 _ _), h_3868, h_3044, h_3049, h_3054, h_3059, hi_2629, hA_3866, hS⟩)
 intro hc_3869
 replace hV := hV.2 (ov hc_3869)
 refine WC.skip ?_
 refine WQ.out nofun ?_
 refine WQ.out nofun ?_
 replace hS := hS.f11.f11.f11.f11.f11.f11.f11.f11.f11.f11.f11
 exact Wt fun a ha => ⟨m_3805, c_3041, c_3046, c_3051, c_3056, A_3819, r_3820, fp_3806, v_3042, fp_3043, v_3047, fp_3048, v_3052, fp_3053, v_3057, fp_3058, fp_3821, hV, h_3807, h_3044, h_3049, h_3054, h_3059, hA_3823, hS, ha.os⟩
 clear hJ_3751
 obtain ⟨J_3760, hJ_3761, hV⟩ := hV
 refine WC.meet (fun a w => ∃ (x_3759 : Bool), J_3760 x_3759 ∧ St w0 H ([(b_2, oc #[i6 n_4, v_7, v_12, v_3042, v_3047, v_3052, v_3057, v_37, i6 (c_1347 + 1), v_44, u_49, v_52, .bool dead_56] 60)] ++ (fp_9 ++ (fp_3038 ++ (fp_3043 ++ (fp_3048 ++ (fp_3053 ++ (fp_3058 ++ (fp_39 ++ (fp_46 ++ (fp_54 ++ (fp_3061 ++ L))))))))))) w ∧ Fr 125 [(0, (pq b_2)), (3, i6 (-(ix c_1343 c_1347))), (4, rawV (mgetD c_1324 (-(ix c_1343 c_1347)) rnil)), (5, rawV kept_3063), (6, i6 x_3064), (7, i6 (ag A_3060 (mgetD c_1324 (-(ix c_1343 c_1347)) rnil) x_3064)), (8, rawV (ix clauses_6 (ag A_3060 (mgetD c_1324 (-(ix c_1343 c_1347)) rnil) x_3064))), (46, rawV (mgetD c_1324 (-(ix c_1343 c_1347)) rnil)), (47, i6 ((mgetD c_1324 (-(ix c_1343 c_1347)) rnil).n : Int)), (48, i6 x_3064), (69, .bool x_3759)] a) ?_ ?_
 rintro a w ⟨x_3759, hI, hS, ha⟩
 refine in_frame ha ?_
 clear ha hV
 have hV := hJ_3761 _ hI
 clear hI hJ_3761
 refine Cd ?_ ?_
 intro hc_3803
 replace hV := hV.1 hc_3803
 refine WC.drawn (σ := [0, 1, 2, 3, 4, 5, 6, 7, 8, 9, 10, 11]) (C := St w0 H ([(b_2, oc #[i6 n_4, v_7, v_12, v_3042, v_3047, v_3052, v_3057, v_37, i6 (c_1347 + 1), v_44, u_49, v_52, .bool dead_56] 60)] ++ (fp_9 ++ (fp_3038 ++ (fp_3043 ++ (fp_3048 ++ (fp_3053 ++ (fp_3058 ++ (fp_39 ++ (fp_46 ++ (fp_54 ++ (fp_3061 ++ L)))))))))))) [[], [], [], [2], [2, 3], [], [5], [5, 6], [0, 2, 3, 4, 5, 6, 7], [0, 2, 3, 4, 5, 6, 7, 8], [0, 1, 2, 3, 4, 5, 6, 7, 8, 9], [0, 1, 2, 3, 4, 5, 6, 7, 8, 9, 10]] [9, 11] mixed (by kernel_rfl) (hS.drawn _) ?_
 clear hS w
 refine Dm fun q_3770 hq_3769 => ?_
 refine Dm fun q_3772 hq_3771 => ?_
 refine Dm fun q_3774 hq_3773 => ?_
 obtain ⟨hin_3777, hV⟩ := hV
 refine Wd.run rfl rfl rfl rfl (fun _ => ex_r_index underlying23 sizeOf3 rfl rfl hin_3777) fun q_3776 hq_3775 => ?_
 obtain ⟨hrd_3780, hV⟩ := hV
 refine Wd.runr rfl rfl rfl rfl isAgg3 rfl hA_3062 hrd_3780 (fun _ h => St.f11 h) fun q_3779 hq_3778 => ?_
 refine Dm fun q_3783 hq_3782 => ?_
 obtain ⟨hin_3786, hV⟩ := hV
 refine Wd.run rfl rfl rfl rfl (fun _ => ex_r_index underlying23 sizeOf3 rfl rfl hin_3786) fun q_3785 hq_3784 => ?_
 obtain ⟨hrd_3789, hV⟩ := hV
 refine Wd.runr rfl rfl rfl rfl isAgg3 rfl hA_3062 hrd_3789 (fun _ h => St.f11 h) fun q_3788 hq_3787 => ?_
 obtain ⟨hin_3793, hV⟩ := hV
 refine Wd.run rfl rfl rfl rfl (fun _ => ex_r_index underlying23 sizeOf3 rfl rfl hin_3793) fun q_3792 hq_3791 => ?_
 refine Wd.turn rfl rfl rfl fun w hS => ?_
 replace hS := hS.f11
 obtain ⟨hrd_3794, hV⟩ := hV
 refine WL.r_store sizeOf3 rfl rfl (IsAr.ag64 hA_3062 _ _) hS hA_3062 hrd_3794 ?_
 clear hS
 intro w fp_3796 hA_3795 hS
 refine WL.nil (DQ.mk2 (C' := St w0 H (fp_3796 ++ ([(b_2, oc #[i6 n_4, v_7, v_12, v_3042, v_3047, v_3052, v_3057, v_37, i6 (c_1347 + 1), v_44, u_49, v_52, .bool dead_56] 60)] ++ (fp_9 ++ (fp_3038 ++ (fp_3043 ++ (fp_3048 ++ (fp_3053 ++ (fp_3058 ++ (fp_39 ++ (fp_46 ++ (fp_54 ++ L)))))))))))) hS ⟨il, il, il, il, il, il, il, .inr (hq_3771 _), il, trivial⟩ ?_)
 clear hS w
 obtain ⟨hin_3799, hV⟩ := hV
 refine Wd.run rfl rfl rfl rfl (fun _ => ex_r_index underlying23 sizeOf3 rfl rfl hin_3799) fun q_3798 hq_3797 => ?_
 refine Wd.turn rfl rfl rfl fun w hS => ?_
 obtain ⟨hrd_3800, hV⟩ := hV
 refine WL.r_store sizeOf3 rfl rfl (IsAr.ag64 hA_3062 _ _) hS hA_3795 hrd_3800 ?_
 clear hS
 intro w fp_3802 hA_3801 hS
 refine WL.nil (DQ.mk2 (C' := St w0 H (fp_3802 ++ ([(b_2, oc #[i6 n_4, v_7, v_12, v_3042, v_3047, v_3052, v_3057, v_37, i6 (c_1347 + 1), v_44, u_49, v_52, .bool dead_56] 60)] ++ (fp_9 ++ (fp_3038 ++ (fp_3043 ++ (fp_3048 ++ (fp_3053 ++ (fp_3058 ++ (fp_39 ++ (fp_46 ++ (fp_54 ++ L)))))))))))) hS ⟨il, il, il, il, il, il, il, il, il, il, trivial⟩ ?_)
 clear hS w
 refine Wd.nil fun w hS => ?_
 replace hS := hS.f11.f11.f11.f11.f11.f11.f11.f11.f11.f11
 exact Wt fun a ha => ⟨(aset (aset A_3060 (ix clauses_6 (ag A_3060 (mgetD c_1324 (-(ix c_1343 c_1347)) rnil) x_3064)) 0 (ag A_3060 (ix clauses_6 (ag A_3060 (mgetD c_1324 (-(ix c_1343 c_1347)) rnil) x_3064)) 1)) (ix clauses_6 (ag A_3060 (mgetD c_1324 (-(ix c_1343 c_1347)) rnil) x_3064)) 1 (ag A_3060 (ix clauses_6 (ag A_3060 (mgetD c_1324 (-(ix c_1343 c_1347)) rnil) x_3064)) 0)), fp_3802, hV, hA_3801, hS, ha.os⟩
 intro hc_3803
 replace hV := hV.2 hc_3803
 refine WC.skip ?_
 replace hS := hS.f11.f11.f11.f11.f11.f11.f11.f11.f11.f11.f11
 exact Wt fun a ha => ⟨A_3060, fp_3061, hV, hA_3062, hS, ha.os⟩
 clear hJ_3761
 refine WC.region ?_
 refine R hS ?_
 obtain ⟨hl_3762, hV⟩ := hV
 iterate 3 refine R hS ?_
 rcases bft (decide (1 < ((ix clauses_6 (ag A_3060 (mgetD c_1324 (-(ix c_1343 c_1347)) rnil) x_3064)).n : Int))) with hg_3764 | hg_3764
 replace hV := hV.1 (od hg_3764)
 refine R hS ?_
 refine Ug hg_3764 ?_
 obtain ⟨hin_3765, hV⟩ := hV
 refine Rn hS (ex_r_index underlying23 sizeOf3 rfl rfl hin_3765) ?_
 refine Ug hg_3764 ?_
 replace hS := hS.f3
 obtain ⟨hrd_3766, hV⟩ := hV
 refine Rn hS (ex_r_load isAgg3 rfl hA_3062 hrd_3766) ?_
 iterate 3 refine R hS ?_
 refine WL.nil ?_
 replace hS := hS.f11.f11.f11.f11.f11.f11.f11.f11.f10.f11
 exact Wt fun a ha => ⟨decide ((ag A_3060 (ix clauses_6 (ag A_3060 (mgetD c_1324 (-(ix c_1343 c_1347)) rnil) x_3064)) 0) = (-(ix c_1343 c_1347))), hV, hS, ha.os⟩
 replace hV := hV.2 (ov hg_3764)
 iterate 6 refine R hS ?_
 refine WL.nil ?_
 replace hS := hS.f3.f11.f11.f11.f11.f11.f11.f11.f11.f10.f11
 exact Wt fun a ha => ⟨false, hV, hS, ha.os⟩
 intro hc_3876
 replace hV := hV.2 (ov hc_3876)
 refine WC.exit ?_
 refine Wp ?_
 refine Wp ?_
 refine WQ.hit ?_
 refine WQ.next ?_
 refine WC.region ?_
 iterate 6 refine R hS ?_
 replace hS := hS.f3
 refine WL.mapUpdate (k := (-(ix c_1343 c_1347))) (e := kept_3063) underlying56 Tryz.key3 hi_2627 cRaw_mk rfl rfl rfl hS h_3039 ?_
 clear hS
 intro w fp_3874 h_3875 hS
 refine WL.nil ?_
 refine WQ.out nofun ?_
 replace hS := hS.f11.f11.f11.f11.f11.f11.f11.f11.f9.f11.f11
 exact Wt fun a ha => ⟨((mset c_3037 (-(ix c_1343 c_1347)) kept_3063), c_3041, c_3046, c_3051, c_3056, (c_1347 + 1), A_3060), ⟨(mset c_3037 (-(ix c_1343 c_1347)) kept_3063), c_3041, c_3046, c_3051, c_3056, (c_1347 + 1), A_3060, fp_3874, v_3042, fp_3043, v_3047, fp_3048, v_3052, fp_3053, v_3057, fp_3058, fp_3061, rfl, hV.1, h_3875, h_3044, h_3049, h_3054, h_3059, hi_2629, hA_3062, hS, ha.os⟩, hV.2⟩
 intro hc_3878
 replace hV := hV.2 (ov hc_3878)
 refine WC.exit ?_
 refine Wp ?_
 refine Wp ?_
 refine WQ.hit ?_
 refine WQ.next ?_
 refine WC.sub (m := []) trivial ?_
 refine WC.sr ?_
 refine R hS ?_
 refine WL.nx ?_
 refine WC.ret ?_
 replace hS := hS.f11.f11.f11.f11.f11.f11.f11.f11.f11.f11.f11
 exact leave1 rfl rfl (⟨(-1), c_1324, c_1328, c_1333, c_1338, c_1343, c_1347, A_1349, fp_1325, v_1329, fp_1330, v_1334, fp_1335, v_1339, fp_1340, v_1344, fp_1345, fp_1350, hV, rfl, (by unfold I64; omega), h_1326, h_1331, h_1336, h_1341, h_1346, hr_1348, hA_1351, hS⟩)

theorem S_keep {w0 : World} {H : View} {L : Seg} {w : World} {b_2 : Nat} {n_4 : Int} {v_7 : Value} {clauses_6 : List Raw} {fp_9 : Seg} {v_12 : Value} {watch_11 : List (Int × Raw)} {fp_14 : Seg} {v_17 : Value} {value_16 : LI} {fp_19 : Seg} {v_22 : Value} {level_21 : LI} {fp_24 : Seg} {v_27 : Value} {reason_26 : LI} {fp_29 : Seg} {v_32 : Value} {trail_31 : LI} {fp_34 : Seg} {v_37 : Value} {starts_36 : LI} {fp_39 : Seg} {head_41 : Int} {v_44 : Value} {heat_43 : List Unit} {fp_46 : Seg} {u_49 : Value} {v_52 : Value} {proof_51 : List (Bool × LI)} {fp_54 : Seg} {dead_56 : Bool} {A_61 : Arena} {fp_59 : Seg} {c_62 : Raw} {Q : (List Raw) → (List (Int × Raw)) → Arena → Prop} (hr_5 : I64 n_4) (h_8 : OwnSl H cRaw 23 v_7 clauses_6 fp_9) (h_13 : OwnMp H kInt cRaw v_12 watch_11 fp_14) (h_18 : OwnSl H (cInt .i64) 3 v_17 value_16 fp_19) (h_23 : OwnSl H (cInt .i64) 3 v_22 level_21 fp_24) (h_28 : OwnSl H (cInt .i64) 3 v_27 reason_26 fp_29) (h_33 : OwnSl H (cInt .i64) 3 v_32 trail_31 fp_34) (h_38 : OwnSl H (cInt .i64) 3 v_37 starts_36 fp_39) (hr_42 : I64 head_41) (h_45 : OwnSl H cF 58 v_44 heat_43 fp_46) (h_50 : IsF u_49) (h_53 : OwnSl H (cPair cBool (cSl (cInt .i64))) 50 v_52 proof_51 fp_54) (hA_58 : IsAr 3 A_61 fp_59) (hS : St w0 H ([(b_2, oc #[i6 n_4, v_7, v_12, v_17, v_22, v_27, v_32, v_37, i6 head_41, v_44, u_49, v_52, .bool dead_56] 60)] ++ (fp_9 ++ (fp_14 ++ (fp_19 ++ (fp_24 ++ (fp_29 ++ (fp_34 ++ (fp_39 ++ (fp_46 ++ (fp_54 ++ (fp_59 ++ L))))))))))) w) (hV : V_keep n_4 clauses_6 watch_11 value_16 level_21 reason_26 trail_31 starts_36 head_41 heat_43 proof_51 dead_56 A_61 c_62 Q) :
 Calls Tryz.prog 30 #[(pq b_2), rawV c_62] w fun e w' => ∃ (r1 : List Raw) (r2 : List (Int × Raw)) (r3 : Arena) (v1 : Value) (fp1 : Seg) (fp2 : Seg) (fp3 : Seg), Q r1 r2 r3 ∧ e = .returned (.tuple #[]) ∧ OwnSl H cRaw 23 v1 r1 fp1 ∧ OwnMp H kInt cRaw v_12 r2 fp2 ∧ IsAr 3 r3 fp3 ∧ St w0 H ([(b_2, oc #[i6 n_4, v1, v_12, v_17, v_22, v_27, v_32, v_37, i6 head_41, v_44, u_49, v_52, .bool dead_56] 60)] ++ (fp1 ++ (fp2 ++ (fp_19 ++ (fp_24 ++ (fp_29 ++ (fp_34 ++ (fp_39 ++ (fp_46 ++ (fp_54 ++ (fp3 ++ L))))))))))) w' := by
 unfold V_keep at hV
 refine enter func30 rfl ntmps30 rfl (lk_args_cons (d := 0) (v := (pq b_2)) rfl (lk_args_cons (d := 1) (v := rawV c_62) rfl (lk_args_nil _))) ?_
 refine WC.sr ?_
 iterate 4 refine R hS ?_
 have hl_63 : Len clauses_6 := h_8.bound
 replace hV := hV hl_63
 refine Rn hS (ex_len_own underlying22 rfl h_8) ?_
 refine R hS ?_
 refine WL.nx ?_
 refine WC.sr ?_
 iterate 6 refine R hS ?_
 refine WL.build1 (c := cRaw) rfl underlying22 info23 rfl rfl cRaw_mk hS ?_
 clear hS
 intro v_65 w fp_66 h_67 hS
 obtain ⟨hr_68, hV⟩ := hV
 replace hS := hS.f3
 refine WL.append (c := cRaw) (xs := clauses_6) (ys := ([c_62])) rfl underlying22 info23 rfl rfl rfl hS h_8 (h_67.src hS.f2) hr_68.1 hr_68.2 ?_
 clear hS
 intro v_69 w fp_70 h_71 hS
 iterate 2 refine R hS ?_
 replace hS := hS.f3
 refine St1 #[i6 n_4, v_69, v_12, v_17, v_22, v_27, v_32, v_37, i6 head_41, v_44, u_49, v_52, .bool dead_56] sizeOf22 hS ?_ (cs := [v_69]) (hc := (congrArg Array.toList (cells_one (OwnSl.one h_71)))) (hone := ⟨(OwnSl.one h_71), trivial⟩)
 clear hS
 intro w hS
 refine WL.nx ?_
 refine Sb [(0, (pq b_2)), (1, rawV c_62), (4, i6 (clauses_6.length : Int))] ?_
 replace hS := hS.f3.drop
 refine WC.sr ?_
 iterate 2 refine R hS ?_
 obtain ⟨hl_73, hV⟩ := hV
 iterate 2 refine R hS ?_
 obtain ⟨hb_74, hV⟩ := hV
 refine Rn hS (ex_r_hi underlying23 sizeOf3 rfl rfl hb_74) ?_
 obtain ⟨hl_75, hV⟩ := hV
 iterate 2 refine R hS ?_
 refine WL.nx ?_
 refine WC.block ?_
 replace hS := hS.f11.f11.f11.f11.f11.f11.f11.f11.f11.f11.f11
 obtain ⟨I_178, mu_179, hI_228, hV⟩ := hV
 refine WC.loop (σ := (List (Int × Raw)) × Arena × Int) (fun s a w => ∃ (c_123 : List (Int × Raw)) (A_126 : Arena) (x_129 : Int) (fp_124 : Seg) (fp_127 : Seg), s = (c_123, A_126, x_129) ∧ I_178 (c_123, A_126, x_129) ∧ OwnMp H kInt cRaw v_12 c_123 fp_124 ∧ IsAr 3 A_126 fp_127 ∧ I64 x_129 ∧ St w0 H ([(b_2, oc #[i6 n_4, v_69, v_12, v_17, v_22, v_27, v_32, v_37, i6 head_41, v_44, u_49, v_52, .bool dead_56] 60)] ++ (fp_70 ++ (fp_124 ++ (fp_19 ++ (fp_24 ++ (fp_29 ++ (fp_34 ++ (fp_39 ++ (fp_46 ++ (fp_54 ++ (fp_127 ++ L))))))))))) w ∧ Fr 47 [(0, (pq b_2)), (4, i6 (clauses_6.length : Int)), (26, rawV (rhi c_62 (min 2 (c_62.n : Int)))), (27, i6 ((rhi c_62 (min 2 (c_62.n : Int))).n : Int)), (28, i6 x_129)] a) mu_179 (watch_11, A_61, 0) ?_ ?_
 exact fun a ha => ⟨watch_11, A_61, 0, fp_14, fp_59, rfl, hI_228, h_13, hA_58, (by unfold I64; omega), hS, ha.os⟩
 clear hS hI_228
 rintro _ a w ⟨c_123, A_126, x_129, fp_124, fp_127, rfl, hI, h_125, hA_128, hr_130, hS, ha⟩
 refine in_frame ha ?_
 clear ha
 replace hV := hV _ hI
 clear hI
 refine WC.sr ?_
 refine R hS ?_
 refine WL.nx ?_
 refine WC.seq ?_
 refine Cd ?_ ?_
 intro hc_227
 replace hV := hV.1 (od hc_227)
 refine WC.skip ?_
 refine WQ.next ?_
 refine WC.seq ?_
 refine WC.block ?_
 refine WC.sr ?_
 obtain ⟨hin_182, hV⟩ := hV
 refine Rn hS (ex_r_index underlying23 sizeOf3 rfl rfl hin_182) ?_
 replace hS := hS.f11
 obtain ⟨hrd_183, hV⟩ := hV
 refine Rn hS (ex_r_load isAgg3 rfl hA_128 hrd_183) ?_
 refine R hS ?_
 refine WL.nx ?_
 refine WC.drawn (σ := [0, 1, 2, 3, 4, 5, 6, 7, 8, 9, 10, 11, 12, 13, 14]) (C := St w0 H (fp_127 ++ ([(b_2, oc #[i6 n_4, v_69, v_12, v_17, v_22, v_27, v_32, v_37, i6 head_41, v_44, u_49, v_52, .bool dead_56] 60)] ++ (fp_70 ++ (fp_124 ++ (fp_19 ++ (fp_24 ++ (fp_29 ++ (fp_34 ++ (fp_39 ++ (fp_46 ++ (fp_54 ++ L)))))))))))) [[], [0], [0, 1], [0, 1, 2], [], [], [5], [5, 6], [5, 6, 7], [], [5, 6, 7, 8, 9], [], [11], [5, 6, 7, 8, 9, 10, 11, 12], [0, 1, 2, 3, 4, 5, 6, 7, 8, 9, 10, 11, 12, 13]] [12, 13, 14] mixed (by kernel_rfl) (hS.drawn _) ?_
 clear hS w
 refine Dm fun q_186 hq_185 => ?_
 refine Wd.run rfl rfl rfl rfl (fun _ => ex_nilCheck rfl) fun q_188 hq_187 => ?_
 refine Wd.run rfl rfl rfl rfl (fun _ => ex_fieldAddr (o' := 2) underlying60 rfl sizeOf56 rfl rfl) fun q_190 hq_189 => ?_
 refine Wd.runb (off := 2) rfl rfl rfl rfl (fun _ _ _ h => ex_load_box isAgg56 rfl h) rfl (fun _ h => St.f2 h) fun q_192 hq_191 => ?_
 refine Dm fun q_194 hq_193 => ?_
 refine Dm fun q_196 hq_195 => ?_
 refine Wd.run rfl rfl rfl rfl (fun _ => ex_nilCheck rfl) fun q_198 hq_197 => ?_
 refine Wd.run rfl rfl rfl rfl (fun _ => ex_fieldAddr (o' := 2) underlying60 rfl sizeOf56 rfl rfl) fun q_200 hq_199 => ?_
 refine Wd.runb (off := 2) rfl rfl rfl rfl (fun _ _ _ h => ex_load_box isAgg56 rfl h) rfl (fun _ h => St.f2 h) fun q_202 hq_201 => ?_
 refine Dm fun q_204 hq_203 => ?_
 refine Wd.runs (fp := fp_124) rfl rfl rfl rfl (ex_lookup (c := cRaw) (k := (ag A_126 (rhi c_62 (min 2 (c_62.n : Int))) x_129)) (d := rnil) underlying56 Tryz.key3 zeroValue23 rfl rfl rfl h_125) (fun _ h => St.f4 h) ?_
 intro u_207 hu_208
 obtain rfl := cRaw_rep hu_208
 intro q_206 hq_205
 refine Dm fun q_210 hq_209 => ?_
 refine Wd.turn rfl rfl rfl fun w hS => ?_
 refine WL.build1 (c := (cInt .i64)) rfl underlying23 info3 rfl rfl (cInt_mk (I64.has (Len.i64 hl_63))) hS ?_
 clear hS
 intro v_212 w fp_213 h_214 hS
 refine WL.nil (DQ.mk2 (C' := St w0 H (fp_213 ++ (fp_127 ++ ([(b_2, oc #[i6 n_4, v_69, v_12, v_17, v_22, v_27, v_32, v_37, i6 head_41, v_44, u_49, v_52, .bool dead_56] 60)] ++ (fp_70 ++ (fp_124 ++ (fp_19 ++ (fp_24 ++ (fp_29 ++ (fp_34 ++ (fp_39 ++ (fp_46 ++ (fp_54 ++ L))))))))))))) hS ⟨il, .inr (hq_205 H (fp_213 ++ (fp_127 ++ ([(b_2, oc #[i6 n_4, v_69, v_12, v_17, v_22, v_27, v_32, v_37, i6 head_41, v_44, u_49, v_52, .bool dead_56] 60)] ++ (fp_70 ++ (fp_19 ++ (fp_24 ++ (fp_29 ++ (fp_34 ++ (fp_39 ++ (fp_46 ++ (fp_54 ++ L))))))))))) _ (View.le.refl _) (fun _ h => St.f5 h)), .inr (hq_203 _), .inr (hq_201 H (fp_213 ++ (fp_127 ++ (fp_70 ++ (fp_124 ++ (fp_19 ++ (fp_24 ++ (fp_29 ++ (fp_34 ++ (fp_39 ++ (fp_46 ++ (fp_54 ++ L))))))))))) #[i6 n_4, v_69, v_12, v_17, v_22, v_27, v_32, v_37, i6 head_41, v_44, u_49, v_52, .bool dead_56] _ rfl (fun _ h => St.f3 h)), .inr (hq_199 _), .inr (hq_197 _), .inr (hq_195 _), .inr (hq_193 _), .inr (hq_191 H (fp_213 ++ (fp_127 ++ (fp_70 ++ (fp_124 ++ (fp_19 ++ (fp_24 ++ (fp_29 ++ (fp_34 ++ (fp_39 ++ (fp_46 ++ (fp_54 ++ L))))))))))) #[i6 n_4, v_69, v_12, v_17, v_22, v_27, v_32, v_37, i6 head_41, v_44, u_49, v_52, .bool dead_56] _ rfl (fun _ h => St.f3 h)), .inr (hq_189 _), .inr (hq_187 _), .inr (hq_185 _), trivial⟩ ?_)
 clear hS w
 refine Wd.turn rfl rfl rfl fun w hS => ?_
 replace hS := hS.f2
 obtain ⟨hap_216, hV⟩ := hV
 obtain ⟨hr_215, hV⟩ := hV
 refine WL.r_append (ys := ([(clauses_6.length : Int)])) rfl underlying23 info3 rfl rfl hS hA_128 (h_214.src hS.f2) hap_216 hr_215 ?_
 clear hS
 intro A_218 r_219 w fp_220 hap_221 hA_222 hS
 replace hV := hV A_218 r_219 hap_221
 refine WL.nil (DQ.mk2 (C' := St w0 H (fp_220 ++ (fp_213 ++ ([(b_2, oc #[i6 n_4, v_69, v_12, v_17, v_22, v_27, v_32, v_37, i6 head_41, v_44, u_49, v_52, .bool dead_56] 60)] ++ (fp_70 ++ (fp_124 ++ (fp_19 ++ (fp_24 ++ (fp_29 ++ (fp_34 ++ (fp_39 ++ (fp_46 ++ (fp_54 ++ L))))))))))))) hS ⟨il, il, il, il, il, il, il, .inr (hq_193 _), .inr (hq_191 H (fp_220 ++ (fp_213 ++ (fp_70 ++ (fp_124 ++ (fp_19 ++ (fp_24 ++ (fp_29 ++ (fp_34 ++ (fp_39 ++ (fp_46 ++ (fp_54 ++ L))))))))))) #[i6 n_4, v_69, v_12, v_17, v_22, v_27, v_32, v_37, i6 head_41, v_44, u_49, v_52, .bool dead_56] _ rfl (fun _ h => St.f3 h)), .inr (hq_189 _), .inr (hq_187 _), .inr (hq_185 _), trivial⟩ ?_)
 clear hS w
 refine Wd.turn rfl rfl rfl fun w hS => ?_
 replace hS := hS.f5
 refine WL.mapUpdate (k := (ag A_126 (rhi c_62 (min 2 (c_62.n : Int))) x_129)) (e := r_219) underlying56 Tryz.key3 (IsAr.ag64 hA_128 _ _) cRaw_mk rfl rfl rfl hS h_125 ?_
 clear hS
 intro w fp_223 h_224 hS
 refine WL.nil (DQ.mk2 (C' := St w0 H (fp_223 ++ (fp_220 ++ (fp_213 ++ ([(b_2, oc #[i6 n_4, v_69, v_12, v_17, v_22, v_27, v_32, v_37, i6 head_41, v_44, u_49, v_52, .bool dead_56] 60)] ++ (fp_70 ++ (fp_19 ++ (fp_24 ++ (fp_29 ++ (fp_34 ++ (fp_39 ++ (fp_46 ++ (fp_54 ++ L))))))))))))) hS ⟨il, il, il, il, il, il, il, il, il, il, il, il, trivial⟩ ?_)
 clear hS w
 refine Wd.nil fun w hS => ?_
 refine WQ.out nofun ?_
 refine WQ.next ?_
 refine Sb [(0, (pq b_2)), (4, i6 (clauses_6.length : Int)), (26, rawV (rhi c_62 (min 2 (c_62.n : Int)))), (27, i6 ((rhi c_62 (min 2 (c_62.n : Int))).n : Int)), (28, i6 x_129)] ?_
 replace hS := hS.f3.drop
 refine WC.region ?_
 obtain ⟨hi_226, hV⟩ := hV
 iterate 2 refine R hS ?_
 refine WL.nil ?_
 replace hS := hS.f2.f11.f11.f11.f11.f11.f11.f11.f9.f11.f11
 exact Wt fun a ha => ⟨((mset c_123 (ag A_126 (rhi c_62 (min 2 (c_62.n : Int))) x_129) r_219), A_218, (x_129 + 1)), ⟨(mset c_123 (ag A_126 (rhi c_62 (min 2 (c_62.n : Int))) x_129) r_219), A_218, (x_129 + 1), fp_223, fp_220, rfl, hV.1, h_224, hA_222, hi_226, hS, ha.os⟩, hV.2⟩
 intro hc_227
 replace hV := hV.2 (ov hc_227)
 refine WC.exit ?_
 refine Wp ?_
 refine Wp ?_
 refine WQ.hit ?_
 replace hS := hS.f11.f11.f11.f11.f11.f11.f11.f11.f11.f11.f11
 exact leave0 (.inr rfl) rfl (⟨(clauses_6 ++ ([c_62])), c_123, A_126, v_69, fp_70, fp_124, fp_127, hV, rfl, h_71, h_125, hA_128, hS⟩)

theorem S_add {w0 : World} {H : View} {L : Seg} {w : World} {b_2 : Nat} {n_4 : Int} {v_7 : Value} {clauses_6 : List Raw} {fp_9 : Seg} {v_12 : Value} {watch_11 : List (Int × Raw)} {fp_14 : Seg} {v_17 : Value} {value_16 : LI} {fp_19 : Seg} {v_22 : Value} {level_21 : LI} {fp_24 : Seg} {v_27 : Value} {reason_26 : LI} {fp_29 : Seg} {v_32 : Value} {trail_31 : LI} {fp_34 : Seg} {v_37 : Value} {starts_36 : LI} {fp_39 : Seg} {head_41 : Int} {v_44 : Value} {heat_43 : List Unit} {fp_46 : Seg} {u_49 : Value} {v_52 : Value} {proof_51 : List (Bool × LI)} {fp_54 : Seg} {dead_56 : Bool} {A_61 : Arena} {fp_59 : Seg} {v_63 : Value} {c_62 : LI} {Q : (List Raw) → (List (Int × Raw)) → LI → LI → LI → LI → Int → Bool → Arena → Prop} (hr_5 : I64 n_4) (h_8 : OwnSl H cRaw 23 v_7 clauses_6 fp_9) (h_13 : OwnMp H kInt cRaw v_12 watch_11 fp_14) (h_18 : OwnSl H (cInt .i64) 3 v_17 value_16 fp_19) (h_23 : OwnSl H (cInt .i64) 3 v_22 level_21 fp_24) (h_28 : OwnSl H (cInt .i64) 3 v_27 reason_26 fp_29) (h_33 : OwnSl H (cInt .i64) 3 v_32 trail_31 fp_34) (h_38 : OwnSl H (cInt .i64) 3 v_37 starts_36 fp_39) (hr_42 : I64 head_41) (h_45 : OwnSl H cF 58 v_44 heat_43 fp_46) (h_50 : IsF u_49) (h_53 : OwnSl H (cPair cBool (cSl (cInt .i64))) 50 v_52 proof_51 fp_54) (hA_58 : IsAr 3 A_61 fp_59) (h_64 : IsSl H (cInt .i64) v_63 c_62) (hS : St w0 H ([(b_2, oc #[i6 n_4, v_7, v_12, v_17, v_22, v_27, v_32, v_37, i6 head_41, v_44, u_49, v_52, .bool dead_56] 60)] ++ (fp_9 ++ (fp_14 ++ (fp_19 ++ (fp_24 ++ (fp_29 ++ (fp_34 ++ (fp_39 ++ (fp_46 ++ (fp_54 ++ (fp_59 ++ L))))))))))) w) (hV : V_add n_4 clauses_6 watch_11 value_16 level_21 reason_26 trail_31 starts_36 head_41 heat_43 proof_51 dead_56 A_61 c_62 Q) :
 Calls Tryz.prog 25 #[(pq b_2), v_63] w fun e w' => ∃ (r1 : List Raw) (r2 : List (Int × Raw)) (r3 : LI) (r4 : LI) (r5 : LI) (r6 : LI) (r7 : Int) (r8 : Bool) (r9 : Arena) (v1 : Value) (fp1 : Seg) (fp2 : Seg) (v3 : Value) (fp3 : Seg) (v4 : Value) (fp4 : Seg) (v5 : Value) (fp5 : Seg) (v6 : Value) (fp6 : Seg) (fp9 : Seg), Q r1 r2 r3 r4 r5 r6 r7 r8 r9 ∧ e = .returned (.tuple #[]) ∧ OwnSl H cRaw 23 v1 r1 fp1 ∧ OwnMp H kInt cRaw v_12 r2 fp2 ∧ OwnSl H (cInt .i64) 3 v3 r3 fp3 ∧ OwnSl H (cInt .i64) 3 v4 r4 fp4 ∧ OwnSl H (cInt .i64) 3 v5 r5 fp5 ∧ OwnSl H (cInt .i64) 3 v6 r6 fp6 ∧ I64 r7 ∧ IsAr 3 r9 fp9 ∧ St w0 H ([(b_2, oc #[i6 n_4, v1, v_12, v3, v4, v5, v6, v_37, i6 r7, v_44, u_49, v_52, .bool r8] 60)] ++ (fp1 ++ (fp2 ++ (fp3 ++ (fp4 ++ (fp5 ++ (fp6 ++ (fp_39 ++ (fp_46 ++ (fp_54 ++ (fp9 ++ L))))))))))) w' := by
 unfold V_add at hV
 refine enter func25 rfl ntmps25 rfl (lk_args_cons (d := 0) (v := (pq b_2)) rfl (lk_args_cons (d := 1) (v := v_63) rfl (lk_args_nil _))) ?_
 refine WC.sr ?_
 refine WL.box (arr := #[(pq b_2)]) rfl rfl rfl hS ?_
 clear hS
 intro b_65 w hS
 refine WL.nx ?_
 refine WC.sr ?_
 refine R hS ?_
 refine Rc (enters0 (vs := [v_63]) call44 ⟨rfl, trivial⟩) (S_tidy  h_64 hS hV) ?_
 clear hV hS
 rintro _ w ⟨r_67, r_72, v_68, fp_69, hV, rfl, h_70, hS⟩
 refine ⟨_, rfl, ?_⟩
 iterate 5 refine R hS ?_
 refine WL.nx ?_
 refine WC.seq ?_
 obtain ⟨J_76, hJ_77, hV⟩ := hV
 refine WC.meet (fun a w => ∃ (x_75 : Bool), J_76 x_75 ∧ St w0 H (fp_69 ++ ([(b_65, oc #[(pq b_2)] 43)] ++ ([(b_2, oc #[i6 n_4, v_7, v_12, v_17, v_22, v_27, v_32, v_37, i6 head_41, v_44, u_49, v_52, .bool dead_56] 60)] ++ (fp_9 ++ (fp_14 ++ (fp_19 ++ (fp_24 ++ (fp_29 ++ (fp_34 ++ (fp_39 ++ (fp_46 ++ (fp_54 ++ (fp_59 ++ L))))))))))))) w ∧ Fr 72 [(1, v_68), (2, (pq b_65)), (17, .bool x_75)] a) ?_ ?_
 rintro a w ⟨x_75, hI, hS, ha⟩
 refine in_frame ha ?_
 clear ha hV
 have hV := hJ_77 _ hI
 clear hI hJ_77
 refine Cd ?_ ?_
 intro hc_323
 replace hV := hV.1 hc_323
 refine WC.ret ?_
 refine Wp ?_
 replace hS := hS.drop
 replace hS := hS.drop
 replace hS := hS.f11.f11.f11.f11.f11.f11.f11.f11.f11.f11.f11
 exact leave0 (il) rfl (⟨clauses_6, watch_11, value_16, level_21, reason_26, trail_31, head_41, dead_56, A_61, v_7, fp_9, fp_14, v_17, fp_19, v_22, fp_24, v_27, fp_29, v_32, fp_34, fp_59, hV, rfl, h_8, h_13, h_18, h_23, h_28, h_33, hr_42, hA_58, hS⟩)
 intro hc_323
 replace hV := hV.2 hc_323
 refine WC.skip ?_
 refine WQ.next ?_
 refine WC.sr ?_
 refine R hS ?_
 refine Rn hS (ex_makeFunc (vs := [(pq b_65)]) ⟨rfl, trivial⟩) ?_
 replace hS := hS.f13.f13.f13.f13.f13.f13.f13.f13.f13.f13.f13.f13.f13
 refine Rc (enters0 (vs := [v_68, .func (.func 46) #[] #[(pq b_65)]]) call45 ⟨rfl, rfl, trivial⟩) (S_SortSF  h_70 hr_5 h_8 h_13 h_18 h_23 h_28 h_33 h_38 hr_42 h_45 h_50 h_53 hA_58 hS hV) ?_
 clear hV hS
 rintro _ w ⟨c_79, fp_80, hV, rfl, h_81, hS⟩
 refine ⟨_, rfl, ?_⟩
 refine WL.nx ?_
 refine WC.seq ?_
 obtain ⟨J_99, hJ_100, hV⟩ := hV
 refine WC.meet (fun a w => ∃ (x_98 : Bool), J_99 x_98 ∧ St w0 H (fp_80 ++ ([(b_65, oc #[(pq b_2)] 43)] ++ ([(b_2, oc #[i6 n_4, v_7, v_12, v_17, v_22, v_27, v_32, v_37, i6 head_41, v_44, u_49, v_52, .bool dead_56] 60)] ++ (fp_9 ++ (fp_14 ++ (fp_19 ++ (fp_24 ++ (fp_29 ++ (fp_34 ++ (fp_39 ++ (fp_46 ++ (fp_54 ++ (fp_59 ++ L))))))))))))) w ∧ Fr 72 [(1, v_68), (2, (pq b_65)), (31, .bool x_98)] a) ?_ ?_
 rintro a w ⟨x_98, hI, hS, ha⟩
 refine in_frame ha ?_
 clear ha hV
 have hV := hJ_100 _ hI
 clear hI hJ_100
 refine Cd ?_ ?_
 intro hc_322
 replace hV := hV.1 hc_322
 refine WC.sr ?_
 replace hS := hS.f2
 iterate 3 refine R hS ?_
 replace hS := hS.f3
 refine St1 #[i6 n_4, v_7, v_12, v_17, v_22, v_27, v_32, v_37, i6 head_41, v_44, u_49, v_52, .bool true] sizeOf4 hS ?_
 clear hS
 intro w hS
 refine WL.nx ?_
 replace hS := hS.f3.drop
 replace hS := hS.f2.drop
 refine WC.ret ?_
 refine Wp ?_
 replace hS := hS.f11.f11.f11.f11.f11.f11.f11.f11.f11.f11.f11
 exact leave0 (il) rfl (⟨clauses_6, watch_11, value_16, level_21, reason_26, trail_31, head_41, true, A_61, v_7, fp_9, fp_14, v_17, fp_19, v_22, fp_24, v_27, fp_29, v_32, fp_34, fp_59, hV, rfl, h_8, h_13, h_18, h_23, h_28, h_33, hr_42, hA_58, hS⟩)
 intro hc_322
 replace hV := hV.2 hc_322
 refine WC.skip ?_
 refine WQ.next ?_
 refine WC.sr ?_
 replace hS := hS.f2
 iterate 2 refine R hS ?_
 replace hS := hS.f13.f3
 obtain ⟨A_116, r_117, rfl, hab_118, hA_119, hS⟩ := OwnSl.absorb hA_58 h_81 hS
 replace hV := hV A_116 r_117 hab_118
 replace hS := hS.f12.f12.f12.f12.f12.f12.f12.f12.f12.f12
 refine Rc (enters0 (vs := [(pq b_2), rawV r_117]) call30 ⟨rfl, rfl, trivial⟩) (S_keep  hr_5 h_8 h_13 h_18 h_23 h_28 h_33 h_38 hr_42 h_45 h_50 h_53 hA_119 hS hV) ?_
 clear hV hS
 rintro _ w ⟨c_121, m_125, A_128, v_122, fp_123, fp_126, fp_129, hV, rfl, h_124, h_127, hA_130, hS⟩
 refine ⟨_, rfl, ?_⟩
 refine WL.nx ?_
 obtain ⟨J_144, hJ_145, hV⟩ := hV
 refine WC.meet (fun a w => ∃ (x_143 : Bool), J_144 x_143 ∧ St w0 H ([(b_65, oc #[(pq b_2)] 43)] ++ ([(b_2, oc #[i6 n_4, v_122, v_12, v_17, v_22, v_27, v_32, v_37, i6 head_41, v_44, u_49, v_52, .bool dead_56] 60)] ++ (fp_123 ++ (fp_126 ++ (fp_19 ++ (fp_24 ++ (fp_29 ++ (fp_34 ++ (fp_39 ++ (fp_46 ++ (fp_54 ++ (fp_129 ++ L)))))))))))) w ∧ Fr 72 [(1, rawV r_117), (2, (pq b_65)), (48, .bool x_143)] a) ?_ ?_
 rintro a w ⟨x_143, hI, hS, ha⟩
 refine in_frame ha ?_
 clear ha hV
 have hV := hJ_145 _ hI
 clear hI hJ_145
 refine Cd ?_ ?_
 intro hc_321
 replace hV := hV.1 hc_321
 obtain ⟨J_231, hJ_232, hV⟩ := hV
 refine WC.meet (fun a w => ∃ (c_212 : LI) (c_217 : LI) (c_222 : LI) (c_227 : LI) (v_213 : Value) (fp_214 : Seg) (v_218 : Value) (fp_219 : Seg) (v_223 : Value) (fp_224 : Seg) (v_228 : Value) (fp_229 : Seg), J_231 (c_212, c_217, c_222, c_227) ∧ OwnSl H (cInt .i64) 3 v_213 c_212 fp_214 ∧ OwnSl H (cInt .i64) 3 v_218 c_217 fp_219 ∧ OwnSl H (cInt .i64) 3 v_223 c_222 fp_224 ∧ OwnSl H (cInt .i64) 3 v_228 c_227 fp_229 ∧ St w0 H ([(b_65, oc #[(pq b_2)] 43)] ++ ([(b_2, oc #[i6 n_4, v_122, v_12, v_213, v_218, v_223, v_228, v_37, i6 head_41, v_44, u_49, v_52, .bool dead_56] 60)] ++ (fp_123 ++ (fp_126 ++ (fp_214 ++ (fp_219 ++ (fp_224 ++ (fp_229 ++ (fp_39 ++ (fp_46 ++ (fp_54 ++ (fp_129 ++ L)))))))))))) w ∧ Fr 72 [(2, (pq b_65))] a) ?_ ?_
 rintro a w ⟨c_212, c_217, c_222, c_227, v_213, fp_214, v_218, fp_219, v_223, fp_224, v_228, fp_229, hI, h_215, h_220, h_225, h_230, hS, ha⟩
 refine in_frame ha ?_
 clear ha hV
 have hV := hJ_232 _ hI
 clear hI hJ_232
 refine WC.sr ?_
 refine R hS ?_
 replace hS := hS.f12.f12.f12.f12.f12.f12.f12.f12.f12.f12.f12
 refine Rc (enters0 (vs := [(pq b_2)]) call26 ⟨rfl, trivial⟩) (S_sfollow  hr_5 h_124 h_127 h_215 h_220 h_225 h_230 h_38 hr_42 h_45 h_50 h_53 hA_130 hS hV) ?_
 clear hV hS
 rintro _ w ⟨r_288, m_290, c_293, c_297, c_301, c_305, c_309, A_311, fp_291, v_294, fp_295, v_298, fp_299, v_302, fp_303, v_306, fp_307, fp_312, hV, rfl, hr_289, h_292, h_296, h_300, h_304, h_308, hr_310, hA_313, hS⟩
 refine ⟨_, rfl, ?_⟩
 refine R hS ?_
 refine WL.nx ?_
 refine Cd ?_ ?_
 intro hc_320
 replace hV := hV.1 (od hc_320)
 refine WC.region ?_
 replace hS := hS.f12
 iterate 3 refine R hS ?_
 replace hS := hS.f2
 refine St1 #[i6 n_4, v_122, v_12, v_294, v_298, v_302, v_306, v_37, i6 c_309, v_44, u_49, v_52, .bool true] sizeOf4 hS ?_
 clear hS
 intro w hS
 refine WL.nil ?_
 replace hS := hS.f2.drop
 replace hS := hS.f11.f11.f11.f11.f11.f11.f11.f11.f11.f11.f11
 exact leave0 (.inr rfl) rfl (⟨c_121, m_290, c_293, c_297, c_301, c_305, c_309, true, A_311, v_122, fp_123, fp_291, v_294, fp_295, v_298, fp_299, v_302, fp_303, v_306, fp_307, fp_312, hV, rfl, h_124, h_292, h_296, h_300, h_304, h_308, hr_310, hA_313, hS⟩)
 intro hc_320
 replace hV := hV.2 (ov hc_320)
 refine WC.skip ?_
 replace hS := hS.f12.drop
 replace hS := hS.f11.f11.f11.f11.f11.f11.f11.f11.f11.f11.f11
 exact leave0 (.inr rfl) rfl (⟨c_121, m_290, c_293, c_297, c_301, c_305, c_309, dead_56, A_311, v_122, fp_123, fp_291, v_294, fp_295, v_298, fp_299, v_302, fp_303, v_306, fp_307, fp_312, hV, rfl, h_124, h_292, h_296, h_300, h_304, h_308, hr_310, hA_313, hS⟩)
 clear hJ_232
 refine WC.seq ?_
 replace hS := hS.f12.f12.f12.f12.f12.f12.f12.f12.f12.f12.f12
 refine WC.quiet (C := St w0 H ([(b_2, oc #[i6 n_4, v_122, v_12, v_17, v_22, v_27, v_32, v_37, i6 head_41, v_44, u_49, v_52, .bool dead_56] 60)] ++ (fp_123 ++ (fp_126 ++ (fp_19 ++ (fp_24 ++ (fp_29 ++ (fp_34 ++ (fp_39 ++ (fp_46 ++ (fp_54 ++ (fp_129 ++ ([(b_65, oc #[(pq b_2)] 43)] ++ L))))))))))))) mixed (by kernel_rfl) (hS.drawn _) ?_
 clear hS w
 refine Rm ((ex_load_box isAgg43 rfl rfl).of (fun _ h => St.f12 h)) ?_
 refine Rq ?_
 obtain ⟨hin_233, hV⟩ := hV
 refine Rm (ex_r_index underlying23 sizeOf3 rfl rfl hin_233) ?_
 obtain ⟨hrd_234, hV⟩ := hV
 refine Rm ((ex_r_load isAgg3 rfl hA_130 hrd_234).of (fun _ h => St.f11 h)) ?_
 obtain ⟨r_236, h_238, hr_237, hV⟩ := hV
 refine Wq.call (v := i6 r_236) rfl rfl rfl (fun w => enters0 (vs := [(pq b_2), i6 (ag A_128 r_117 0)]) call32 ⟨rfl, rfl, trivial⟩) (fun w hS => (S_of (Q := fun y0 => y0 = r_236)  hr_5 h_124 h_127 h_18 h_23 h_28 h_33 h_38 hr_42 h_45 h_50 h_53 hA_130 (IsAr.ag64 hA_130 _ _) hS h_238).mono ?_) ?_
 rintro e w' ⟨_, rfl, he, _, hS⟩
 exact ⟨he, hS⟩
 refine Rq ?_
 refine Wq.nil fun w hS => ?_
 refine WQ.next ?_
 refine Cd ?_ ?_
 intro hc_287
 replace hV := hV.1 (od hc_287)
 refine WC.drawn (σ := [0, 1, 2, 3, 4, 5, 6, 7, 8, 9, 10]) (C := St w0 H ([(b_2, oc #[i6 n_4, v_122, v_12, v_17, v_22, v_27, v_32, v_37, i6 head_41, v_44, u_49, v_52, .bool dead_56] 60)] ++ (fp_123 ++ (fp_126 ++ (fp_19 ++ (fp_24 ++ (fp_29 ++ (fp_34 ++ (fp_39 ++ (fp_46 ++ (fp_54 ++ (fp_129 ++ ([(b_65, oc #[(pq b_2)] 43)] ++ L))))))))))))) [[], [], [1], [1, 2], [], [4], [4, 5], [4, 5, 6], [4, 5, 6, 7], [4, 5, 6, 7, 8], [0, 1, 2, 3, 4, 5, 6, 7, 8, 9]] [10] mixed (by kernel_rfl) (hS.drawn _) ?_
 clear hS w
 refine Wd.runb (off := 0) rfl rfl rfl rfl (fun _ _ _ h => ex_load_box isAgg43 rfl h) rfl (fun _ h => St.f12 h) fun q_241 hq_240 => ?_
 refine Dm fun q_243 hq_242 => ?_
 obtain ⟨hin_246, hV⟩ := hV
 refine Wd.run rfl rfl rfl rfl (fun _ => ex_r_index underlying23 sizeOf3 rfl rfl hin_246) fun q_245 hq_244 => ?_
 obtain ⟨hrd_249, hV⟩ := hV
 refine Wd.runr rfl rfl rfl rfl isAgg3 rfl hA_130 hrd_249 (fun _ h => St.f11 h) fun q_248 hq_247 => ?_
 refine Wd.runb (off := 0) rfl rfl rfl rfl (fun _ _ _ h => ex_load_box isAgg43 rfl h) rfl (fun _ h => St.f12 h) fun q_252 hq_251 => ?_
 refine Wd.run rfl rfl rfl rfl (fun _ => ex_nilCheck rfl) fun q_254 hq_253 => ?_
 refine Wd.run rfl rfl rfl rfl (fun _ => ex_fieldAddr (o' := 1) underlying60 rfl sizeOf22 rfl rfl) fun q_256 hq_255 => ?_
 refine Wd.runb (off := 1) rfl rfl rfl rfl (fun _ _ _ h => ex_load_box isAgg22 rfl h) rfl (fun _ h => h) fun q_258 hq_257 => ?_
 have hl_261 : Len c_121 := h_124.bound
 replace hV := hV hl_261
 refine Wd.run rfl rfl rfl rfl (fun _ => ex_len_own underlying22 rfl h_124) fun q_260 hq_259 => ?_
 obtain ⟨hi_265, hV⟩ := hV
 refine Wd.run rfl rfl rfl rfl (fun _ => ex_sub rfl rfl hi_265) fun q_263 hq_262 => ?_
 refine Wd.turn rfl rfl rfl fun w hS => ?_
 replace hS := hS.f11.f11.f11.f11.f11.f11.f11.f11.f11.f11.f11
 refine Rc (enters0 (vs := [(pq b_2), i6 (ag A_128 r_117 0), i6 ((c_121.length : Int) - 1)]) call31 ⟨rfl, rfl, rfl, trivial⟩) (S_set  hr_5 h_124 h_127 h_18 h_23 h_28 h_33 h_38 hr_42 h_45 h_50 h_53 hA_130 (IsAr.ag64 hA_130 _ _) hi_265 hS hV) ?_
 clear hV hS
 rintro _ w ⟨c_266, c_270, c_274, c_278, v_267, fp_268, v_271, fp_272, v_275, fp_276, v_279, fp_280, hV, rfl, h_269, h_273, h_277, h_281, hS⟩
 refine ⟨_, rfl, ?_⟩
 refine WL.nil (DQ.mk2 (C' := St w0 H ([(b_2, oc #[i6 n_4, v_122, v_12, v_267, v_271, v_275, v_279, v_37, i6 head_41, v_44, u_49, v_52, .bool dead_56] 60)] ++ (fp_123 ++ (fp_126 ++ (fp_268 ++ (fp_272 ++ (fp_276 ++ (fp_280 ++ (fp_39 ++ (fp_46 ++ (fp_54 ++ (fp_129 ++ ([(b_65, oc #[(pq b_2)] 43)] ++ L))))))))))))) hS ⟨il, il, il, il, il, il, il, il, il, il, trivial⟩ ?_)
 clear hS w
 refine Wd.nil fun w hS => ?_
 replace hS := hS.f11.f11.f11.f11.f11.f11.f11.f11.f11.f11.f11.f12
 exact Wt fun a ha => ⟨c_266, c_270, c_274, c_278, v_267, fp_268, v_271, fp_272, v_275, fp_276, v_279, fp_280, hV, h_269, h_273, h_277, h_281, hS, ha.os⟩
 intro hc_287
 replace hV := hV.2 (ov hc_287)
 refine WC.skip ?_
 replace hS := hS.f11.f11.f11.f11.f11.f11.f11.f11.f11.f11.f11.f12
 exact Wt fun a ha => ⟨value_16, level_21, reason_26, trail_31, v_17, fp_19, v_22, fp_24, v_27, fp_29, v_32, fp_34, hV, h_18, h_23, h_28, h_33, hS, ha.os⟩
 intro hc_321
 replace hV := hV.2 hc_321
 refine WC.skip ?_
 replace hS := hS.drop
 replace hS := hS.f11.f11.f11.f11.f11.f11.f11.f11.f11.f11.f11
 exact leave0 (.inr rfl) rfl (⟨c_121, m_125, value_16, level_21, reason_26, trail_31, head_41, dead_56, A_128, v_122, fp_123, fp_126, v_17, fp_19, v_22, fp_24, v_27, fp_29, v_32, fp_34, fp_129, hV, rfl, h_124, h_127, h_18, h_23, h_28, h_33, hr_42, hA_130, hS⟩)
 clear hJ_145
 replace hS := hS.f11.f11.f11.f11.f11.f11.f11.f11.f11.f11.f11
 refine WC.quiet (C := St w0 H ([(b_2, oc #[i6 n_4, v_122, v_12, v_17, v_22, v_27, v_32, v_37, i6 head_41, v_44, u_49, v_52, .bool dead_56] 60)] ++ (fp_123 ++ (fp_126 ++ (fp_19 ++ (fp_24 ++ (fp_29 ++ (fp_34 ++ (fp_39 ++ (fp_46 ++ (fp_54 ++ (fp_129 ++ ([(b_65, oc #[(pq b_2)] 43)] ++ L))))))))))))) mixed (by kernel_rfl) (hS.drawn _) ?_
 clear hS w
 refine Rq ?_
 obtain ⟨hl_146, hV⟩ := hV
 iterate 3 refine Rq ?_
 rcases bft (decide ((r_117.n : Int) = 1)) with hg_148 | hg_148
 replace hV := hV.1 (od hg_148)
 iterate 7 refine Rq ?_
 refine Wq.nil fun w hS => ?_
 replace hS := hS.f11.f11.f11.f11.f11.f11.f11.f11.f11.f11.f11.f12
 exact Wt fun a ha => ⟨true, hV, hS, ha.os⟩
 replace hV := hV.2 (ov hg_148)
 refine Uq hg_148 ?_
 refine Rm ((ex_load_box isAgg43 rfl rfl).of (fun _ h => St.f12 h)) ?_
 refine Rq ?_
 refine Uq hg_148 ?_
 obtain ⟨hin_149, hV⟩ := hV
 refine Rm (ex_r_index underlying23 sizeOf3 rfl rfl hin_149) ?_
 refine Uq hg_148 ?_
 obtain ⟨hrd_150, hV⟩ := hV
 refine Rm ((ex_r_load isAgg3 rfl hA_130 hrd_150).of (fun _ h => St.f11 h)) ?_
 refine Uq hg_148 ?_
 obtain ⟨r_152, h_154, hr_153, hV⟩ := hV
 refine Wq.call (v := i6 r_152) rfl rfl rfl (fun w => enters0 (vs := [(pq b_2), i6 (ag A_128 r_117 1)]) call32 ⟨rfl, rfl, trivial⟩) (fun w hS => (S_of (Q := fun y0 => y0 = r_152)  hr_5 h_124 h_127 h_18 h_23 h_28 h_33 h_38 hr_42 h_45 h_50 h_53 hA_130 (IsAr.ag64 hA_130 _ _) hS h_154).mono ?_) ?_
 rintro e w' ⟨_, rfl, he, _, hS⟩
 exact ⟨he, hS⟩
 iterate 2 refine Rq ?_
 refine Wq.nil fun w hS => ?_
 replace hS := hS.f11.f11.f11.f11.f11.f11.f11.f11.f11.f11.f11.f12
 exact Wt fun a ha => ⟨decide (r_152 < 0), hV, hS, ha.os⟩
 clear hJ_100
 replace hS := hS.f13.f13.f13.f13.f13.f13.f13.f13.f13.f13.f13
 refine WC.quiet (C := St w0 H ([(b_2, oc #[i6 n_4, v_7, v_12, v_17, v_22, v_27, v_32, v_37, i6 head_41, v_44, u_49, v_52, .bool dead_56] 60)] ++ (fp_9 ++ (fp_14 ++ (fp_19 ++ (fp_24 ++ (fp_29 ++ (fp_34 ++ (fp_39 ++ (fp_46 ++ (fp_54 ++ (fp_59 ++ (fp_80 ++ ([(b_65, oc #[(pq b_2)] 43)] ++ L)))))))))))))) mixed (by kernel_rfl) (hS.drawn _) ?_
 clear hS w
 refine Rq ?_
 have hl_101 : Len c_79 := h_81.bound
 replace hV := hV hl_101
 refine Rm (ex_len_own underlying23 rfl h_81) ?_
 iterate 2 refine Rq ?_
 rcases bft (decide ((c_79.length : Int) = 0)) with hg_103 | hg_103
 replace hV := hV.1 (od hg_103)
 iterate 7 refine Rq ?_
 refine Wq.nil fun w hS => ?_
 replace hS := hS.f11.f11.f11.f11.f11.f11.f11.f11.f11.f11.f11.f13.f13
 exact Wt fun a ha => ⟨true, hV, hS, ha.os⟩
 replace hV := hV.2 (ov hg_103)
 refine Uq hg_103 ?_
 refine Rm ((ex_load_box isAgg43 rfl rfl).of (fun _ h => St.f13 h)) ?_
 refine Rq ?_
 refine Uq hg_103 ?_
 obtain ⟨hin_104, hV⟩ := hV
 refine Wq.runx rfl rfl rfl (ex_index_own underlying23 sizeOf3 rfl rfl h_81 hin_104) ?_
 intro p_105 hp_106
 refine Uq hg_103 ?_
 refine Wq.runx rfl rfl rfl (exQ (ex_load_own_s isAgg3 rfl rfl h_81 hp_106 hin_104) _ (fun _ h => St.f12 h)) ?_
 intro u_109 hu_110
 obtain ⟨rfl, hr_111⟩ := cInt_rep hu_110
 replace hr_111 := has_I64 hr_111
 replace hV := hV hr_111
 refine Uq hg_103 ?_
 obtain ⟨r_112, h_114, hr_113, hV⟩ := hV
 refine Wq.call (v := i6 r_112) rfl rfl rfl (fun w => enters0 (vs := [(pq b_2), i6 (ix c_79 0)]) call32 ⟨rfl, rfl, trivial⟩) (fun w hS => (S_of (Q := fun y0 => y0 = r_112)  hr_5 h_8 h_13 h_18 h_23 h_28 h_33 h_38 hr_42 h_45 h_50 h_53 hA_58 hr_111 hS h_114).mono ?_) ?_
 rintro e w' ⟨_, rfl, he, _, hS⟩
 exact ⟨he, hS⟩
 iterate 2 refine Rq ?_
 refine Wq.nil fun w hS => ?_
 replace hS := hS.f11.f11.f11.f11.f11.f11.f11.f11.f11.f11.f11.f13.f13
 exact Wt fun a ha => ⟨decide (r_112 < 0), hV, hS, ha.os⟩
 clear hJ_77
 refine WC.region ?_
 iterate 3 refine R hS ?_
 rcases bft (!r_72) with hg_78 | hg_78
 replace hV := hV.1 hg_78
 iterate 5 refine R hS ?_
 refine WL.nil ?_
 replace hS := hS.f13.f13.f13.f13.f13.f13.f13.f13.f13.f13.f13.f13.f13
 exact Wt fun a ha => ⟨true, hV, hS, ha.os⟩
 replace hV := hV.2 hg_78
 refine Ug hg_78 ?_
 replace hS := hS.f2
 iterate 3 refine R hS ?_
 refine Ug hg_78 ?_
 replace hS := hS.f3
 iterate 2 refine R hS ?_
 refine WL.nil ?_
 replace hS := hS.f13.f13.f13.f13.f13.f13.f13.f13.f13.f13.f11.f12.f13
 exact Wt fun a ha => ⟨dead_56, hV, hS, ha.os⟩

theorem S_back {w0 : World} {H : View} {L : Seg} {w : World} {b_2 : Nat} {n_4 : Int} {v_7 : Value} {clauses_6 : List Raw} {fp_9 : Seg} {v_12 : Value} {watch_11 : List (Int × Raw)} {fp_14 : Seg} {v_17 : Value} {value_16 : LI} {fp_19 : Seg} {v_22 : Value} {level_21 : LI} {fp_24 : Seg} {v_27 : Value} {reason_26 : LI} {fp_29 : Seg} {v_32 : Value} {trail_31 : LI} {fp_34 : Seg} {v_37 : Value} {starts_36 : LI} {fp_39 : Seg} {head_41 : Int} {v_44 : Value} {heat_43 : List Unit} {fp_46 : Seg} {u_49 : Value} {v_52 : Value} {proof_51 : List (Bool × LI)} {fp_54 : Seg} {dead_56 : Bool} {A_61 : Arena} {fp_59 : Seg} {level_62 : Int} {Q : LI → LI → LI → Int → Prop} (hr_5 : I64 n_4) (h_8 : OwnSl H cRaw 23 v_7 clauses_6 fp_9) (h_13 : OwnMp H kInt cRaw v_12 watch_11 fp_14) (h_18 : OwnSl H (cInt .i64) 3 v_17 value_16 fp_19) (h_23 : OwnSl H (cInt .i64) 3 v_22 level_21 fp_24) (h_28 : OwnSl H (cInt .i64) 3 v_27 reason_26 fp_29) (h_33 : OwnSl H (cInt .i64) 3 v_32 trail_31 fp_34) (h_38 : OwnSl H (cInt .i64) 3 v_37 starts_36 fp_39) (hr_42 : I64 head_41) (h_45 : OwnSl H cF 58 v_44 heat_43 fp_46) (h_50 : IsF u_49) (h_53 : OwnSl H (cPair cBool (cSl (cInt .i64))) 50 v_52 proof_51 fp_54) (hA_58 : IsAr 3 A_61 fp_59) (hr_63 : I64 level_62) (hS : St w0 H ([(b_2, oc #[i6 n_4, v_7, v_12, v_17, v_22, v_27, v_32, v_37, i6 head_41, v_44, u_49, v_52, .bool dead_56] 60)] ++ (fp_9 ++ (fp_14 ++ (fp_19 ++ (fp_24 ++ (fp_29 ++ (fp_34 ++ (fp_39 ++ (fp_46 ++ (fp_54 ++ (fp_59 ++ L))))))))))) w) (hV : V_back n_4 clauses_6 watch_11 value_16 level_21 reason_26 trail_31 starts_36 head_41 heat_43 proof_51 dead_56 A_61 level_62 Q) :
 Calls Tryz.prog 29 #[(pq b_2), i6 level_62] w fun e w' => ∃ (r1 : LI) (r2 : LI) (r3 : LI) (r4 : Int) (v1 : Value) (fp1 : Seg) (v2 : Value) (fp2 : Seg) (v3 : Value) (fp3 : Seg), Q r1 r2 r3 r4 ∧ e = .returned (.tuple #[]) ∧ OwnSl H (cInt .i64) 3 v1 r1 fp1 ∧ OwnSl H (cInt .i64) 3 v2 r2 fp2 ∧ OwnSl H (cInt .i64) 3 v3 r3 fp3 ∧ I64 r4 ∧ St w0 H ([(b_2, oc #[i6 n_4, v_7, v_12, v1, v_22, v_27, v2, v3, i6 r4, v_44, u_49, v_52, .bool dead_56] 60)] ++ (fp_9 ++ (fp_14 ++ (fp1 ++ (fp_24 ++ (fp_29 ++ (fp2 ++ (fp3 ++ (fp_46 ++ (fp_54 ++ (fp_59 ++ L))))))))))) w' := by
 unfold V_back at hV
 refine enter func29 rfl ntmps29 rfl (lk_args_cons (d := 0) (v := (pq b_2)) rfl (lk_args_cons (d := 1) (v := i6 level_62) rfl (lk_args_nil _))) ?_
 refine WC.seq ?_
 refine WC.sr ?_
 iterate 5 refine R hS ?_
 have hl_64 : Len starts_36 := h_38.bound
 replace hV := hV hl_64
 refine Rn hS (ex_len_own underlying23 rfl h_38) ?_
 refine R hS ?_
 refine WL.nx ?_
 refine Cd ?_ ?_
 intro hc_192
 replace hV := hV.1 (od hc_192)
 refine WC.ret ?_
 refine Wp ?_
 replace hS := hS.f11.f11.f11.f11.f11.f11.f11.f11.f11.f11.f11
 exact leave0 (il) rfl (⟨value_16, trail_31, starts_36, head_41, v_17, fp_19, v_32, fp_34, v_37, fp_39, hV, rfl, h_18, h_33, h_38, hr_42, hS⟩)
 intro hc_192
 replace hV := hV.2 (ov hc_192)
 refine WC.skip ?_
 refine WQ.next ?_
 refine WC.seq ?_
 refine WC.seq ?_
 refine WC.quiet (C := St w0 H ([(b_2, oc #[i6 n_4, v_7, v_12, v_17, v_22, v_27, v_32, v_37, i6 head_41, v_44, u_49, v_52, .bool dead_56] 60)] ++ (fp_9 ++ (fp_14 ++ (fp_19 ++ (fp_24 ++ (fp_29 ++ (fp_34 ++ (fp_39 ++ (fp_46 ++ (fp_54 ++ (fp_59 ++ L)))))))))))) mixed (by kernel_rfl) (hS.drawn _) ?_
 clear hS w
 iterate 9 refine Rq ?_
 obtain ⟨hin_66, hV⟩ := hV
 refine Wq.runx rfl rfl rfl (ex_index_own underlying23 sizeOf3 rfl rfl h_38 hin_66) ?_
 intro p_67 hp_68
 refine Wq.runx rfl rfl rfl (exQ (ex_load_own_s isAgg3 rfl rfl h_38 hp_68 hin_66) _ (fun _ h => St.f8 h)) ?_
 intro u_71 hu_72
 obtain ⟨rfl, hr_73⟩ := cInt_rep hu_72
 replace hr_73 := has_I64 hr_73
 replace hV := hV hr_73
 obtain ⟨hb_74, hV⟩ := hV
 refine Wq.runx rfl rfl rfl (ex_slice_al underlying23 sizeOf3 rfl rfl h_33 hb_74) ?_
 intro u_75 hu_76
 obtain ⟨hl_77, hV⟩ := hV
 refine Rm (ex_len_al underlying23 rfl h_33 hu_76) ?_
 refine Rq ?_
 refine Wq.nil fun w hS => ?_
 refine WQ.next ?_
 refine Sb [(0, (pq b_2)), (1, i6 level_62), (24, u_75), (25, i6 ((trail_31.length : Int) - (ix starts_36 level_62))), (26, i6 0)] ?_
 refine WC.block ?_
 replace hS := hS.f11.f11.f11.f11.f11.f11.f11.f11.f11.f11.f11
 obtain ⟨I_121, mu_122, hI_191, hV⟩ := hV
 refine WC.loop (σ := LI × Int) (fun s a w => ∃ (c_97 : LI) (x_101 : Int) (v_98 : Value) (fp_99 : Seg), s = (c_97, x_101) ∧ I_121 (c_97, x_101) ∧ OwnSl H (cInt .i64) 3 v_98 c_97 fp_99 ∧ I64 x_101 ∧ St w0 H ([(b_2, oc #[i6 n_4, v_7, v_12, v_98, v_22, v_27, v_32, v_37, i6 head_41, v_44, u_49, v_52, .bool dead_56] 60)] ++ (fp_9 ++ (fp_14 ++ (fp_99 ++ (fp_24 ++ (fp_29 ++ (fp_34 ++ (fp_39 ++ (fp_46 ++ (fp_54 ++ (fp_59 ++ L))))))))))) w ∧ Fr 72 [(0, (pq b_2)), (1, i6 level_62), (24, u_75), (25, i6 ((trail_31.length : Int) - (ix starts_36 level_62))), (26, i6 x_101)] a) mu_122 (value_16, 0) ?_ ?_
 exact fun a ha => ⟨value_16, 0, v_17, fp_19, rfl, hI_191, h_18, (by unfold I64; omega), hS, ha.os⟩
 clear hS hI_191
 rintro _ a w ⟨c_97, x_101, v_98, fp_99, rfl, hI, h_100, hr_102, hS, ha⟩
 refine in_frame ha ?_
 clear ha
 replace hV := hV _ hI
 clear hI
 refine WC.sr ?_
 refine R hS ?_
 refine WL.nx ?_
 refine WC.seq ?_
 refine Cd ?_ ?_
 intro hc_190
 replace hV := hV.1 (od hc_190)
 refine WC.skip ?_
 refine WQ.next ?_
 refine WC.seq ?_
 refine WC.block ?_
 refine WC.sr ?_
 obtain ⟨hin_125, hV⟩ := hV
 refine Rx hS (ex_index_al underlying23 sizeOf3 rfl rfl h_33 hu_76 ⟨hin_125.1, hin_125.2.2⟩) ?_
 intro p_126 hp_127
 replace hS := hS.f7
 refine Rx hS (exNow (H := H) (L := [(b_2, oc #[i6 n_4, v_7, v_12, v_98, v_22, v_27, v_32, v_37, i6 head_41, v_44, u_49, v_52, .bool dead_56] 60)] ++ (fp_9 ++ (fp_14 ++ (fp_99 ++ (fp_24 ++ (fp_29 ++ (fp_39 ++ (fp_46 ++ (fp_54 ++ (fp_59 ++ L)))))))))) (ex_load_own_s isAgg3 rfl rfl h_33 hp_127 hin_125.2)) ?_
 intro u_130 hu_131
 obtain ⟨rfl, hr_132⟩ := cInt_rep hu_131
 replace hr_132 := has_I64 hr_132
 replace hV := hV hr_132
 refine R hS ?_
 refine WL.nx ?_
 refine WC.region ?_
 iterate 3 refine R hS ?_
 replace hS := hS.f2
 iterate 3 refine R hS ?_
 obtain ⟨hi_133, hV⟩ := hV
 iterate 2 refine R hS ?_
 obtain ⟨hin_134, hV⟩ := hV
 refine Rx hS (ex_index_own underlying23 sizeOf3 rfl rfl h_100 hin_134) ?_
 intro p_135 hp_136
 replace hS := hS.f5
 refine WL.store_own sizeOf3 rfl rfl rfl (cInt_mk (I64.has (by unfold I64; omega))) hS h_100 hp_136 hin_134 ?_
 clear hS
 intro w fp_138 h_137 hS
 refine WL.nil ?_
 refine WQ.out nofun ?_
 refine WQ.next ?_
 refine Sb [(0, (pq b_2)), (1, i6 level_62), (24, u_75), (25, i6 ((trail_31.length : Int) - (ix starts_36 level_62))), (26, i6 x_101)] ?_
 refine WC.region ?_
 obtain ⟨hi_140, hV⟩ := hV
 iterate 2 refine R hS ?_
 refine WL.nil ?_
 replace hS := hS.f11.f11.f11.f11.f7.f11.f11.f8.f11.f11.f11
 exact Wt fun a ha => ⟨((c_97.set (max (ix trail_31 ((ix starts_36 level_62) + x_101)) (-(ix trail_31 ((ix starts_36 level_62) + x_101)))).toNat 0), (x_101 + 1)), ⟨(c_97.set (max (ix trail_31 ((ix starts_36 level_62) + x_101)) (-(ix trail_31 ((ix starts_36 level_62) + x_101)))).toNat 0), (x_101 + 1), v_98, fp_138, rfl, hV.1, h_137, hi_140, hS, ha.os⟩, hV.2⟩
 intro hc_190
 replace hV := hV.2 (ov hc_190)
 refine WC.exit ?_
 refine Wp ?_
 refine Wp ?_
 refine WQ.hit ?_
 refine WQ.next ?_
 refine WC.seq ?_
 refine WC.drawn (σ := [0, 1, 2, 3, 4, 5, 6, 7, 8, 9, 10, 11, 12, 13, 14, 15]) (C := St w0 H ([(b_2, oc #[i6 n_4, v_7, v_12, v_98, v_22, v_27, v_32, v_37, i6 head_41, v_44, u_49, v_52, .bool dead_56] 60)] ++ (fp_9 ++ (fp_14 ++ (fp_99 ++ (fp_24 ++ (fp_29 ++ (fp_34 ++ (fp_39 ++ (fp_46 ++ (fp_54 ++ (fp_59 ++ L)))))))))))) [[], [], [1], [1, 2], [1, 2, 3], [], [5], [5, 6], [5, 6, 7], [], [5, 6, 7, 8, 9], [5, 6, 7, 8, 9, 10], [1, 2, 3, 4, 5, 6, 7, 8, 9, 10, 11], [0, 1, 2, 3, 4, 5, 6, 7, 8, 9, 10, 11, 12], [0, 1, 2, 3, 4, 5, 6, 7, 8, 9, 10, 11, 12, 13], [0, 1, 2, 3, 4, 5, 6, 7, 8, 9, 10, 11, 12, 13, 14]] [15] mixed (by kernel_rfl) (hS.drawn _) ?_
 clear hS w
 refine Dm fun q_142 hq_141 => ?_
 refine Dm fun q_144 hq_143 => ?_
 refine Wd.run rfl rfl rfl rfl (fun _ => ex_nilCheck rfl) fun q_146 hq_145 => ?_
 refine Wd.run rfl rfl rfl rfl (fun _ => ex_fieldAddr (o' := 6) underlying60 rfl sizeOf23 rfl rfl) fun q_148 hq_147 => ?_
 refine Wd.runb (off := 6) rfl rfl rfl rfl (fun _ _ _ h => ex_load_box isAgg23 rfl h) rfl (fun _ h => h) fun q_150 hq_149 => ?_
 refine Dm fun q_152 hq_151 => ?_
 refine Wd.run rfl rfl rfl rfl (fun _ => ex_nilCheck rfl) fun q_154 hq_153 => ?_
 refine Wd.run rfl rfl rfl rfl (fun _ => ex_fieldAddr (o' := 7) underlying60 rfl sizeOf23 rfl rfl) fun q_156 hq_155 => ?_
 refine Wd.runb (off := 7) rfl rfl rfl rfl (fun _ _ _ h => ex_load_box isAgg23 rfl h) rfl (fun _ h => h) fun q_158 hq_157 => ?_
 refine Dm fun q_160 hq_159 => ?_
 obtain ⟨hin_163, hV⟩ := hV
 refine Wd.runx rfl rfl rfl rfl (exAll (ex_index_own underlying23 sizeOf3 rfl rfl h_38 hin_163)) ?_
 intro p_164 hp_165
 intro q_162 hq_161
 refine Wd.runs (fp := fp_39) rfl rfl rfl rfl (ex_load_own_s isAgg3 rfl rfl h_38 hp_165 hin_163) (fun _ h => St.f8 h) ?_
 intro u_170 hu_171
 obtain ⟨rfl, hr_172⟩ := cInt_rep hu_171
 replace hr_172 := has_I64 hr_172
 replace hV := hV hr_172
 intro q_167 hq_166
 obtain ⟨hb_175, hV⟩ := hV
 refine Wd.runx rfl rfl rfl rfl (exAll (ex_slice_hi_own2 underlying23 sizeOf3 rfl rfl h_33 hb_175)) ?_
 rintro v_176 ⟨h_177, ht_178⟩
 intro q_174 hq_173
 refine Wd.run rfl rfl rfl rfl (fun _ => ex_nilCheck rfl) fun q_180 hq_179 => ?_
 refine Wd.run rfl rfl rfl rfl (fun _ => ex_fieldAddr (o' := 6) underlying60 rfl sizeOf23 rfl rfl) fun q_182 hq_181 => ?_
 refine Wd.turn rfl rfl rfl fun w hS => ?_
 refine St1 #[i6 n_4, v_7, v_12, v_98, v_22, v_27, v_176, v_37, i6 head_41, v_44, u_49, v_52, .bool dead_56] sizeOf23 hS ?_ (cs := [v_176]) (hc := (congrArg Array.toList (cells_one (OwnSl.one ht_178)))) (hone := ⟨(OwnSl.one ht_178), trivial⟩)
 clear hS
 intro w hS
 refine WL.nil (DQ.mk2 (C' := St w0 H ([(b_2, oc #[i6 n_4, v_7, v_12, v_98, v_22, v_27, v_176, v_37, i6 head_41, v_44, u_49, v_52, .bool dead_56] 60)] ++ (fp_9 ++ (fp_14 ++ (fp_99 ++ (fp_24 ++ (fp_29 ++ (fp_34 ++ (fp_39 ++ (fp_46 ++ (fp_54 ++ (fp_59 ++ L)))))))))))) hS ⟨il, il, il, il, il, il, il, il, il, il, il, il, il, il, il, trivial⟩ ?_)
 clear hS w
 refine Wd.nil fun w hS => ?_
 refine WQ.next ?_
 refine Sb [(0, (pq b_2)), (1, i6 level_62)] ?_
 refine WC.sr ?_
 iterate 6 refine R hS ?_
 obtain ⟨hb_184, hV⟩ := hV
 refine Rx hS (ex_slice_hi_own2 underlying23 sizeOf3 rfl rfl h_38 hb_184) ?_
 rintro v_185 ⟨h_186, ht_187⟩
 iterate 2 refine R hS ?_
 refine St1 #[i6 n_4, v_7, v_12, v_98, v_22, v_27, v_176, v_185, i6 head_41, v_44, u_49, v_52, .bool dead_56] sizeOf23 hS ?_ (cs := [v_185]) (hc := (congrArg Array.toList (cells_one (OwnSl.one ht_187)))) (hone := ⟨(OwnSl.one ht_187), trivial⟩)
 clear hS
 intro w hS
 refine WL.nx ?_
 refine WC.region ?_
 iterate 5 refine R hS ?_
 have hl_189 : Len (trail_31.take (ix starts_36 level_62).toNat) := ht_178.bound
 replace hV := hV hl_189
 refine Rn hS (ex_len_own underlying23 rfl ht_178) ?_
 iterate 2 refine R hS ?_
 refine St1 #[i6 n_4, v_7, v_12, v_98, v_22, v_27, v_176, v_185, i6 ((trail_31.take (ix starts_36 level_62).toNat).length : Int), v_44, u_49, v_52, .bool dead_56] sizeOf3 hS ?_
 clear hS
 intro w hS
 refine WL.nil ?_
 replace hS := hS.f11.f11.f11.f11.f11.f11.f11.f11.f11.f11.f11
 exact leave0 (.inr rfl) rfl (⟨c_97, (trail_31.take (ix starts_36 level_62).toNat), (starts_36.take level_62.toNat), ((trail_31.take (ix starts_36 level_62).toNat).length : Int), v_98, fp_99, v_176, fp_34, v_185, fp_39, hV, rfl, h_100, ht_178, ht_187, (Len.i64 hl_189), hS⟩)

theorem S_warm {w0 : World} {H : View} {L : Seg} {w : World} {b_2 : Nat} {n_4 : Int} {v_7 : Value} {clauses_6 : List Raw} {fp_9 : Seg} {v_12 : Value} {watch_11 : List (Int × Raw)} {fp_14 : Seg} {v_17 : Value} {value_16 : LI} {fp_19 : Seg} {v_22 : Value} {level_21 : LI} {fp_24 : Seg} {v_27 : Value} {reason_26 : LI} {fp_29 : Seg} {v_32 : Value} {trail_31 : LI} {fp_34 : Seg} {v_37 : Value} {starts_36 : LI} {fp_39 : Seg} {head_41 : Int} {v_44 : Value} {heat_43 : List Unit} {fp_46 : Seg} {u_49 : Value} {v_52 : Value} {proof_51 : List (Bool × LI)} {fp_54 : Seg} {dead_56 : Bool} {A_61 : Arena} {fp_59 : Seg} {v_62 : Int} {Q : (List Unit) → Prop} (hr_5 : I64 n_4) (h_8 : OwnSl H cRaw 23 v_7 clauses_6 fp_9) (h_13 : OwnMp H kInt cRaw v_12 watch_11 fp_14) (h_18 : OwnSl H (cInt .i64) 3 v_17 value_16 fp_19) (h_23 : OwnSl H (cInt .i64) 3 v_22 level_21 fp_24) (h_28 : OwnSl H (cInt .i64) 3 v_27 reason_26 fp_29) (h_33 : OwnSl H (cInt .i64) 3 v_32 trail_31 fp_34) (h_38 : OwnSl H (cInt .i64) 3 v_37 starts_36 fp_39) (hr_42 : I64 head_41) (h_45 : OwnSl H cF 58 v_44 heat_43 fp_46) (h_50 : IsF u_49) (h_53 : OwnSl H (cPair cBool (cSl (cInt .i64))) 50 v_52 proof_51 fp_54) (hA_58 : IsAr 3 A_61 fp_59) (hr_63 : I64 v_62) (hS : St w0 H ([(b_2, oc #[i6 n_4, v_7, v_12, v_17, v_22, v_27, v_32, v_37, i6 head_41, v_44, u_49, v_52, .bool dead_56] 60)] ++ (fp_9 ++ (fp_14 ++ (fp_19 ++ (fp_24 ++ (fp_29 ++ (fp_34 ++ (fp_39 ++ (fp_46 ++ (fp_54 ++ (fp_59 ++ L))))))))))) w) (hV : V_warm n_4 clauses_6 watch_11 value_16 level_21 reason_26 trail_31 starts_36 head_41 heat_43 proof_51 dead_56 A_61 v_62 Q) :
 Calls Tryz.prog 48 #[(pq b_2), i6 v_62] w fun e w' => ∃ (r1 : List Unit) (v1 : Value) (fp1 : Seg) (u2 : Value), Q r1 ∧ e = .returned (.tuple #[]) ∧ OwnSl H cF 58 v1 r1 fp1 ∧ IsF u2 ∧ St w0 H ([(b_2, oc #[i6 n_4, v_7, v_12, v_17, v_22, v_27, v_32, v_37, i6 head_41, v1, u2, v_52, .bool dead_56] 60)] ++ (fp_9 ++ (fp_14 ++ (fp_19 ++ (fp_24 ++ (fp_29 ++ (fp_34 ++ (fp_39 ++ (fp1 ++ (fp_54 ++ (fp_59 ++ L))))))))))) w' := by
 unfold V_warm at hV
 refine enter func48 rfl ntmps48 rfl (lk_args_cons (d := 0) (v := (pq b_2)) rfl (lk_args_cons (d := 1) (v := i6 v_62) rfl (lk_args_nil _))) ?_
 refine WC.seq ?_
 refine WC.drawn (σ := [0, 1, 2, 3, 4, 5, 6, 7, 8, 9, 10, 11, 12, 13]) (C := St w0 H ([(b_2, oc #[i6 n_4, v_7, v_12, v_17, v_22, v_27, v_32, v_37, i6 head_41, v_44, u_49, v_52, .bool dead_56] 60)] ++ (fp_9 ++ (fp_14 ++ (fp_19 ++ (fp_24 ++ (fp_29 ++ (fp_34 ++ (fp_39 ++ (fp_46 ++ (fp_54 ++ (fp_59 ++ L)))))))))))) [[], [0], [0, 1], [0, 1, 2], [], [0, 1, 2, 3, 4], [0, 1, 2, 3, 4, 5], [], [7], [7, 8], [7, 8, 9], [0, 1, 2, 3, 4, 5, 6, 7, 8, 9, 10], [0, 1, 2, 3, 4, 5, 6, 7, 8, 9, 10, 11], [0, 1, 2, 3, 4, 5, 6, 7, 8, 9, 10, 11, 12]] [13] mixed (by kernel_rfl) (hS.drawn _) ?_
 clear hS w
 refine Dm fun q_65 hq_64 => ?_
 refine Wd.run rfl rfl rfl rfl (fun _ => ex_nilCheck rfl) fun q_67 hq_66 => ?_
 refine Wd.run rfl rfl rfl rfl (fun _ => ex_fieldAddr (o' := 9) underlying60 rfl sizeOf57 rfl rfl) fun q_69 hq_68 => ?_
 refine Wd.runb (off := 9) rfl rfl rfl rfl (fun _ _ _ h => ex_load_box isAgg57 rfl h) rfl (fun _ h => h) fun q_71 hq_70 => ?_
 refine Dm fun q_73 hq_72 => ?_
 obtain ⟨hin_76, hV⟩ := hV
 refine Wd.runx rfl rfl rfl rfl (exAll (ex_index_own underlying57 sizeOf58 rfl rfl h_45 hin_76)) ?_
 intro p_77 hp_78
 intro q_75 hq_74
 refine Wd.runs (fp := fp_46) rfl rfl rfl rfl (ex_load_own_s isAgg58 rfl rfl h_45 hp_78 hin_76) (fun _ h => St.f9 h) ?_
 intro u_81 hu_82
 replace hu_82 := cF_rep hu_82
 intro q_80 hq_79
 refine Dm fun q_84 hq_83 => ?_
 refine Wd.run rfl rfl rfl rfl (fun _ => ex_nilCheck rfl) fun q_86 hq_85 => ?_
 refine Wd.run rfl rfl rfl rfl (fun _ => ex_fieldAddr (o' := 10) underlying60 rfl sizeOf58 rfl rfl) fun q_88 hq_87 => ?_
 refine Wd.runb (off := 10) rfl rfl rfl rfl (fun _ _ _ h => ex_load_box isAgg58 rfl h) rfl (fun _ h => h) fun q_90 hq_89 => ?_
 refine Wd.runx rfl rfl rfl rfl (exAll (ex_f_add rfl rfl hu_82 h_50)) ?_
 intro u_93 h_94
 intro q_92 hq_91
 obtain ⟨hin_97, hV⟩ := hV
 refine Wd.runx rfl rfl rfl rfl (exAll (ex_index_own underlying57 sizeOf58 rfl rfl h_45 hin_97)) ?_
 intro p_98 hp_99
 intro q_96 hq_95
 refine Wd.turn rfl rfl rfl fun w hS => ?_
 replace hS := hS.f9
 refine WL.store_own sizeOf58 rfl rfl rfl (cF_mk (x := ()) h_94) hS h_45 hp_99 hin_97 ?_
 clear hS
 intro w fp_101 h_100 hS
 refine WL.nil (DQ.mk2 (C' := St w0 H (fp_101 ++ ([(b_2, oc #[i6 n_4, v_7, v_12, v_17, v_22, v_27, v_32, v_37, i6 head_41, v_44, u_49, v_52, .bool dead_56] 60)] ++ (fp_9 ++ (fp_14 ++ (fp_19 ++ (fp_24 ++ (fp_29 ++ (fp_34 ++ (fp_39 ++ (fp_54 ++ (fp_59 ++ L)))))))))))) hS ⟨il, il, il, il, il, il, il, il, il, il, il, il, il, trivial⟩ ?_)
 clear hS w
 refine Wd.nil fun w hS => ?_
 refine WQ.next ?_
 refine Sb [(0, (pq b_2)), (1, i6 v_62)] ?_
 refine WC.sr ?_
 iterate 3 refine R hS ?_
 replace hS := hS.f2
 iterate 2 refine R hS ?_
 obtain ⟨hin_102, hV⟩ := hV
 refine Rx hS (ex_index_own underlying57 sizeOf58 rfl rfl h_100 hin_102) ?_
 intro p_103 hp_104
 replace hS := hS.f2
 refine Rx hS (exNow (H := H) (L := [(b_2, oc #[i6 n_4, v_7, v_12, v_17, v_22, v_27, v_32, v_37, i6 head_41, v_44, u_49, v_52, .bool dead_56] 60)] ++ (fp_9 ++ (fp_14 ++ (fp_19 ++ (fp_24 ++ (fp_29 ++ (fp_34 ++ (fp_39 ++ (fp_54 ++ (fp_59 ++ L)))))))))) (ex_load_own_s isAgg58 rfl rfl h_100 hp_104 hin_102)) ?_
 intro u_105 hu_106
 replace hu_106 := cF_rep hu_106
 refine Rx hS (ex_f_gtr rfl rfl hu_106 (show IsF (.float .f64 6103021453049119613) from ⟨_, rfl, by decide⟩)) ?_
 rintro _ ⟨b_109, rfl⟩
 replace hV := hV b_109
 refine WL.nx ?_
 refine Cd ?_ ?_
 intro hc_172
 replace hV := hV.1 hc_172
 refine WC.seq ?_
 refine WC.sr ?_
 iterate 3 refine R hS ?_
 replace hS := hS.f2
 refine R hS ?_
 have hl_110 : Len (heat_43.set v_62.toNat ()) := h_100.bound
 replace hV := hV hl_110
 refine Rn hS (ex_len_own underlying57 rfl h_100) ?_
 refine R hS ?_
 refine WL.nx ?_
 refine Sb [(0, (pq b_2)), (30, i6 ((heat_43.set v_62.toNat ()).length : Int)), (31, i6 0)] ?_
 refine WC.block ?_
 replace hS := hS.f11.f11.f4.f11.f11.f11.f11.f11.f11.f11.f11
 obtain ⟨I_150, mu_151, hI_171, hV⟩ := hV
 refine WC.loop (σ := (List Unit) × Int) (fun s a w => ∃ (c_128 : List Unit) (x_132 : Int) (v_129 : Value) (fp_130 : Seg), s = (c_128, x_132) ∧ I_150 (c_128, x_132) ∧ OwnSl H cF 58 v_129 c_128 fp_130 ∧ I64 x_132 ∧ St w0 H ([(b_2, oc #[i6 n_4, v_7, v_12, v_17, v_22, v_27, v_32, v_37, i6 head_41, v_129, u_49, v_52, .bool dead_56] 60)] ++ (fp_9 ++ (fp_14 ++ (fp_19 ++ (fp_24 ++ (fp_29 ++ (fp_34 ++ (fp_39 ++ (fp_130 ++ (fp_54 ++ (fp_59 ++ L))))))))))) w ∧ Fr 51 [(0, (pq b_2)), (30, i6 ((heat_43.set v_62.toNat ()).length : Int)), (31, i6 x_132)] a) mu_151 ((heat_43.set v_62.toNat ()), 0) ?_ ?_
 exact fun a ha => ⟨(heat_43.set v_62.toNat ()), 0, v_44, fp_101, rfl, hI_171, h_100, (by unfold I64; omega), hS, ha.os⟩
 clear hS hI_171
 rintro _ a w ⟨c_128, x_132, v_129, fp_130, rfl, hI, h_131, hr_133, hS, ha⟩
 refine in_frame ha ?_
 clear ha
 replace hV := hV _ hI
 clear hI
 refine WC.sr ?_
 refine R hS ?_
 refine WL.nx ?_
 refine WC.seq ?_
 refine Cd ?_ ?_
 intro hc_170
 replace hV := hV.1 (od hc_170)
 refine WC.skip ?_
 refine WQ.next ?_
 refine WC.seq ?_
 refine WC.block ?_
 refine WC.sr ?_
 iterate 2 refine R hS ?_
 refine WL.nx ?_
 refine WC.region ?_
 iterate 5 refine R hS ?_
 obtain ⟨hin_154, hV⟩ := hV
 refine Rx hS (ex_index_own underlying57 sizeOf58 rfl rfl h_131 hin_154) ?_
 intro p_155 hp_156
 replace hS := hS.f9
 refine Rx hS (exNow (H := H) (L := [(b_2, oc #[i6 n_4, v_7, v_12, v_17, v_22, v_27, v_32, v_37, i6 head_41, v_129, u_49, v_52, .bool dead_56] 60)] ++ (fp_9 ++ (fp_14 ++ (fp_19 ++ (fp_24 ++ (fp_29 ++ (fp_34 ++ (fp_39 ++ (fp_54 ++ (fp_59 ++ L)))))))))) (ex_load_own_s isAgg58 rfl rfl h_131 hp_156 hin_154)) ?_
 intro u_157 hu_158
 replace hu_158 := cF_rep hu_158
 refine Rx hS (ex_f_mul rfl rfl hu_158 (show IsFin (.float .f64 3110860544497550640) from ⟨_, rfl, by decide, by decide⟩)) ?_
 intro u_159 h_160
 obtain ⟨hin_161, hV⟩ := hV
 refine Rx hS (ex_index_own underlying57 sizeOf58 rfl rfl h_131 hin_161) ?_
 intro p_162 hp_163
 refine WL.store_own sizeOf58 rfl rfl rfl (cF_mk (x := ()) h_160) hS h_131 hp_163 hin_161 ?_
 clear hS
 intro w fp_165 h_164 hS
 refine WL.nil ?_
 refine WQ.out nofun ?_
 refine WQ.next ?_
 refine Sb [(0, (pq b_2)), (30, i6 ((heat_43.set v_62.toNat ()).length : Int)), (31, i6 x_132)] ?_
 refine WC.region ?_
 obtain ⟨hi_167, hV⟩ := hV
 iterate 2 refine R hS ?_
 refine WL.nil ?_
 replace hS := hS.f11.f11.f3.f11.f11.f11.f11.f11.f11.f11.f11
 exact Wt fun a ha => ⟨((c_128.set x_132.toNat ()), (x_132 + 1)), ⟨(c_128.set x_132.toNat ()), (x_132 + 1), v_129, fp_165, rfl, hV.1, h_164, hi_167, hS, ha.os⟩, hV.2⟩
 intro hc_170
 replace hV := hV.2 (ov hc_170)
 refine WC.exit ?_
 refine Wp ?_
 refine Wp ?_
 refine WQ.hit ?_
 refine WQ.next ?_
 refine WC.region ?_
 iterate 4 refine R hS ?_
 refine Rx hS (ex_f_mul rfl rfl h_50 (show IsFin (.float .f64 3110860544497550640) from ⟨_, rfl, by decide, by decide⟩)) ?_
 intro u_168 h_169
 iterate 2 refine R hS ?_
 refine St1 #[i6 n_4, v_7, v_12, v_17, v_22, v_27, v_32, v_37, i6 head_41, v_129, u_168, v_52, .bool dead_56] sizeOf58 hS ?_ (cs := [u_168]) (hc := (congrArg Array.toList (cells_one (IsF.one h_169)))) (hone := ⟨(IsF.one h_169), trivial⟩)
 clear hS
 intro w hS
 refine WL.nil ?_
 replace hS := hS.f11.f11.f11.f11.f11.f11.f11.f11.f11.f11.f11
 exact leave0 (.inr rfl) rfl (⟨c_128, v_129, fp_130, u_168, hV, rfl, h_131, h_169, hS⟩)
 intro hc_172
 replace hV := hV.2 hc_172
 refine WC.skip ?_
 replace hS := hS.f11.f11.f3.f11.f11.f11.f11.f11.f11.f11.f11
 exact leave0 (.inr rfl) rfl (⟨(heat_43.set v_62.toNat ()), v_44, fp_101, u_49, hV, rfl, h_100, h_50, hS⟩)

theorem S_learn {w0 : World} {H : View} {L : Seg} {w : World} {b_2 : Nat} {n_4 : Int} {v_7 : Value} {clauses_6 : List Raw} {fp_9 : Seg} {v_12 : Value} {watch_11 : List (Int × Raw)} {fp_14 : Seg} {v_17 : Value} {value_16 : LI} {fp_19 : Seg} {v_22 : Value} {level_21 : LI} {fp_24 : Seg} {v_27 : Value} {reason_26 : LI} {fp_29 : Seg} {v_32 : Value} {trail_31 : LI} {fp_34 : Seg} {v_37 : Value} {starts_36 : LI} {fp_39 : Seg} {head_41 : Int} {v_44 : Value} {heat_43 : List Unit} {fp_46 : Seg} {u_49 : Value} {v_52 : Value} {proof_51 : List (Bool × LI)} {fp_54 : Seg} {dead_56 : Bool} {A_61 : Arena} {fp_59 : Seg} {conflict_62 : Int} {Q : LI → Int → (List Unit) → Prop} (hr_5 : I64 n_4) (h_8 : OwnSl H cRaw 23 v_7 clauses_6 fp_9) (h_13 : OwnMp H kInt cRaw v_12 watch_11 fp_14) (h_18 : OwnSl H (cInt .i64) 3 v_17 value_16 fp_19) (h_23 : OwnSl H (cInt .i64) 3 v_22 level_21 fp_24) (h_28 : OwnSl H (cInt .i64) 3 v_27 reason_26 fp_29) (h_33 : OwnSl H (cInt .i64) 3 v_32 trail_31 fp_34) (h_38 : OwnSl H (cInt .i64) 3 v_37 starts_36 fp_39) (hr_42 : I64 head_41) (h_45 : OwnSl H cF 58 v_44 heat_43 fp_46) (h_50 : IsF u_49) (h_53 : OwnSl H (cPair cBool (cSl (cInt .i64))) 50 v_52 proof_51 fp_54) (hA_58 : IsAr 3 A_61 fp_59) (hr_63 : I64 conflict_62) (hS : St w0 H ([(b_2, oc #[i6 n_4, v_7, v_12, v_17, v_22, v_27, v_32, v_37, i6 head_41, v_44, u_49, v_52, .bool dead_56] 60)] ++ (fp_9 ++ (fp_14 ++ (fp_19 ++ (fp_24 ++ (fp_29 ++ (fp_34 ++ (fp_39 ++ (fp_46 ++ (fp_54 ++ (fp_59 ++ L))))))))))) w) (hV : V_learn n_4 clauses_6 watch_11 value_16 level_21 reason_26 trail_31 starts_36 head_41 heat_43 proof_51 dead_56 A_61 conflict_62 Q) :
 Calls Tryz.prog 27 #[(pq b_2), i6 conflict_62] w fun e w' => ∃ (r1 : LI) (r2 : Int) (r3 : List Unit) (v1 : Value) (fp1 : Seg) (v3 : Value) (fp3 : Seg) (u4 : Value), Q r1 r2 r3 ∧ e = .returned (.tuple #[v1, i6 r2]) ∧ OwnSl H (cInt .i64) 3 v1 r1 fp1 ∧ I64 r2 ∧ OwnSl H cF 58 v3 r3 fp3 ∧ IsF u4 ∧ St w0 H (fp1 ++ ([(b_2, oc #[i6 n_4, v_7, v_12, v_17, v_22, v_27, v_32, v_37, i6 head_41, v3, u4, v_52, .bool dead_56] 60)] ++ (fp_9 ++ (fp_14 ++ (fp_19 ++ (fp_24 ++ (fp_29 ++ (fp_34 ++ (fp_39 ++ (fp3 ++ (fp_54 ++ (fp_59 ++ L)))))))))))) w' := by
 unfold V_learn at hV
 refine enter func27 rfl ntmps27 rfl (lk_args_cons (d := 0) (v := (pq b_2)) rfl (lk_args_cons (d := 1) (v := i6 conflict_62) rfl (lk_args_nil _))) ?_
 refine WC.sr ?_
 iterate 2 refine R hS ?_
 refine WL.nx ?_
 refine WC.sr ?_
 iterate 4 refine R hS ?_
 obtain ⟨hi_66, hV⟩ := hV
 refine R hS ?_
 obtain ⟨hm_71, hV⟩ := hV
 refine WL.make (c := cBool) (z0 := false) rfl underlying24 info4 rfl rfl rfl rfl hm_71.1 hm_71.2.1 hm_71.2.2 hS ?_
 clear hS
 intro v_68 w fp_69 h_70 hS
 refine R hS ?_
 refine WL.nx ?_
 refine WC.sr ?_
 refine WL.build1 (c := (cInt .i64)) rfl underlying23 info3 rfl rfl (cInt_mk (I64.has (by unfold I64; omega))) hS ?_
 clear hS
 intro v_73 w fp_74 h_75 hS
 refine R hS ?_
 refine WL.nx ?_
 refine WC.seq ?_
 refine WC.quiet (C := St w0 H (fp_74 ++ (fp_69 ++ ([(b_2, oc #[i6 n_4, v_7, v_12, v_17, v_22, v_27, v_32, v_37, i6 head_41, v_44, u_49, v_52, .bool dead_56] 60)] ++ (fp_9 ++ (fp_14 ++ (fp_19 ++ (fp_24 ++ (fp_29 ++ (fp_34 ++ (fp_39 ++ (fp_46 ++ (fp_54 ++ (fp_59 ++ L)))))))))))))) mixed (by kernel_rfl) (hS.drawn _) ?_
 clear hS w
 iterate 3 refine Rq ?_
 refine Rm ((ex_load_box isAgg23 rfl rfl).of (fun _ h => St.f3 h)) ?_
 have hl_76 : Len trail_31 := h_33.bound
 replace hV := hV hl_76
 refine Rm (ex_len_own underlying23 rfl h_33) ?_
 iterate 2 refine Rq ?_
 refine Wq.nil fun w hS => ?_
 refine WQ.next ?_
 refine Sb [(0, (pq b_2)), (1, i6 conflict_62), (6, v_68), (7, v_73), (8, i6 0), (9, i6 (trail_31.length : Int))] ?_
 refine WC.sr ?_
 iterate 3 refine R hS ?_
 replace hS := hS.f3
 iterate 2 refine R hS ?_
 obtain ⟨hin_77, hV⟩ := hV
 refine Rx hS (ex_index_own underlying22 sizeOf23 rfl rfl h_8 hin_77) ?_
 intro p_78 hp_79
 replace hS := hS.f4
 refine Rx hS (exNow (H := H) (L := [(b_2, oc #[i6 n_4, v_7, v_12, v_17, v_22, v_27, v_32, v_37, i6 head_41, v_44, u_49, v_52, .bool dead_56] 60)] ++ (fp_74 ++ (fp_69 ++ (fp_14 ++ (fp_19 ++ (fp_24 ++ (fp_29 ++ (fp_34 ++ (fp_39 ++ (fp_46 ++ (fp_54 ++ (fp_59 ++ L)))))))))))) (ex_load_own_s isAgg23 rfl rfl h_8 hp_79 hin_77)) ?_
 intro u_80 hu_81
 obtain rfl := cRaw_rep hu_81
 refine R hS ?_
 refine WL.nx ?_
 refine WC.sr ?_
 refine R hS ?_
 refine WL.nx ?_
 refine WC.seq ?_
 refine WC.block ?_
 replace hS := hS.f3.f4.f13.f13.f13.f13.f13.f13.f13.f13.f13.f12.f13
 obtain ⟨I_1510, mu_1511, hI_2738, hV⟩ := hV
 refine WC.loop (σ := (List Unit) × (List Bool) × LI × Int × Int × Raw × Int) (fun s a w => ∃ (c_785 : List Unit) (seen_792 : List Bool) (out_797 : LI) (xopen_801 : Int) (xat_803 : Int) (c_805 : Raw) (p_806 : Int) (v_786 : Value) (fp_787 : Seg) (u_789 : Value) (v_793 : Value) (fp_794 : Seg) (v_798 : Value) (fp_799 : Seg), s = (c_785, seen_792, out_797, xopen_801, xat_803, c_805, p_806) ∧ I_1510 (c_785, seen_792, out_797, xopen_801, xat_803, c_805, p_806) ∧ OwnSl H cF 58 v_786 c_785 fp_787 ∧ IsF u_789 ∧ OwnSl H cBool 4 v_793 seen_792 fp_794 ∧ OwnSl H (cInt .i64) 3 v_798 out_797 fp_799 ∧ I64 xopen_801 ∧ I64 xat_803 ∧ I64 p_806 ∧ St w0 H ([(b_2, oc #[i6 n_4, v_7, v_12, v_17, v_22, v_27, v_32, v_37, i6 head_41, v_786, u_789, v_52, .bool dead_56] 60)] ++ (fp_9 ++ (fp_14 ++ (fp_19 ++ (fp_24 ++ (fp_29 ++ (fp_34 ++ (fp_39 ++ (fp_787 ++ (fp_54 ++ (fp_59 ++ (fp_794 ++ (fp_799 ++ L))))))))))))) w ∧ Fr 187 [(0, (pq b_2)), (6, v_793), (7, v_798), (8, i6 xopen_801), (9, i6 xat_803), (10, rawV c_805), (11, i6 p_806)] a) mu_1511 (heat_43, (List.replicate (n_4 + 1).toNat false), [0], 0, (trail_31.length : Int), (ix clauses_6 conflict_62), 0) ?_ ?_
 exact fun a ha => ⟨heat_43, (List.replicate (n_4 + 1).toNat false), [0], 0, (trail_31.length : Int), (ix clauses_6 conflict_62), 0, v_44, fp_46, u_49, v_68, fp_69, v_73, fp_74, rfl, hI_2738, h_45, h_50, h_70, h_75, (by unfold I64; omega), (Len.i64 hl_76), (by unfold I64; omega), hS, ha.os⟩
 clear hS hI_2738
 rintro _ a w ⟨c_785, seen_792, out_797, xopen_801, xat_803, c_805, p_806, v_786, fp_787, u_789, v_793, fp_794, v_798, fp_799, rfl, hI, h_788, h_790, h_795, h_800, hr_802, hr_804, hr_807, hS, ha⟩
 refine in_frame ha ?_
 clear ha
 replace hV := hV _ hI
 clear hI
 refine WC.block ?_
 refine WC.seq ?_
 refine WC.sr ?_
 refine R hS ?_
 obtain ⟨hl_1513, hV⟩ := hV
 iterate 2 refine R hS ?_
 refine WL.nx ?_
 refine WC.block ?_
 replace hS := hS.f13.f13.f13.f13.f13.f13.f13.f13.f13.f13.f13.f13.f13
 obtain ⟨I_1909, mu_1910, hI_2737, hV⟩ := hV
 refine WC.loop (σ := (List Unit) × (List Bool) × LI × Int × Int) (fun s a w => ∃ (c_1702 : List Unit) (seen_1709 : List Bool) (out_1714 : LI) (xopen_1718 : Int) (x_1720 : Int) (v_1703 : Value) (fp_1704 : Seg) (u_1706 : Value) (v_1710 : Value) (fp_1711 : Seg) (v_1715 : Value) (fp_1716 : Seg), s = (c_1702, seen_1709, out_1714, xopen_1718, x_1720) ∧ I_1909 (c_1702, seen_1709, out_1714, xopen_1718, x_1720) ∧ OwnSl H cF 58 v_1703 c_1702 fp_1704 ∧ IsF u_1706 ∧ OwnSl H cBool 4 v_1710 seen_1709 fp_1711 ∧ OwnSl H (cInt .i64) 3 v_1715 out_1714 fp_1716 ∧ I64 xopen_1718 ∧ I64 x_1720 ∧ St w0 H ([(b_2, oc #[i6 n_4, v_7, v_12, v_17, v_22, v_27, v_32, v_37, i6 head_41, v_1703, u_1706, v_52, .bool dead_56] 60)] ++ (fp_9 ++ (fp_14 ++ (fp_19 ++ (fp_24 ++ (fp_29 ++ (fp_34 ++ (fp_39 ++ (fp_1704 ++ (fp_54 ++ (fp_59 ++ (fp_1711 ++ (fp_1716 ++ L))))))))))))) w ∧ Fr 187 [(0, (pq b_2)), (6, v_1710), (7, v_1715), (8, i6 xopen_1718), (9, i6 xat_803), (11, i6 p_806), (37, rawV c_805), (38, i6 (c_805.n : Int)), (39, i6 x_1720)] a) mu_1910 (c_785, seen_792, out_797, xopen_801, 0) ?_ ?_
 exact fun a ha => ⟨c_785, seen_792, out_797, xopen_801, 0, v_786, fp_787, u_789, v_793, fp_794, v_798, fp_799, rfl, hI_2737, h_788, h_790, h_795, h_800, hr_802, (by unfold I64; omega), hS, ha.os⟩
 clear hS hI_2737
 rintro _ a w ⟨c_1702, seen_1709, out_1714, xopen_1718, x_1720, v_1703, fp_1704, u_1706, v_1710, fp_1711, v_1715, fp_1716, rfl, hI, h_1705, h_1707, h_1712, h_1717, hr_1719, hr_1721, hS, ha⟩
 refine in_frame ha ?_
 clear ha
 replace hV := hV _ hI
 clear hI
 refine WC.sr ?_
 refine R hS ?_
 refine WL.nx ?_
 refine WC.seq ?_
 refine Cd ?_ ?_
 intro hc_2736
 replace hV := hV.1 (od hc_2736)
 refine WC.skip ?_
 refine WQ.next ?_
 obtain ⟨J_2013, hJ_2014, hV⟩ := hV
 refine WC.meet (fun a w => ∃ (c_1995 : List Unit) (seen_2002 : List Bool) (out_2007 : LI) (xopen_2011 : Int) (v_1996 : Value) (fp_1997 : Seg) (u_1999 : Value) (v_2003 : Value) (fp_2004 : Seg) (v_2008 : Value) (fp_2009 : Seg), J_2013 (c_1995, seen_2002, out_2007, xopen_2011) ∧ OwnSl H cF 58 v_1996 c_1995 fp_1997 ∧ IsF u_1999 ∧ OwnSl H cBool 4 v_2003 seen_2002 fp_2004 ∧ OwnSl H (cInt .i64) 3 v_2008 out_2007 fp_2009 ∧ I64 xopen_2011 ∧ St w0 H ([(b_2, oc #[i6 n_4, v_7, v_12, v_17, v_22, v_27, v_32, v_37, i6 head_41, v_1996, u_1999, v_52, .bool dead_56] 60)] ++ (fp_9 ++ (fp_14 ++ (fp_19 ++ (fp_24 ++ (fp_29 ++ (fp_34 ++ (fp_39 ++ (fp_1997 ++ (fp_54 ++ (fp_59 ++ (fp_2004 ++ (fp_2009 ++ L))))))))))))) w ∧ Fr 187 [(0, (pq b_2)), (6, v_2003), (7, v_2008), (8, i6 xopen_2011), (9, i6 xat_803), (11, i6 p_806), (37, rawV c_805), (38, i6 (c_805.n : Int)), (39, i6 x_1720)] a) ?_ ?_
 rintro a w ⟨c_1995, seen_2002, out_2007, xopen_2011, v_1996, fp_1997, u_1999, v_2003, fp_2004, v_2008, fp_2009, hI, h_1998, h_2000, h_2005, h_2010, hr_2012, hS, ha⟩
 refine in_frame ha ?_
 clear ha hV
 have hV := hJ_2014 _ hI
 clear hI hJ_2014
 refine WC.region ?_
 obtain ⟨hi_2097, hV⟩ := hV
 iterate 2 refine R hS ?_
 refine WL.nil ?_
 replace hS := hS.f13.f13.f13.f13.f13.f13.f13.f13.f13.f13.f13.f13.f13
 exact Wt fun a ha => ⟨(c_1995, seen_2002, out_2007, xopen_2011, (x_1720 + 1)), ⟨c_1995, seen_2002, out_2007, xopen_2011, (x_1720 + 1), v_1996, fp_1997, u_1999, v_2003, fp_2004, v_2008, fp_2009, rfl, hV.1, h_1998, h_2000, h_2005, h_2010, hr_2012, hi_2097, hS, ha.os⟩, hV.2⟩
 clear hJ_2014
 refine WC.block ?_
 refine WC.sr ?_
 obtain ⟨hin_2015, hV⟩ := hV
 refine Rn hS (ex_r_index underlying23 sizeOf3 rfl rfl hin_2015) ?_
 replace hS := hS.f11
 obtain ⟨hrd_2016, hV⟩ := hV
 refine Rn hS (ex_r_load isAgg3 rfl hA_58 hrd_2016) ?_
 refine R hS ?_
 refine WL.nx ?_
 refine WC.sr ?_
 iterate 2 refine R hS ?_
 obtain ⟨hi_2018, hV⟩ := hV
 iterate 3 refine R hS ?_
 refine WL.nx ?_
 refine WC.seq ?_
 obtain ⟨J_2039, hJ_2040, hV⟩ := hV
 refine WC.meet (fun a w => ∃ (x_2038 : Bool), J_2039 x_2038 ∧ St w0 H ([(b_2, oc #[i6 n_4, v_7, v_12, v_17, v_22, v_27, v_32, v_37, i6 head_41, v_1703, u_1706, v_52, .bool dead_56] 60)] ++ (fp_9 ++ (fp_14 ++ (fp_19 ++ (fp_24 ++ (fp_29 ++ (fp_34 ++ (fp_39 ++ (fp_1704 ++ (fp_54 ++ (fp_59 ++ (fp_1711 ++ (fp_1716 ++ L))))))))))))) w ∧ Fr 187 [(0, (pq b_2)), (6, v_1710), (7, v_1715), (8, i6 xopen_1718), (9, i6 xat_803), (11, i6 p_806), (13, i6 (ag A_61 c_805 x_1720)), (14, i6 (max (ag A_61 c_805 x_1720) (-(ag A_61 c_805 x_1720)))), (37, rawV c_805), (38, i6 (c_805.n : Int)), (39, i6 x_1720), (65, .bool x_2038)] a) ?_ ?_
 rintro a w ⟨x_2038, hI, hS, ha⟩
 refine in_frame ha ?_
 clear ha hV
 have hV := hJ_2040 _ hI
 clear hI hJ_2040
 refine Cd ?_ ?_
 intro hc_2095
 replace hV := hV.1 hc_2095
 refine WC.exit ?_
 refine Wp ?_
 refine WQ.hit ?_
 replace hS := hS.f13.f13.f13.f13.f13.f13.f13.f13.f13.f13.f13.f13.f13
 exact Wt fun a ha => ⟨c_1702, seen_1709, out_1714, xopen_1718, v_1703, fp_1704, u_1706, v_1710, fp_1711, v_1715, fp_1716, hV, h_1705, h_1707, h_1712, h_1717, hr_1719, hS, ha.os⟩
 intro hc_2095
 replace hV := hV.2 hc_2095
 refine WC.skip ?_
 refine WQ.next ?_
 refine WC.sr ?_
 iterate 2 refine R hS ?_
 obtain ⟨hin_2060, hV⟩ := hV
 refine Rx hS (ex_index_own underlying24 sizeOf4 rfl rfl h_1712 hin_2060) ?_
 intro p_2061 hp_2062
 replace hS := hS.f12
 refine WL.store_own sizeOf4 rfl rfl rfl cBool_mk hS h_1712 hp_2062 hin_2060 ?_
 clear hS
 intro w fp_2064 h_2063 hS
 refine WL.nx ?_
 refine WC.sr ?_
 iterate 2 refine R hS ?_
 replace hS := hS.f12.f12.f12.f12.f12.f12.f12.f12.f12.f12.f12
 refine Rc (enters0 (vs := [(pq b_2), i6 (max (ag A_61 c_805 x_1720) (-(ag A_61 c_805 x_1720)))]) call48 ⟨rfl, rfl, trivial⟩) (S_warm  hr_5 h_8 h_13 h_18 h_23 h_28 h_33 h_38 hr_42 h_1705 h_1707 h_53 hA_58 (I64.max (IsAr.ag64 hA_58 _ _) hi_2018) hS hV) ?_
 clear hV hS
 rintro _ w ⟨c_2065, v_2066, fp_2067, u_2069, hV, rfl, h_2068, h_2070, hS⟩
 refine ⟨_, rfl, ?_⟩
 refine WL.nx ?_
 refine WC.seq ?_
 refine WC.quiet (C := St w0 H ([(b_2, oc #[i6 n_4, v_7, v_12, v_17, v_22, v_27, v_32, v_37, i6 head_41, v_2066, u_2069, v_52, .bool dead_56] 60)] ++ (fp_9 ++ (fp_14 ++ (fp_19 ++ (fp_24 ++ (fp_29 ++ (fp_34 ++ (fp_39 ++ (fp_2067 ++ (fp_54 ++ (fp_59 ++ (fp_2064 ++ (fp_1716 ++ L)))))))))))))) mixed (by kernel_rfl) (hS.drawn _) ?_
 clear hS w
 iterate 5 refine Rq ?_
 obtain ⟨hin_2073, hV⟩ := hV
 refine Wq.runx rfl rfl rfl (ex_index_own underlying23 sizeOf3 rfl rfl h_23 hin_2073) ?_
 intro p_2074 hp_2075
 refine Wq.runx rfl rfl rfl (exQ (ex_load_own_s isAgg3 rfl rfl h_23 hp_2075 hin_2073) _ (fun _ h => St.f5 h)) ?_
 intro u_2078 hu_2079
 obtain ⟨rfl, hr_2080⟩ := cInt_rep hu_2079
 replace hr_2080 := has_I64 hr_2080
 replace hV := hV hr_2080
 iterate 4 refine Rq ?_
 have hl_2081 : Len starts_36 := h_38.bound
 replace hV := hV hl_2081
 refine Rm (ex_len_own underlying23 rfl h_38) ?_
 refine Rq ?_
 refine Wq.nil fun w hS => ?_
 refine WQ.next ?_
 refine Sb [(0, (pq b_2)), (6, v_1710), (7, v_1715), (8, i6 xopen_1718), (9, i6 xat_803), (11, i6 p_806), (13, i6 (ag A_61 c_805 x_1720)), (37, rawV c_805), (38, i6 (c_805.n : Int)), (39, i6 x_1720), (84, .bool (decide ((ix level_21 (max (ag A_61 c_805 x_1720) (-(ag A_61 c_805 x_1720)))) = (starts_36.length : Int))))] ?_
 refine Cd ?_ ?_
 intro hc_2094
 replace hV := hV.1 (od hc_2094)
 refine WC.region ?_
 refine R hS ?_
 obtain ⟨hi_2084, hV⟩ := hV
 iterate 2 refine R hS ?_
 refine WL.nil ?_
 refine WQ.out nofun ?_
 replace hS := hS.f13.f13.f13.f13.f13.f13.f13.f13.f13.f13.f13.f13.f13
 exact Wt fun a ha => ⟨c_2065, (seen_1709.set (max (ag A_61 c_805 x_1720) (-(ag A_61 c_805 x_1720))).toNat true), out_1714, (xopen_1718 + 1), v_2066, fp_2067, u_2069, v_1710, fp_2064, v_1715, fp_1716, hV, h_2068, h_2070, h_2063, h_1717, hi_2084, hS, ha.os⟩
 intro hc_2094
 replace hV := hV.2 (ov hc_2094)
 refine WC.region ?_
 iterate 2 refine R hS ?_
 refine WL.build1 (c := (cInt .i64)) rfl underlying23 info3 rfl rfl (cInt_mk (I64.has (IsAr.ag64 hA_58 _ _))) hS ?_
 clear hS
 intro v_2086 w fp_2087 h_2088 hS
 obtain ⟨hr_2089, hV⟩ := hV
 replace hS := hS.f14
 refine WL.append (c := (cInt .i64)) (xs := out_1714) (ys := ([(ag A_61 c_805 x_1720)])) rfl underlying23 info3 rfl rfl rfl hS h_1717 (h_2088.src hS.f2) hr_2089.1 hr_2089.2 ?_
 clear hS
 intro v_2090 w fp_2091 h_2092 hS
 refine R hS ?_
 refine WL.nil ?_
 refine WQ.out nofun ?_
 replace hS := hS.f2.drop
 replace hS := hS.f13.f13.f13.f13.f13.f13.f13.f13.f13.f13.f13.f13
 exact Wt fun a ha => ⟨c_2065, (seen_1709.set (max (ag A_61 c_805 x_1720) (-(ag A_61 c_805 x_1720))).toNat true), (out_1714 ++ ([(ag A_61 c_805 x_1720)])), xopen_1718, v_2066, fp_2067, u_2069, v_1710, fp_2064, v_2090, fp_2091, hV, h_2068, h_2070, h_2063, h_2092, hr_1719, hS, ha.os⟩
 clear hJ_2040
 refine WC.region ?_
 iterate 4 refine R hS ?_
 rcases bft (decide ((ag A_61 c_805 x_1720) = p_806)) with hg_2042 | hg_2042
 replace hV := hV.1 (od hg_2042)
 iterate 15 refine R hS ?_
 refine WL.nil ?_
 replace hS := hS.f13.f13.f3.f13.f13.f13.f13.f13.f13.f13.f13.f13.f13
 exact Wt fun a ha => ⟨true, hV, hS, ha.os⟩
 replace hV := hV.2 (ov hg_2042)
 iterate 2 refine R hS ?_
 refine Ug hg_2042 ?_
 obtain ⟨hin_2043, hV⟩ := hV
 refine Rx hS (ex_index_own underlying24 sizeOf4 rfl rfl h_1712 hin_2043) ?_
 intro p_2044 hp_2045
 refine Ug hg_2042 ?_
 replace hS := hS.f12
 refine Rx hS (exNow (H := H) (L := fp_59 ++ ([(b_2, oc #[i6 n_4, v_7, v_12, v_17, v_22, v_27, v_32, v_37, i6 head_41, v_1703, u_1706, v_52, .bool dead_56] 60)] ++ (fp_9 ++ (fp_14 ++ (fp_19 ++ (fp_24 ++ (fp_29 ++ (fp_34 ++ (fp_39 ++ (fp_1704 ++ (fp_54 ++ (fp_1716 ++ L)))))))))))) (ex_load_own_s isAgg4 rfl rfl h_1712 hp_2045 hin_2043)) ?_
 intro u_2048 hu_2049
 obtain rfl := cBool_rep hu_2049
 iterate 2 refine R hS ?_
 rcases bft (ix seen_1709 (max (ag A_61 c_805 x_1720) (-(ag A_61 c_805 x_1720)))) with hg_2050 | hg_2050
 replace hV := hV.1 hg_2050
 iterate 9 refine R hS ?_
 refine WL.nil ?_
 replace hS := hS.f13.f2.f3.f13.f13.f13.f13.f13.f13.f13.f13.f13.f13
 exact Wt fun a ha => ⟨true, hV, hS, ha.os⟩
 replace hV := hV.2 hg_2050
 iterate 3 refine R hS ?_
 refine Ug hg_2050 ?_
 replace hS := hS.f3
 iterate 2 refine R hS ?_
 refine Ug hg_2050 ?_
 obtain ⟨hin_2051, hV⟩ := hV
 refine Rx hS (ex_index_own underlying23 sizeOf3 rfl rfl h_23 hin_2051) ?_
 intro p_2052 hp_2053
 refine Ug hg_2050 ?_
 replace hS := hS.f7
 refine Rx hS (exNow (H := H) (L := [(b_2, oc #[i6 n_4, v_7, v_12, v_17, v_22, v_27, v_32, v_37, i6 head_41, v_1703, u_1706, v_52, .bool dead_56] 60)] ++ (fp_1711 ++ (fp_59 ++ (fp_9 ++ (fp_14 ++ (fp_19 ++ (fp_29 ++ (fp_34 ++ (fp_39 ++ (fp_1704 ++ (fp_54 ++ (fp_1716 ++ L)))))))))))) (ex_load_own_s isAgg3 rfl rfl h_23 hp_2053 hin_2051)) ?_
 intro u_2056 hu_2057
 obtain ⟨rfl, hr_2058⟩ := cInt_rep hu_2057
 replace hr_2058 := has_I64 hr_2058
 replace hV := hV hr_2058
 iterate 2 refine R hS ?_
 refine WL.nil ?_
 replace hS := hS.f13.f4.f5.f13.f13.f13.f13.f13.f9.f13.f13.f13.f13
 exact Wt fun a ha => ⟨decide ((ix level_21 (max (ag A_61 c_805 x_1720) (-(ag A_61 c_805 x_1720)))) = 0), hV, hS, ha.os⟩
 intro hc_2736
 replace hV := hV.2 (ov hc_2736)
 refine WC.exit ?_
 refine Wp ?_
 refine Wp ?_
 refine WQ.hit ?_
 refine WQ.next ?_
 refine WC.seq ?_
 refine WC.sr ?_
 refine R hS ?_
 obtain ⟨hi_2099, hV⟩ := hV
 iterate 2 refine R hS ?_
 refine WL.nx ?_
 refine WC.block ?_
 replace hS := hS.f13.f13.f13.f13.f13.f13.f13.f13.f13.f13.f13.f13.f13
 obtain ⟨I_2156, mu_2157, hI_2735, hV⟩ := hV
 refine WC.loop (σ := Int) (fun s a w => ∃ (xat_2127 : Int), s = xat_2127 ∧ I_2156 xat_2127 ∧ I64 xat_2127 ∧ St w0 H ([(b_2, oc #[i6 n_4, v_7, v_12, v_17, v_22, v_27, v_32, v_37, i6 head_41, v_1703, u_1706, v_52, .bool dead_56] 60)] ++ (fp_9 ++ (fp_14 ++ (fp_19 ++ (fp_24 ++ (fp_29 ++ (fp_34 ++ (fp_39 ++ (fp_1704 ++ (fp_54 ++ (fp_59 ++ (fp_1711 ++ (fp_1716 ++ L))))))))))))) w ∧ Fr 187 [(0, (pq b_2)), (6, v_1710), (7, v_1715), (8, i6 xopen_1718), (9, i6 xat_2127)] a) mu_2157 (xat_803 - 1) ?_ ?_
 exact fun a ha => ⟨(xat_803 - 1), rfl, hI_2735, hi_2099, hS, ha.os⟩
 clear hS hI_2735
 rintro xat_2127 a w ⟨_, rfl, hI, hr_2128, hS, ha⟩
 refine in_frame ha ?_
 clear ha
 replace hV := hV _ hI
 clear hI
 refine WC.seq ?_
 refine WC.seq ?_
 refine WC.quiet (C := St w0 H ([(b_2, oc #[i6 n_4, v_7, v_12, v_17, v_22, v_27, v_32, v_37, i6 head_41, v_1703, u_1706, v_52, .bool dead_56] 60)] ++ (fp_9 ++ (fp_14 ++ (fp_19 ++ (fp_24 ++ (fp_29 ++ (fp_34 ++ (fp_39 ++ (fp_1704 ++ (fp_54 ++ (fp_59 ++ (fp_1711 ++ (fp_1716 ++ L)))))))))))))) mixed (by kernel_rfl) (hS.drawn _) ?_
 clear hS w
 iterate 6 refine Rq ?_
 obtain ⟨hin_2159, hV⟩ := hV
 refine Wq.runx rfl rfl rfl (ex_index_own underlying23 sizeOf3 rfl rfl h_33 hin_2159) ?_
 intro p_2160 hp_2161
 refine Wq.runx rfl rfl rfl (exQ (ex_load_own_s isAgg3 rfl rfl h_33 hp_2161 hin_2159) _ (fun _ h => St.f7 h)) ?_
 intro u_2164 hu_2165
 obtain ⟨rfl, hr_2166⟩ := cInt_rep hu_2165
 replace hr_2166 := has_I64 hr_2166
 replace hV := hV hr_2166
 iterate 5 refine Rq ?_
 obtain ⟨hin_2167, hV⟩ := hV
 refine Wq.runx rfl rfl rfl (ex_index_own underlying23 sizeOf3 rfl rfl h_33 hin_2167) ?_
 intro p_2168 hp_2169
 refine Wq.runx rfl rfl rfl (exQ (ex_load_own_s isAgg3 rfl rfl h_33 hp_2169 hin_2167) _ (fun _ h => St.f7 h)) ?_
 intro u_2172 hu_2173
 obtain ⟨rfl, hr_2174⟩ := cInt_rep hu_2173
 replace hr_2174 := has_I64 hr_2174
 replace hV := hV hr_2174
 obtain ⟨hi_2175, hV⟩ := hV
 iterate 2 refine Rq ?_
 obtain ⟨hin_2176, hV⟩ := hV
 refine Wq.runx rfl rfl rfl (ex_index_own underlying24 sizeOf4 rfl rfl h_1712 hin_2176) ?_
 intro p_2177 hp_2178
 refine Wq.runx rfl rfl rfl (exQ (ex_load_own_s isAgg4 rfl rfl h_1712 hp_2178 hin_2176) _ (fun _ h => St.f12 h)) ?_
 intro u_2181 hu_2182
 obtain rfl := cBool_rep hu_2182
 refine Rq ?_
 refine Wq.nil fun w hS => ?_
 refine WQ.next ?_
 refine Sb [(0, (pq b_2)), (6, v_1710), (7, v_1715), (8, i6 xopen_1718), (9, i6 xat_2127), (113, .bool (!(ix seen_1709 (max (ix trail_31 xat_2127) (-(ix trail_31 xat_2127))))))] ?_
 refine Cd ?_ ?_
 intro hc_2734
 replace hV := hV.1 hc_2734
 refine WC.skip ?_
 refine WQ.next ?_
 refine WC.seq ?_
 refine WC.block ?_
 refine WC.skip ?_
 refine WQ.out nofun ?_
 refine WQ.next ?_
 refine WC.region ?_
 refine R hS ?_
 obtain ⟨hi_2184, hV⟩ := hV
 iterate 2 refine R hS ?_
 refine WL.nil ?_
 replace hS := hS.f13.f13.f13.f13.f13.f13.f13.f13.f13.f13.f13.f13.f13
 exact Wt fun a ha => ⟨(xat_2127 - 1), ⟨(xat_2127 - 1), rfl, hV.1, hi_2184, hS, ha.os⟩, hV.2⟩
 intro hc_2734
 replace hV := hV.2 hc_2734
 refine WC.exit ?_
 refine Wp ?_
 refine Wp ?_
 refine WQ.hit ?_
 refine WQ.next ?_
 refine WC.sr ?_
 iterate 5 refine R hS ?_
 obtain ⟨hin_2185, hV⟩ := hV
 refine Rx hS (ex_index_own underlying23 sizeOf3 rfl rfl h_33 hin_2185) ?_
 intro p_2186 hp_2187
 replace hS := hS.f7
 refine Rx hS (exNow (H := H) (L := [(b_2, oc #[i6 n_4, v_7, v_12, v_17, v_22, v_27, v_32, v_37, i6 head_41, v_1703, u_1706, v_52, .bool dead_56] 60)] ++ (fp_9 ++ (fp_14 ++ (fp_19 ++ (fp_24 ++ (fp_29 ++ (fp_39 ++ (fp_1704 ++ (fp_54 ++ (fp_59 ++ (fp_1711 ++ (fp_1716 ++ L)))))))))))) (ex_load_own_s isAgg3 rfl rfl h_33 hp_2187 hin_2185)) ?_
 intro u_2190 hu_2191
 obtain ⟨rfl, hr_2192⟩ := cInt_rep hu_2191
 replace hr_2192 := has_I64 hr_2192
 replace hV := hV hr_2192
 refine R hS ?_
 refine WL.nx ?_
 refine WC.seq ?_
 refine WC.sr ?_
 refine R hS ?_
 obtain ⟨hi_2194, hV⟩ := hV
 iterate 2 refine R hS ?_
 refine WL.nx ?_
 refine Sb [(0, (pq b_2)), (6, v_1710), (7, v_1715), (8, i6 (xopen_1718 - 1)), (9, i6 xat_2127), (11, i6 (ix trail_31 xat_2127))] ?_
 refine WC.sr ?_
 iterate 2 refine R hS ?_
 refine WL.nx ?_
 refine Cd ?_ ?_
 intro hc_2733
 replace hV := hV.1 (od hc_2733)
 refine WC.exit ?_
 refine Wp ?_
 refine WQ.by rfl ?_
 refine Wp ?_
 refine WQ.hit ?_
 refine WQ.next ?_
 replace hS := hS.f12.drop
 refine WC.sr ?_
 iterate 2 refine R hS ?_
 obtain ⟨hi_2196, hV⟩ := hV
 refine R hS ?_
 obtain ⟨hin_2197, hV⟩ := hV
 refine Rx hS (ex_index_own underlying23 sizeOf3 rfl rfl h_1717 hin_2197) ?_
 intro p_2198 hp_2199
 replace hS := hS.f12
 refine WL.store_own sizeOf3 rfl rfl rfl (cInt_mk (I64.has hi_2196)) hS h_1717 hp_2199 hin_2197 ?_
 clear hS
 intro w fp_2201 h_2200 hS
 refine WL.nx ?_
 refine Sb [(0, (pq b_2)), (7, v_1715)] ?_
 refine WC.sr ?_
 refine R hS ?_
 refine WL.nx ?_
 refine WC.seq ?_
 refine WC.sr ?_
 refine R hS ?_
 refine WL.nx ?_
 refine WC.block ?_
 replace hS := hS.f12.f12.f12.f12.f6.f12.f12.f12.f12.f12.f12
 obtain ⟨I_2547, mu_2548, hI_2718, hV⟩ := hV
 refine WC.loop (σ := LI × Int × Int) (fun s a w => ∃ (out_2371 : LI) (level_2375 : Int) (k_2377 : Int) (v_2372 : Value) (fp_2373 : Seg), s = (out_2371, level_2375, k_2377) ∧ I_2547 (out_2371, level_2375, k_2377) ∧ OwnSl H (cInt .i64) 3 v_2372 out_2371 fp_2373 ∧ I64 level_2375 ∧ I64 k_2377 ∧ St w0 H ([(b_2, oc #[i6 n_4, v_7, v_12, v_17, v_22, v_27, v_32, v_37, i6 head_41, v_1703, u_1706, v_52, .bool dead_56] 60)] ++ (fp_9 ++ (fp_14 ++ (fp_19 ++ (fp_24 ++ (fp_29 ++ (fp_34 ++ (fp_39 ++ (fp_1704 ++ (fp_54 ++ (fp_59 ++ (fp_2373 ++ L)))))))))))) w ∧ Fr 187 [(0, (pq b_2)), (7, v_2372), (15, i6 level_2375), (16, i6 k_2377)] a) mu_2548 ((out_1714.set (0 : Int).toNat (-(ix trail_31 xat_2127))), 0, 1) ?_ ?_
 exact fun a ha => ⟨(out_1714.set (0 : Int).toNat (-(ix trail_31 xat_2127))), 0, 1, v_1715, fp_2201, rfl, hI_2718, h_2200, (by unfold I64; omega), (by unfold I64; omega), hS, ha.os⟩
 clear hS hI_2718
 rintro _ a w ⟨out_2371, level_2375, k_2377, v_2372, fp_2373, rfl, hI, h_2374, hr_2376, hr_2378, hS, ha⟩
 refine in_frame ha ?_
 clear ha
 replace hV := hV _ hI
 clear hI
 refine WC.seq ?_
 refine WC.sr ?_
 iterate 2 refine R hS ?_
 have hl_2550 : Len out_2371 := h_2374.bound
 replace hV := hV hl_2550
 refine Rn hS (ex_len_own underlying23 rfl h_2374) ?_
 refine R hS ?_
 refine WL.nx ?_
 refine Cd ?_ ?_
 intro hc_2717
 replace hV := hV.1 (od hc_2717)
 refine WC.skip ?_
 refine WQ.next ?_
 obtain ⟨J_2636, hJ_2637, hV⟩ := hV
 refine WC.meet (fun a w => ∃ (out_2630 : LI) (level_2634 : Int) (v_2631 : Value) (fp_2632 : Seg), J_2636 (out_2630, level_2634) ∧ OwnSl H (cInt .i64) 3 v_2631 out_2630 fp_2632 ∧ I64 level_2634 ∧ St w0 H ([(b_2, oc #[i6 n_4, v_7, v_12, v_17, v_22, v_27, v_32, v_37, i6 head_41, v_1703, u_1706, v_52, .bool dead_56] 60)] ++ (fp_9 ++ (fp_14 ++ (fp_19 ++ (fp_24 ++ (fp_29 ++ (fp_34 ++ (fp_39 ++ (fp_1704 ++ (fp_54 ++ (fp_59 ++ (fp_2632 ++ L)))))))))))) w ∧ Fr 187 [(0, (pq b_2)), (7, v_2631), (15, i6 level_2634), (16, i6 k_2377)] a) ?_ ?_
 rintro a w ⟨out_2630, level_2634, v_2631, fp_2632, hI, h_2633, hr_2635, hS, ha⟩
 refine in_frame ha ?_
 clear ha hV
 have hV := hJ_2637 _ hI
 clear hI hJ_2637
 refine WC.region ?_
 refine R hS ?_
 obtain ⟨hi_2716, hV⟩ := hV
 iterate 2 refine R hS ?_
 refine WL.nil ?_
 replace hS := hS.f12.f12.f12.f12.f12.f12.f12.f12.f12.f12.f12.f12
 exact Wt fun a ha => ⟨(out_2630, level_2634, (k_2377 + 1)), ⟨out_2630, level_2634, (k_2377 + 1), v_2631, fp_2632, rfl, hV.1, h_2633, hr_2635, hi_2716, hS, ha.os⟩, hV.2⟩
 clear hJ_2637
 refine WC.block ?_
 refine WC.seq ?_
 refine WC.quiet (C := St w0 H ([(b_2, oc #[i6 n_4, v_7, v_12, v_17, v_22, v_27, v_32, v_37, i6 head_41, v_1703, u_1706, v_52, .bool dead_56] 60)] ++ (fp_9 ++ (fp_14 ++ (fp_19 ++ (fp_24 ++ (fp_29 ++ (fp_34 ++ (fp_39 ++ (fp_1704 ++ (fp_54 ++ (fp_59 ++ (fp_2373 ++ L))))))))))))) mixed (by kernel_rfl) (hS.drawn _) ?_
 clear hS w
 iterate 6 refine Rq ?_
 obtain ⟨hin_2638, hV⟩ := hV
 refine Wq.runx rfl rfl rfl (ex_index_own underlying23 sizeOf3 rfl rfl h_2374 hin_2638) ?_
 intro p_2639 hp_2640
 refine Wq.runx rfl rfl rfl (exQ (ex_load_own_s isAgg3 rfl rfl h_2374 hp_2640 hin_2638) _ (fun _ h => St.f12 h)) ?_
 intro u_2643 hu_2644
 obtain ⟨rfl, hr_2645⟩ := cInt_rep hu_2644
 replace hr_2645 := has_I64 hr_2645
 replace hV := hV hr_2645
 iterate 2 refine Rq ?_
 obtain ⟨hin_2646, hV⟩ := hV
 refine Wq.runx rfl rfl rfl (ex_index_own underlying23 sizeOf3 rfl rfl h_2374 hin_2646) ?_
 intro p_2647 hp_2648
 refine Wq.runx rfl rfl rfl (exQ (ex_load_own_s isAgg3 rfl rfl h_2374 hp_2648 hin_2646) _ (fun _ h => St.f12 h)) ?_
 intro u_2651 hu_2652
 obtain ⟨rfl, hr_2653⟩ := cInt_rep hu_2652
 replace hr_2653 := has_I64 hr_2653
 replace hV := hV hr_2653
 obtain ⟨hi_2654, hV⟩ := hV
 iterate 2 refine Rq ?_
 obtain ⟨hin_2655, hV⟩ := hV
 refine Wq.runx rfl rfl rfl (ex_index_own underlying23 sizeOf3 rfl rfl h_23 hin_2655) ?_
 intro p_2656 hp_2657
 refine Wq.runx rfl rfl rfl (exQ (ex_load_own_s isAgg3 rfl rfl h_23 hp_2657 hin_2655) _ (fun _ h => St.f5 h)) ?_
 intro u_2660 hu_2661
 obtain ⟨rfl, hr_2662⟩ := cInt_rep hu_2661
 replace hr_2662 := has_I64 hr_2662
 replace hV := hV hr_2662
 refine Rq ?_
 refine Wq.nil fun w hS => ?_
 refine WQ.next ?_
 refine Sb [(0, (pq b_2)), (7, v_2372), (15, i6 level_2375), (16, i6 k_2377), (17, i6 (ix level_21 (max (ix out_2371 k_2377) (-(ix out_2371 k_2377)))))] ?_
 refine WC.sr ?_
 iterate 3 refine R hS ?_
 refine WL.nx ?_
 refine Cd ?_ ?_
 intro hc_2714
 replace hV := hV.1 (od hc_2714)
 refine WC.sr ?_
 iterate 2 refine R hS ?_
 refine WL.nx ?_
 refine WC.drawn (σ := [0, 1, 2, 3, 4, 5, 6, 7, 8, 9, 10, 11, 12, 13]) (C := St w0 H ([(b_2, oc #[i6 n_4, v_7, v_12, v_17, v_22, v_27, v_32, v_37, i6 head_41, v_1703, u_1706, v_52, .bool dead_56] 60)] ++ (fp_9 ++ (fp_14 ++ (fp_19 ++ (fp_24 ++ (fp_29 ++ (fp_34 ++ (fp_39 ++ (fp_1704 ++ (fp_54 ++ (fp_59 ++ (fp_2373 ++ L))))))))))))) [[], [], [], [], [], [3, 4], [3, 4, 5], [], [7], [7, 8], [0, 3, 4, 5, 6, 7, 8, 9], [0, 3, 4, 5, 6, 7, 8, 9, 10], [0, 1, 2, 3, 4, 5, 6, 7, 8, 9, 10, 11], [0, 1, 2, 3, 4, 5, 6, 7, 8, 9, 10, 11, 12]] [11, 13] mixed (by kernel_rfl) (hS.drawn _) ?_
 clear hS w
 refine Dm fun q_2665 hq_2664 => ?_
 refine Dm fun q_2667 hq_2666 => ?_
 refine Dm fun q_2669 hq_2668 => ?_
 refine Dm fun q_2671 hq_2670 => ?_
 refine Dm fun q_2673 hq_2672 => ?_
 obtain ⟨hin_2676, hV⟩ := hV
 refine Wd.runx rfl rfl rfl rfl (exAll (ex_index_own underlying23 sizeOf3 rfl rfl h_2374 hin_2676)) ?_
 intro p_2677 hp_2678
 intro q_2675 hq_2674
 refine Wd.runs (fp := fp_2373) rfl rfl rfl rfl (ex_load_own_s isAgg3 rfl rfl h_2374 hp_2678 hin_2676) (fun _ h => St.f12 h) ?_
 intro u_2683 hu_2684
 obtain ⟨rfl, hr_2685⟩ := cInt_rep hu_2684
 replace hr_2685 := has_I64 hr_2685
 replace hV := hV hr_2685
 intro q_2680 hq_2679
 refine Dm fun q_2687 hq_2686 => ?_
 obtain ⟨hin_2690, hV⟩ := hV
 refine Wd.runx rfl rfl rfl rfl (exAll (ex_index_own underlying23 sizeOf3 rfl rfl h_2374 hin_2690)) ?_
 intro p_2691 hp_2692
 intro q_2689 hq_2688
 refine Wd.runs (fp := fp_2373) rfl rfl rfl rfl (ex_load_own_s isAgg3 rfl rfl h_2374 hp_2692 hin_2690) (fun _ h => St.f12 h) ?_
 intro u_2697 hu_2698
 obtain ⟨rfl, hr_2699⟩ := cInt_rep hu_2698
 replace hr_2699 := has_I64 hr_2699
 replace hV := hV hr_2699
 intro q_2694 hq_2693
 obtain ⟨hin_2702, hV⟩ := hV
 refine Wd.runx rfl rfl rfl rfl (exAll (ex_index_own underlying23 sizeOf3 rfl rfl h_2374 hin_2702)) ?_
 intro p_2703 hp_2704
 intro q_2701 hq_2700
 refine Wd.turn rfl rfl rfl fun w hS => ?_
 replace hS := hS.f12
 refine WL.store_own sizeOf3 rfl rfl rfl (cInt_mk (I64.has hr_2685)) hS h_2374 hp_2704 hin_2702 ?_
 clear hS
 intro w fp_2706 h_2705 hS
 refine WL.nil (DQ.mk2 (C' := St w0 H (fp_2706 ++ ([(b_2, oc #[i6 n_4, v_7, v_12, v_17, v_22, v_27, v_32, v_37, i6 head_41, v_1703, u_1706, v_52, .bool dead_56] 60)] ++ (fp_9 ++ (fp_14 ++ (fp_19 ++ (fp_24 ++ (fp_29 ++ (fp_34 ++ (fp_39 ++ (fp_1704 ++ (fp_54 ++ (fp_59 ++ L))))))))))))) hS ⟨il, il, il, il, il, il, il, il, .inr (hq_2668 _), .inr (hq_2666 _), il, trivial⟩ ?_)
 clear hS w
 obtain ⟨hin_2709, hV⟩ := hV
 refine Wd.runx rfl rfl rfl rfl (exAll (ex_index_own underlying23 sizeOf3 rfl rfl h_2705 hin_2709)) ?_
 intro p_2710 hp_2711
 intro q_2708 hq_2707
 refine Wd.turn rfl rfl rfl fun w hS => ?_
 refine WL.store_own sizeOf3 rfl rfl rfl (cInt_mk (I64.has hr_2699)) hS h_2705 hp_2711 hin_2709 ?_
 clear hS
 intro w fp_2713 h_2712 hS
 refine WL.nil (DQ.mk2 (C' := St w0 H (fp_2713 ++ ([(b_2, oc #[i6 n_4, v_7, v_12, v_17, v_22, v_27, v_32, v_37, i6 head_41, v_1703, u_1706, v_52, .bool dead_56] 60)] ++ (fp_9 ++ (fp_14 ++ (fp_19 ++ (fp_24 ++ (fp_29 ++ (fp_34 ++ (fp_39 ++ (fp_1704 ++ (fp_54 ++ (fp_59 ++ L))))))))))))) hS ⟨il, il, il, il, il, il, il, il, il, il, il, il, trivial⟩ ?_)
 clear hS w
 refine Wd.nil fun w hS => ?_
 refine WQ.out nofun ?_
 replace hS := hS.f12.f12.f12.f12.f12.f12.f12.f12.f12.f12.f12
 exact Wt fun a ha => ⟨((out_2371.set (1 : Int).toNat (ix out_2371 k_2377)).set k_2377.toNat (ix out_2371 1)), (ix level_21 (max (ix out_2371 k_2377) (-(ix out_2371 k_2377)))), v_2372, fp_2713, hV, h_2712, hr_2662, hS, ha.os⟩
 intro hc_2714
 replace hV := hV.2 (ov hc_2714)
 refine WC.skip ?_
 refine WQ.out nofun ?_
 replace hS := hS.f12.f12.f12.f12.f12.f12.f12.f12.f12.f12.f12.f12
 exact Wt fun a ha => ⟨out_2371, level_2375, v_2372, fp_2373, hV, h_2374, hr_2376, hS, ha.os⟩
 intro hc_2717
 replace hV := hV.2 (ov hc_2717)
 refine WC.exit ?_
 refine Wp ?_
 refine Wp ?_
 refine WQ.hit ?_
 refine WQ.next ?_
 refine WC.sr ?_
 iterate 4 refine R hS ?_
 refine WL.nx ?_
 refine Sb [(4, v_2372), (5, i6 level_2375)] ?_
 refine WC.ret ?_
 replace hS := hS.f11.f11.f11.f11.f11.f11.f11.f11.f11.f11.f11.f12
 exact leave2 rfl rfl rfl (⟨out_2371, level_2375, c_1702, v_2372, fp_2373, v_1703, fp_1704, u_1706, hV, rfl, h_2374, hr_2376, h_1705, h_1707, hS⟩)
 intro hc_2733
 replace hV := hV.2 (ov hc_2733)
 refine WC.skip ?_
 refine WQ.next ?_
 refine WC.quiet (C := St w0 H (fp_34 ++ ([(b_2, oc #[i6 n_4, v_7, v_12, v_17, v_22, v_27, v_32, v_37, i6 head_41, v_1703, u_1706, v_52, .bool dead_56] 60)] ++ (fp_9 ++ (fp_14 ++ (fp_19 ++ (fp_24 ++ (fp_29 ++ (fp_39 ++ (fp_1704 ++ (fp_54 ++ (fp_59 ++ (fp_1711 ++ (fp_1716 ++ L)))))))))))))) mixed (by kernel_rfl) (hS.drawn _) ?_
 clear hS w
 iterate 3 refine Rq ?_
 refine Rm ((ex_load_box isAgg22 rfl rfl).of (fun _ h => St.f2 h)) ?_
 iterate 3 refine Rq ?_
 refine Rm ((ex_load_box isAgg23 rfl rfl).of (fun _ h => St.f2 h)) ?_
 iterate 2 refine Rq ?_
 obtain ⟨hi_2719, hV⟩ := hV
 iterate 2 refine Rq ?_
 obtain ⟨hin_2720, hV⟩ := hV
 refine Wq.runx rfl rfl rfl (ex_index_own underlying23 sizeOf3 rfl rfl h_28 hin_2720) ?_
 intro p_2721 hp_2722
 refine Wq.runx rfl rfl rfl (exQ (ex_load_own_s isAgg3 rfl rfl h_28 hp_2722 hin_2720) _ (fun _ h => St.f7 h)) ?_
 intro u_2725 hu_2726
 obtain ⟨rfl, hr_2727⟩ := cInt_rep hu_2726
 replace hr_2727 := has_I64 hr_2727
 replace hV := hV hr_2727
 obtain ⟨hin_2728, hV⟩ := hV
 refine Wq.runx rfl rfl rfl (ex_index_own underlying22 sizeOf23 rfl rfl h_8 hin_2728) ?_
 intro p_2729 hp_2730
 refine Wq.runx rfl rfl rfl (exQ (ex_load_own_s isAgg23 rfl rfl h_8 hp_2730 hin_2728) _ (fun _ h => St.f3 h)) ?_
 intro u_2731 hu_2732
 obtain rfl := cRaw_rep hu_2732
 refine Rq ?_
 refine Wq.nil fun w hS => ?_
 refine WQ.out nofun ?_
 replace hS := hS.f13.f13.f13.f13.f13.f13.f7.f13.f13.f13.f13.f13.f13
 exact Wt fun a ha => ⟨(c_1702, seen_1709, out_1714, (xopen_1718 - 1), xat_2127, (ix clauses_6 (ix reason_26 (max (ix trail_31 xat_2127) (-(ix trail_31 xat_2127))))), (ix trail_31 xat_2127)), ⟨c_1702, seen_1709, out_1714, (xopen_1718 - 1), xat_2127, (ix clauses_6 (ix reason_26 (max (ix trail_31 xat_2127) (-(ix trail_31 xat_2127))))), (ix trail_31 xat_2127), v_1703, fp_1704, u_1706, v_1710, fp_1711, v_1715, fp_1716, rfl, hV.1, h_1705, h_1707, h_1712, h_1717, hi_2194, hr_2128, hr_2192, hS, ha.os⟩, hV.2⟩

theorem S_pick {w0 : World} {H : View} {L : Seg} {w : World} {b_2 : Nat} {n_4 : Int} {v_7 : Value} {clauses_6 : List Raw} {fp_9 : Seg} {v_12 : Value} {watch_11 : List (Int × Raw)} {fp_14 : Seg} {v_17 : Value} {value_16 : LI} {fp_19 : Seg} {v_22 : Value} {level_21 : LI} {fp_24 : Seg} {v_27 : Value} {reason_26 : LI} {fp_29 : Seg} {v_32 : Value} {trail_31 : LI} {fp_34 : Seg} {v_37 : Value} {starts_36 : LI} {fp_39 : Seg} {head_41 : Int} {v_44 : Value} {heat_43 : List Unit} {fp_46 : Seg} {u_49 : Value} {v_52 : Value} {proof_51 : List (Bool × LI)} {fp_54 : Seg} {dead_56 : Bool} {A_61 : Arena} {fp_59 : Seg} {Q : Int → Prop} (hr_5 : I64 n_4) (h_8 : OwnSl H cRaw 23 v_7 clauses_6 fp_9) (h_13 : OwnMp H kInt cRaw v_12 watch_11 fp_14) (h_18 : OwnSl H (cInt .i64) 3 v_17 value_16 fp_19) (h_23 : OwnSl H (cInt .i64) 3 v_22 level_21 fp_24) (h_28 : OwnSl H (cInt .i64) 3 v_27 reason_26 fp_29) (h_33 : OwnSl H (cInt .i64) 3 v_32 trail_31 fp_34) (h_38 : OwnSl H (cInt .i64) 3 v_37 starts_36 fp_39) (hr_42 : I64 head_41) (h_45 : OwnSl H cF 58 v_44 heat_43 fp_46) (h_50 : IsF u_49) (h_53 : OwnSl H (cPair cBool (cSl (cInt .i64))) 50 v_52 proof_51 fp_54) (hA_58 : IsAr 3 A_61 fp_59) (hS : St w0 H ([(b_2, oc #[i6 n_4, v_7, v_12, v_17, v_22, v_27, v_32, v_37, i6 head_41, v_44, u_49, v_52, .bool dead_56] 60)] ++ (fp_9 ++ (fp_14 ++ (fp_19 ++ (fp_24 ++ (fp_29 ++ (fp_34 ++ (fp_39 ++ (fp_46 ++ (fp_54 ++ (fp_59 ++ L))))))))))) w) (hV : V_pick n_4 clauses_6 watch_11 value_16 level_21 reason_26 trail_31 starts_36 head_41 heat_43 proof_51 dead_56 A_61 Q) :
 Calls Tryz.prog 34 #[(pq b_2)] w fun e w' => ∃ (r1 : Int), Q r1 ∧ e = .returned (i6 r1) ∧ I64 r1 ∧ St w0 H ([(b_2, oc #[i6 n_4, v_7, v_12, v_17, v_22, v_27, v_32, v_37, i6 head_41, v_44, u_49, v_52, .bool dead_56] 60)] ++ (fp_9 ++ (fp_14 ++ (fp_19 ++ (fp_24 ++ (fp_29 ++ (fp_34 ++ (fp_39 ++ (fp_46 ++ (fp_54 ++ (fp_59 ++ L))))))))))) w' := by
 unfold V_pick at hV
 refine enter func34 rfl ntmps34 rfl (lk_args_cons (d := 0) (v := (pq b_2)) rfl (lk_args_nil _)) ?_
 refine WC.sr ?_
 refine R hS ?_
 refine WL.nx ?_
 refine WC.sr ?_
 refine R hS ?_
 refine WL.nx ?_
 refine WC.seq ?_
 refine WC.sr ?_
 refine R hS ?_
 refine WL.nx ?_
 refine WC.block ?_
 replace hS := hS.f11.f11.f11.f11.f11.f11.f11.f11.f11.f11.f11
 obtain ⟨I_298, mu_299, hI_417, hV⟩ := hV
 refine WC.loop (σ := Int × Int) (fun s a w => ∃ (best_178 : Int) (v_180 : Int), s = (best_178, v_180) ∧ I_298 (best_178, v_180) ∧ I64 best_178 ∧ I64 v_180 ∧ St w0 H ([(b_2, oc #[i6 n_4, v_7, v_12, v_17, v_22, v_27, v_32, v_37, i6 head_41, v_44, u_49, v_52, .bool dead_56] 60)] ++ (fp_9 ++ (fp_14 ++ (fp_19 ++ (fp_24 ++ (fp_29 ++ (fp_34 ++ (fp_39 ++ (fp_46 ++ (fp_54 ++ (fp_59 ++ L))))))))))) w ∧ Fr 44 [(0, (pq b_2)), (3, i6 best_178), (4, i6 v_180)] a) mu_299 (0, 1) ?_ ?_
 exact fun a ha => ⟨0, 1, rfl, hI_417, (by unfold I64; omega), (by unfold I64; omega), hS, ha.os⟩
 clear hS hI_417
 rintro _ a w ⟨best_178, v_180, rfl, hI, hr_179, hr_181, hS, ha⟩
 refine in_frame ha ?_
 clear ha
 replace hV := hV _ hI
 clear hI
 refine WC.seq ?_
 refine WC.sr ?_
 iterate 6 refine R hS ?_
 refine WL.nx ?_
 refine Cd ?_ ?_
 intro hc_416
 replace hV := hV.1 (od hc_416)
 refine WC.skip ?_
 refine WQ.next ?_
 obtain ⟨J_358, hJ_359, hV⟩ := hV
 refine WC.meet (fun a w => ∃ (best_356 : Int), J_358 best_356 ∧ I64 best_356 ∧ St w0 H ([(b_2, oc #[i6 n_4, v_7, v_12, v_17, v_22, v_27, v_32, v_37, i6 head_41, v_44, u_49, v_52, .bool dead_56] 60)] ++ (fp_9 ++ (fp_14 ++ (fp_19 ++ (fp_24 ++ (fp_29 ++ (fp_34 ++ (fp_39 ++ (fp_46 ++ (fp_54 ++ (fp_59 ++ L))))))))))) w ∧ Fr 44 [(0, (pq b_2)), (3, i6 best_356), (4, i6 v_180)] a) ?_ ?_
 rintro a w ⟨best_356, hI, hr_357, hS, ha⟩
 refine in_frame ha ?_
 clear ha hV
 have hV := hJ_359 _ hI
 clear hI hJ_359
 refine WC.region ?_
 refine R hS ?_
 obtain ⟨hi_415, hV⟩ := hV
 iterate 2 refine R hS ?_
 refine WL.nil ?_
 replace hS := hS.f11.f11.f11.f11.f11.f11.f11.f11.f11.f11.f11
 exact Wt fun a ha => ⟨(best_356, (v_180 + 1)), ⟨best_356, (v_180 + 1), rfl, hV.1, hr_357, hi_415, hS, ha.os⟩, hV.2⟩
 clear hJ_359
 refine WC.block ?_
 obtain ⟨J_386, hJ_387, hV⟩ := hV
 refine WC.meet (fun a w => ∃ (x_385 : Bool), J_386 x_385 ∧ St w0 H ([(b_2, oc #[i6 n_4, v_7, v_12, v_17, v_22, v_27, v_32, v_37, i6 head_41, v_44, u_49, v_52, .bool dead_56] 60)] ++ (fp_9 ++ (fp_14 ++ (fp_19 ++ (fp_24 ++ (fp_29 ++ (fp_34 ++ (fp_39 ++ (fp_46 ++ (fp_54 ++ (fp_59 ++ L))))))))))) w ∧ Fr 44 [(0, (pq b_2)), (3, i6 best_178), (4, i6 v_180), (41, .bool x_385)] a) ?_ ?_
 rintro a w ⟨x_385, hI, hS, ha⟩
 refine in_frame ha ?_
 clear ha hV
 have hV := hJ_387 _ hI
 clear hI hJ_387
 refine Cd ?_ ?_
 intro hc_413
 replace hV := hV.1 hc_413
 refine WC.region ?_
 iterate 2 refine R hS ?_
 refine WL.nil ?_
 refine WQ.out nofun ?_
 replace hS := hS.f11.f11.f11.f11.f11.f11.f11.f11.f11.f11.f11
 exact Wt fun a ha => ⟨v_180, hV, hr_181, hS, ha.os⟩
 intro hc_413
 replace hV := hV.2 hc_413
 refine WC.skip ?_
 refine WQ.out nofun ?_
 replace hS := hS.f11.f11.f11.f11.f11.f11.f11.f11.f11.f11.f11
 exact Wt fun a ha => ⟨best_178, hV, hr_179, hS, ha.os⟩
 clear hJ_387
 refine WC.quiet (C := St w0 H ([(b_2, oc #[i6 n_4, v_7, v_12, v_17, v_22, v_27, v_32, v_37, i6 head_41, v_44, u_49, v_52, .bool dead_56] 60)] ++ (fp_9 ++ (fp_14 ++ (fp_19 ++ (fp_24 ++ (fp_29 ++ (fp_34 ++ (fp_39 ++ (fp_46 ++ (fp_54 ++ (fp_59 ++ L)))))))))))) mixed (by kernel_rfl) (hS.drawn _) ?_
 clear hS w
 iterate 5 refine Rq ?_
 obtain ⟨hin_388, hV⟩ := hV
 refine Wq.runx rfl rfl rfl (ex_index_own underlying23 sizeOf3 rfl rfl h_18 hin_388) ?_
 intro p_389 hp_390
 refine Wq.runx rfl rfl rfl (exQ (ex_load_own_s isAgg3 rfl rfl h_18 hp_390 hin_388) _ (fun _ h => St.f4 h)) ?_
 intro u_393 hu_394
 obtain ⟨rfl, hr_395⟩ := cInt_rep hu_394
 replace hr_395 := has_I64 hr_395
 replace hV := hV hr_395
 iterate 2 refine Rq ?_
 rcases bft (decide ((ix value_16 v_180) = 0)) with hg_397 | hg_397
 replace hV := hV.1 (od hg_397)
 iterate 3 refine Rq ?_
 rcases bft (decide (best_178 = 0)) with hg_399 | hg_399
 replace hV := hV.1 (od hg_399)
 iterate 17 refine Rq ?_
 refine Wq.nil fun w hS => ?_
 replace hS := hS.f11.f11.f11.f11.f11.f11.f11.f11.f11.f11.f11
 exact Wt fun a ha => ⟨true, hV, hS, ha.os⟩
 replace hV := hV.2 (ov hg_399)
 iterate 5 refine Rq ?_
 refine Uq hg_399 ?_
 obtain ⟨hin_400, hV⟩ := hV
 refine Wq.runx rfl rfl rfl (ex_index_own underlying57 sizeOf58 rfl rfl h_45 hin_400) ?_
 intro p_401 hp_402
 refine Uq hg_399 ?_
 refine Wq.runx rfl rfl rfl (exQ (ex_load_own_s isAgg58 rfl rfl h_45 hp_402 hin_400) _ (fun _ h => St.f9 h)) ?_
 intro u_403 hu_404
 replace hu_404 := cF_rep hu_404
 iterate 5 refine Rq ?_
 refine Uq hg_399 ?_
 obtain ⟨hin_405, hV⟩ := hV
 refine Wq.runx rfl rfl rfl (ex_index_own underlying57 sizeOf58 rfl rfl h_45 hin_405) ?_
 intro p_406 hp_407
 refine Uq hg_399 ?_
 refine Wq.runx rfl rfl rfl (exQ (ex_load_own_s isAgg58 rfl rfl h_45 hp_407 hin_405) _ (fun _ h => St.f9 h)) ?_
 intro u_408 hu_409
 replace hu_409 := cF_rep hu_409
 refine Uq hg_399 ?_
 refine Wq.runx rfl rfl rfl (ex_f_gtr rfl rfl hu_404 hu_409) ?_
 rintro _ ⟨b_412, rfl⟩
 replace hV := hV b_412
 iterate 2 refine Rq ?_
 refine Wq.nil fun w hS => ?_
 replace hS := hS.f11.f11.f11.f11.f11.f11.f11.f11.f11.f11.f11
 exact Wt fun a ha => ⟨b_412, hV, hS, ha.os⟩
 replace hV := hV.2 (ov hg_397)
 iterate 20 refine Rq ?_
 refine Wq.nil fun w hS => ?_
 replace hS := hS.f11.f11.f11.f11.f11.f11.f11.f11.f11.f11.f11
 exact Wt fun a ha => ⟨false, hV, hS, ha.os⟩
 intro hc_416
 replace hV := hV.2 (ov hc_416)
 refine WC.exit ?_
 refine Wp ?_
 refine Wp ?_
 refine WQ.hit ?_
 refine WQ.next ?_
 refine WC.sr ?_
 iterate 2 refine R hS ?_
 refine WL.nx ?_
 refine Sb [(2, i6 best_178)] ?_
 refine WC.ret ?_
 replace hS := hS.f11.f11.f11.f11.f11.f11.f11.f11.f11.f11.f11
 exact leave1 rfl rfl (⟨best_178, hV, rfl, hr_179, hS⟩)

theorem S_core {w0 : World} {H : View} {L : Seg} {w : World} {b_2 : Nat} {n_4 : Int} {v_7 : Value} {clauses_6 : List Raw} {fp_9 : Seg} {v_12 : Value} {watch_11 : List (Int × Raw)} {fp_14 : Seg} {v_17 : Value} {value_16 : LI} {fp_19 : Seg} {v_22 : Value} {level_21 : LI} {fp_24 : Seg} {v_27 : Value} {reason_26 : LI} {fp_29 : Seg} {v_32 : Value} {trail_31 : LI} {fp_34 : Seg} {v_37 : Value} {starts_36 : LI} {fp_39 : Seg} {head_41 : Int} {v_44 : Value} {heat_43 : List Unit} {fp_46 : Seg} {u_49 : Value} {v_52 : Value} {proof_51 : List (Bool × LI)} {fp_54 : Seg} {dead_56 : Bool} {A_61 : Arena} {fp_59 : Seg} {l_62 : Int} {v_65 : Value} {suppose_64 : LI} {Q : LI → Prop} (hr_5 : I64 n_4) (h_8 : OwnSl H cRaw 23 v_7 clauses_6 fp_9) (h_13 : OwnMp H kInt cRaw v_12 watch_11 fp_14) (h_18 : OwnSl H (cInt .i64) 3 v_17 value_16 fp_19) (h_23 : OwnSl H (cInt .i64) 3 v_22 level_21 fp_24) (h_28 : OwnSl H (cInt .i64) 3 v_27 reason_26 fp_29) (h_33 : OwnSl H (cInt .i64) 3 v_32 trail_31 fp_34) (h_38 : OwnSl H (cInt .i64) 3 v_37 starts_36 fp_39) (hr_42 : I64 head_41) (h_45 : OwnSl H cF 58 v_44 heat_43 fp_46) (h_50 : IsF u_49) (h_53 : OwnSl H (cPair cBool (cSl (cInt .i64))) 50 v_52 proof_51 fp_54) (hA_58 : IsAr 3 A_61 fp_59) (hr_63 : I64 l_62) (h_66 : IsSl H (cInt .i64) v_65 suppose_64) (hS : St w0 H ([(b_2, oc #[i6 n_4, v_7, v_12, v_17, v_22, v_27, v_32, v_37, i6 head_41, v_44, u_49, v_52, .bool dead_56] 60)] ++ (fp_9 ++ (fp_14 ++ (fp_19 ++ (fp_24 ++ (fp_29 ++ (fp_34 ++ (fp_39 ++ (fp_46 ++ (fp_54 ++ (fp_59 ++ L))))))))))) w) (hV : V_core n_4 clauses_6 watch_11 value_16 level_21 reason_26 trail_31 starts_36 head_41 heat_43 proof_51 dead_56 A_61 l_62 suppose_64 Q) :
 Calls Tryz.prog 33 #[(pq b_2), i6 l_62, v_65] w fun e w' => ∃ (r1 : LI) (v1 : Value) (fp1 : Seg), Q r1 ∧ e = .returned (v1) ∧ OwnSl H (cInt .i64) 3 v1 r1 fp1 ∧ St w0 H (fp1 ++ ([(b_2, oc #[i6 n_4, v_7, v_12, v_17, v_22, v_27, v_32, v_37, i6 head_41, v_44, u_49, v_52, .bool dead_56] 60)] ++ (fp_9 ++ (fp_14 ++ (fp_19 ++ (fp_24 ++ (fp_29 ++ (fp_34 ++ (fp_39 ++ (fp_46 ++ (fp_54 ++ (fp_59 ++ L)))))))))))) w' := by
 unfold V_core at hV
 refine enterX func33 rfl ntmps33 rfl (lk_args_cons (d := 0) (v := (pq b_2)) rfl (lk_args_cons (d := 1) (v := i6 l_62) rfl (lk_args_cons (d := 2) (v := v_65) rfl (lk_args_nil _)))) ?_
 refine XC.seq ?_
 refine XC.region ?_
 refine WL.box (arr := #[(pq b_2)]) rfl rfl rfl hS ?_
 clear hS
 intro b_67 w hS
 refine R hS ?_
 refine WL.nil (XQ.back ?_)
 refine XQ.next ?_
 refine XC.seq ?_
 refine XC.region ?_
 refine WL.makeMap (κ := Int) (ν := Int) (kc := kInt) (c := (cInt .i64)) rfl hS ?_
 clear hS
 intro v_70 w fp_71 h_72 hS
 iterate 2 refine R hS ?_
 obtain ⟨hi_74, hV⟩ := hV
 iterate 2 refine R hS ?_
 refine WL.insert (k := (max l_62 (-l_62))) (e := 1) underlying83 Tryz.key3 (I64.max hr_63 hi_74) (cInt_mk (I64.has (by unfold I64; omega))) rfl rfl rfl hS h_72 ?_
 clear hS
 intro w fp_75 h_76 hS
 refine R hS ?_
 refine WL.alloc (arr := #[.map none]) rfl zeroValue83 rfl hS ?_
 clear hS
 intro b_77 w hS
 refine St1 #[v_70] sizeOf83 hS ?_ (cs := [v_70]) (hc := (congrArg Array.toList (cells_one (OwnMp.one h_76)))) (hone := ⟨(OwnMp.one h_76), trivial⟩)
 clear hS
 intro w hS
 refine WL.nil (XQ.back ?_)
 refine XQ.next ?_
 refine XC.seq ?_
 refine XC.region ?_
 refine R hS ?_
 refine WL.build1 (c := (cInt .i64)) rfl underlying23 info3 rfl rfl (cInt_mk (I64.has hr_63)) hS ?_
 clear hS
 intro v_80 w fp_81 h_82 hS
 refine WL.alloc (arr := #[ns]) rfl zeroValue23 rfl hS ?_
 clear hS
 intro b_83 w hS
 refine St1 #[v_80] sizeOf23 hS ?_ (cs := [v_80]) (hc := (congrArg Array.toList (cells_one (OwnSl.one h_82)))) (hone := ⟨(OwnSl.one h_82), trivial⟩)
 clear hS
 intro w hS
 refine WL.nil (XQ.back ?_)
 refine XQ.next ?_
 refine XC.sub (m := [(2, v_65), (3, (pq b_67)), (7, (pq b_77)), (8, (pq b_83))]) ⟨rfl, rfl, rfl, rfl, trivial⟩ ?_
 refine XC.seq ?_
 refine XC.seq ?_
 refine XC.region ?_
 replace hS := hS.f5
 iterate 3 refine R hS ?_
 replace hS := hS.f6
 refine R hS ?_
 refine Rc (enters0 (vs := [v_32]) call49 ⟨rfl, trivial⟩) (S_BackwardO h_33 hS) ?_
 clear hS
 rintro _ w ⟨b_86, rfl, hS⟩
 refine ⟨_, rfl, ?_⟩
 refine WL.nil (XQ.back ?_)
 refine XQ.next ?_
 refine XC.block ?_
 replace hS := hS.f5.f5.f7.f7.f17.f17.f17.f17.f16.f16.f16.f16.f16.f15.f16.f17.f17
 obtain ⟨I_312, hI_3140, hb_315, hb_316⟩ := hV
 have hS0 := hS
 refine XC.sub (m := [(2, v_65), (3, (pq b_67)), (7, (pq b_77)), (8, (pq b_83)), (29, .func (.func 61) #[] #[(pq b_86)])]) ⟨rfl, rfl, rfl, rfl, rfl, trivial⟩ ?_
 refine XC.back (w0 := w0) (H := H) (L := L) (T := 3) (T2 := 23) (fp := fp_34) (lx := fun x => (10, i6 x.2) :: [(2, v_65), (3, (pq b_67)), (7, (pq b_77)), (8, (pq b_83)), (29, .func (.func 61) #[] #[(pq b_86)])]) rfl call61 backIt rfl rfl h_33 (fun pre sg => ∃ (c_196 : M1) (c_200 : LI) (fp_197 : Seg) (v_201 : Value) (fp_202 : Seg), I_312 pre (c_196, c_200) ∧ OwnMp H kInt (cInt .i64) v_70 c_196 fp_197 ∧ OwnSl H (cInt .i64) 3 v_201 c_200 fp_202 ∧ sg = [(b_86, oc #[v_32] 23)] ++ (fp_34 ++ ([(b_67, oc #[(pq b_2)] 43)] ++ ([(b_2, oc #[i6 n_4, v_7, v_12, v_17, v_22, v_27, v_32, v_37, i6 head_41, v_44, u_49, v_52, .bool dead_56] 60)] ++ (fp_9 ++ (fp_14 ++ (fp_19 ++ (fp_24 ++ (fp_29 ++ (fp_39 ++ (fp_46 ++ (fp_54 ++ (fp_59 ++ ([(b_77, oc #[v_70] 83)] ++ (fp_197 ++ ([(b_83, oc #[v_201] 23)] ++ (fp_202 ++ (([] : Seg))))))))))))))))))) ?_ ?_ ([(b_86, oc #[v_32] 23)] ++ (fp_34 ++ ([(b_67, oc #[(pq b_2)] 43)] ++ ([(b_2, oc #[i6 n_4, v_7, v_12, v_17, v_22, v_27, v_32, v_37, i6 head_41, v_44, u_49, v_52, .bool dead_56] 60)] ++ (fp_9 ++ (fp_14 ++ (fp_19 ++ (fp_24 ++ (fp_29 ++ (fp_39 ++ (fp_46 ++ (fp_54 ++ (fp_59 ++ ([(b_77, oc #[v_70] 83)] ++ (fp_75 ++ ([(b_83, oc #[v_80] 23)] ++ (fp_81 ++ (([] : Seg))))))))))))))))))) ?_ ?_ (assign_one rfl rfl rfl) ?_ ?_
 rintro pre sg ⟨c_196, c_200, fp_197, v_201, fp_202, hI_314, h_198, h_203, rfl⟩
 exact (Low.append Low.box (Low.append (Low.own h_33) (Low.append Low.box (Low.append Low.box (Low.append (Low.own h_8) (Low.append (map_block h_13 h_13 (fun p hp => hS0.ltOf p (List.mem_append_right _ (List.mem_append_right _ (List.mem_append_right _ (List.mem_append_right _ (List.mem_append_right _ (List.mem_append_left _ hp)))))))) (Low.append (Low.own h_18) (Low.append (Low.own h_23) (Low.append (Low.own h_28) (Low.append (Low.own h_38) (Low.append (Low.own h_45) (Low.append (Low.own h_53) (Low.append (Low.ar hA_58) (Low.append Low.box (Low.append (map_block h_76 h_198 (fun p hp => hS0.ltOf p (List.mem_append_right _ (List.mem_append_right _ (List.mem_append_right _ (List.mem_append_right _ (List.mem_append_right _ (List.mem_append_right _ (List.mem_append_right _ (List.mem_append_right _ (List.mem_append_right _ (List.mem_append_right _ (List.mem_append_right _ (List.mem_append_right _ (List.mem_append_right _ (List.mem_append_right _ (List.mem_append_left _ hp))))))))))))))))) (Low.append Low.box (Low.append (Low.own h_203) Low.nil)))))))))))))))))
 rintro pre sg ⟨c_196, c_200, fp_197, v_201, fp_202, hI_314, h_198, h_203, rfl⟩ p hp
 rw [← List.append_assoc]
 exact List.mem_append_left _ hp
 exact ⟨(mset ([] : M1) (max l_62 (-l_62)) 1), [l_62], fp_75, v_80, fp_81, hI_3140, h_76, h_82, rfl⟩
 simpa only [List.append_assoc, List.append_nil] using hS
 clear hS0 hS
 rintro l0 w0 L pre k_317 x_318 w sg hin hx_319 hlen ⟨c_196, c_200, fp_197, v_201, fp_202, hI_314, h_198, h_203, rfl⟩ hS
 replace hS : St w0 H ([(b_86, oc #[v_32] 23)] ++ (fp_34 ++ ([(b_67, oc #[(pq b_2)] 43)] ++ ([(b_2, oc #[i6 n_4, v_7, v_12, v_17, v_22, v_27, v_32, v_37, i6 head_41, v_44, u_49, v_52, .bool dead_56] 60)] ++ (fp_9 ++ (fp_14 ++ (fp_19 ++ (fp_24 ++ (fp_29 ++ (fp_39 ++ (fp_46 ++ (fp_54 ++ (fp_59 ++ ([(b_77, oc #[v_70] 83)] ++ (fp_197 ++ ([(b_83, oc #[v_201] 23)] ++ (fp_202 ++ L))))))))))))))))) w := by simpa only [List.append_assoc, List.append_nil] using hS
 have hV := hb_315 pre x_318 _ hin hlen hI_314
 clear hb_315 hb_316 hI_314
 refine XC.block ?_
 refine XC.seq ?_
 refine XC.region ?_
 iterate 2 refine R hS ?_
 obtain ⟨hi_320, hV⟩ := hV
 iterate 3 refine R hS ?_
 refine WL.nil (XQ.back ?_)
 refine XQ.next ?_
 refine XC.seq ?_
 obtain ⟨J_336, hJ_337, hV⟩ := hV
 refine XC.meet (fun a w => ∃ (x_335 : Bool), J_336 x_335 ∧ St w0 H ([(b_67, oc #[(pq b_2)] 43)] ++ ([(b_2, oc #[i6 n_4, v_7, v_12, v_17, v_22, v_27, v_32, v_37, i6 head_41, v_44, u_49, v_52, .bool dead_56] 60)] ++ (fp_9 ++ (fp_14 ++ (fp_19 ++ (fp_24 ++ (fp_29 ++ (fp_34 ++ (fp_39 ++ (fp_46 ++ (fp_54 ++ (fp_59 ++ ([(b_77, oc #[v_70] 83)] ++ (fp_197 ++ ([(b_83, oc #[v_201] 23)] ++ (fp_202 ++ ([(b_86, oc #[v_32] 23)] ++ L))))))))))))))))) w ∧ Fr 107 [(2, v_65), (3, (pq b_67)), (7, (pq b_77)), (8, (pq b_83)), (10, i6 x_318), (11, i6 (max x_318 (-x_318))), (49, .bool x_335)] a) ?_ ?_
 rintro a w ⟨x_335, hI, hS, ha⟩
 refine in_frameX ha ?_
 clear ha hV
 have hV := hJ_337 _ hI
 clear hI hJ_337
 refine XC.cond rfl ?_ ?_
 intro hc_424
 replace hV := hV.1 hc_424
 refine XC.exit ?_
 refine XQ.pass nofun ?_
 refine XQ.hit ?_
 replace hS := hS.f16.f16.f16.f16.f16.f16.f16.f16.f15.f15.f15.f15.f15.f15.f15.f16.f17
 exact fun a ha => ⟨rfl, _, ⟨c_196, c_200, fp_197, v_201, fp_202, hV, h_198, h_203, rfl⟩, by simpa only [List.append_assoc, List.append_nil] using hS⟩
 intro hc_424
 replace hV := hV.2 hc_424
 refine XC.skip ?_
 refine XQ.next ?_
 refine XC.seq ?_
 refine XC.seq ?_
 refine XC.region ?_
 iterate 3 refine R hS ?_
 replace hS := hS.f2
 iterate 2 refine R hS ?_
 obtain ⟨hin_352, hV⟩ := hV
 refine Rx hS (ex_index_own underlying23 sizeOf3 rfl rfl h_28 hin_352) ?_
 intro p_353 hp_354
 replace hS := hS.f7
 refine Rx hS (exNow (H := H) (L := [(b_2, oc #[i6 n_4, v_7, v_12, v_17, v_22, v_27, v_32, v_37, i6 head_41, v_44, u_49, v_52, .bool dead_56] 60)] ++ ([(b_67, oc #[(pq b_2)] 43)] ++ (fp_9 ++ (fp_14 ++ (fp_19 ++ (fp_24 ++ (fp_34 ++ (fp_39 ++ (fp_46 ++ (fp_54 ++ (fp_59 ++ ([(b_77, oc #[v_70] 83)] ++ (fp_197 ++ ([(b_83, oc #[v_201] 23)] ++ (fp_202 ++ ([(b_86, oc #[v_32] 23)] ++ L)))))))))))))))) (ex_load_own_s isAgg3 rfl rfl h_28 hp_354 hin_352)) ?_
 intro u_357 hu_358
 obtain ⟨rfl, hr_359⟩ := cInt_rep hu_358
 replace hr_359 := has_I64 hr_359
 replace hV := hV hr_359
 refine R hS ?_
 refine WL.nil (XQ.back ?_)
 refine XQ.next ?_
 refine XC.cond rfl ?_ ?_
 intro hc_423
 replace hV := hV.1 (od hc_423)
 refine XC.seq ?_
 refine XC.region ?_
 replace hS := hS.f15
 iterate 2 refine R hS ?_
 refine WL.build1 (c := (cInt .i64)) rfl underlying23 info3 rfl rfl (cInt_mk (I64.has hx_319)) hS ?_
 clear hS
 intro v_362 w fp_363 h_364 hS
 obtain ⟨hr_365, hV⟩ := hV
 replace hS := hS.f17
 refine WL.append (c := (cInt .i64)) (xs := c_200) (ys := ([x_318])) rfl underlying23 info3 rfl rfl rfl hS h_203 (h_364.src hS.f2) hr_365.1 hr_365.2 ?_
 clear hS
 intro v_366 w fp_367 h_368 hS
 replace hS := hS.f3
 refine St1 #[v_366] sizeOf23 hS ?_ (cs := [v_366]) (hc := (congrArg Array.toList (cells_one (OwnSl.one h_368)))) (hone := ⟨(OwnSl.one h_368), trivial⟩)
 clear hS
 intro w hS
 refine WL.nil (XQ.back ?_)
 refine XQ.next ?_
 refine XC.sub (m := [(2, v_65), (8, (pq b_83))]) ⟨rfl, rfl, trivial⟩ ?_
 replace hS := hS.f3.drop
 refine XC.exit ?_
 refine XQ.pass nofun ?_
 refine XQ.hit ?_
 replace hS := hS.f2.f2.f16.f16.f16.f16.f16.f16.f9.f15.f15.f15.f15.f14.f15.f16.f17
 exact fun a ha => ⟨rfl, _, ⟨c_196, (c_200 ++ ([x_318])), fp_197, v_366, fp_367, hV, h_198, h_368, rfl⟩, by simpa only [List.append_assoc, List.append_nil] using hS⟩
 intro hc_423
 replace hV := hV.2 (ov hc_423)
 refine XC.skip ?_
 refine XQ.next ?_
 refine XC.sub (m := [(2, v_65), (3, (pq b_67)), (7, (pq b_77)), (8, (pq b_83)), (11, i6 (max x_318 (-x_318)))]) ⟨rfl, rfl, rfl, rfl, rfl, trivial⟩ ?_
 refine XC.seq ?_
 refine XC.quiet (C := St w0 H (fp_29 ++ ([(b_2, oc #[i6 n_4, v_7, v_12, v_17, v_22, v_27, v_32, v_37, i6 head_41, v_44, u_49, v_52, .bool dead_56] 60)] ++ ([(b_67, oc #[(pq b_2)] 43)] ++ (fp_9 ++ (fp_14 ++ (fp_19 ++ (fp_24 ++ (fp_34 ++ (fp_39 ++ (fp_46 ++ (fp_54 ++ (fp_59 ++ ([(b_77, oc #[v_70] 83)] ++ (fp_197 ++ ([(b_83, oc #[v_201] 23)] ++ (fp_202 ++ ([(b_86, oc #[v_32] 23)] ++ L)))))))))))))))))) mixed (by kernel_rfl) (hS.drawn _) ?_
 clear hS w
 refine Rm ((ex_load_box isAgg43 rfl rfl).of (fun _ h => St.f3 h)) ?_
 iterate 2 refine Rq ?_
 refine Rm ((ex_load_box isAgg22 rfl rfl).of (fun _ h => St.f2 h)) ?_
 refine Rm ((ex_load_box isAgg43 rfl rfl).of (fun _ h => St.f3 h)) ?_
 iterate 2 refine Rq ?_
 refine Rm ((ex_load_box isAgg23 rfl rfl).of (fun _ h => St.f2 h)) ?_
 refine Rq ?_
 obtain ⟨hin_370, hV⟩ := hV
 refine Wq.runx rfl rfl rfl (ex_index_own underlying23 sizeOf3 rfl rfl h_28 hin_370) ?_
 intro p_371 hp_372
 refine Wq.runx rfl rfl rfl (exQ (ex_load_own_s isAgg3 rfl rfl h_28 hp_372 hin_370) _ (fun _ h => h)) ?_
 intro u_375 hu_376
 obtain ⟨rfl, hr_377⟩ := cInt_rep hu_376
 replace hr_377 := has_I64 hr_377
 replace hV := hV hr_377
 obtain ⟨hin_378, hV⟩ := hV
 refine Wq.runx rfl rfl rfl (ex_index_own underlying22 sizeOf23 rfl rfl h_8 hin_378) ?_
 intro p_379 hp_380
 refine Wq.runx rfl rfl rfl (exQ (ex_load_own_s isAgg23 rfl rfl h_8 hp_380 hin_378) _ (fun _ h => St.f4 h)) ?_
 intro u_381 hu_382
 obtain rfl := cRaw_rep hu_382
 obtain ⟨hl_383, hV⟩ := hV
 iterate 2 refine Rq ?_
 refine Wq.nil fun w hS => XQ.back ?_
 refine XQ.next ?_
 refine XC.sub (m := [(2, v_65), (7, (pq b_77)), (8, (pq b_83)), (74, rawV (ix clauses_6 (ix reason_26 (max x_318 (-x_318))))), (75, i6 ((ix clauses_6 (ix reason_26 (max x_318 (-x_318)))).n : Int)), (76, i6 0)]) ⟨rfl, rfl, rfl, rfl, rfl, rfl, trivial⟩ ?_
 refine XC.block ?_
 replace hS := hS.f17.f4.f13.f13.f13.f13.f13.f8.f13.f13.f13.f13.f13.f17.f17.f17.f17
 obtain ⟨I_409, mu_410, hI_422, hV⟩ := hV
 refine XC.loop (σ := M1 × Int) (fun s a w => ∃ (c_394 : M1) (x_397 : Int) (fp_395 : Seg), s = (c_394, x_397) ∧ I_409 (c_394, x_397) ∧ OwnMp H kInt (cInt .i64) v_70 c_394 fp_395 ∧ I64 x_397 ∧ St w0 H ([(b_77, oc #[v_70] 83)] ++ (fp_395 ++ ([(b_83, oc #[v_201] 23)] ++ (fp_202 ++ ([(b_2, oc #[i6 n_4, v_7, v_12, v_17, v_22, v_27, v_32, v_37, i6 head_41, v_44, u_49, v_52, .bool dead_56] 60)] ++ (fp_9 ++ (fp_14 ++ (fp_19 ++ (fp_24 ++ (fp_29 ++ (fp_34 ++ (fp_39 ++ (fp_46 ++ (fp_54 ++ (fp_59 ++ ([(b_67, oc #[(pq b_2)] 43)] ++ ([(b_86, oc #[v_32] 23)] ++ L))))))))))))))))) w ∧ Fr 107 [(2, v_65), (7, (pq b_77)), (8, (pq b_83)), (74, rawV (ix clauses_6 (ix reason_26 (max x_318 (-x_318))))), (75, i6 ((ix clauses_6 (ix reason_26 (max x_318 (-x_318)))).n : Int)), (76, i6 x_397)] a) mu_410 (c_196, 0) ?_ ?_
 exact fun a ha => ⟨c_196, 0, fp_197, rfl, hI_422, h_198, (by unfold I64; omega), hS, ha.os⟩
 clear hS hI_422
 rintro _ a w ⟨c_394, x_397, fp_395, rfl, hI, h_396, hr_398, hS, ha⟩
 refine in_frameX ha ?_
 clear ha
 replace hV := hV _ hI
 clear hI
 refine XC.seq ?_
 refine XC.region ?_
 refine R hS ?_
 refine WL.nil (XQ.back ?_)
 refine XQ.next ?_
 refine XC.seq ?_
 refine XC.cond rfl ?_ ?_
 intro hc_421
 replace hV := hV.1 (od hc_421)
 refine XC.skip ?_
 refine XQ.next ?_
 refine XC.seq ?_
 refine XC.block ?_
 refine XC.seq ?_
 refine XC.region ?_
 obtain ⟨hin_413, hV⟩ := hV
 refine Rn hS (ex_r_index underlying23 sizeOf3 rfl rfl hin_413) ?_
 replace hS := hS.f15
 obtain ⟨hrd_414, hV⟩ := hV
 refine Rn hS (ex_r_load isAgg3 rfl hA_58 hrd_414) ?_
 refine R hS ?_
 refine WL.nil (XQ.back ?_)
 refine XQ.next ?_
 refine XC.region ?_
 replace hS := hS.f2
 iterate 3 refine R hS ?_
 obtain ⟨hi_416, hV⟩ := hV
 iterate 2 refine R hS ?_
 replace hS := hS.f3
 refine WL.mapUpdate (k := (max (ag A_61 (ix clauses_6 (ix reason_26 (max x_318 (-x_318)))) x_397) (-(ag A_61 (ix clauses_6 (ix reason_26 (max x_318 (-x_318)))) x_397)))) (e := 1) underlying83 Tryz.key3 (I64.max (IsAr.ag64 hA_58 _ _) hi_416) (cInt_mk (I64.has (by unfold I64; omega))) rfl rfl rfl hS h_396 ?_
 clear hS
 intro w fp_417 h_418 hS
 refine WL.nil (XQ.back ?_)
 refine XQ.out nofun ?_
 refine XQ.next ?_
 refine XC.region ?_
 obtain ⟨hi_420, hV⟩ := hV
 iterate 2 refine R hS ?_
 refine WL.nil (XQ.back ?_)
 replace hS := hS.f17.f17.f5.f17.f17.f17.f17.f17.f17.f17.f17.f17.f17.f17.f17.f16.f17
 exact XQ.there fun a ha => ⟨((mset c_394 (max (ag A_61 (ix clauses_6 (ix reason_26 (max x_318 (-x_318)))) x_397) (-(ag A_61 (ix clauses_6 (ix reason_26 (max x_318 (-x_318)))) x_397))) 1), (x_397 + 1)), ⟨(mset c_394 (max (ag A_61 (ix clauses_6 (ix reason_26 (max x_318 (-x_318)))) x_397) (-(ag A_61 (ix clauses_6 (ix reason_26 (max x_318 (-x_318)))) x_397))) 1), (x_397 + 1), fp_417, rfl, hV.1, h_418, hi_420, hS, ha.os⟩, hV.2⟩
 intro hc_421
 replace hV := hV.2 (ov hc_421)
 refine XC.exit ?_
 refine XQ.pass nofun ?_
 refine XQ.pass nofun ?_
 refine XQ.hit ?_
 refine XQ.out nofun ?_
 replace hS := hS.f4.f4.f4.f4.f15.f15.f15.f15.f14.f14.f14.f14.f14.f14.f16.f16.f17
 exact fun a ha => ⟨rfl, _, ⟨c_394, c_200, fp_395, v_201, fp_202, hV, h_396, h_203, rfl⟩, by simpa only [List.append_assoc, List.append_nil] using hS⟩
 clear hJ_337
 refine XC.region ?_
 replace hS := hS.f14
 iterate 2 refine R hS ?_
 replace hS := hS.f15
 refine Rx hS (exNow (H := H) (L := [(b_77, oc #[v_70] 83)] ++ ([(b_86, oc #[v_32] 23)] ++ (fp_34 ++ ([(b_67, oc #[(pq b_2)] 43)] ++ ([(b_2, oc #[i6 n_4, v_7, v_12, v_17, v_22, v_27, v_32, v_37, i6 head_41, v_44, u_49, v_52, .bool dead_56] 60)] ++ (fp_9 ++ (fp_14 ++ (fp_19 ++ (fp_24 ++ (fp_29 ++ (fp_39 ++ (fp_46 ++ (fp_54 ++ (fp_59 ++ ([(b_83, oc #[v_201] 23)] ++ (fp_202 ++ L)))))))))))))))) (ex_lookup (c := (cInt .i64)) (k := (max x_318 (-x_318))) (d := 0) underlying83 Tryz.key3 zeroValue3 ⟨rfl, I64.has (by unfold I64; omega)⟩ rfl rfl h_198)) ?_
 intro u_338 hu_339
 obtain ⟨rfl, hr_340⟩ := cInt_rep hu_339
 replace hr_340 := has_I64 hr_340
 replace hV := hV hr_340
 iterate 2 refine R hS ?_
 rcases bft (decide ((mgetD c_196 (max x_318 (-x_318)) 0) = 0)) with hg_342 | hg_342
 replace hV := hV.1 (od hg_342)
 iterate 9 refine R hS ?_
 refine WL.nil (XQ.back ?_)
 replace hS := hS.f3.f17.f17.f4.f5.f17.f17.f17.f17.f10.f17.f17.f17.f17.f17.f17.f17
 exact XQ.there fun a ha => ⟨true, hV, hS, ha.os⟩
 replace hV := hV.2 (ov hg_342)
 refine Ug hg_342 ?_
 replace hS := hS.f5
 iterate 3 refine R hS ?_
 refine Ug hg_342 ?_
 replace hS := hS.f6
 iterate 2 refine R hS ?_
 refine Ug hg_342 ?_
 obtain ⟨hin_343, hV⟩ := hV
 refine Rx hS (ex_index_own underlying23 sizeOf3 rfl rfl h_23 hin_343) ?_
 intro p_344 hp_345
 refine Ug hg_342 ?_
 replace hS := hS.f10
 refine Rx hS (exNow (H := H) (L := [(b_2, oc #[i6 n_4, v_7, v_12, v_17, v_22, v_27, v_32, v_37, i6 head_41, v_44, u_49, v_52, .bool dead_56] 60)] ++ ([(b_67, oc #[(pq b_2)] 43)] ++ (fp_197 ++ ([(b_77, oc #[v_70] 83)] ++ ([(b_86, oc #[v_32] 23)] ++ (fp_34 ++ (fp_9 ++ (fp_14 ++ (fp_19 ++ (fp_29 ++ (fp_39 ++ (fp_46 ++ (fp_54 ++ (fp_59 ++ ([(b_83, oc #[v_201] 23)] ++ (fp_202 ++ L)))))))))))))))) (ex_load_own_s isAgg3 rfl rfl h_23 hp_345 hin_343)) ?_
 intro u_348 hu_349
 obtain ⟨rfl, hr_350⟩ := cInt_rep hu_349
 replace hr_350 := has_I64 hr_350
 replace hV := hV hr_350
 iterate 2 refine R hS ?_
 refine WL.nil (XQ.back ?_)
 replace hS := hS.f6.f17.f17.f7.f8.f17.f17.f17.f17.f13.f17.f12.f17.f17.f17.f16.f17
 exact XQ.there fun a ha => ⟨decide ((ix level_21 (max x_318 (-x_318))) = 0), hV, hS, ha.os⟩
 clear hS0 hS
 rintro D_425 w sg ⟨c_196, c_200, fp_197, v_201, fp_202, hI_314, h_198, h_203, rfl⟩ hS
 replace hS : St w0 H ([(b_86, oc #[v_32] 23)] ++ (fp_34 ++ ([(b_67, oc #[(pq b_2)] 43)] ++ ([(b_2, oc #[i6 n_4, v_7, v_12, v_17, v_22, v_27, v_32, v_37, i6 head_41, v_44, u_49, v_52, .bool dead_56] 60)] ++ (fp_9 ++ (fp_14 ++ (fp_19 ++ (fp_24 ++ (fp_29 ++ (fp_39 ++ (fp_46 ++ (fp_54 ++ (fp_59 ++ ([(b_77, oc #[v_70] 83)] ++ (fp_197 ++ ([(b_83, oc #[v_201] 23)] ++ (fp_202 ++ ([(D_425, Obj.deferred (some []))] ++ L)))))))))))))))))) w := by simpa only [List.append_assoc, List.append_nil] using hS
 have hV := hb_316 _ hI_314
 clear hb_315 hb_316 hI_314
 refine XQ.out nofun ?_
 refine XQ.next ?_
 replace hS := hS.f3.drop
 replace hS := hS.f13.drop
 replace hS := hS.f13.drop
 replace hS := hS.drop
 refine XC.seq ?_
 refine XC.region ?_
 refine R hS ?_
 refine WL.nil (XQ.back ?_)
 refine XQ.next ?_
 refine XC.seq ?_
 refine XC.seq ?_
 refine XC.region ?_
 refine R hS ?_
 have hl_428 : Len suppose_64 := h_66.bound
 replace hV := hV hl_428
 refine Rn hS (ex_len_sl underlying23 rfl h_66) ?_
 refine R hS ?_
 refine WL.nil (XQ.back ?_)
 refine XQ.next ?_
 refine XC.block ?_
 replace hS := hS.nilseg
 replace hS := hS.f15.f13.f13.f13.f13.f7.f13.f13.f13.f13.f13.f13.f13.f15.f15
 obtain ⟨I_618, mu_619, hI_718, hV⟩ := hV
 refine XC.loop (σ := LI × Int) (fun s a w => ∃ (core_515 : LI) (x_519 : Int) (v_516 : Value) (fp_517 : Seg), s = (core_515, x_519) ∧ I_618 (core_515, x_519) ∧ OwnSl H (cInt .i64) 3 v_516 core_515 fp_517 ∧ I64 x_519 ∧ St w0 H ([(b_83, oc #[v_201] 23)] ++ (fp_202 ++ (fp_517 ++ ([(b_2, oc #[i6 n_4, v_7, v_12, v_17, v_22, v_27, v_32, v_37, i6 head_41, v_44, u_49, v_52, .bool dead_56] 60)] ++ (fp_9 ++ (fp_14 ++ (fp_19 ++ (fp_24 ++ (fp_29 ++ (fp_34 ++ (fp_39 ++ (fp_46 ++ (fp_54 ++ (fp_59 ++ ([(D_425, Obj.deferred (some []))] ++ L))))))))))))))) w ∧ Fr 107 [(8, (pq b_83)), (14, v_516), (86, v_65), (87, i6 (suppose_64.length : Int)), (88, i6 x_519)] a) mu_619 (([] : LI), 0) ?_ ?_
 exact fun a ha => ⟨([] : LI), 0, ns, ([] : Seg), rfl, hI_718, OwnSl.nil, (by unfold I64; omega), hS, ha.os⟩
 clear hS hI_718
 rintro _ a w ⟨core_515, x_519, v_516, fp_517, rfl, hI, h_518, hr_520, hS, ha⟩
 refine in_frameX ha ?_
 clear ha
 replace hV := hV _ hI
 clear hI
 refine XC.seq ?_
 refine XC.region ?_
 refine R hS ?_
 refine WL.nil (XQ.back ?_)
 refine XQ.next ?_
 refine XC.seq ?_
 refine XC.cond rfl ?_ ?_
 intro hc_717
 replace hV := hV.1 (od hc_717)
 refine XC.skip ?_
 refine XQ.next ?_
 obtain ⟨J_670, hJ_671, hV⟩ := hV
 refine XC.meet (fun a w => ∃ (core_666 : LI) (v_667 : Value) (fp_668 : Seg), J_670 core_666 ∧ OwnSl H (cInt .i64) 3 v_667 core_666 fp_668 ∧ St w0 H ([(b_83, oc #[v_201] 23)] ++ (fp_202 ++ (fp_668 ++ ([(b_2, oc #[i6 n_4, v_7, v_12, v_17, v_22, v_27, v_32, v_37, i6 head_41, v_44, u_49, v_52, .bool dead_56] 60)] ++ (fp_9 ++ (fp_14 ++ (fp_19 ++ (fp_24 ++ (fp_29 ++ (fp_34 ++ (fp_39 ++ (fp_46 ++ (fp_54 ++ (fp_59 ++ ([(D_425, Obj.deferred (some []))] ++ L))))))))))))))) w ∧ Fr 107 [(8, (pq b_83)), (14, v_667), (86, v_65), (87, i6 (suppose_64.length : Int)), (88, i6 x_519)] a) ?_ ?_
 rintro a w ⟨core_666, v_667, fp_668, hI, h_669, hS, ha⟩
 refine in_frameX ha ?_
 clear ha hV
 have hV := hJ_671 _ hI
 clear hI hJ_671
 refine XC.region ?_
 obtain ⟨hi_716, hV⟩ := hV
 iterate 2 refine R hS ?_
 refine WL.nil (XQ.back ?_)
 replace hS := hS.f15.f15.f15.f15.f15.f15.f15.f15.f15.f15.f15.f15.f15.f15.f15
 exact XQ.there fun a ha => ⟨(core_666, (x_519 + 1)), ⟨core_666, (x_519 + 1), v_667, fp_668, rfl, hV.1, h_669, hi_716, hS, ha.os⟩, hV.2⟩
 clear hJ_671
 refine XC.block ?_
 refine XC.seq ?_
 refine XC.region ?_
 obtain ⟨hin_672, hV⟩ := hV
 refine Rx hS (ex_index underlying23 sizeOf3 rfl rfl h_66 hin_672) ?_
 intro p_673 hp_674
 refine Rx hS (ex_load isAgg3 rfl rfl hp_674) ?_
 intro u_677 hu_678
 obtain ⟨rfl, hr_679⟩ := cInt_rep hu_678
 replace hr_679 := has_I64 hr_679
 replace hV := hV hr_679
 refine R hS ?_
 refine WL.nil (XQ.back ?_)
 refine XQ.next ?_
 obtain ⟨J_692, hJ_693, hV⟩ := hV
 refine XC.meet (fun a w => ∃ (x_691 : Bool), J_692 x_691 ∧ St w0 H ([(b_83, oc #[v_201] 23)] ++ (fp_202 ++ (fp_517 ++ ([(b_2, oc #[i6 n_4, v_7, v_12, v_17, v_22, v_27, v_32, v_37, i6 head_41, v_44, u_49, v_52, .bool dead_56] 60)] ++ (fp_9 ++ (fp_14 ++ (fp_19 ++ (fp_24 ++ (fp_29 ++ (fp_34 ++ (fp_39 ++ (fp_46 ++ (fp_54 ++ (fp_59 ++ ([(D_425, Obj.deferred (some []))] ++ L))))))))))))))) w ∧ Fr 107 [(8, (pq b_83)), (14, v_516), (16, i6 (ix suppose_64 x_519)), (86, v_65), (87, i6 (suppose_64.length : Int)), (88, i6 x_519), (100, .bool x_691)] a) ?_ ?_
 rintro a w ⟨x_691, hI, hS, ha⟩
 refine in_frameX ha ?_
 clear ha hV
 have hV := hJ_693 _ hI
 clear hI hJ_693
 refine XC.cond rfl ?_ ?_
 intro hc_714
 replace hV := hV.1 hc_714
 refine XC.region ?_
 iterate 2 refine R hS ?_
 refine WL.build1 (c := (cInt .i64)) rfl underlying23 info3 rfl rfl (cInt_mk (I64.has hr_679)) hS ?_
 clear hS
 intro v_706 w fp_707 h_708 hS
 obtain ⟨hr_709, hV⟩ := hV
 replace hS := hS.f4
 refine WL.append (c := (cInt .i64)) (xs := core_515) (ys := ([(ix suppose_64 x_519)])) rfl underlying23 info3 rfl rfl rfl hS h_518 (h_708.src hS.f2) hr_709.1 hr_709.2 ?_
 clear hS
 intro v_710 w fp_711 h_712 hS
 refine R hS ?_
 refine WL.nil (XQ.back ?_)
 refine XQ.out nofun ?_
 replace hS := hS.f2.drop
 replace hS := hS.f15.f15.f15.f15.f15.f15.f15.f15.f15.f15.f15.f15.f13.f15.f15
 exact XQ.there fun a ha => ⟨(core_515 ++ ([(ix suppose_64 x_519)])), v_710, fp_711, hV, h_712, hS, ha.os⟩
 intro hc_714
 replace hV := hV.2 hc_714
 refine XC.skip ?_
 refine XQ.out nofun ?_
 replace hS := hS.f15.f15.f15.f15.f15.f15.f15.f15.f15.f15.f15.f15.f15.f15.f15
 exact XQ.there fun a ha => ⟨core_515, v_516, fp_517, hV, h_518, hS, ha.os⟩
 clear hJ_693
 refine XC.region ?_
 iterate 2 refine R hS ?_
 replace hS := hS.f2
 have hL_694 := hS.freeze
 refine Rc (enters0 (vs := [v_201, i6 (ix suppose_64 x_519)]) call50 ⟨rfl, rfl, trivial⟩) (S_ContainsI  (h_203.share hS.put_le) hr_679 hL_694 hV) ?_
 clear hV
 rintro _ w ⟨r_695, hV, rfl, hL_696⟩
 refine ⟨_, rfl, ?_⟩
 have hB_698 := hS.back hL_696
 replace hS := hB_698
 clear hL_696 hL_694 hB_698
 refine R hS ?_
 rcases bft r_695 with hg_699 | hg_699
 replace hV := hV.1 hg_699
 iterate 2 refine R hS ?_
 refine Ug hg_699 ?_
 replace hS := hS.f3
 have hL_700 := hS.freeze
 refine Rc (enters0 (vs := [v_516, i6 (ix suppose_64 x_519)]) call50 ⟨rfl, rfl, trivial⟩) (S_ContainsI  (h_518.share hS.put_le) hr_679 hL_700 hV) ?_
 clear hV
 rintro _ w ⟨r_701, hV, rfl, hL_702⟩
 refine ⟨_, rfl, ?_⟩
 have hB_704 := hS.back hL_702
 replace hS := hB_704
 clear hL_702 hL_700 hB_704
 iterate 2 refine R hS ?_
 refine WL.nil (XQ.back ?_)
 replace hS := hS.f15.f15.f15.f15.f15.f15.f15.f15.f15.f15.f15.f15.f13.f14.f15
 exact XQ.there fun a ha => ⟨(!r_701), hV, hS, ha.os⟩
 replace hV := hV.2 hg_699
 iterate 5 refine R hS ?_
 refine WL.nil (XQ.back ?_)
 replace hS := hS.f15.f15.f15.f15.f15.f15.f15.f15.f15.f15.f15.f15.f15.f14.f15
 exact XQ.there fun a ha => ⟨false, hV, hS, ha.os⟩
 intro hc_717
 replace hV := hV.2 (ov hc_717)
 refine XC.exit ?_
 refine XQ.pass nofun ?_
 refine XQ.pass nofun ?_
 refine XQ.hit ?_
 refine XQ.next ?_
 replace hS := hS.drop
 replace hS := hS.drop
 refine XC.seq ?_
 refine XC.region ?_
 iterate 2 refine R hS ?_
 refine WL.nil (XQ.back ?_)
 refine XQ.next ?_
 refine XC.ret ?_
 replace hS := hS.f12.f12.f12.f12.f12.f12.f12.f12.f12.f12.f12.f12.f13
 exact leaveX1 rfl rfl hS (fun w hS => ⟨core_515, v_516, fp_517, hV, rfl, h_518, hS⟩)

theorem S_found {w0 : World} {H : View} {L : Seg} {w : World} {b_2 : Nat} {n_4 : Int} {v_7 : Value} {clauses_6 : List Raw} {fp_9 : Seg} {v_12 : Value} {watch_11 : List (Int × Raw)} {fp_14 : Seg} {v_17 : Value} {value_16 : LI} {fp_19 : Seg} {v_22 : Value} {level_21 : LI} {fp_24 : Seg} {v_27 : Value} {reason_26 : LI} {fp_29 : Seg} {v_32 : Value} {trail_31 : LI} {fp_34 : Seg} {v_37 : Value} {starts_36 : LI} {fp_39 : Seg} {head_41 : Int} {v_44 : Value} {heat_43 : List Unit} {fp_46 : Seg} {u_49 : Value} {v_52 : Value} {proof_51 : List (Bool × LI)} {fp_54 : Seg} {dead_56 : Bool} {A_61 : Arena} {fp_59 : Seg} {Q : Bool → (List Bool) → LI → (List (Bool × LI)) → Prop} (hr_5 : I64 n_4) (h_8 : OwnSl H cRaw 23 v_7 clauses_6 fp_9) (h_13 : OwnMp H kInt cRaw v_12 watch_11 fp_14) (h_18 : OwnSl H (cInt .i64) 3 v_17 value_16 fp_19) (h_23 : OwnSl H (cInt .i64) 3 v_22 level_21 fp_24) (h_28 : OwnSl H (cInt .i64) 3 v_27 reason_26 fp_29) (h_33 : OwnSl H (cInt .i64) 3 v_32 trail_31 fp_34) (h_38 : OwnSl H (cInt .i64) 3 v_37 starts_36 fp_39) (hr_42 : I64 head_41) (h_45 : OwnSl H cF 58 v_44 heat_43 fp_46) (h_50 : IsF u_49) (h_53 : OwnSl H (cPair cBool (cSl (cInt .i64))) 50 v_52 proof_51 fp_54) (hA_58 : IsAr 3 A_61 fp_59) (hS : St w0 H ([(b_2, oc #[i6 n_4, v_7, v_12, v_17, v_22, v_27, v_32, v_37, i6 head_41, v_44, u_49, v_52, .bool dead_56] 60)] ++ (fp_9 ++ (fp_14 ++ (fp_19 ++ (fp_24 ++ (fp_29 ++ (fp_34 ++ (fp_39 ++ (fp_46 ++ (fp_54 ++ (fp_59 ++ L))))))))))) w) (hV : V_found n_4 clauses_6 watch_11 value_16 level_21 reason_26 trail_31 starts_36 head_41 heat_43 proof_51 dead_56 A_61 Q) :
 Calls Tryz.prog 35 #[(pq b_2)] w fun e w' => ∃ (r1 : Bool) (r2 : List Bool) (r3 : LI) (r4 : List (Bool × LI)) (v2 : Value) (v3 : Value) (v4 : Value) (H' : View), Q r1 r2 r3 r4 ∧ e = .returned (.agg #[.bool r1, v2, v3, v4]) ∧ View.le H H' ∧ IsSl H' cBool v2 r2 ∧ IsSl H' (cInt .i64) v3 r3 ∧ IsSl H' (cPair cBool (cSl (cInt .i64))) v4 r4 ∧ St w0 H' ([(b_2, oc #[i6 n_4, v_7, v_12, v_17, v_22, v_27, v_32, v_37, i6 head_41, v_44, u_49, v_52, .bool dead_56] 60)] ++ (fp_9 ++ (fp_14 ++ (fp_19 ++ (fp_24 ++ (fp_29 ++ (fp_34 ++ (fp_39 ++ (fp_46 ++ (fp_54 ++ (fp_59 ++ L))))))))))) w' := by
 unfold V_found at hV
 refine enter func35 rfl ntmps35 rfl (lk_args_cons (d := 0) (v := (pq b_2)) rfl (lk_args_nil _)) ?_
 refine WC.sr ?_
 refine WL.alloc (arr := #[.bool false, ns, ns, ns]) rfl zeroValue30 rfl hS ?_
 clear hS
 intro b_62 w hS
 refine WL.nx ?_
 refine WC.sr ?_
 refine Rn hS (ex_build (vs := [.bool true]) (zc := #[.bool false, ns, ns, ns]) (cs := #[.bool true, ns, ns, ns]) (places := #[(0, 1), (1, 1), (2, 1), (3, 1)]) underlying30 zeroValue30 (fun w => by simp [sizeOf23, sizeOf24, sizeOf28, sizeOf4]) rfl ⟨rfl, trivial⟩ rfl (by simp [Instr.fill, cells_int, cells_bool, cells_slice, cells_flt])) ?_
 refine WL.alloc (arr := #[.bool false, ns, ns, ns]) rfl zeroValue30 rfl hS ?_
 clear hS
 intro b_70 w hS
 refine St1 #[.bool true, ns, ns, ns] sizeOf30 hS ?_
 clear hS
 intro w hS
 refine WL.nx ?_
 refine WC.seq ?_
 refine WC.sr ?_
 refine R hS ?_
 refine WL.nx ?_
 refine WC.block ?_
 replace hS := hS.nilseg
 replace hS := hS.f2.f3.f14.f14.f14.f14.f14.f14.f14.f14.f14.f14.f14
 obtain ⟨I_170, mu_171, hI_221, hV⟩ := hV
 refine WC.loop (σ := (List Bool) × Int) (fun s a w => ∃ (c_120 : List Bool) (v_124 : Int) (v_121 : Value) (fp_122 : Seg), s = (c_120, v_124) ∧ I_170 (c_120, v_124) ∧ OwnSl H cBool 4 v_121 c_120 fp_122 ∧ I64 v_124 ∧ St w0 H ([(b_2, oc #[i6 n_4, v_7, v_12, v_17, v_22, v_27, v_32, v_37, i6 head_41, v_44, u_49, v_52, .bool dead_56] 60)] ++ (fp_9 ++ (fp_14 ++ (fp_19 ++ (fp_24 ++ (fp_29 ++ (fp_34 ++ (fp_39 ++ (fp_46 ++ (fp_54 ++ (fp_59 ++ ([(b_62, oc #[.bool false, ns, ns, ns] 30)] ++ ([(b_70, oc #[.bool true, v_121, ns, ns] 30)] ++ (fp_122 ++ L)))))))))))))) w ∧ Fr 28 [(0, (pq b_2)), (2, (pq b_62)), (3, (pq b_70)), (4, i6 v_124)] a) mu_171 (([] : List Bool), 1) ?_ ?_
 exact fun a ha => ⟨([] : List Bool), 1, ns, ([] : Seg), rfl, hI_221, OwnSl.nil, (by unfold I64; omega), hS, ha.os⟩
 clear hS hI_221
 rintro _ a w ⟨c_120, v_124, v_121, fp_122, rfl, hI, h_123, hr_125, hS, ha⟩
 refine in_frame ha ?_
 clear ha
 replace hV := hV _ hI
 clear hI
 refine WC.seq ?_
 refine WC.sr ?_
 iterate 6 refine R hS ?_
 refine WL.nx ?_
 refine Cd ?_ ?_
 intro hc_220
 replace hV := hV.1 (od hc_220)
 refine WC.skip ?_
 refine WQ.next ?_
 refine WC.seq ?_
 refine WC.block ?_
 refine WC.drawn (σ := [0, 1, 2, 3, 4, 5, 6, 7, 8, 9, 10, 11, 12, 13]) (C := St w0 H ([(b_2, oc #[i6 n_4, v_7, v_12, v_17, v_22, v_27, v_32, v_37, i6 head_41, v_44, u_49, v_52, .bool dead_56] 60)] ++ (fp_9 ++ (fp_14 ++ (fp_19 ++ (fp_24 ++ (fp_29 ++ (fp_34 ++ (fp_39 ++ (fp_46 ++ (fp_54 ++ (fp_59 ++ ([(b_62, oc #[.bool false, ns, ns, ns] 30)] ++ ([(b_70, oc #[.bool true, v_121, ns, ns] 30)] ++ (fp_122 ++ L))))))))))))))) [[], [0], [], [2], [2, 3], [2, 3, 4], [], [2, 3, 4, 5, 6], [2, 3, 4, 5, 6, 7], [2, 3, 4, 5, 6, 7, 8], [2, 3, 4, 5, 6, 7, 8, 9], [0, 1, 2, 3, 4, 5, 6, 7, 8, 9, 10], [0, 1, 2, 3, 4, 5, 6, 7, 8, 9, 10, 11], [0, 1, 2, 3, 4, 5, 6, 7, 8, 9, 10, 11, 12]] [10, 11, 13] mixed (by kernel_rfl) (hS.drawn _) ?_
 clear hS w
 refine Wd.run rfl rfl rfl rfl (fun _ => ex_fieldAddr (o' := 1) underlying30 rfl sizeOf24 rfl rfl) fun q_175 hq_174 => ?_
 refine Wd.runb (off := 1) rfl rfl rfl rfl (fun _ _ _ h => ex_load_box isAgg24 rfl h) rfl (fun _ h => St.f13 h) fun q_177 hq_176 => ?_
 refine Dm fun q_179 hq_178 => ?_
 refine Wd.run rfl rfl rfl rfl (fun _ => ex_nilCheck rfl) fun q_181 hq_180 => ?_
 refine Wd.run rfl rfl rfl rfl (fun _ => ex_fieldAddr (o' := 3) underlying60 rfl sizeOf23 rfl rfl) fun q_183 hq_182 => ?_
 refine Wd.runb (off := 3) rfl rfl rfl rfl (fun _ _ _ h => ex_load_box isAgg23 rfl h) rfl (fun _ h => h) fun q_185 hq_184 => ?_
 refine Dm fun q_187 hq_186 => ?_
 obtain ⟨hin_190, hV⟩ := hV
 refine Wd.runx rfl rfl rfl rfl (exAll (ex_index_own underlying23 sizeOf3 rfl rfl h_18 hin_190)) ?_
 intro p_191 hp_192
 intro q_189 hq_188
 refine Wd.runs (fp := fp_19) rfl rfl rfl rfl (ex_load_own_s isAgg3 rfl rfl h_18 hp_192 hin_190) (fun _ h => St.f4 h) ?_
 intro u_197 hu_198
 obtain ⟨rfl, hr_199⟩ := cInt_rep hu_198
 replace hr_199 := has_I64 hr_199
 replace hV := hV hr_199
 intro q_194 hq_193
 refine Wd.run rfl rfl rfl rfl (fun _ => ex_gtr rfl rfl) fun q_201 hq_200 => ?_
 refine Wd.turn rfl rfl rfl fun w hS => ?_
 refine WL.build1 (c := cBool) rfl underlying24 info4 rfl rfl cBool_mk hS ?_
 clear hS
 intro v_204 w fp_205 h_206 hS
 refine WL.nil (DQ.mk2 (C' := St w0 H (fp_205 ++ ([(b_2, oc #[i6 n_4, v_7, v_12, v_17, v_22, v_27, v_32, v_37, i6 head_41, v_44, u_49, v_52, .bool dead_56] 60)] ++ (fp_9 ++ (fp_14 ++ (fp_19 ++ (fp_24 ++ (fp_29 ++ (fp_34 ++ (fp_39 ++ (fp_46 ++ (fp_54 ++ (fp_59 ++ ([(b_62, oc #[.bool false, ns, ns, ns] 30)] ++ ([(b_70, oc #[.bool true, v_121, ns, ns] 30)] ++ (fp_122 ++ L)))))))))))))))) hS ⟨il, il, il, il, il, il, il, il, .inr (hq_176 H (fp_205 ++ ([(b_2, oc #[i6 n_4, v_7, v_12, v_17, v_22, v_27, v_32, v_37, i6 head_41, v_44, u_49, v_52, .bool dead_56] 60)] ++ (fp_9 ++ (fp_14 ++ (fp_19 ++ (fp_24 ++ (fp_29 ++ (fp_34 ++ (fp_39 ++ (fp_46 ++ (fp_54 ++ (fp_59 ++ ([(b_62, oc #[.bool false, ns, ns, ns] 30)] ++ (fp_122 ++ L)))))))))))))) #[.bool true, v_121, ns, ns] _ rfl (fun _ h => St.f14 h)), .inr (hq_174 _), trivial⟩ ?_)
 clear hS w
 refine Wd.turn rfl rfl rfl fun w hS => ?_
 obtain ⟨hr_207, hV⟩ := hV
 replace hS := hS.f15
 refine WL.append (c := cBool) (xs := c_120) (ys := ([decide (0 < (ix value_16 v_124))])) rfl underlying24 info4 rfl rfl rfl hS h_123 (h_206.src hS.f2) hr_207.1 hr_207.2 ?_
 clear hS
 intro v_208 w fp_209 h_210 hS
 refine WL.nil (DQ.mk2 (C' := St w0 H (fp_209 ++ (fp_205 ++ ([(b_2, oc #[i6 n_4, v_7, v_12, v_17, v_22, v_27, v_32, v_37, i6 head_41, v_44, u_49, v_52, .bool dead_56] 60)] ++ (fp_9 ++ (fp_14 ++ (fp_19 ++ (fp_24 ++ (fp_29 ++ (fp_34 ++ (fp_39 ++ (fp_46 ++ (fp_54 ++ (fp_59 ++ ([(b_62, oc #[.bool false, ns, ns, ns] 30)] ++ ([(b_70, oc #[.bool true, v_121, ns, ns] 30)] ++ L)))))))))))))))) hS ⟨il, il, il, il, il, il, il, il, il, il, trivial⟩ ?_)
 clear hS w
 refine Wd.run rfl rfl rfl rfl (fun _ => ex_fieldAddr (o' := 1) underlying30 rfl sizeOf24 rfl rfl) fun q_213 hq_212 => ?_
 refine Wd.turn rfl rfl rfl fun w hS => ?_
 replace hS := hS.f15
 refine St1 #[.bool true, v_208, ns, ns] sizeOf24 hS ?_ (cs := [v_208]) (hc := (congrArg Array.toList (cells_one (OwnSl.one h_210)))) (hone := ⟨(OwnSl.one h_210), trivial⟩)
 clear hS
 intro w hS
 refine WL.nil (DQ.mk2 (C' := St w0 H ([(b_70, oc #[.bool true, v_208, ns, ns] 30)] ++ (fp_209 ++ (fp_205 ++ ([(b_2, oc #[i6 n_4, v_7, v_12, v_17, v_22, v_27, v_32, v_37, i6 head_41, v_44, u_49, v_52, .bool dead_56] 60)] ++ (fp_9 ++ (fp_14 ++ (fp_19 ++ (fp_24 ++ (fp_29 ++ (fp_34 ++ (fp_39 ++ (fp_46 ++ (fp_54 ++ (fp_59 ++ ([(b_62, oc #[.bool false, ns, ns, ns] 30)] ++ L)))))))))))))))) hS ⟨il, il, il, il, il, il, il, il, il, il, il, trivial⟩ ?_)
 clear hS w
 refine Wd.nil fun w hS => ?_
 refine WQ.out nofun ?_
 refine WQ.next ?_
 refine Sb [(0, (pq b_2)), (2, (pq b_62)), (3, (pq b_70)), (4, i6 v_124)] ?_
 replace hS := hS.f3.drop
 refine WC.region ?_
 refine R hS ?_
 obtain ⟨hi_215, hV⟩ := hV
 iterate 2 refine R hS ?_
 refine WL.nil ?_
 replace hS := hS.f2.f2.f14.f14.f14.f14.f14.f14.f14.f14.f14.f14.f14.f14
 exact Wt fun a ha => ⟨((c_120 ++ ([decide (0 < (ix value_16 v_124))])), (v_124 + 1)), ⟨(c_120 ++ ([decide (0 < (ix value_16 v_124))])), (v_124 + 1), v_208, fp_209, rfl, hV.1, h_210, hi_215, hS, ha.os⟩, hV.2⟩
 intro hc_220
 replace hV := hV.2 (ov hc_220)
 refine WC.exit ?_
 refine Wp ?_
 refine Wp ?_
 refine WQ.hit ?_
 refine WQ.next ?_
 refine WC.sr ?_
 replace hS := hS.f13
 refine Rn hS (ex_load_box_agg (cs := [.bool true, v_121, ns, ns]) isAgg30 sizeOf30 rfl rfl rfl) ?_
 replace hS := hS.f13
 refine St1 #[.bool true, v_121, ns, ns] sizeOf30 hS ?_ (cs := [.bool true, v_121, ns, ns]) (hone := ⟨rfl, (OwnSl.one h_123), rfl, rfl, trivial⟩)
 clear hS
 intro w hS
 refine WL.nx ?_
 refine Sb [(2, (pq b_62))] ?_
 replace hS := hS.f2.drop
 refine WC.ret ?_
 replace hS := hS.f13
 obtain ⟨H_216, le_217, h_218, hS⟩ : ∃ K, View.le H K ∧ IsSl K cBool v_121 c_120 ∧ St w0 K ([(b_62, oc #[.bool true, v_121, ns, ns] 30)] ++ ([(b_2, oc #[i6 n_4, v_7, v_12, v_17, v_22, v_27, v_32, v_37, i6 head_41, v_44, u_49, v_52, .bool dead_56] 60)] ++ (fp_9 ++ (fp_14 ++ (fp_19 ++ (fp_24 ++ (fp_29 ++ (fp_34 ++ (fp_39 ++ (fp_46 ++ (fp_54 ++ (fp_59 ++ L)))))))))))) w := ⟨_, hS.put_le, h_123.share hS.put_le, hS.freeze⟩
 have hl_219 := load_own_agg (P := Tryz.prog) (cs := [.bool true, v_121, ns, ns]) isAgg30 sizeOf30 hS rfl
 replace hS := hS.drop
 replace hS := hS.f11.f11.f11.f11.f11.f11.f11.f11.f11.f11.f11
 exact leavec1 (il) rfl rfl hl_219 (⟨true, c_120, ([] : LI), ([] : List (Bool × LI)), v_121, ns, ns, H_216, hV, rfl, ((View.le.refl _).trans le_217), h_218, IsSl.nil, IsSl.nil, hS⟩)

end Go.Proofs.YtmdoicffgeihcaaGreatDoor
