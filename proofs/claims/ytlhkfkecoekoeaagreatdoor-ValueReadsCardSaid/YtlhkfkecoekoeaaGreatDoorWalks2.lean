/- For each function: called, it does its work where its condition is so. Printed by program. -/
import Derived.Test.YtlhkfkecoekoeaaGreatDoorFacts
import Derived.Test.YtlhkfkecoekoeaaGreatDoorConds
import Derived.Test.YtlhkfkecoekoeaaGreatDoorShv
import Derived.Test.YtlhkfkecoekoeaaGreatDoorTold
import Derived.Test.YtlhkfkecoekoeaaGreatDoorWalks1
set_option linter.unusedVariables false
set_option linter.unusedSimpArgs false
set_option maxRecDepth 100000
set_option maxHeartbeats 1000000
namespace Go.Proofs.YtlhkfkecoekoeaaGreatDoor
open Go.Vc _root_.Go.Proofs.Tryz _root_.Go.Proofs.YtlhkfkecoekoeaaGreatDoor.Tryz
theorem S_symSF (m0 : Nat) : ∀ {w0 : World} {H : View} {L : Seg} {w : World} {v_2 : Value} {data_1 : LI} {fp_4 : Seg} {a_6 : Int} {m_8 : Int} {b_10 : Int} {b_14 : Nat} {v_17 : Value} {c_13_16 : List (Val)} {Q : LI → Prop} (h_3 : OwnSl H (cInt .i64) 3 v_2 data_1 fp_4) (hr_7 : I64 a_6) (hr_9 : I64 m_8) (hr_11 : I64 b_10) (h_18 : IsSl H cV v_17 c_13_16) (hS : St w0 H (fp_4 ++ ([(b_14, oc #[v_17] 42)] ++ L)) w) (hV : V_symSF m0 data_1 a_6 m_8 b_10 c_13_16 Q),
 Calls Tryz.prog 221 #[v_2, i6 a_6, i6 m_8, i6 b_10, .func (.func 102) #[] #[(pq b_14)]] w fun e w' => ∃ (r1 : LI) (fp1 : Seg), Q r1 ∧ e = .returned (.tuple #[]) ∧ OwnSl H (cInt .i64) 3 v_2 r1 fp1 ∧ St w0 H (fp1 ++ ([(b_14, oc #[v_17] 42)] ++ L)) w' := by
 induction m0 with
 | zero => intro w0 H L w v_2 data_1 fp_4 a_6 m_8 b_10 b_14 v_17 c_13_16 Q h_3 hr_7 hr_9 hr_11 h_18 hS hV; exact hV.elim
 | succ m0 ih =>
  intro w0 H L w v_2 data_1 fp_4 a_6 m_8 b_10 b_14 v_17 c_13_16 Q h_3 hr_7 hr_9 hr_11 h_18 hS hV
  unfold V_symSF at hV
  refine enter func221 rfl ntmps221 rfl (lk_args_cons (d := 0) (v := v_2) rfl (lk_args_cons (d := 1) (v := i6 a_6) rfl (lk_args_cons (d := 2) (v := i6 m_8) rfl (lk_args_cons (d := 3) (v := i6 b_10) rfl (lk_args_cons (d := 4) (v := .func (.func 102) #[] #[(pq b_14)]) rfl (lk_args_nil _)))))) (WC.seq (WC.sr ?_))
  iterate 2 refine R hS ?_
  obtain ⟨hi_20, hV⟩ := hV
  iterate 2 refine R hS ?_
  refine WL.nx ?_
  refine Cd ?_ ?_
  intro hc_1005
  replace hV := hV.1 (od hc_1005)
  refine WC.sr ?_
  iterate 2 refine R hS ?_
  refine WL.nx (WC.sr ?_)
  iterate 2 refine R hS ?_
  refine WL.nx (WC.seq (WC.block ?_))
  replace hS := hS.f2.f2
  obtain ⟨I_120, mu_121, hI_383, hV⟩ := hV
  refine WC.loop (σ := Int × Int) (fun s a w => ∃ (i_69 : Int) (j_71 : Int), s = (i_69, j_71) ∧ I_120 (i_69, j_71) ∧ I64 i_69 ∧ I64 j_71 ∧ St w0 H (fp_4 ++ ([(b_14, oc #[v_17] 42)] ++ L)) w ∧ Fr 220 [(0, v_2), (1, i6 a_6), (4, .func (.func 102) #[] #[(pq b_14)]), (10, i6 i_69), (11, i6 j_71)] a) mu_121 (m_8, b_10) ?_ ?_
  exact fun a ha => ⟨m_8, b_10, rfl, hI_383, hr_9, hr_11, hS, ha.os⟩
  clear hS hI_383
  rintro _ a w ⟨i_69, j_71, rfl, hI, hr_70, hr_72, hS, ha⟩
  refine in_frame ha ?_
  clear ha
  replace hV := hV _ hI
  clear hI
  refine WC.seq (WC.sr ?_)
  iterate 3 refine R hS ?_
  refine WL.nx ?_
  refine Cd ?_ ?_
  intro hc_382
  replace hV := hV.1 (od hc_382)
  refine WC.skip (WQ.next (WC.block (WC.sr ?_)))
  iterate 2 refine R hS ?_
  obtain ⟨hi_125, hV⟩ := hV
  iterate 2 refine R hS ?_
  refine Rn hS (ex_ushr (q := 1) rfl rfl (wrap_has _ _) (by decide)) ?_
  iterate 2 refine R hS ?_
  refine WL.nx (WC.seq (WC.drawn (σ := [0, 1, 2, 3, 4, 5, 6, 7, 8, 9, 10]) (C := St w0 H (fp_4 ++ ([(b_14, oc #[v_17] 42)] ++ L))) [[], [], [], [1, 2], [1, 2, 3], [], [], [5, 6], [5, 6, 7], [0, 1, 2, 3, 4, 5, 6, 7, 8], [0, 1, 2, 3, 4, 5, 6, 7, 8, 9]] [9] mixed (by kernel_rfl) (hS.drawn _) ?_))
  clear hS w
  refine Dm fun q_127 hq_126 => ?_
  refine Dm fun q_129 hq_128 => ?_
  refine Dm fun q_131 hq_130 => ?_
  obtain ⟨hin_134, hV⟩ := hV
  refine Wd.runx rfl rfl rfl rfl (exAll (ex_index_own underlying130 sizeOf3 rfl rfl h_3 hin_134)) ?_
  intro p_135 hp_136
  intro q_133 hq_132
  refine Wd.runs (fp := fp_4) rfl rfl rfl rfl (ex_load_own_s isAgg3 rfl rfl h_3 hp_136 hin_134) (fun _ h => h) ?_
  intro u_141 hu_142
  obtain ⟨rfl, hr_143⟩ := cInt_rep hu_142
  replace hr_143 := has_I64 hr_143
  replace hV := hV hr_143
  intro q_138 hq_137
  refine Dm fun q_145 hq_144 => ?_
  refine Dm fun q_147 hq_146 => ?_
  obtain ⟨hin_150, hV⟩ := hV
  refine Wd.runx rfl rfl rfl rfl (exAll (ex_index_own underlying130 sizeOf3 rfl rfl h_3 hin_150)) ?_
  intro p_151 hp_152
  intro q_149 hq_148
  refine Wd.runs (fp := fp_4) rfl rfl rfl rfl (ex_load_own_s isAgg3 rfl rfl h_3 hp_152 hin_150) (fun _ h => h) ?_
  intro u_157 hu_158
  obtain ⟨rfl, hr_159⟩ := cInt_rep hu_158
  replace hr_159 := has_I64 hr_159
  replace hV := hV hr_159
  intro q_154 hq_153
  refine Wd.turn rfl rfl rfl fun w hS => ?_
  replace hS := hS.f2
  refine Rc (enters_c (vs := [i6 (ix data_1 (IntKind.i64.wrap ((IntKind.u64.wrap (i_69 + j_71)) / 2))), i6 (ix data_1 a_6)]) (caps := [(pq b_14)]) rfl call102 ⟨rfl, rfl, trivial⟩) (S_FunOf1 hr_143 hr_159 h_18 hS hV) ?_
  clear hV hS
  rintro _ w ⟨r_160, hV, rfl, hr_161, hS⟩
  refine ⟨_, rfl, ?_⟩
  refine WL.nil (DQ.mk2 (C' := St w0 H ([(b_14, oc #[v_17] 42)] ++ (fp_4 ++ L))) hS ⟨il, il, il, il, il, il, il, il, il, trivial⟩ ?_)
  clear hS w
  refine Wd.run rfl rfl rfl rfl (fun _ => ex_lss rfl rfl) fun q_164 hq_163 => ?_
  refine Wd.nil fun w hS => ?_
  refine WQ.next (Sb [(0, v_2), (1, i6 a_6), (4, .func (.func 102) #[] #[(pq b_14)]), (10, i6 i_69), (11, i6 j_71), (12, i6 (IntKind.i64.wrap ((IntKind.u64.wrap (i_69 + j_71)) / 2))), (50, .bool (decide (r_160 < (0 : Int))))] ?_)
  refine Cd ?_ ?_
  intro hc_168
  replace hV := hV.1 (od hc_168)
  refine WC.region (R hS ?_)
  obtain ⟨hi_167, hV⟩ := hV
  iterate 2 refine R hS ?_
  refine WL.nil (WQ.out nofun ?_)
  replace hS := hS.f2
  exact Wt fun a ha => ⟨(((IntKind.i64.wrap ((IntKind.u64.wrap (i_69 + j_71)) / 2)) + (1 : Int)), j_71), ⟨((IntKind.i64.wrap ((IntKind.u64.wrap (i_69 + j_71)) / 2)) + (1 : Int)), j_71, rfl, hV.1, hi_167, hr_72, hS, ha.os⟩, hV.2⟩
  intro hc_168
  replace hV := hV.2 (ov hc_168)
  refine WC.region ?_
  iterate 2 refine R hS ?_
  refine WL.nil (WQ.out nofun ?_)
  replace hS := hS.f2
  exact Wt fun a ha => ⟨(i_69, (IntKind.i64.wrap ((IntKind.u64.wrap (i_69 + j_71)) / 2))), ⟨i_69, (IntKind.i64.wrap ((IntKind.u64.wrap (i_69 + j_71)) / 2)), rfl, hV.1, hr_70, (wrap_I64 _), hS, ha.os⟩, hV.2⟩
  intro hc_382
  replace hV := hV.2 (ov hc_382)
  refine WC.exit (Wp ?_)
  refine Wp ?_
  refine WQ.hit (WQ.next (WC.seq (WC.sr ?_)))
  iterate 2 refine R hS ?_
  refine WL.nx (WC.block ?_)
  replace hS := hS.f2.f2
  obtain ⟨I_310, mu_311, hI_381, hV⟩ := hV
  refine WC.loop (σ := LI × Int) (fun s a w => ∃ (data_237 : LI) (k_240 : Int) (fp_238 : Seg), s = (data_237, k_240) ∧ I_310 (data_237, k_240) ∧ OwnSl H (cInt .i64) 3 v_2 data_237 fp_238 ∧ I64 k_240 ∧ St w0 H (fp_238 ++ ([(b_14, oc #[v_17] 42)] ++ L)) w ∧ Fr 220 [(0, v_2), (10, i6 i_69), (13, i6 k_240)] a) mu_311 (data_1, a_6) ?_ ?_
  exact fun a ha => ⟨data_1, a_6, fp_4, rfl, hI_381, h_3, hr_7, hS, ha.os⟩
  clear hS hI_381
  rintro _ a w ⟨data_237, k_240, fp_238, rfl, hI, h_239, hr_241, hS, ha⟩
  refine in_frame ha ?_
  clear ha
  replace hV := hV _ hI
  clear hI
  refine WC.seq (WC.sr ?_)
  iterate 2 refine R hS ?_
  obtain ⟨hi_314, hV⟩ := hV
  iterate 2 refine R hS ?_
  refine WL.nx ?_
  refine Cd ?_ ?_
  intro hc_380
  replace hV := hV.1 (od hc_380)
  refine WC.skip (WQ.next (WC.seq (WC.block (WC.drawn (σ := [0, 1, 2, 3, 4, 5, 6, 7, 8, 9, 10, 11, 12, 13, 14, 15, 16, 17]) (C := St w0 H (fp_238 ++ ([(b_14, oc #[v_17] 42)] ++ L))) [[], [], [], [], [3], [], [], [6], [5, 6, 7], [5, 6, 7, 8], [], [], [10, 11], [10, 11, 12], [0, 1, 5, 6, 7, 8, 9, 10, 11, 12, 13], [0, 1, 5, 6, 7, 8, 9, 10, 11, 12, 13, 14], [0, 1, 2, 3, 4, 5, 6, 7, 8, 9, 10, 11, 12, 13, 14, 15], [0, 1, 2, 3, 4, 5, 6, 7, 8, 9, 10, 11, 12, 13, 14, 15, 16]] [15, 17] mixed (by kernel_rfl) (hS.drawn _) ?_))))
  clear hS w
  refine Dm fun q_317 hq_316 => ?_
  refine Dm fun q_319 hq_318 => ?_
  refine Dm fun q_321 hq_320 => ?_
  refine Dm fun q_323 hq_322 => ?_
  obtain ⟨hi_327, hV⟩ := hV
  refine Wd.run rfl rfl rfl rfl (fun _ => ex_add rfl rfl hi_327) fun q_325 hq_324 => ?_
  refine Dm fun q_329 hq_328 => ?_
  refine Dm fun q_331 hq_330 => ?_
  obtain ⟨hi_335, hV⟩ := hV
  refine Wd.run rfl rfl rfl rfl (fun _ => ex_add rfl rfl hi_335) fun q_333 hq_332 => ?_
  obtain ⟨hin_338, hV⟩ := hV
  refine Wd.runx rfl rfl rfl rfl (exAll (ex_index_own underlying130 sizeOf3 rfl rfl h_239 hin_338)) ?_
  intro p_339 hp_340
  intro q_337 hq_336
  refine Wd.runs (fp := fp_238) rfl rfl rfl rfl (ex_load_own_s isAgg3 rfl rfl h_239 hp_340 hin_338) (fun _ h => h) ?_
  intro u_345 hu_346
  obtain ⟨rfl, hr_347⟩ := cInt_rep hu_346
  replace hr_347 := has_I64 hr_347
  replace hV := hV hr_347
  intro q_342 hq_341
  refine Dm fun q_349 hq_348 => ?_
  refine Dm fun q_351 hq_350 => ?_
  obtain ⟨hin_354, hV⟩ := hV
  refine Wd.runx rfl rfl rfl rfl (exAll (ex_index_own underlying130 sizeOf3 rfl rfl h_239 hin_354)) ?_
  intro p_355 hp_356
  intro q_353 hq_352
  refine Wd.runs (fp := fp_238) rfl rfl rfl rfl (ex_load_own_s isAgg3 rfl rfl h_239 hp_356 hin_354) (fun _ h => h) ?_
  intro u_361 hu_362
  obtain ⟨rfl, hr_363⟩ := cInt_rep hu_362
  replace hr_363 := has_I64 hr_363
  replace hV := hV hr_363
  intro q_358 hq_357
  obtain ⟨hin_366, hV⟩ := hV
  refine Wd.runx rfl rfl rfl rfl (exAll (ex_index_own underlying130 sizeOf3 rfl rfl h_239 hin_366)) ?_
  intro p_367 hp_368
  intro q_365 hq_364
  refine Wd.turn rfl rfl rfl fun w hS => ?_
  refine WL.store_own sizeOf3 rfl rfl rfl (cInt_mk (I64.has hr_347)) hS h_239 hp_368 hin_366 ?_
  clear hS
  intro w fp_370 h_369 hS
  refine WL.nil (DQ.mk2 (C' := St w0 H (fp_370 ++ ([(b_14, oc #[v_17] 42)] ++ L))) hS ⟨il, il, il, il, il, il, il, il, il, il, .inr (hq_324 _), .inr (hq_322 _), .inr (hq_320 _), il, il, trivial⟩ ?_)
  clear hS w
  obtain ⟨hin_373, hV⟩ := hV
  refine Wd.runx rfl rfl rfl rfl (exAll (ex_index_own underlying130 sizeOf3 rfl rfl h_369 hin_373)) ?_
  intro p_374 hp_375
  intro q_372 hq_371
  refine Wd.turn rfl rfl rfl fun w hS => ?_
  refine WL.store_own sizeOf3 rfl rfl rfl (cInt_mk (I64.has hr_363)) hS h_369 hp_375 hin_373 ?_
  clear hS
  intro w fp_377 h_376 hS
  refine WL.nil (DQ.mk2 (C' := St w0 H (fp_377 ++ ([(b_14, oc #[v_17] 42)] ++ L))) hS ⟨il, il, il, il, il, il, il, il, il, il, il, il, il, il, il, il, trivial⟩ ?_)
  clear hS w
  refine Wd.nil fun w hS => ?_
  refine WQ.out nofun (WQ.next (Sb [(0, v_2), (10, i6 i_69), (13, i6 k_240)] ?_))
  refine WC.region (R hS ?_)
  obtain ⟨hi_379, hV⟩ := hV
  iterate 2 refine R hS ?_
  refine WL.nil ?_
  replace hS := hS.f2.f2
  exact Wt fun a ha => ⟨(((data_237.set k_240.toNat (ix data_237 (k_240 + (1 : Int)))).set (k_240 + (1 : Int)).toNat (ix data_237 k_240)), (k_240 + (1 : Int))), ⟨((data_237.set k_240.toNat (ix data_237 (k_240 + (1 : Int)))).set (k_240 + (1 : Int)).toNat (ix data_237 k_240)), (k_240 + (1 : Int)), fp_377, rfl, hV.1, h_376, hi_379, hS, ha.os⟩, hV.2⟩
  intro hc_380
  replace hV := hV.2 (ov hc_380)
  refine WC.exit (Wp ?_)
  refine Wp ?_
  refine WQ.hit (WQ.next (WC.ret (Wp ?_)))
  replace hS := hS.f2.f2
  exact leave0 (il) rfl (⟨data_237, fp_238, hV, rfl, h_239, hS⟩)
  intro hc_1005
  replace hV := hV.2 (ov hc_1005)
  refine WC.skip (WQ.next (WC.seq (WC.sr ?_)))
  iterate 2 refine R hS ?_
  obtain ⟨hi_385, hV⟩ := hV
  iterate 2 refine R hS ?_
  refine WL.nx ?_
  refine Cd ?_ ?_
  intro hc_1004
  replace hV := hV.1 (od hc_1004)
  refine WC.sr ?_
  iterate 2 refine R hS ?_
  refine WL.nx (Sb [(0, v_2), (2, i6 m_8), (4, .func (.func 102) #[] #[(pq b_14)]), (14, i6 a_6)] ?_)
  refine WC.sr ?_
  iterate 2 refine R hS ?_
  refine WL.nx (WC.seq (WC.block ?_))
  replace hS := hS.f2.f2
  obtain ⟨I_489, mu_490, hI_748, hV⟩ := hV
  refine WC.loop (σ := Int × Int) (fun s a w => ∃ (i_436 : Int) (j_438 : Int), s = (i_436, j_438) ∧ I_489 (i_436, j_438) ∧ I64 i_436 ∧ I64 j_438 ∧ St w0 H (fp_4 ++ ([(b_14, oc #[v_17] 42)] ++ L)) w ∧ Fr 220 [(0, v_2), (2, i6 m_8), (4, .func (.func 102) #[] #[(pq b_14)]), (14, i6 i_436), (15, i6 j_438)] a) mu_490 (a_6, m_8) ?_ ?_
  exact fun a ha => ⟨a_6, m_8, rfl, hI_748, hr_7, hr_9, hS, ha.os⟩
  clear hS hI_748
  rintro _ a w ⟨i_436, j_438, rfl, hI, hr_437, hr_439, hS, ha⟩
  refine in_frame ha ?_
  clear ha
  replace hV := hV _ hI
  clear hI
  refine WC.seq (WC.sr ?_)
  iterate 3 refine R hS ?_
  refine WL.nx ?_
  refine Cd ?_ ?_
  intro hc_747
  replace hV := hV.1 (od hc_747)
  refine WC.skip (WQ.next (WC.block (WC.sr ?_)))
  iterate 2 refine R hS ?_
  obtain ⟨hi_494, hV⟩ := hV
  iterate 2 refine R hS ?_
  refine Rn hS (ex_ushr (q := 1) rfl rfl (wrap_has _ _) (by decide)) ?_
  iterate 2 refine R hS ?_
  refine WL.nx (WC.seq (WC.drawn (σ := [0, 1, 2, 3, 4, 5, 6, 7, 8, 9, 10, 11]) (C := St w0 H (fp_4 ++ ([(b_14, oc #[v_17] 42)] ++ L))) [[], [], [], [1, 2], [1, 2, 3], [], [], [5, 6], [5, 6, 7], [0, 1, 2, 3, 4, 5, 6, 7, 8], [0, 1, 2, 3, 4, 5, 6, 7, 8, 9], [0, 1, 2, 3, 4, 5, 6, 7, 8, 9, 10]] [9] mixed (by kernel_rfl) (hS.drawn _) ?_))
  clear hS w
  refine Dm fun q_496 hq_495 => ?_
  refine Dm fun q_498 hq_497 => ?_
  refine Dm fun q_500 hq_499 => ?_
  obtain ⟨hin_503, hV⟩ := hV
  refine Wd.runx rfl rfl rfl rfl (exAll (ex_index_own underlying130 sizeOf3 rfl rfl h_3 hin_503)) ?_
  intro p_504 hp_505
  intro q_502 hq_501
  refine Wd.runs (fp := fp_4) rfl rfl rfl rfl (ex_load_own_s isAgg3 rfl rfl h_3 hp_505 hin_503) (fun _ h => h) ?_
  intro u_510 hu_511
  obtain ⟨rfl, hr_512⟩ := cInt_rep hu_511
  replace hr_512 := has_I64 hr_512
  replace hV := hV hr_512
  intro q_507 hq_506
  refine Dm fun q_514 hq_513 => ?_
  refine Dm fun q_516 hq_515 => ?_
  obtain ⟨hin_519, hV⟩ := hV
  refine Wd.runx rfl rfl rfl rfl (exAll (ex_index_own underlying130 sizeOf3 rfl rfl h_3 hin_519)) ?_
  intro p_520 hp_521
  intro q_518 hq_517
  refine Wd.runs (fp := fp_4) rfl rfl rfl rfl (ex_load_own_s isAgg3 rfl rfl h_3 hp_521 hin_519) (fun _ h => h) ?_
  intro u_526 hu_527
  obtain ⟨rfl, hr_528⟩ := cInt_rep hu_527
  replace hr_528 := has_I64 hr_528
  replace hV := hV hr_528
  intro q_523 hq_522
  refine Wd.turn rfl rfl rfl fun w hS => ?_
  replace hS := hS.f2
  refine Rc (enters_c (vs := [i6 (ix data_1 m_8), i6 (ix data_1 (IntKind.i64.wrap ((IntKind.u64.wrap (i_436 + j_438)) / 2)))]) (caps := [(pq b_14)]) rfl call102 ⟨rfl, rfl, trivial⟩) (S_FunOf1 hr_512 hr_528 h_18 hS hV) ?_
  clear hV hS
  rintro _ w ⟨r_529, hV, rfl, hr_530, hS⟩
  refine ⟨_, rfl, ?_⟩
  refine WL.nil (DQ.mk2 (C' := St w0 H ([(b_14, oc #[v_17] 42)] ++ (fp_4 ++ L))) hS ⟨il, il, il, il, il, il, il, il, il, trivial⟩ ?_)
  clear hS w
  refine Wd.run rfl rfl rfl rfl (fun _ => ex_lss rfl rfl) fun q_533 hq_532 => ?_
  refine Wd.run rfl rfl rfl rfl (fun _ => ex_not rfl) fun q_536 hq_535 => ?_
  refine Wd.nil fun w hS => ?_
  refine WQ.next (Sb [(0, v_2), (2, i6 m_8), (4, .func (.func 102) #[] #[(pq b_14)]), (14, i6 i_436), (15, i6 j_438), (16, i6 (IntKind.i64.wrap ((IntKind.u64.wrap (i_436 + j_438)) / 2))), (103, .bool (!(decide (r_529 < (0 : Int)))))] ?_)
  refine Cd ?_ ?_
  intro hc_539
  replace hV := hV.1 (not_dec_t hc_539)
  refine WC.region (R hS ?_)
  obtain ⟨hi_538, hV⟩ := hV
  iterate 2 refine R hS ?_
  refine WL.nil (WQ.out nofun ?_)
  replace hS := hS.f2
  exact Wt fun a ha => ⟨(((IntKind.i64.wrap ((IntKind.u64.wrap (i_436 + j_438)) / 2)) + (1 : Int)), j_438), ⟨((IntKind.i64.wrap ((IntKind.u64.wrap (i_436 + j_438)) / 2)) + (1 : Int)), j_438, rfl, hV.1, hi_538, hr_439, hS, ha.os⟩, hV.2⟩
  intro hc_539
  replace hV := hV.2 (not_dec_f hc_539)
  refine WC.region ?_
  iterate 2 refine R hS ?_
  refine WL.nil (WQ.out nofun ?_)
  replace hS := hS.f2
  exact Wt fun a ha => ⟨(i_436, (IntKind.i64.wrap ((IntKind.u64.wrap (i_436 + j_438)) / 2))), ⟨i_436, (IntKind.i64.wrap ((IntKind.u64.wrap (i_436 + j_438)) / 2)), rfl, hV.1, hr_437, (wrap_I64 _), hS, ha.os⟩, hV.2⟩
  intro hc_747
  replace hV := hV.2 (ov hc_747)
  refine WC.exit (Wp ?_)
  refine Wp ?_
  refine WQ.hit (WQ.next (WC.seq (WC.sr ?_)))
  iterate 2 refine R hS ?_
  refine WL.nx (WC.block ?_)
  replace hS := hS.f2.f2
  obtain ⟨I_677, mu_678, hI_746, hV⟩ := hV
  refine WC.loop (σ := LI × Int) (fun s a w => ∃ (data_606 : LI) (k_609 : Int) (fp_607 : Seg), s = (data_606, k_609) ∧ I_677 (data_606, k_609) ∧ OwnSl H (cInt .i64) 3 v_2 data_606 fp_607 ∧ I64 k_609 ∧ St w0 H (fp_607 ++ ([(b_14, oc #[v_17] 42)] ++ L)) w ∧ Fr 220 [(0, v_2), (14, i6 i_436), (17, i6 k_609)] a) mu_678 (data_1, m_8) ?_ ?_
  exact fun a ha => ⟨data_1, m_8, fp_4, rfl, hI_746, h_3, hr_9, hS, ha.os⟩
  clear hS hI_746
  rintro _ a w ⟨data_606, k_609, fp_607, rfl, hI, h_608, hr_610, hS, ha⟩
  refine in_frame ha ?_
  clear ha
  replace hV := hV _ hI
  clear hI
  refine WC.seq (WC.sr ?_)
  iterate 3 refine R hS ?_
  refine WL.nx ?_
  refine Cd ?_ ?_
  intro hc_745
  replace hV := hV.1 (od hc_745)
  refine WC.skip (WQ.next (WC.seq (WC.block (WC.drawn (σ := [0, 1, 2, 3, 4, 5, 6, 7, 8, 9, 10, 11, 12, 13, 14, 15, 16, 17]) (C := St w0 H (fp_607 ++ ([(b_14, oc #[v_17] 42)] ++ L))) [[], [], [], [], [3], [], [], [6], [5, 6, 7], [5, 6, 7, 8], [], [], [10, 11], [10, 11, 12], [0, 1, 5, 6, 7, 8, 9, 10, 11, 12, 13], [0, 1, 5, 6, 7, 8, 9, 10, 11, 12, 13, 14], [0, 1, 2, 3, 4, 5, 6, 7, 8, 9, 10, 11, 12, 13, 14, 15], [0, 1, 2, 3, 4, 5, 6, 7, 8, 9, 10, 11, 12, 13, 14, 15, 16]] [15, 17] mixed (by kernel_rfl) (hS.drawn _) ?_))))
  clear hS w
  refine Dm fun q_682 hq_681 => ?_
  refine Dm fun q_684 hq_683 => ?_
  refine Dm fun q_686 hq_685 => ?_
  refine Dm fun q_688 hq_687 => ?_
  obtain ⟨hi_692, hV⟩ := hV
  refine Wd.run rfl rfl rfl rfl (fun _ => ex_sub rfl rfl hi_692) fun q_690 hq_689 => ?_
  refine Dm fun q_694 hq_693 => ?_
  refine Dm fun q_696 hq_695 => ?_
  obtain ⟨hi_700, hV⟩ := hV
  refine Wd.run rfl rfl rfl rfl (fun _ => ex_sub rfl rfl hi_700) fun q_698 hq_697 => ?_
  obtain ⟨hin_703, hV⟩ := hV
  refine Wd.runx rfl rfl rfl rfl (exAll (ex_index_own underlying130 sizeOf3 rfl rfl h_608 hin_703)) ?_
  intro p_704 hp_705
  intro q_702 hq_701
  refine Wd.runs (fp := fp_607) rfl rfl rfl rfl (ex_load_own_s isAgg3 rfl rfl h_608 hp_705 hin_703) (fun _ h => h) ?_
  intro u_710 hu_711
  obtain ⟨rfl, hr_712⟩ := cInt_rep hu_711
  replace hr_712 := has_I64 hr_712
  replace hV := hV hr_712
  intro q_707 hq_706
  refine Dm fun q_714 hq_713 => ?_
  refine Dm fun q_716 hq_715 => ?_
  obtain ⟨hin_719, hV⟩ := hV
  refine Wd.runx rfl rfl rfl rfl (exAll (ex_index_own underlying130 sizeOf3 rfl rfl h_608 hin_719)) ?_
  intro p_720 hp_721
  intro q_718 hq_717
  refine Wd.runs (fp := fp_607) rfl rfl rfl rfl (ex_load_own_s isAgg3 rfl rfl h_608 hp_721 hin_719) (fun _ h => h) ?_
  intro u_726 hu_727
  obtain ⟨rfl, hr_728⟩ := cInt_rep hu_727
  replace hr_728 := has_I64 hr_728
  replace hV := hV hr_728
  intro q_723 hq_722
  obtain ⟨hin_731, hV⟩ := hV
  refine Wd.runx rfl rfl rfl rfl (exAll (ex_index_own underlying130 sizeOf3 rfl rfl h_608 hin_731)) ?_
  intro p_732 hp_733
  intro q_730 hq_729
  refine Wd.turn rfl rfl rfl fun w hS => ?_
  refine WL.store_own sizeOf3 rfl rfl rfl (cInt_mk (I64.has hr_712)) hS h_608 hp_733 hin_731 ?_
  clear hS
  intro w fp_735 h_734 hS
  refine WL.nil (DQ.mk2 (C' := St w0 H (fp_735 ++ ([(b_14, oc #[v_17] 42)] ++ L))) hS ⟨il, il, il, il, il, il, il, il, il, il, .inr (hq_689 _), .inr (hq_687 _), .inr (hq_685 _), il, il, trivial⟩ ?_)
  clear hS w
  obtain ⟨hin_738, hV⟩ := hV
  refine Wd.runx rfl rfl rfl rfl (exAll (ex_index_own underlying130 sizeOf3 rfl rfl h_734 hin_738)) ?_
  intro p_739 hp_740
  intro q_737 hq_736
  refine Wd.turn rfl rfl rfl fun w hS => ?_
  refine WL.store_own sizeOf3 rfl rfl rfl (cInt_mk (I64.has hr_728)) hS h_734 hp_740 hin_738 ?_
  clear hS
  intro w fp_742 h_741 hS
  refine WL.nil (DQ.mk2 (C' := St w0 H (fp_742 ++ ([(b_14, oc #[v_17] 42)] ++ L))) hS ⟨il, il, il, il, il, il, il, il, il, il, il, il, il, il, il, il, trivial⟩ ?_)
  clear hS w
  refine Wd.nil fun w hS => ?_
  refine WQ.out nofun (WQ.next (Sb [(0, v_2), (14, i6 i_436), (17, i6 k_609)] ?_))
  refine WC.region (R hS ?_)
  obtain ⟨hi_744, hV⟩ := hV
  iterate 2 refine R hS ?_
  refine WL.nil ?_
  replace hS := hS.f2.f2
  exact Wt fun a ha => ⟨(((data_606.set k_609.toNat (ix data_606 (k_609 - (1 : Int)))).set (k_609 - (1 : Int)).toNat (ix data_606 k_609)), (k_609 - (1 : Int))), ⟨((data_606.set k_609.toNat (ix data_606 (k_609 - (1 : Int)))).set (k_609 - (1 : Int)).toNat (ix data_606 k_609)), (k_609 - (1 : Int)), fp_742, rfl, hV.1, h_741, hi_744, hS, ha.os⟩, hV.2⟩
  intro hc_745
  replace hV := hV.2 (ov hc_745)
  refine WC.exit (Wp ?_)
  refine Wp ?_
  refine WQ.hit (WQ.next (WC.ret (Wp ?_)))
  replace hS := hS.f2.f2
  exact leave0 (il) rfl (⟨data_606, fp_607, hV, rfl, h_608, hS⟩)
  intro hc_1004
  replace hV := hV.2 (ov hc_1004)
  refine WC.skip (WQ.next (WC.sr ?_))
  iterate 2 refine R hS ?_
  obtain ⟨hi_750, hV⟩ := hV
  iterate 2 refine R hS ?_
  refine Rn hS (ex_ushr (q := 1) rfl rfl (wrap_has _ _) (by decide)) ?_
  iterate 2 refine R hS ?_
  refine WL.nx (Sb [(0, v_2), (1, i6 a_6), (2, i6 m_8), (3, i6 b_10), (4, .func (.func 102) #[] #[(pq b_14)]), (18, i6 (IntKind.i64.wrap ((IntKind.u64.wrap (a_6 + b_10)) / 2)))] ?_)
  refine WC.sr ?_
  iterate 2 refine R hS ?_
  obtain ⟨hi_752, hV⟩ := hV
  iterate 2 refine R hS ?_
  refine WL.nx (WC.sr ?_)
  iterate 2 refine R hS ?_
  refine WL.nx ?_
  obtain ⟨J_761, hJ_762, hV⟩ := hV
  refine WC.meet (fun a w => ∃ (start_757 : Int) (r_759 : Int), J_761 (start_757, r_759) ∧ I64 start_757 ∧ I64 r_759 ∧ St w0 H (fp_4 ++ ([(b_14, oc #[v_17] 42)] ++ L)) w ∧ Fr 220 [(0, v_2), (1, i6 a_6), (2, i6 m_8), (3, i6 b_10), (4, .func (.func 102) #[] #[(pq b_14)]), (18, i6 (IntKind.i64.wrap ((IntKind.u64.wrap (a_6 + b_10)) / 2))), (19, i6 ((IntKind.i64.wrap ((IntKind.u64.wrap (a_6 + b_10)) / 2)) + m_8)), (20, i6 start_757), (21, i6 r_759)] a) ?_ ?_
  rintro a w ⟨start_757, r_759, hI, hr_758, hr_760, hS, ha⟩
  refine in_frame ha ?_
  clear ha hV
  have hV := hJ_762 _ hI
  clear hI hJ_762
  refine WC.sr (R hS ?_)
  obtain ⟨hi_768, hV⟩ := hV
  iterate 2 refine R hS ?_
  refine WL.nx (WC.seq (WC.block ?_))
  replace hS := hS.f2.f2
  obtain ⟨I_883, mu_884, hI_1003, hV⟩ := hV
  refine WC.loop (σ := Int × Int) (fun s a w => ∃ (start_824 : Int) (r_826 : Int), s = (start_824, r_826) ∧ I_883 (start_824, r_826) ∧ I64 start_824 ∧ I64 r_826 ∧ St w0 H (fp_4 ++ ([(b_14, oc #[v_17] 42)] ++ L)) w ∧ Fr 220 [(0, v_2), (1, i6 a_6), (2, i6 m_8), (3, i6 b_10), (4, .func (.func 102) #[] #[(pq b_14)]), (18, i6 (IntKind.i64.wrap ((IntKind.u64.wrap (a_6 + b_10)) / 2))), (19, i6 ((IntKind.i64.wrap ((IntKind.u64.wrap (a_6 + b_10)) / 2)) + m_8)), (20, i6 start_824), (21, i6 r_826), (22, i6 (((IntKind.i64.wrap ((IntKind.u64.wrap (a_6 + b_10)) / 2)) + m_8) - (1 : Int)))] a) mu_884 (start_757, r_759) ?_ ?_
  exact fun a ha => ⟨start_757, r_759, rfl, hI_1003, hr_758, hr_760, hS, ha.os⟩
  clear hS hI_1003
  rintro _ a w ⟨start_824, r_826, rfl, hI, hr_825, hr_827, hS, ha⟩
  refine in_frame ha ?_
  clear ha
  replace hV := hV _ hI
  clear hI
  refine WC.seq (WC.sr ?_)
  iterate 3 refine R hS ?_
  refine WL.nx ?_
  refine Cd ?_ ?_
  intro hc_1002
  replace hV := hV.1 (od hc_1002)
  refine WC.skip (WQ.next (WC.block (WC.sr ?_)))
  iterate 2 refine R hS ?_
  obtain ⟨hi_888, hV⟩ := hV
  iterate 2 refine R hS ?_
  refine Rn hS (ex_ushr (q := 1) rfl rfl (wrap_has _ _) (by decide)) ?_
  iterate 2 refine R hS ?_
  refine WL.nx (WC.seq (WC.drawn (σ := [0, 1, 2, 3, 4, 5, 6, 7, 8, 9, 10, 11, 12, 13]) (C := St w0 H (fp_4 ++ ([(b_14, oc #[v_17] 42)] ++ L))) [[], [], [], [], [2, 3], [1, 2, 3, 4], [1, 2, 3, 4, 5], [], [], [7, 8], [7, 8, 9], [0, 1, 2, 3, 4, 5, 6, 7, 8, 9, 10], [0, 1, 2, 3, 4, 5, 6, 7, 8, 9, 10, 11], [0, 1, 2, 3, 4, 5, 6, 7, 8, 9, 10, 11, 12]] [11] mixed (by kernel_rfl) (hS.drawn _) ?_))
  clear hS w
  refine Dm fun q_890 hq_889 => ?_
  refine Dm fun q_892 hq_891 => ?_
  refine Dm fun q_894 hq_893 => ?_
  refine Dm fun q_896 hq_895 => ?_
  obtain ⟨hi_900, hV⟩ := hV
  refine Wd.run rfl rfl rfl rfl (fun _ => ex_sub rfl rfl hi_900) fun q_898 hq_897 => ?_
  obtain ⟨hin_903, hV⟩ := hV
  refine Wd.runx rfl rfl rfl rfl (exAll (ex_index_own underlying130 sizeOf3 rfl rfl h_3 hin_903)) ?_
  intro p_904 hp_905
  intro q_902 hq_901
  refine Wd.runs (fp := fp_4) rfl rfl rfl rfl (ex_load_own_s isAgg3 rfl rfl h_3 hp_905 hin_903) (fun _ h => h) ?_
  intro u_910 hu_911
  obtain ⟨rfl, hr_912⟩ := cInt_rep hu_911
  replace hr_912 := has_I64 hr_912
  replace hV := hV hr_912
  intro q_907 hq_906
  refine Dm fun q_914 hq_913 => ?_
  refine Dm fun q_916 hq_915 => ?_
  obtain ⟨hin_919, hV⟩ := hV
  refine Wd.runx rfl rfl rfl rfl (exAll (ex_index_own underlying130 sizeOf3 rfl rfl h_3 hin_919)) ?_
  intro p_920 hp_921
  intro q_918 hq_917
  refine Wd.runs (fp := fp_4) rfl rfl rfl rfl (ex_load_own_s isAgg3 rfl rfl h_3 hp_921 hin_919) (fun _ h => h) ?_
  intro u_926 hu_927
  obtain ⟨rfl, hr_928⟩ := cInt_rep hu_927
  replace hr_928 := has_I64 hr_928
  replace hV := hV hr_928
  intro q_923 hq_922
  refine Wd.turn rfl rfl rfl fun w hS => ?_
  replace hS := hS.f2
  refine Rc (enters_c (vs := [i6 (ix data_1 ((((IntKind.i64.wrap ((IntKind.u64.wrap (a_6 + b_10)) / 2)) + m_8) - (1 : Int)) - (IntKind.i64.wrap ((IntKind.u64.wrap (start_824 + r_826)) / 2)))), i6 (ix data_1 (IntKind.i64.wrap ((IntKind.u64.wrap (start_824 + r_826)) / 2)))]) (caps := [(pq b_14)]) rfl call102 ⟨rfl, rfl, trivial⟩) (S_FunOf1 hr_912 hr_928 h_18 hS hV) ?_
  clear hV hS
  rintro _ w ⟨r_929, hV, rfl, hr_930, hS⟩
  refine ⟨_, rfl, ?_⟩
  refine WL.nil (DQ.mk2 (C' := St w0 H ([(b_14, oc #[v_17] 42)] ++ (fp_4 ++ L))) hS ⟨il, il, il, il, il, il, il, il, il, il, il, trivial⟩ ?_)
  clear hS w
  refine Wd.run rfl rfl rfl rfl (fun _ => ex_lss rfl rfl) fun q_933 hq_932 => ?_
  refine Wd.run rfl rfl rfl rfl (fun _ => ex_not rfl) fun q_936 hq_935 => ?_
  refine Wd.nil fun w hS => ?_
  refine WQ.next (Sb [(0, v_2), (1, i6 a_6), (2, i6 m_8), (3, i6 b_10), (4, .func (.func 102) #[] #[(pq b_14)]), (18, i6 (IntKind.i64.wrap ((IntKind.u64.wrap (a_6 + b_10)) / 2))), (19, i6 ((IntKind.i64.wrap ((IntKind.u64.wrap (a_6 + b_10)) / 2)) + m_8)), (20, i6 start_824), (21, i6 r_826), (22, i6 (((IntKind.i64.wrap ((IntKind.u64.wrap (a_6 + b_10)) / 2)) + m_8) - (1 : Int))), (23, i6 (IntKind.i64.wrap ((IntKind.u64.wrap (start_824 + r_826)) / 2))), (171, .bool (!(decide (r_929 < (0 : Int)))))] ?_)
  refine Cd ?_ ?_
  intro hc_939
  replace hV := hV.1 (not_dec_t hc_939)
  refine WC.region (R hS ?_)
  obtain ⟨hi_938, hV⟩ := hV
  iterate 2 refine R hS ?_
  refine WL.nil (WQ.out nofun ?_)
  replace hS := hS.f2
  exact Wt fun a ha => ⟨(((IntKind.i64.wrap ((IntKind.u64.wrap (start_824 + r_826)) / 2)) + (1 : Int)), r_826), ⟨((IntKind.i64.wrap ((IntKind.u64.wrap (start_824 + r_826)) / 2)) + (1 : Int)), r_826, rfl, hV.1, hi_938, hr_827, hS, ha.os⟩, hV.2⟩
  intro hc_939
  replace hV := hV.2 (not_dec_f hc_939)
  refine WC.region ?_
  iterate 2 refine R hS ?_
  refine WL.nil (WQ.out nofun ?_)
  replace hS := hS.f2
  exact Wt fun a ha => ⟨(start_824, (IntKind.i64.wrap ((IntKind.u64.wrap (start_824 + r_826)) / 2))), ⟨start_824, (IntKind.i64.wrap ((IntKind.u64.wrap (start_824 + r_826)) / 2)), rfl, hV.1, hr_825, (wrap_I64 _), hS, ha.os⟩, hV.2⟩
  intro hc_1002
  replace hV := hV.2 (ov hc_1002)
  refine WC.exit (Wp ?_)
  refine Wp ?_
  refine WQ.hit (WQ.next (WC.sr ?_))
  iterate 2 refine R hS ?_
  obtain ⟨hi_941, hV⟩ := hV
  iterate 2 refine R hS ?_
  refine WL.nx ?_
  obtain ⟨J_955, hJ_956, hV⟩ := hV
  refine WC.meet (fun a w => ∃ (data_952 : LI) (fp_953 : Seg), J_955 data_952 ∧ OwnSl H (cInt .i64) 3 v_2 data_952 fp_953 ∧ St w0 H (fp_953 ++ ([(b_14, oc #[v_17] 42)] ++ L)) w ∧ Fr 220 [(0, v_2), (1, i6 a_6), (3, i6 b_10), (4, .func (.func 102) #[] #[(pq b_14)]), (18, i6 (IntKind.i64.wrap ((IntKind.u64.wrap (a_6 + b_10)) / 2))), (20, i6 start_824), (24, i6 (((IntKind.i64.wrap ((IntKind.u64.wrap (a_6 + b_10)) / 2)) + m_8) - start_824))] a) ?_ ?_
  rintro a w ⟨data_952, fp_953, hI, h_954, hS, ha⟩
  refine in_frame ha ?_
  clear ha hV
  have hV := hJ_956 _ hI
  clear hI hJ_956
  obtain ⟨J_980, hJ_981, hV⟩ := hV
  refine WC.meet (fun a w => ∃ (data_977 : LI) (fp_978 : Seg), J_980 data_977 ∧ OwnSl H (cInt .i64) 3 v_2 data_977 fp_978 ∧ St w0 H (fp_978 ++ ([(b_14, oc #[v_17] 42)] ++ L)) w ∧ Fr 220 [(0, v_2), (3, i6 b_10), (4, .func (.func 102) #[] #[(pq b_14)]), (18, i6 (IntKind.i64.wrap ((IntKind.u64.wrap (a_6 + b_10)) / 2))), (24, i6 (((IntKind.i64.wrap ((IntKind.u64.wrap (a_6 + b_10)) / 2)) + m_8) - start_824))] a) ?_ ?_
  rintro a w ⟨data_977, fp_978, hI, h_979, hS, ha⟩
  refine in_frame ha ?_
  clear ha hV
  have hV := hJ_981 _ hI
  clear hI hJ_981
  refine WC.seq ?_
  refine WC.via (m := [(0, v_2), (3, i6 b_10), (4, .func (.func 102) #[] #[(pq b_14)]), (18, i6 (IntKind.i64.wrap ((IntKind.u64.wrap (a_6 + b_10)) / 2))), (24, i6 (((IntKind.i64.wrap ((IntKind.u64.wrap (a_6 + b_10)) / 2)) + m_8) - start_824)), (213, .bool (decide (((IntKind.i64.wrap ((IntKind.u64.wrap (a_6 + b_10)) / 2)) < (((IntKind.i64.wrap ((IntKind.u64.wrap (a_6 + b_10)) / 2)) + m_8) - start_824)) ∧ ((((IntKind.i64.wrap ((IntKind.u64.wrap (a_6 + b_10)) / 2)) + m_8) - start_824) < b_10))))]) ?_ ?_
  refine WC.region ?_
  iterate 4 refine R hS ?_
  rcases bft (decide ((IntKind.i64.wrap ((IntKind.u64.wrap (a_6 + b_10)) / 2)) < (((IntKind.i64.wrap ((IntKind.u64.wrap (a_6 + b_10)) / 2)) + m_8) - start_824))) with hg_995 | hg_995
  iterate 4 refine R hS ?_
  refine WL.up (s := 213) rfl (and_t hg_995 : decide ((((IntKind.i64.wrap ((IntKind.u64.wrap (a_6 + b_10)) / 2)) + m_8) - start_824) < b_10) = decide (((IntKind.i64.wrap ((IntKind.u64.wrap (a_6 + b_10)) / 2)) < (((IntKind.i64.wrap ((IntKind.u64.wrap (a_6 + b_10)) / 2)) + m_8) - start_824)) ∧ ((((IntKind.i64.wrap ((IntKind.u64.wrap (a_6 + b_10)) / 2)) + m_8) - start_824) < b_10))) ?_
  exact WL.nil At.os
  iterate 4 refine R hS ?_
  refine WL.up (s := 213) rfl (and_f hg_995 : false = decide (((IntKind.i64.wrap ((IntKind.u64.wrap (a_6 + b_10)) / 2)) < (((IntKind.i64.wrap ((IntKind.u64.wrap (a_6 + b_10)) / 2)) + m_8) - start_824)) ∧ ((((IntKind.i64.wrap ((IntKind.u64.wrap (a_6 + b_10)) / 2)) + m_8) - start_824) < b_10))) ?_
  exact WL.nil At.os
  refine WQ.next ?_
  refine Cd ?_ ?_
  intro hc_1001
  replace hV := hV.1 (od hc_1001)
  refine WC.region ?_
  iterate 5 refine R hS ?_
  replace hS := hS.f2.f2
  refine Rc (enters0 (vs := [v_2, i6 (IntKind.i64.wrap ((IntKind.u64.wrap (a_6 + b_10)) / 2)), i6 (((IntKind.i64.wrap ((IntKind.u64.wrap (a_6 + b_10)) / 2)) + m_8) - start_824), i6 b_10, .func (.func 102) #[] #[(pq b_14)]]) call221 ⟨rfl, rfl, rfl, rfl, rfl, trivial⟩) (ih h_979 (wrap_I64 _) hi_941 hr_11 h_18 hS hV) ?_
  clear hV hS
  rintro _ w ⟨c_997, fp_998, hV, rfl, h_999, hS⟩
  refine ⟨_, rfl, ?_⟩
  refine WL.nil ?_
  replace hS := hS.f2.f2
  exact leave0 (.inr rfl) rfl (⟨c_997, fp_998, hV, rfl, h_999, hS⟩)
  intro hc_1001
  replace hV := hV.2 (ov hc_1001)
  refine WC.skip ?_
  replace hS := hS.f2.f2
  exact leave0 (.inr rfl) rfl (⟨data_977, fp_978, hV, rfl, h_979, hS⟩)
  clear hJ_981
  refine WC.seq ?_
  refine WC.via (m := [(0, v_2), (1, i6 a_6), (3, i6 b_10), (4, .func (.func 102) #[] #[(pq b_14)]), (18, i6 (IntKind.i64.wrap ((IntKind.u64.wrap (a_6 + b_10)) / 2))), (20, i6 start_824), (24, i6 (((IntKind.i64.wrap ((IntKind.u64.wrap (a_6 + b_10)) / 2)) + m_8) - start_824)), (199, .bool (decide ((a_6 < start_824) ∧ (start_824 < (IntKind.i64.wrap ((IntKind.u64.wrap (a_6 + b_10)) / 2))))))]) ?_ ?_
  refine WC.region ?_
  iterate 4 refine R hS ?_
  rcases bft (decide (a_6 < start_824)) with hg_985 | hg_985
  iterate 4 refine R hS ?_
  refine WL.up (s := 199) rfl (and_t hg_985 : decide (start_824 < (IntKind.i64.wrap ((IntKind.u64.wrap (a_6 + b_10)) / 2))) = decide ((a_6 < start_824) ∧ (start_824 < (IntKind.i64.wrap ((IntKind.u64.wrap (a_6 + b_10)) / 2))))) ?_
  exact WL.nil At.os
  iterate 4 refine R hS ?_
  refine WL.up (s := 199) rfl (and_f hg_985 : false = decide ((a_6 < start_824) ∧ (start_824 < (IntKind.i64.wrap ((IntKind.u64.wrap (a_6 + b_10)) / 2))))) ?_
  exact WL.nil At.os
  refine WQ.next ?_
  refine Cd ?_ ?_
  intro hc_991
  replace hV := hV.1 (od hc_991)
  refine WC.region ?_
  iterate 5 refine R hS ?_
  replace hS := hS.f2.f2
  refine Rc (enters0 (vs := [v_2, i6 a_6, i6 start_824, i6 (IntKind.i64.wrap ((IntKind.u64.wrap (a_6 + b_10)) / 2)), .func (.func 102) #[] #[(pq b_14)]]) call221 ⟨rfl, rfl, rfl, rfl, rfl, trivial⟩) (ih h_954 hr_7 hr_825 (wrap_I64 _) h_18 hS hV) ?_
  clear hV hS
  rintro _ w ⟨c_987, fp_988, hV, rfl, h_989, hS⟩
  refine ⟨_, rfl, ?_⟩
  refine WL.nil ?_
  replace hS := hS.f2.f2
  exact Wt fun a ha => ⟨c_987, fp_988, hV, h_989, hS, ha.os⟩
  intro hc_991
  replace hV := hV.2 (ov hc_991)
  refine WC.skip ?_
  replace hS := hS.f2.f2
  exact Wt fun a ha => ⟨data_952, fp_953, hV, h_954, hS, ha.os⟩
  clear hJ_956
  refine WC.seq ?_
  refine WC.via (m := [(0, v_2), (1, i6 a_6), (2, i6 m_8), (3, i6 b_10), (4, .func (.func 102) #[] #[(pq b_14)]), (18, i6 (IntKind.i64.wrap ((IntKind.u64.wrap (a_6 + b_10)) / 2))), (20, i6 start_824), (24, i6 (((IntKind.i64.wrap ((IntKind.u64.wrap (a_6 + b_10)) / 2)) + m_8) - start_824)), (185, .bool (decide ((start_824 < m_8) ∧ (m_8 < (((IntKind.i64.wrap ((IntKind.u64.wrap (a_6 + b_10)) / 2)) + m_8) - start_824)))))]) ?_ ?_
  refine WC.region ?_
  iterate 4 refine R hS ?_
  rcases bft (decide (start_824 < m_8)) with hg_960 | hg_960
  iterate 4 refine R hS ?_
  refine WL.up (s := 185) rfl (and_t hg_960 : decide (m_8 < (((IntKind.i64.wrap ((IntKind.u64.wrap (a_6 + b_10)) / 2)) + m_8) - start_824)) = decide ((start_824 < m_8) ∧ (m_8 < (((IntKind.i64.wrap ((IntKind.u64.wrap (a_6 + b_10)) / 2)) + m_8) - start_824)))) ?_
  exact WL.nil At.os
  iterate 4 refine R hS ?_
  refine WL.up (s := 185) rfl (and_f hg_960 : false = decide ((start_824 < m_8) ∧ (m_8 < (((IntKind.i64.wrap ((IntKind.u64.wrap (a_6 + b_10)) / 2)) + m_8) - start_824)))) ?_
  exact WL.nil At.os
  refine WQ.next ?_
  refine Cd ?_ ?_
  intro hc_966
  replace hV := hV.1 (od hc_966)
  refine WC.region ?_
  iterate 5 refine R hS ?_
  replace hS := hS.f2.f2
  refine Rc (enters0 (vs := [v_2, i6 start_824, i6 m_8, i6 (((IntKind.i64.wrap ((IntKind.u64.wrap (a_6 + b_10)) / 2)) + m_8) - start_824), .func (.func 102) #[] #[(pq b_14)]]) call230 ⟨rfl, rfl, rfl, rfl, rfl, trivial⟩) (S_rotSF h_3 hr_825 hr_9 hi_941 h_18 hS hV) ?_
  clear hV hS
  rintro _ w ⟨c_962, fp_963, hV, rfl, h_964, hS⟩
  refine ⟨_, rfl, ?_⟩
  refine WL.nil ?_
  replace hS := hS.f2.f2
  exact Wt fun a ha => ⟨c_962, fp_963, hV, h_964, hS, ha.os⟩
  intro hc_966
  replace hV := hV.2 (ov hc_966)
  refine WC.skip ?_
  replace hS := hS.f2.f2
  exact Wt fun a ha => ⟨data_1, fp_4, hV, h_3, hS, ha.os⟩
  clear hJ_762
  refine WC.sr ?_
  iterate 3 refine R hS ?_
  refine WL.nx ?_
  refine Cd ?_ ?_
  intro hc_766
  replace hV := hV.1 (od hc_766)
  refine WC.sr ?_
  iterate 2 refine R hS ?_
  obtain ⟨hi_765, hV⟩ := hV
  iterate 2 refine R hS ?_
  refine WL.nx (Sb [(0, v_2), (1, i6 a_6), (2, i6 m_8), (3, i6 b_10), (4, .func (.func 102) #[] #[(pq b_14)]), (18, i6 (IntKind.i64.wrap ((IntKind.u64.wrap (a_6 + b_10)) / 2))), (19, i6 ((IntKind.i64.wrap ((IntKind.u64.wrap (a_6 + b_10)) / 2)) + m_8)), (20, i6 (((IntKind.i64.wrap ((IntKind.u64.wrap (a_6 + b_10)) / 2)) + m_8) - b_10))] ?_)
  refine WC.region ?_
  iterate 2 refine R hS ?_
  refine WL.nil ?_
  replace hS := hS.f2.f2
  exact Wt fun a ha => ⟨(((IntKind.i64.wrap ((IntKind.u64.wrap (a_6 + b_10)) / 2)) + m_8) - b_10), (IntKind.i64.wrap ((IntKind.u64.wrap (a_6 + b_10)) / 2)), hV, hi_765, (wrap_I64 _), hS, ha.os⟩
  intro hc_766
  replace hV := hV.2 (ov hc_766)
  refine WC.sr ?_
  iterate 2 refine R hS ?_
  refine WL.nx (WC.region ?_)
  iterate 2 refine R hS ?_
  refine WL.nil ?_
  replace hS := hS.f2.f2
  exact Wt fun a ha => ⟨a_6, m_8, hV, hr_7, hr_9, hS, ha.os⟩
theorem S_stabSF {w0 : World} {H : View} {L : Seg} {w : World} {v_2 : Value} {data_1 : LI} {fp_4 : Seg} {n_6 : Int} {b_10 : Nat} {v_13 : Value} {c_9_12 : List (Val)} {Q : LI → Prop} (h_3 : OwnSl H (cInt .i64) 3 v_2 data_1 fp_4) (hr_7 : I64 n_6) (h_14 : IsSl H cV v_13 c_9_12) (hS : St w0 H (fp_4 ++ ([(b_10, oc #[v_13] 42)] ++ L)) w) (hV : V_stabSF data_1 n_6 c_9_12 Q) :
 Calls Tryz.prog 192 #[v_2, i6 n_6, .func (.func 102) #[] #[(pq b_10)]] w fun e w' => ∃ (r1 : LI) (fp1 : Seg), Q r1 ∧ e = .returned (.tuple #[]) ∧ OwnSl H (cInt .i64) 3 v_2 r1 fp1 ∧ St w0 H (fp1 ++ ([(b_10, oc #[v_13] 42)] ++ L)) w' := by
 unfold V_stabSF at hV
 refine enter func192 rfl ntmps192 rfl (lk_args_cons (d := 0) (v := v_2) rfl (lk_args_cons (d := 1) (v := i6 n_6) rfl (lk_args_cons (d := 2) (v := .func (.func 102) #[] #[(pq b_10)]) rfl (lk_args_nil _)))) (WC.sr (R hS ?_))
 refine WL.nx (WC.sr ?_)
 iterate 3 refine R hS ?_
 refine WL.nx (WC.seq (WC.block ?_))
 replace hS := hS.f2.f2
 obtain ⟨I_38, mu_39, hI_284, hV⟩ := hV
 refine WC.loop (σ := LI × Int × Int) (fun s a w => ∃ (data_23 : LI) (a_26 : Int) (b_28 : Int) (fp_24 : Seg), s = (data_23, a_26, b_28) ∧ I_38 (data_23, a_26, b_28) ∧ OwnSl H (cInt .i64) 3 v_2 data_23 fp_24 ∧ I64 a_26 ∧ I64 b_28 ∧ St w0 H (fp_24 ++ ([(b_10, oc #[v_13] 42)] ++ L)) w ∧ Fr 63 [(0, v_2), (1, i6 n_6), (2, .func (.func 102) #[] #[(pq b_10)]), (6, i6 (20 : Int)), (7, i6 a_26), (8, i6 b_28)] a) mu_39 (data_1, (0 : Int), (20 : Int)) ?_ ?_
 exact fun a ha => ⟨data_1, (0 : Int), (20 : Int), fp_4, rfl, hI_284, h_3, i0, (show I64 (20 : Int) by unfold I64; omega), hS, ha.os⟩
 clear hS hI_284
 rintro _ a w ⟨data_23, a_26, b_28, fp_24, rfl, hI, h_25, hr_27, hr_29, hS, ha⟩
 refine in_frame ha ?_
 clear ha
 replace hV := hV _ hI
 clear hI
 refine WC.seq (WC.sr ?_)
 iterate 3 refine R hS ?_
 refine WL.nx ?_
 refine Cd ?_ ?_
 intro hc_283
 replace hV := hV.1 (od hc_283)
 refine WC.skip (WQ.next (WC.block (WC.sr ?_)))
 iterate 4 refine R hS ?_
 replace hS := hS.f2.f2
 refine Rc (enters0 (vs := [v_2, i6 a_26, i6 b_28, .func (.func 102) #[] #[(pq b_10)]]) call220 ⟨rfl, rfl, rfl, rfl, trivial⟩) (S_insSF h_25 hr_27 hr_29 h_14 hS hV) ?_
 clear hV hS
 rintro _ w ⟨c_42, fp_43, hV, rfl, h_44, hS⟩
 refine ⟨_, rfl, ?_⟩
 refine WL.nx (WC.sr ?_)
 iterate 2 refine R hS ?_
 refine WL.nx (Sb [(0, v_2), (1, i6 n_6), (2, .func (.func 102) #[] #[(pq b_10)]), (6, i6 (20 : Int)), (7, i6 b_28), (8, i6 b_28)] ?_)
 refine WC.region ?_
 iterate 2 refine R hS ?_
 obtain ⟨hi_47, hV⟩ := hV
 iterate 2 refine R hS ?_
 refine WL.nil (WQ.out nofun ?_)
 replace hS := hS.f2.f2
 exact Wt fun a ha => ⟨(c_42, b_28, (b_28 + (20 : Int))), ⟨c_42, b_28, (b_28 + (20 : Int)), fp_43, rfl, hV.1, h_44, hr_29, hi_47, hS, ha.os⟩, hV.2⟩
 intro hc_283
 replace hV := hV.2 (ov hc_283)
 refine WC.exit (Wp ?_)
 refine Wp ?_
 refine WQ.hit (WQ.next (WC.sr ?_))
 iterate 4 refine R hS ?_
 replace hS := hS.f2.f2
 refine Rc (enters0 (vs := [v_2, i6 a_26, i6 n_6, .func (.func 102) #[] #[(pq b_10)]]) call220 ⟨rfl, rfl, rfl, rfl, trivial⟩) (S_insSF h_25 hr_27 hr_7 h_14 hS hV) ?_
 clear hV hS
 rintro _ w ⟨c_48, fp_49, hV, rfl, h_50, hS⟩
 refine ⟨_, rfl, ?_⟩
 refine WL.nx (Sb [(0, v_2), (1, i6 n_6), (2, .func (.func 102) #[] #[(pq b_10)]), (6, i6 (20 : Int))] ?_)
 refine WC.block ?_
 replace hS := hS.f2.f2
 obtain ⟨I_205, mu_206, hI_282, hV⟩ := hV
 refine WC.loop (σ := LI × Int) (fun s a w => ∃ (data_126 : LI) (blockSize_129 : Int) (fp_127 : Seg), s = (data_126, blockSize_129) ∧ I_205 (data_126, blockSize_129) ∧ OwnSl H (cInt .i64) 3 v_2 data_126 fp_127 ∧ I64 blockSize_129 ∧ St w0 H (fp_127 ++ ([(b_10, oc #[v_13] 42)] ++ L)) w ∧ Fr 63 [(0, v_2), (1, i6 n_6), (2, .func (.func 102) #[] #[(pq b_10)]), (6, i6 blockSize_129)] a) mu_206 (c_48, (20 : Int)) ?_ ?_
 exact fun a ha => ⟨c_48, (20 : Int), fp_49, rfl, hI_282, h_50, (show I64 (20 : Int) by unfold I64; omega), hS, ha.os⟩
 clear hS hI_282
 rintro _ a w ⟨data_126, blockSize_129, fp_127, rfl, hI, h_128, hr_130, hS, ha⟩
 refine in_frame ha ?_
 clear ha
 replace hV := hV _ hI
 clear hI
 refine WC.seq (WC.sr ?_)
 iterate 3 refine R hS ?_
 refine WL.nx ?_
 refine Cd ?_ ?_
 intro hc_281
 replace hV := hV.1 (od hc_281)
 refine WC.skip (WQ.next (WC.block (WC.sr (R hS ?_))))
 obtain ⟨hi_210, hV⟩ := hV
 iterate 3 refine R hS ?_
 refine WL.nx (WC.seq (WC.block ?_))
 replace hS := hS.f2.f2
 obtain ⟨I_242, mu_243, hI_280, hV⟩ := hV
 refine WC.loop (σ := LI × Int × Int) (fun s a w => ∃ (data_223 : LI) (a_226 : Int) (b_228 : Int) (fp_224 : Seg), s = (data_223, a_226, b_228) ∧ I_242 (data_223, a_226, b_228) ∧ OwnSl H (cInt .i64) 3 v_2 data_223 fp_224 ∧ I64 a_226 ∧ I64 b_228 ∧ St w0 H (fp_224 ++ ([(b_10, oc #[v_13] 42)] ++ L)) w ∧ Fr 63 [(0, v_2), (1, i6 n_6), (2, .func (.func 102) #[] #[(pq b_10)]), (6, i6 blockSize_129), (7, i6 a_226), (8, i6 b_228)] a) mu_243 (data_126, (0 : Int), ((2 : Int) * blockSize_129)) ?_ ?_
 exact fun a ha => ⟨data_126, (0 : Int), ((2 : Int) * blockSize_129), fp_127, rfl, hI_280, h_128, i0, hi_210, hS, ha.os⟩
 clear hS hI_280
 rintro _ a w ⟨data_223, a_226, b_228, fp_224, rfl, hI, h_225, hr_227, hr_229, hS, ha⟩
 refine in_frame ha ?_
 clear ha
 replace hV := hV _ hI
 clear hI
 refine WC.seq (WC.sr ?_)
 iterate 3 refine R hS ?_
 refine WL.nx ?_
 refine Cd ?_ ?_
 intro hc_279
 replace hV := hV.1 (od hc_279)
 refine WC.skip (WQ.next (WC.block (WC.sr ?_)))
 iterate 4 refine R hS ?_
 obtain ⟨hi_247, hV⟩ := hV
 iterate 3 refine R hS ?_
 replace hS := hS.f2.f2
 obtain ⟨mf, hV⟩ := hV
 refine Rc (enters0 (vs := [v_2, i6 a_226, i6 (a_226 + blockSize_129), i6 b_228, .func (.func 102) #[] #[(pq b_10)]]) call221 ⟨rfl, rfl, rfl, rfl, rfl, trivial⟩) (S_symSF mf h_225 hr_227 hi_247 hr_229 h_14 hS hV) ?_
 clear hV hS
 rintro _ w ⟨c_248, fp_249, hV, rfl, h_250, hS⟩
 refine ⟨_, rfl, ?_⟩
 refine WL.nx (Sb [(0, v_2), (1, i6 n_6), (2, .func (.func 102) #[] #[(pq b_10)]), (6, i6 blockSize_129), (8, i6 b_228)] ?_)
 refine WC.sr ?_
 iterate 2 refine R hS ?_
 refine WL.nx (WC.region ?_)
 iterate 2 refine R hS ?_
 obtain ⟨hi_253, hV⟩ := hV
 refine R hS ?_
 obtain ⟨hi_255, hV⟩ := hV
 iterate 2 refine R hS ?_
 refine WL.nil (WQ.out nofun ?_)
 replace hS := hS.f2.f2
 exact Wt fun a ha => ⟨(c_248, b_228, (b_228 + ((2 : Int) * blockSize_129))), ⟨c_248, b_228, (b_228 + ((2 : Int) * blockSize_129)), fp_249, rfl, hV.1, h_250, hr_229, hi_255, hS, ha.os⟩, hV.2⟩
 intro hc_279
 replace hV := hV.2 (ov hc_279)
 refine WC.exit (Wp ?_)
 refine Wp ?_
 refine WQ.hit (WQ.next ?_)
 obtain ⟨J_267, hJ_268, hV⟩ := hV
 refine WC.meet (fun a w => ∃ (data_264 : LI) (fp_265 : Seg), J_267 data_264 ∧ OwnSl H (cInt .i64) 3 v_2 data_264 fp_265 ∧ St w0 H (fp_265 ++ ([(b_10, oc #[v_13] 42)] ++ L)) w ∧ Fr 63 [(0, v_2), (1, i6 n_6), (2, .func (.func 102) #[] #[(pq b_10)]), (6, i6 blockSize_129)] a) ?_ ?_
 rintro a w ⟨data_264, fp_265, hI, h_266, hS, ha⟩
 refine in_frame ha ?_
 clear ha hV
 have hV := hJ_268 _ hI
 clear hI hJ_268
 refine WC.region (R hS ?_)
 obtain ⟨hi_278, hV⟩ := hV
 iterate 2 refine R hS ?_
 refine WL.nil (WQ.out nofun ?_)
 replace hS := hS.f2.f2
 exact Wt fun a ha => ⟨(data_264, (blockSize_129 * (2 : Int))), ⟨data_264, (blockSize_129 * (2 : Int)), fp_265, rfl, hV.1, h_266, hi_278, hS, ha.os⟩, hV.2⟩
 clear hJ_268
 refine WC.sr ?_
 iterate 2 refine R hS ?_
 obtain ⟨hi_270, hV⟩ := hV
 iterate 2 refine R hS ?_
 refine WL.nx (WC.sr ?_)
 iterate 3 refine R hS ?_
 refine WL.nx ?_
 refine Cd ?_ ?_
 intro hc_276
 replace hV := hV.1 (od hc_276)
 refine WC.region ?_
 iterate 5 refine R hS ?_
 replace hS := hS.f2.f2
 obtain ⟨mf, hV⟩ := hV
 refine Rc (enters0 (vs := [v_2, i6 a_226, i6 (a_226 + blockSize_129), i6 n_6, .func (.func 102) #[] #[(pq b_10)]]) call221 ⟨rfl, rfl, rfl, rfl, rfl, trivial⟩) (S_symSF mf h_225 hr_227 hi_270 hr_7 h_14 hS hV) ?_
 clear hV hS
 rintro _ w ⟨c_272, fp_273, hV, rfl, h_274, hS⟩
 refine ⟨_, rfl, ?_⟩
 refine WL.nil ?_
 replace hS := hS.f2.f2
 exact Wt fun a ha => ⟨c_272, fp_273, hV, h_274, hS, ha.os⟩
 intro hc_276
 replace hV := hV.2 (ov hc_276)
 refine WC.skip ?_
 replace hS := hS.f2.f2
 exact Wt fun a ha => ⟨data_223, fp_224, hV, h_225, hS, ha.os⟩
 intro hc_281
 replace hV := hV.2 (ov hc_281)
 refine WC.exit (Wp ?_)
 refine Wp ?_
 refine WQ.hit ?_
 replace hS := hS.f2.f2
 exact leave0 (.inr rfl) rfl (⟨data_126, fp_127, hV, rfl, h_128, hS⟩)
theorem S_SortSF {w0 : World} {H : View} {L : Seg} {w : World} {v_2 : Value} {x_1 : LI} {fp_4 : Seg} {b_8 : Nat} {v_11 : Value} {c_7_10 : List (Val)} {Q : LI → Prop} (h_3 : OwnSl H (cInt .i64) 3 v_2 x_1 fp_4) (h_12 : IsSl H cV v_11 c_7_10) (hS : St w0 H (fp_4 ++ ([(b_8, oc #[v_11] 42)] ++ L)) w) (hV : V_SortSF x_1 c_7_10 Q) :
 Calls Tryz.prog 101 #[v_2, .func (.func 102) #[] #[(pq b_8)]] w fun e w' => ∃ (r1 : LI) (fp1 : Seg), Q r1 ∧ e = .returned (.tuple #[]) ∧ OwnSl H (cInt .i64) 3 v_2 r1 fp1 ∧ St w0 H (fp1 ++ ([(b_8, oc #[v_11] 42)] ++ L)) w' := by
 unfold V_SortSF at hV
 refine enter func101 rfl ntmps101 rfl (lk_args_cons (d := 0) (v := v_2) rfl (lk_args_cons (d := 1) (v := .func (.func 102) #[] #[(pq b_8)]) rfl (lk_args_nil _))) (WC.region ?_)
 iterate 2 refine R hS ?_
 have hl_13 : Len x_1 := h_3.bound
 replace hV := hV hl_13
 refine Rn hS (ex_len_own underlying130 rfl h_3) ?_
 refine R hS ?_
 replace hS := hS.f2.f2
 refine Rc (enters0 (vs := [v_2, i6 (x_1.length : Int), .func (.func 102) #[] #[(pq b_8)]]) call192 ⟨rfl, rfl, rfl, trivial⟩) (S_stabSF h_3 (Len.i64 hl_13) h_12 hS hV) ?_
 clear hV hS
 rintro _ w ⟨c_14, fp_15, hV, rfl, h_16, hS⟩
 refine ⟨_, rfl, ?_⟩
 refine WL.nil ?_
 replace hS := hS.f2.f2
 exact leave0 (.inr rfl) rfl (⟨c_14, fp_15, hV, rfl, h_16, hS⟩)
theorem S_FunctionOf {w0 : World} {H : View} {L : Seg} {w : World} {v_2 : Value} {keys_1 : List (Val)} {v_5 : Value} {vals_4 : List (Val)} {Q : Val → Prop} (h_3 : IsSl H cV v_2 keys_1) (h_6 : IsSl H cV v_5 vals_4) (hS : St w0 H (L) w) (hV : V_FunctionOf keys_1 vals_4 Q) :
 Calls Tryz.prog 65 #[v_2, v_5] w fun e w' => ∃ (r1 : Val) (u1 : Value) (H' : View), Q r1 ∧ e = .returned (.agg #[u1]) ∧ View.le H H' ∧ IsW H' u1 r1 ∧ St w0 H' (L) w' := by
 unfold V_FunctionOf at hV
 refine enter func65 rfl ntmps65 rfl (lk_args_cons (d := 0) (v := v_2) rfl (lk_args_cons (d := 1) (v := v_5) rfl (lk_args_nil _))) (WC.sr (WL.box (arr := #[v_2]) rfl rfl (cells_one (IsSl.one h_3)) hS ?_))
 clear hS
 intro b_7 w hS
 refine WL.alloc (arr := #[.nilIface]) rfl zeroValue25 rfl hS ?_
 clear hS
 intro b_9 w hS
 refine WL.nx (WC.sr ?_)
 replace hS := hS.f2
 refine R hS ?_
 have hl_11 : Len keys_1 := h_3.bound
 replace hV := hV hl_11
 refine Rn hS (ex_len_sl underlying42 rfl h_3) ?_
 obtain ⟨hm_16, hV⟩ := hV
 refine WL.make (c := (cInt .i64)) (z0 := (0 : Int)) rfl underlying130 info3 rfl ⟨rfl, I64.has (by unfold I64; omega)⟩ rfl rfl hm_16.1 hm_16.2.1 hm_16.2.2 hS ?_
 clear hS
 intro v_13 w fp_14 h_15 hS
 refine R hS ?_
 refine WL.nx (WC.seq (WC.sr (R hS ?_)))
 have hl_17 : Len (List.replicate (keys_1.length : Int).toNat (0 : Int)) := h_15.bound
 replace hV := hV hl_17
 refine Rn hS (ex_len_own underlying130 rfl h_15) ?_
 refine R hS ?_
 refine WL.nx (WC.block ?_)
 replace hS := hS.f3.f3
 obtain ⟨I_43, mu_44, hI_1395, hV⟩ := hV
 refine WC.loop (σ := LI × Int) (fun s a w => ∃ (order_28 : LI) (x_32 : Int) (v_29 : Value) (fp_30 : Seg), s = (order_28, x_32) ∧ I_43 (order_28, x_32) ∧ OwnSl H (cInt .i64) 3 v_29 order_28 fp_30 ∧ I64 x_32 ∧ St w0 H ([(b_7, oc #[v_2] 42)] ++ ([(b_9, oc #[.nilIface] 25)] ++ (fp_30 ++ L))) w ∧ Fr 107 [(1, v_5), (2, (pq b_7)), (4, (pq b_9)), (5, v_29), (14, i6 ((List.replicate (keys_1.length : Int).toNat (0 : Int)).length : Int)), (15, i6 x_32)] a) mu_44 ((List.replicate (keys_1.length : Int).toNat (0 : Int)), (0 : Int)) ?_ ?_
 exact fun a ha => ⟨(List.replicate (keys_1.length : Int).toNat (0 : Int)), (0 : Int), v_13, fp_14, rfl, hI_1395, h_15, i0, hS, ha.os⟩
 clear hS hI_1395
 rintro _ a w ⟨order_28, x_32, v_29, fp_30, rfl, hI, h_31, hr_33, hS, ha⟩
 refine in_frame ha ?_
 clear ha
 replace hV := hV _ hI
 clear hI
 refine WC.sr (R hS ?_)
 refine WL.nx (WC.seq ?_)
 refine Cd ?_ ?_
 intro hc_1394
 replace hV := hV.1 (od hc_1394)
 refine WC.skip (WQ.next (WC.seq (WC.block (WC.sr ?_))))
 iterate 2 refine R hS ?_
 refine WL.nx (WC.region ?_)
 iterate 3 refine R hS ?_
 obtain ⟨hin_47, hV⟩ := hV
 refine Rx hS (ex_index_own underlying130 sizeOf3 rfl rfl h_31 hin_47) ?_
 intro p_48 hp_49
 replace hS := hS.f3
 refine WL.store_own sizeOf3 rfl rfl rfl (cInt_mk (I64.has hr_33)) hS h_31 hp_49 hin_47 ?_
 clear hS
 intro w fp_51 h_50 hS
 refine WL.nil (WQ.out nofun (WQ.next (WC.region ?_)))
 obtain ⟨hi_53, hV⟩ := hV
 iterate 2 refine R hS ?_
 refine WL.nil ?_
 replace hS := hS.f3.f3
 exact Wt fun a ha => ⟨((order_28.set x_32.toNat x_32), (x_32 + (1 : Int))), ⟨(order_28.set x_32.toNat x_32), (x_32 + (1 : Int)), v_29, fp_51, rfl, hV.1, h_50, hi_53, hS, ha.os⟩, hV.2⟩
 intro hc_1394
 replace hV := hV.2 (ov hc_1394)
 refine WC.exit (Wp ?_)
 refine Wp ?_
 refine WQ.hit (WQ.next (WC.sr (R hS ?_)))
 refine Rn hS (ex_makeFunc (vs := [(pq b_7)]) ⟨rfl, trivial⟩) ?_
 replace hS := hS.f3
 refine Rc (enters0 (vs := [v_29, .func (.func 102) #[] #[(pq b_7)]]) call101 ⟨rfl, rfl, trivial⟩) (S_SortSF h_31 h_3 hS hV) ?_
 clear hV hS
 rintro _ w ⟨c_54, fp_55, hV, rfl, h_56, hS⟩
 refine ⟨_, rfl, ?_⟩
 refine WL.nx (WC.sr (Rn hS (ex_build (vs := [i6 (1 : Int)]) (zc := #[ns, ns, i6 0]) (cs := #[ns, ns, i6 (1 : Int)]) (places := #[(0, 1), (1, 1), (2, 1)]) underlying100 zeroValue100 (fun w => by simp [sizeOf3, sizeOf42]) rfl ⟨rfl, trivial⟩ rfl (by simp [Instr.fill, cells_int, cells_bool, cells_iface, cells_niliface, cells_slice, str_cells])) ?_))
 refine WL.box (arr := #[ns, ns, i6 (1 : Int)]) rfl rfl rfl hS ?_
 clear hS
 intro b_60 w hS
 refine R hS ?_
 refine WL.nx (WC.seq (WC.sr (R hS ?_)))
 have hl_62 : Len c_54 := h_56.bound
 replace hV := hV hl_62
 refine Rn hS (ex_len_own underlying130 rfl h_56) ?_
 refine R hS ?_
 refine WL.nx (WC.block ?_)
 replace hS := hS.nilseg
 replace hS := hS.nilseg
 replace hS := hS.f2.f3.f4.f6.f6
 obtain ⟨I_945, mu_946, hI_1393, hV⟩ := hV
 refine WC.loop (σ := (List (Val)) × (List (Val)) × Int × Int) (fun s a w => ∃ (c_498 : List (Val)) (c_503 : List (Val)) (c_507 : Int) (x_509 : Int) (v_499 : Value) (fp_500 : Seg) (v_504 : Value) (fp_505 : Seg), s = (c_498, c_503, c_507, x_509) ∧ I_945 (c_498, c_503, c_507, x_509) ∧ OwnSl H cV 25 v_499 c_498 fp_500 ∧ OwnSl H cV 25 v_504 c_503 fp_505 ∧ I64 c_507 ∧ I64 x_509 ∧ St w0 H ([(b_7, oc #[v_2] 42)] ++ ([(b_9, oc #[.nilIface] 25)] ++ (fp_55 ++ ([(b_60, oc #[v_499, v_504, i6 c_507] 100)] ++ (fp_500 ++ (fp_505 ++ L)))))) w ∧ Fr 107 [(1, v_5), (2, (pq b_7)), (4, (pq b_9)), (5, v_29), (7, (pq b_60)), (28, v_29), (29, i6 (c_54.length : Int)), (30, i6 x_509)] a) mu_946 (([] : List (Val)), ([] : List (Val)), (1 : Int), (0 : Int)) ?_ ?_
 exact fun a ha => ⟨([] : List (Val)), ([] : List (Val)), (1 : Int), (0 : Int), ns, ([] : Seg), ns, ([] : Seg), rfl, hI_1393, OwnSl.nil, OwnSl.nil, (show I64 (1 : Int) by unfold I64; omega), i0, hS, ha.os⟩
 clear hS hI_1393
 rintro _ a w ⟨c_498, c_503, c_507, x_509, v_499, fp_500, v_504, fp_505, rfl, hI, h_501, h_506, hr_508, hr_510, hS, ha⟩
 refine in_frame ha ?_
 clear ha
 replace hV := hV _ hI
 clear hI
 refine WC.sr (R hS ?_)
 refine WL.nx (WC.seq ?_)
 refine Cd ?_ ?_
 intro hc_1392
 replace hV := hV.1 (od hc_1392)
 refine WC.skip (WQ.next ?_)
 obtain ⟨J_1169, hJ_1170, hV⟩ := hV
 refine WC.meet (fun a w => ∃ (c_1158 : List (Val)) (c_1163 : List (Val)) (c_1167 : Int) (v_1159 : Value) (fp_1160 : Seg) (v_1164 : Value) (fp_1165 : Seg), J_1169 (c_1158, c_1163, c_1167) ∧ OwnSl H cV 25 v_1159 c_1158 fp_1160 ∧ OwnSl H cV 25 v_1164 c_1163 fp_1165 ∧ I64 c_1167 ∧ St w0 H ([(b_7, oc #[v_2] 42)] ++ ([(b_9, oc #[.nilIface] 25)] ++ (fp_55 ++ ([(b_60, oc #[v_1159, v_1164, i6 c_1167] 100)] ++ (fp_1160 ++ (fp_1165 ++ L)))))) w ∧ Fr 107 [(1, v_5), (2, (pq b_7)), (4, (pq b_9)), (5, v_29), (7, (pq b_60)), (28, v_29), (29, i6 (c_54.length : Int)), (30, i6 x_509)] a) ?_ ?_
 rintro a w ⟨c_1158, c_1163, c_1167, v_1159, fp_1160, v_1164, fp_1165, hI, h_1161, h_1166, hr_1168, hS, ha⟩
 refine in_frame ha ?_
 clear ha hV
 have hV := hJ_1170 _ hI
 clear hI hJ_1170
 refine WC.region ?_
 obtain ⟨hi_1381, hV⟩ := hV
 iterate 2 refine R hS ?_
 refine WL.nil ?_
 replace hS := hS.f6.f6.f6.f6.f6.f6
 exact Wt fun a ha => ⟨(c_1158, c_1163, c_1167, (x_509 + (1 : Int))), ⟨c_1158, c_1163, c_1167, (x_509 + (1 : Int)), v_1159, fp_1160, v_1164, fp_1165, rfl, hV.1, h_1161, h_1166, hr_1168, hi_1381, hS, ha.os⟩, hV.2⟩
 clear hJ_1170
 refine WC.block (WC.sr (R hS ?_))
 obtain ⟨hin_1171, hV⟩ := hV
 refine Rx hS (ex_index_own underlying130 sizeOf3 rfl rfl h_56 hin_1171) ?_
 intro p_1172 hp_1173
 replace hS := hS.f3
 refine Rx hS (exNow (H := H) (L := [(b_7, oc #[v_2] 42)] ++ ([(b_9, oc #[.nilIface] 25)] ++ ([(b_60, oc #[v_499, v_504, i6 c_507] 100)] ++ (fp_500 ++ (fp_505 ++ L))))) (ex_load_own_s isAgg3 rfl rfl h_56 hp_1173 hin_1171)) ?_
 intro u_1176 hu_1177
 obtain ⟨rfl, hr_1178⟩ := cInt_rep hu_1177
 replace hr_1178 := has_I64 hr_1178
 replace hV := hV hr_1178
 iterate 2 refine R hS ?_
 refine WL.nx (WC.seq ?_)
 obtain ⟨J_1213, hJ_1214, hV⟩ := hV
 refine WC.meet (fun a w => ∃ (x_1212 : Bool), J_1213 x_1212 ∧ St w0 H ([(b_7, oc #[v_2] 42)] ++ ([(b_9, oc #[.nilIface] 25)] ++ (fp_55 ++ ([(b_60, oc #[v_499, v_504, i6 c_507] 100)] ++ (fp_500 ++ (fp_505 ++ L)))))) w ∧ Fr 107 [(1, v_5), (2, (pq b_7)), (4, (pq b_9)), (5, v_29), (7, (pq b_60)), (9, i6 (ix c_54 x_509)), (28, v_29), (29, i6 (c_54.length : Int)), (30, i6 x_509), (52, .bool x_1212)] a) ?_ ?_
 rintro a w ⟨x_1212, hI, hS, ha⟩
 refine in_frame ha ?_
 clear ha hV
 have hV := hJ_1214 _ hI
 clear hI hJ_1214
 refine Cd ?_ ?_
 intro hc_1379
 replace hV := hV.1 hc_1379
 refine WC.exit (Wp ?_)
 refine WQ.hit ?_
 replace hS := hS.f6.f6.f6.f6.f6.f6
 exact Wt fun a ha => ⟨c_498, c_503, c_507, v_499, fp_500, v_504, fp_505, hV, h_501, h_506, hr_508, hS, ha.os⟩
 intro hc_1379
 replace hV := hV.2 hc_1379
 refine WC.skip (WQ.next (WC.seq (WC.drawn (σ := [0, 1, 2, 3, 4, 5, 6, 7, 8, 9, 10, 11, 12, 13]) (C := St w0 H ([(b_7, oc #[v_2] 42)] ++ ([(b_9, oc #[.nilIface] 25)] ++ (fp_55 ++ ([(b_60, oc #[v_499, v_504, i6 c_507] 100)] ++ (fp_500 ++ (fp_505 ++ L))))))) [[], [], [1], [1, 2], [1, 2, 3], [], [], [5, 6], [5, 6, 7], [5, 6, 7, 8], [1, 2, 3, 4, 5, 6, 7, 8, 9], [0, 1, 2, 3, 4, 5, 6, 7, 8, 9, 10], [0, 1, 2, 3, 4, 5, 6, 7, 8, 9, 10, 11], [0, 1, 2, 3, 4, 5, 6, 7, 8, 9, 10, 11, 12]] [9, 10, 13] mixed (by kernel_rfl) (hS.drawn _) ?_)))
 clear hS w
 refine Dm fun q_1249 hq_1248 => ?_
 refine Dm fun q_1251 hq_1250 => ?_
 refine Wd.run rfl rfl rfl rfl (fun _ => ex_nilCheck rfl) fun q_1253 hq_1252 => ?_
 refine Wd.run rfl rfl rfl rfl (fun _ => ex_fieldAddr (o' := 0) underlying100 rfl sizeOf42 rfl rfl) fun q_1255 hq_1254 => ?_
 refine Wd.runb (off := 0) rfl rfl rfl rfl (fun _ _ _ h => ex_load_box isAgg42 rfl h) rfl (fun _ h => St.f4 h) fun q_1257 hq_1256 => ?_
 refine Wd.runb (off := 0) rfl rfl rfl rfl (fun _ _ _ h => ex_load_box isAgg42 rfl h) rfl (fun _ h => h) fun q_1259 hq_1258 => ?_
 refine Dm fun q_1261 hq_1260 => ?_
 obtain ⟨hin_1264, hV⟩ := hV
 refine Wd.runx rfl rfl rfl rfl (exAll (ex_index underlying42 sizeOf25 rfl rfl h_3 hin_1264)) ?_
 intro p_1265 hp_1266
 intro q_1263 hq_1262
 refine Wd.runs (fp := ([] : Seg)) (L := [(b_7, oc #[v_2] 42)] ++ ([(b_9, oc #[.nilIface] 25)] ++ (fp_55 ++ ([(b_60, oc #[v_499, v_504, i6 c_507] 100)] ++ (fp_500 ++ (fp_505 ++ L)))))) rfl rfl rfl rfl (ex_load_agg_s isAgg25 sizeOf25 rfl hp_1266) (fun _ h => h) ?_
 rintro u_1269 ⟨_, rfl, hu⟩
 obtain ⟨u_1270, rfl, h_1271⟩ := cV_one hu
 intro q_1268 hq_1267
 refine Wd.turn rfl rfl rfl fun w hS => ?_
 refine WL.builds (c := cV) (xs := [(ix keys_1 (ix c_54 x_509))]) (vs := [.agg #[u_1270]]) (css := [[u_1270]]) rfl underlying42 info25 rfl ⟨rfl, trivial⟩ rfl (by decide) rfl (by simp; rfl) ⟨[u_1270], _, rfl, (cV_mk h_1271), rfl⟩ hS rfl (by decide) ?_
 clear hS
 intro v_1273 w fp_1274 h_1275 hS
 refine WL.nil (DQ.mk2 (C' := St w0 H (fp_1274 ++ ([(b_7, oc #[v_2] 42)] ++ ([(b_9, oc #[.nilIface] 25)] ++ (fp_55 ++ ([(b_60, oc #[v_499, v_504, i6 c_507] 100)] ++ (fp_500 ++ (fp_505 ++ L)))))))) hS ⟨il, il, il, il, .inr (hq_1256 H (fp_1274 ++ ([(b_7, oc #[v_2] 42)] ++ ([(b_9, oc #[.nilIface] 25)] ++ (fp_55 ++ (fp_500 ++ (fp_505 ++ L)))))) #[v_499, v_504, i6 c_507] _ rfl (fun _ h => St.f5 h)), .inr (hq_1254 _), .inr (hq_1252 _), .inr (hq_1250 _), .inr (hq_1248 _), trivial⟩ ?_)
 clear hS w
 refine Wd.turn rfl rfl rfl fun w hS => ?_
 obtain ⟨hr_1276, hV⟩ := hV
 replace hS := hS.f6
 refine WL.append (c := cV) (xs := c_498) (ys := ([(ix keys_1 (ix c_54 x_509))])) rfl underlying42 info25 rfl rfl rfl hS h_501 (h_1275.src hS.f2) hr_1276.1 hr_1276.2 ?_
 clear hS
 intro v_1277 w fp_1278 h_1279 hS
 refine WL.nil (DQ.mk2 (C' := St w0 H (fp_1278 ++ (fp_1274 ++ ([(b_7, oc #[v_2] 42)] ++ ([(b_9, oc #[.nilIface] 25)] ++ (fp_55 ++ ([(b_60, oc #[v_499, v_504, i6 c_507] 100)] ++ (fp_505 ++ L)))))))) hS ⟨il, il, il, il, il, il, il, il, .inr (hq_1248 _), trivial⟩ ?_)
 clear hS w
 refine Wd.run rfl rfl rfl rfl (fun _ => ex_nilCheck rfl) fun q_1282 hq_1281 => ?_
 refine Wd.run rfl rfl rfl rfl (fun _ => ex_fieldAddr (o' := 0) underlying100 rfl sizeOf42 rfl rfl) fun q_1284 hq_1283 => ?_
 refine Wd.turn rfl rfl rfl fun w hS => ?_
 replace hS := hS.f6
 refine St1 #[v_1277, v_504, i6 c_507] sizeOf42 hS ?_ (cs := [v_1277]) (hc := (congrArg Array.toList (cells_one (OwnSl.one h_1279)))) (hone := ⟨(OwnSl.one h_1279), trivial⟩)
 clear hS
 intro w hS
 refine WL.nil (DQ.mk2 (C' := St w0 H ([(b_60, oc #[v_1277, v_504, i6 c_507] 100)] ++ (fp_1278 ++ (fp_1274 ++ ([(b_7, oc #[v_2] 42)] ++ ([(b_9, oc #[.nilIface] 25)] ++ (fp_55 ++ (fp_505 ++ L)))))))) hS ⟨il, il, il, il, il, il, il, il, il, il, il, trivial⟩ ?_)
 clear hS w
 refine Wd.nil fun w hS => ?_
 refine WQ.next (Sb [(1, v_5), (2, (pq b_7)), (4, (pq b_9)), (5, v_29), (7, (pq b_60)), (9, i6 (ix c_54 x_509)), (28, v_29), (29, i6 (c_54.length : Int)), (30, i6 x_509)] ?_)
 replace hS := hS.f3.drop
 refine WC.seq (WC.drawn (σ := [0, 1, 2, 3, 4, 5, 6, 7, 8, 9, 10, 11, 12, 13]) (C := St w0 H ([(b_60, oc #[v_1277, v_504, i6 c_507] 100)] ++ (fp_1278 ++ ([(b_7, oc #[v_2] 42)] ++ ([(b_9, oc #[.nilIface] 25)] ++ (fp_55 ++ (fp_505 ++ L))))))) [[], [], [1], [1, 2], [1, 2, 3], [], [], [5, 6], [5, 6, 7], [5, 6, 7, 8], [1, 2, 3, 4, 5, 6, 7, 8, 9], [0, 1, 2, 3, 4, 5, 6, 7, 8, 9, 10], [0, 1, 2, 3, 4, 5, 6, 7, 8, 9, 10, 11], [0, 1, 2, 3, 4, 5, 6, 7, 8, 9, 10, 11, 12]] [9, 10, 13] mixed (by kernel_rfl) (hS.drawn _) ?_)
 clear hS w
 refine Dm fun q_1286 hq_1285 => ?_
 refine Dm fun q_1288 hq_1287 => ?_
 refine Wd.run rfl rfl rfl rfl (fun _ => ex_nilCheck rfl) fun q_1290 hq_1289 => ?_
 refine Wd.run rfl rfl rfl rfl (fun _ => ex_fieldAddr (o' := 1) underlying100 rfl sizeOf42 rfl rfl) fun q_1292 hq_1291 => ?_
 refine Wd.runb (off := 1) rfl rfl rfl rfl (fun _ _ _ h => ex_load_box isAgg42 rfl h) rfl (fun _ h => h) fun q_1294 hq_1293 => ?_
 refine Dm fun q_1296 hq_1295 => ?_
 refine Dm fun q_1298 hq_1297 => ?_
 obtain ⟨hin_1301, hV⟩ := hV
 refine Wd.runx rfl rfl rfl rfl (exAll (ex_index underlying42 sizeOf25 rfl rfl h_6 hin_1301)) ?_
 intro p_1302 hp_1303
 intro q_1300 hq_1299
 refine Wd.runs (fp := ([] : Seg)) (L := [(b_60, oc #[v_1277, v_504, i6 c_507] 100)] ++ (fp_1278 ++ ([(b_7, oc #[v_2] 42)] ++ ([(b_9, oc #[.nilIface] 25)] ++ (fp_55 ++ (fp_505 ++ L)))))) rfl rfl rfl rfl (ex_load_agg_s isAgg25 sizeOf25 rfl hp_1303) (fun _ h => h) ?_
 rintro u_1306 ⟨_, rfl, hu⟩
 obtain ⟨u_1307, rfl, h_1308⟩ := cV_one hu
 intro q_1305 hq_1304
 refine Wd.turn rfl rfl rfl fun w hS => ?_
 refine WL.builds (c := cV) (xs := [(ix vals_4 (ix c_54 x_509))]) (vs := [.agg #[u_1307]]) (css := [[u_1307]]) rfl underlying42 info25 rfl ⟨rfl, trivial⟩ rfl (by decide) rfl (by simp; rfl) ⟨[u_1307], _, rfl, (cV_mk h_1308), rfl⟩ hS rfl (by decide) ?_
 clear hS
 intro v_1310 w fp_1311 h_1312 hS
 refine WL.nil (DQ.mk2 (C' := St w0 H (fp_1311 ++ ([(b_60, oc #[v_1277, v_504, i6 c_507] 100)] ++ (fp_1278 ++ ([(b_7, oc #[v_2] 42)] ++ ([(b_9, oc #[.nilIface] 25)] ++ (fp_55 ++ (fp_505 ++ L)))))))) hS ⟨il, il, il, il, .inr (hq_1293 H (fp_1311 ++ (fp_1278 ++ ([(b_7, oc #[v_2] 42)] ++ ([(b_9, oc #[.nilIface] 25)] ++ (fp_55 ++ (fp_505 ++ L)))))) #[v_1277, v_504, i6 c_507] _ rfl (fun _ h => St.f2 h)), .inr (hq_1291 _), .inr (hq_1289 _), .inr (hq_1287 _), .inr (hq_1285 _), trivial⟩ ?_)
 clear hS w
 refine Wd.turn rfl rfl rfl fun w hS => ?_
 obtain ⟨hr_1313, hV⟩ := hV
 replace hS := hS.f7
 refine WL.append (c := cV) (xs := c_503) (ys := ([(ix vals_4 (ix c_54 x_509))])) rfl underlying42 info25 rfl rfl rfl hS h_506 (h_1312.src hS.f2) hr_1313.1 hr_1313.2 ?_
 clear hS
 intro v_1314 w fp_1315 h_1316 hS
 refine WL.nil (DQ.mk2 (C' := St w0 H (fp_1315 ++ (fp_1311 ++ ([(b_60, oc #[v_1277, v_504, i6 c_507] 100)] ++ (fp_1278 ++ ([(b_7, oc #[v_2] 42)] ++ ([(b_9, oc #[.nilIface] 25)] ++ (fp_55 ++ L)))))))) hS ⟨il, il, il, il, il, il, il, il, .inr (hq_1285 _), trivial⟩ ?_)
 clear hS w
 refine Wd.run rfl rfl rfl rfl (fun _ => ex_nilCheck rfl) fun q_1319 hq_1318 => ?_
 refine Wd.run rfl rfl rfl rfl (fun _ => ex_fieldAddr (o' := 1) underlying100 rfl sizeOf42 rfl rfl) fun q_1321 hq_1320 => ?_
 refine Wd.turn rfl rfl rfl fun w hS => ?_
 replace hS := hS.f3
 refine St1 #[v_1277, v_1314, i6 c_507] sizeOf42 hS ?_ (cs := [v_1314]) (hc := (congrArg Array.toList (cells_one (OwnSl.one h_1316)))) (hone := ⟨(OwnSl.one h_1316), trivial⟩)
 clear hS
 intro w hS
 refine WL.nil (DQ.mk2 (C' := St w0 H ([(b_60, oc #[v_1277, v_1314, i6 c_507] 100)] ++ (fp_1315 ++ (fp_1311 ++ (fp_1278 ++ ([(b_7, oc #[v_2] 42)] ++ ([(b_9, oc #[.nilIface] 25)] ++ (fp_55 ++ L)))))))) hS ⟨il, il, il, il, il, il, il, il, il, il, il, trivial⟩ ?_)
 clear hS w
 refine Wd.nil fun w hS => ?_
 refine WQ.next (Sb [(1, v_5), (2, (pq b_7)), (4, (pq b_9)), (5, v_29), (7, (pq b_60)), (9, i6 (ix c_54 x_509)), (28, v_29), (29, i6 (c_54.length : Int)), (30, i6 x_509)] ?_)
 replace hS := hS.f3.drop
 refine WC.seq (WC.drawn (σ := [0, 1, 2, 3, 4, 5, 6, 7, 9, 10, 11, 12, 8, 13, 14, 15, 16, 17, 18]) (C := St w0 H ([(b_60, oc #[v_1277, v_1314, i6 c_507] 100)] ++ (fp_1315 ++ (fp_1278 ++ ([(b_7, oc #[v_2] 42)] ++ ([(b_9, oc #[.nilIface] 25)] ++ (fp_55 ++ L))))))) [[], [0], [0, 1], [0, 1, 2], [], [], [4, 5], [4, 5, 6], [4, 5, 6, 7], [], [], [9, 10], [9, 10, 11], [4, 5, 6, 7, 8, 9, 10, 11, 12], [4, 5, 6, 7, 8, 9, 10, 11, 12, 13], [0, 1, 2, 3, 4, 5, 6, 7, 8, 9, 10, 11, 12, 13, 14], [0, 1, 2, 3, 4, 5, 6, 7, 8, 9, 10, 11, 12, 13, 14, 15], [0, 1, 2, 3, 4, 5, 6, 7, 8, 9, 10, 11, 12, 13, 14, 15, 16], [0, 1, 2, 3, 4, 5, 6, 7, 8, 9, 10, 11, 12, 13, 14, 15, 16, 17]] [8, 13, 18] mixed (by kernel_rfl) (hS.drawn _) ?_)
 clear hS w
 refine Dm fun q_1323 hq_1322 => ?_
 refine Wd.run rfl rfl rfl rfl (fun _ => ex_nilCheck rfl) fun q_1325 hq_1324 => ?_
 refine Wd.run rfl rfl rfl rfl (fun _ => ex_fieldAddr (o' := 2) underlying100 rfl sizeOf3 rfl rfl) fun q_1327 hq_1326 => ?_
 refine Wd.runb (off := 2) rfl rfl rfl rfl (fun _ _ _ h => ex_load_box isAgg3 rfl h) rfl (fun _ h => h) fun q_1329 hq_1328 => ?_
 refine Wd.runb (off := 0) rfl rfl rfl rfl (fun _ _ _ h => ex_load_box isAgg42 rfl h) rfl (fun _ h => St.f4 h) fun q_1331 hq_1330 => ?_
 refine Dm fun q_1333 hq_1332 => ?_
 obtain ⟨hin_1336, hV⟩ := hV
 refine Wd.runx rfl rfl rfl rfl (exAll (ex_index underlying42 sizeOf25 rfl rfl h_3 hin_1336)) ?_
 intro p_1337 hp_1338
 intro q_1335 hq_1334
 refine Wd.runs (fp := ([] : Seg)) (L := [(b_60, oc #[v_1277, v_1314, i6 c_507] 100)] ++ (fp_1315 ++ (fp_1278 ++ ([(b_7, oc #[v_2] 42)] ++ ([(b_9, oc #[.nilIface] 25)] ++ (fp_55 ++ L)))))) rfl rfl rfl rfl (ex_load_agg_s isAgg25 sizeOf25 rfl hp_1338) (fun _ h => h) ?_
 rintro u_1341 ⟨_, rfl, hu⟩
 obtain ⟨u_1342, rfl, h_1343⟩ := cV_one hu
 intro q_1340 hq_1339
 refine Dm fun q_1345 hq_1344 => ?_
 refine Dm fun q_1347 hq_1346 => ?_
 obtain ⟨hin_1350, hV⟩ := hV
 refine Wd.runx rfl rfl rfl rfl (exAll (ex_index underlying42 sizeOf25 rfl rfl h_6 hin_1350)) ?_
 intro p_1351 hp_1352
 intro q_1349 hq_1348
 refine Wd.runs (fp := ([] : Seg)) (L := [(b_60, oc #[v_1277, v_1314, i6 c_507] 100)] ++ (fp_1315 ++ (fp_1278 ++ ([(b_7, oc #[v_2] 42)] ++ ([(b_9, oc #[.nilIface] 25)] ++ (fp_55 ++ L)))))) rfl rfl rfl rfl (ex_load_agg_s isAgg25 sizeOf25 rfl hp_1352) (fun _ h => h) ?_
 rintro u_1355 ⟨_, rfl, hu⟩
 obtain ⟨u_1356, rfl, h_1357⟩ := cV_one hu
 intro q_1354 hq_1353
 refine Wd.turn rfl rfl rfl fun w hS => ?_
 refine Rc (enters0 (vs := [.agg #[u_1342]]) call13 ⟨rfl, trivial⟩) (S_Weight h_1343 hS hV) ?_
 clear hV hS
 rintro _ w ⟨r_1358, hV, rfl, hr_1359, hS⟩
 refine ⟨_, rfl, ?_⟩
 refine WL.nil (DQ.mk2 (C' := St w0 H ([(b_60, oc #[v_1277, v_1314, i6 c_507] 100)] ++ (fp_1315 ++ (fp_1278 ++ ([(b_7, oc #[v_2] 42)] ++ ([(b_9, oc #[.nilIface] 25)] ++ (fp_55 ++ L))))))) hS ⟨.inr (hq_1353 H ([(b_60, oc #[v_1277, v_1314, i6 c_507] 100)] ++ (fp_1315 ++ (fp_1278 ++ ([(b_7, oc #[v_2] 42)] ++ ([(b_9, oc #[.nilIface] 25)] ++ (fp_55 ++ L)))))) _ (View.le.refl _) (fun _ h => h)), .inr (hq_1348 _), .inr (hq_1346 _), .inr (hq_1344 _), il, il, il, il, .inr (hq_1328 H (fp_1315 ++ (fp_1278 ++ ([(b_7, oc #[v_2] 42)] ++ ([(b_9, oc #[.nilIface] 25)] ++ (fp_55 ++ L))))) #[v_1277, v_1314, i6 c_507] _ rfl (fun _ h => h)), .inr (hq_1326 _), .inr (hq_1324 _), .inr (hq_1322 _), trivial⟩ ?_)
 clear hS w
 refine Wd.turn rfl rfl rfl fun w hS => ?_
 refine Rc (enters0 (vs := [.agg #[u_1356]]) call13 ⟨rfl, trivial⟩) (S_Weight h_1357 hS hV) ?_
 clear hV hS
 rintro _ w ⟨r_1361, hV, rfl, hr_1362, hS⟩
 refine ⟨_, rfl, ?_⟩
 refine WL.nil (DQ.mk2 (C' := St w0 H ([(b_60, oc #[v_1277, v_1314, i6 c_507] 100)] ++ (fp_1315 ++ (fp_1278 ++ ([(b_7, oc #[v_2] 42)] ++ ([(b_9, oc #[.nilIface] 25)] ++ (fp_55 ++ L))))))) hS ⟨il, il, il, il, il, il, il, il, .inr (hq_1328 H (fp_1315 ++ (fp_1278 ++ ([(b_7, oc #[v_2] 42)] ++ ([(b_9, oc #[.nilIface] 25)] ++ (fp_55 ++ L))))) #[v_1277, v_1314, i6 c_507] _ rfl (fun _ h => h)), .inr (hq_1326 _), .inr (hq_1324 _), .inr (hq_1322 _), trivial⟩ ?_)
 clear hS w
 obtain ⟨hi_1367, hV⟩ := hV
 refine Wd.run rfl rfl rfl rfl (fun _ => ex_add rfl rfl hi_1367) fun q_1365 hq_1364 => ?_
 obtain ⟨hi_1371, hV⟩ := hV
 refine Wd.run rfl rfl rfl rfl (fun _ => ex_add rfl rfl hi_1371) fun q_1369 hq_1368 => ?_
 refine Wd.run rfl rfl rfl rfl (fun _ => ex_nilCheck rfl) fun q_1373 hq_1372 => ?_
 refine Wd.run rfl rfl rfl rfl (fun _ => ex_fieldAddr (o' := 2) underlying100 rfl sizeOf3 rfl rfl) fun q_1375 hq_1374 => ?_
 refine Wd.turn rfl rfl rfl fun w hS => ?_
 refine St1 #[v_1277, v_1314, i6 (c_507 + (r_1358 + r_1361))] sizeOf3 hS ?_
 clear hS
 intro w hS
 refine WL.nil (DQ.mk2 (C' := St w0 H ([(b_60, oc #[v_1277, v_1314, i6 (c_507 + (r_1358 + r_1361))] 100)] ++ (fp_1315 ++ (fp_1278 ++ ([(b_7, oc #[v_2] 42)] ++ ([(b_9, oc #[.nilIface] 25)] ++ (fp_55 ++ L))))))) hS ⟨il, il, il, il, il, il, il, il, il, il, il, il, il, il, il, il, trivial⟩ ?_)
 clear hS w
 refine Wd.nil fun w hS => ?_
 refine WQ.next (Sb [(1, v_5), (2, (pq b_7)), (4, (pq b_9)), (5, v_29), (7, (pq b_60)), (28, v_29), (29, i6 (c_54.length : Int)), (30, i6 x_509)] ?_)
 refine WC.sr ?_
 iterate 5 refine R hS ?_
 refine WL.nx ?_
 refine Cd ?_ ?_
 intro hc_1378
 replace hV := hV.1 (od hc_1378)
 refine WC.sr (Rn hS (ex_build (vs := []) (zc := #[.nilIface]) (cs := #[.nilIface]) (places := #[(0, 1)]) underlying25 zeroValue25 (fun w => by simp [sizeOf23]) rfl trivial rfl (by simp [Instr.fill, cells_int, cells_bool, cells_iface, cells_niliface, cells_slice, str_cells])) ?_)
 replace hS := hS.f5
 refine St1 #[.nilIface] sizeOf25 hS ?_
 clear hS
 intro w hS
 refine WL.nx (Sb [(4, (pq b_9))] ?_)
 replace hS := hS.f5.drop
 replace hS := hS.f5.drop
 replace hS := hS.f2.drop
 replace hS := hS.f3.drop
 replace hS := hS.f2.drop
 refine WC.ret (WQ.out nofun (Wp ?_))
 refine Wp ?_
 refine WQ.out nofun (Wp ?_)
 have hl_1377 := load_own_agg (P := Tryz.prog) (cs := [.nilIface]) isAgg25 sizeOf25 hS rfl
 replace hS := hS.drop
 exact leavec1 (il) rfl rfl hl_1377 (⟨Val.nil, .nilIface, H, hV, rfl, (View.le.refl _), IsW.nil, hS⟩)
 intro hc_1378
 replace hV := hV.2 (ov hc_1378)
 refine WC.skip (WQ.out nofun ?_)
 replace hS := hS.f2.f3.f3.f6.f6.f6
 exact Wt fun a ha => ⟨(c_498 ++ ([(ix keys_1 (ix c_54 x_509))])), (c_503 ++ ([(ix vals_4 (ix c_54 x_509))])), (c_507 + (r_1358 + r_1361)), v_1277, fp_1278, v_1314, fp_1315, hV, h_1279, h_1316, hi_1371, hS, ha.os⟩
 clear hJ_1214
 have hL_1215 := hS.freeze
 have le_1216 := hS.put_le
 refine WC.quiet (C := St w0 (H.put fp_55) ([(b_7, oc #[v_2] 42)] ++ ([(b_9, oc #[.nilIface] 25)] ++ ([(b_60, oc #[v_499, v_504, i6 c_507] 100)] ++ (fp_500 ++ (fp_505 ++ L)))))) mixed (by kernel_rfl) (hL_1215.drawn _) ?_
 have hS0 := hS
 clear hS
 iterate 3 refine Rq ?_
 rcases bft (decide ((0 : Int) < x_509)) with hg_1218 | hg_1218
 replace hV := hV.1 (od hg_1218)
 iterate 3 refine Rq ?_
 refine Uq hg_1218 ?_
 obtain ⟨hi_1220, hV⟩ := hV
 refine Rq ?_
 refine Uq hg_1218 ?_
 obtain ⟨hin_1221, hV⟩ := hV
 refine Wq.runx rfl rfl rfl (ex_index underlying130 sizeOf3 rfl rfl (h_56.share le_1216) hin_1221) ?_
 intro p_1222 hp_1223
 refine Uq hg_1218 ?_
 refine Wq.runx rfl rfl rfl (ex_load isAgg3 rfl rfl hp_1223) ?_
 intro u_1226 hu_1227
 obtain ⟨rfl, hr_1228⟩ := cInt_rep hu_1227
 replace hr_1228 := has_I64 hr_1228
 replace hV := hV hr_1228
 refine Uq hg_1218 ?_
 obtain ⟨hin_1229, hV⟩ := hV
 refine Wq.runx rfl rfl rfl (ex_index underlying42 sizeOf25 rfl rfl (h_3.mono le_1216) hin_1229) ?_
 intro p_1230 hp_1231
 refine Uq hg_1218 ?_
 refine Wq.runx rfl rfl rfl (ex_load_agg isAgg25 sizeOf25 rfl hp_1231) ?_
 rintro u_1232 ⟨_, rfl, hu⟩
 obtain ⟨u_1233, rfl, h_1234⟩ := cV_one hu
 iterate 2 refine Rq ?_
 refine Uq hg_1218 ?_
 obtain ⟨hin_1235, hV⟩ := hV
 refine Wq.runx rfl rfl rfl (ex_index underlying42 sizeOf25 rfl rfl (h_3.mono le_1216) hin_1235) ?_
 intro p_1236 hp_1237
 refine Uq hg_1218 ?_
 refine Wq.runx rfl rfl rfl (ex_load_agg isAgg25 sizeOf25 rfl hp_1237) ?_
 rintro u_1238 ⟨_, rfl, hu⟩
 obtain ⟨u_1239, rfl, h_1240⟩ := cV_one hu
 refine Uq hg_1218 ?_
 obtain ⟨mf_1244, r_1241, h_1243, hr_1242, hV⟩ := hV
 refine Wq.call (v := i6 r_1241) rfl rfl rfl (fun w => enters0 (vs := [.agg #[u_1233], .agg #[u_1239]]) call19 ⟨rfl, rfl, trivial⟩) (fun w hS => (S_Compare mf_1244 (Q := fun y0 => y0 = r_1241) h_1234 h_1240 hS h_1243).mono ?_) ?_
 rintro e w' ⟨_, rfl, he, _, hS⟩
 exact ⟨he, hS⟩
 iterate 2 refine Rq ?_
 refine Wq.nil fun w hS => ?_
 have hB_1246 := hS0.back hS
 clear hS
 have hS := hB_1246
 clear hS0
 replace hS := hS.f6.f6.f6.f4.f6.f6
 exact Wt fun a ha => ⟨decide (r_1241 = (0 : Int)), hV, hS, ha.os⟩
 replace hV := hV.2 (ov hg_1218)
 iterate 15 refine Rq ?_
 refine Wq.nil fun w hS => ?_
 have hB_1247 := hS0.back hS
 clear hS
 have hS := hB_1247
 clear hS0
 replace hS := hS.f6.f6.f6.f4.f6.f6
 exact Wt fun a ha => ⟨false, hV, hS, ha.os⟩
 intro hc_1392
 replace hV := hV.2 (ov hc_1392)
 refine WC.exit (Wp ?_)
 refine Wp ?_
 refine WQ.hit (WQ.next ?_)
 replace hS := hS.drop
 replace hS := hS.f2.drop
 refine WC.sr (R hS ?_)
 replace hS := hS.f3
 obtain ⟨H_1382, le_1383, h_1384, hS⟩ : ∃ K, View.le H K ∧ IsSl K cV v_499 c_498 ∧ St w0 K ([(b_9, oc #[.nilIface] 25)] ++ ([(b_60, oc #[v_499, v_504, i6 c_507] 100)] ++ (fp_505 ++ L))) w := ⟨_, hS.put_le, h_501.share hS.put_le, hS.freeze⟩
 replace hS := hS.f3
 obtain ⟨H_1385, le_1386, h_1387, hS⟩ : ∃ K, View.le H_1382 K ∧ IsSl K cV v_504 c_503 ∧ St w0 K ([(b_9, oc #[.nilIface] 25)] ++ ([(b_60, oc #[v_499, v_504, i6 c_507] 100)] ++ L)) w := ⟨_, hS.put_le, (h_506.mono le_1383).share hS.put_le, hS.freeze⟩
 replace hS := hS.f2
 refine Rn hS (ex_makeIface concrete97 rfl) ?_
 obtain ⟨H_1388, le_1389, h_1390, hS⟩ : ∃ K, View.le H_1385 K ∧ IsW K (.iface 97 ((pq b_60))) (Val.fn c_498 c_503 c_507) ∧ St w0 K ([(b_9, oc #[.nilIface] 25)] ++ L) w := ⟨_, hS.put_le, IsW.mkfn hS (h_1384.mono le_1386) h_1387 hr_508, hS.freeze⟩
 refine Rn hS (ex_build (vs := [.iface 97 ((pq b_60))]) (zc := #[.nilIface]) (cs := #[.iface 97 ((pq b_60))]) (places := #[(0, 1)]) underlying25 zeroValue25 (fun w => by simp [sizeOf23]) rfl ⟨rfl, trivial⟩ rfl (by simp [Instr.fill, cells_int, cells_bool, cells_iface, cells_niliface, cells_slice, str_cells, cells_ptr])) ?_
 refine St1 #[.iface 97 ((pq b_60))] sizeOf25 hS ?_
 clear hS
 intro w hS
 refine WL.nx (WC.ret ?_)
 have hl_1391 := load_own_agg (P := Tryz.prog) (cs := [.iface 97 ((pq b_60))]) isAgg25 sizeOf25 hS rfl
 replace hS := hS.drop
 exact leavec1 (il) rfl rfl hl_1391 (⟨(Val.fn c_498 c_503 c_507), (.iface 97 ((pq b_60))), H_1388, hV, rfl, ((((View.le.refl _).trans le_1383).trans le_1386).trans le_1389), h_1390, hS⟩)
theorem S_SequenceOf {w0 : World} {H : View} {L : Seg} {w : World} {v_2 : Value} {l_1 : List (Val)} {Q : Val → Prop} (h_3 : IsSl H cV v_2 l_1) (hS : St w0 H (L) w) (hV : V_SequenceOf l_1 Q) :
 Calls Tryz.prog 61 #[v_2] w fun e w' => ∃ (r1 : Val) (u1 : Value) (H' : View), Q r1 ∧ e = .returned (.agg #[u1]) ∧ View.le H H' ∧ IsW H' u1 r1 ∧ St w0 H' (L) w' := by
 unfold V_SequenceOf at hV
 refine enter func61 rfl ntmps61 rfl (lk_args_cons (d := 0) (v := v_2) rfl (lk_args_nil _)) (WC.sr (WL.alloc (arr := #[.nilIface]) rfl zeroValue25 rfl hS ?_))
 clear hS
 intro b_4 w hS
 refine WL.nx (WC.sr (R hS ?_))
 have hl_6 : Len l_1 := h_3.bound
 replace hV := hV hl_6
 refine Rn hS (ex_len_sl underlying42 rfl h_3) ?_
 obtain ⟨hm_11, hV⟩ := hV
 refine WL.makes (c := cV) (z0 := Val.nil) rfl underlying42 info25 (cV_mk IsW.nil) rfl rfl hm_11.1 hm_11.2.1 hm_11.2.2 hS ?_
 clear hS
 intro v_8 w fp_9 h_10 hS
 refine R hS ?_
 refine WL.nx (WC.seq (WC.sr (R hS ?_)))
 have hl_12 : Len (List.replicate (l_1.length : Int).toNat Val.nil) := h_10.bound
 replace hV := hV hl_12
 refine Rn hS (ex_len_own underlying42 rfl h_10) ?_
 refine R hS ?_
 refine WL.nx (WC.block ?_)
 replace hS := hS.f2
 obtain ⟨I_72, mu_73, hI_100, hV⟩ := hV
 refine WC.loop (σ := (List (Val)) × Int) (fun s a w => ∃ (keys_50 : List (Val)) (x_54 : Int) (H_47 : View) (v_51 : Value) (fp_52 : Seg), s = (keys_50, x_54) ∧ I_72 (keys_50, x_54) ∧ View.le H H_47 ∧ OwnSl H_47 cV 25 v_51 keys_50 fp_52 ∧ I64 x_54 ∧ St w0 H_47 ([(b_4, oc #[.nilIface] 25)] ++ (fp_52 ++ L)) w ∧ Fr 23 [(0, v_2), (2, (pq b_4)), (3, v_51), (9, i6 ((List.replicate (l_1.length : Int).toNat Val.nil).length : Int)), (10, i6 x_54)] a) mu_73 ((List.replicate (l_1.length : Int).toNat Val.nil), (0 : Int)) ?_ ?_
 exact fun a ha => ⟨(List.replicate (l_1.length : Int).toNat Val.nil), (0 : Int), H, v_8, fp_9, rfl, hI_100, (View.le.refl _), h_10, i0, hS, ha.os⟩
 clear hS hI_100
 rintro _ a w ⟨keys_50, x_54, H_47, v_51, fp_52, rfl, hI, le_48, h_53, hr_55, hS, ha⟩
 refine in_frame ha ?_
 clear ha
 replace hV := hV _ hI
 clear hI
 refine WC.sr (R hS ?_)
 refine WL.nx (WC.seq ?_)
 refine Cd ?_ ?_
 intro hc_99
 replace hV := hV.1 (od hc_99)
 refine WC.skip (WQ.next (WC.seq (WC.block (WC.sr ?_))))
 iterate 2 refine R hS ?_
 refine WL.nx (WC.region ?_)
 iterate 3 refine R hS ?_
 obtain ⟨hi_77, hV⟩ := hV
 refine R hS ?_
 refine Rc (enters0 (vs := [i6 (x_54 + (1 : Int))]) call100 ⟨rfl, trivial⟩) (S_Number hi_77 hS hV) ?_
 clear hV hS
 rintro _ w ⟨r_78, u_79, H_81, hV, rfl, le_82, h_80, hS⟩
 refine ⟨_, rfl, ?_⟩
 obtain ⟨hin_83, hV⟩ := hV
 refine Rx hS (ex_index_own underlying42 sizeOf25 rfl rfl (h_53.mono le_82) hin_83) ?_
 intro p_84 hp_85
 replace hS := hS.f2
 refine WL.store_own_agg (c := cV) (z := r_78) (m' := [u_79]) sizeOf25 rfl rfl rfl ⟨(IsW.one h_80), trivial⟩ (cV_mk h_80) hS (h_53.mono le_82) hp_85 hin_83 ?_
 clear hS
 intro w fp_87 h_86 hS
 refine WL.nil (WQ.out nofun (WQ.next (WC.region ?_)))
 obtain ⟨hi_89, hV⟩ := hV
 iterate 2 refine R hS ?_
 refine WL.nil ?_
 replace hS := hS.f2
 exact Wt fun a ha => ⟨((keys_50.set x_54.toNat r_78), (x_54 + (1 : Int))), ⟨(keys_50.set x_54.toNat r_78), (x_54 + (1 : Int)), H_81, v_51, fp_87, rfl, hV.1, (((View.le.refl _).trans le_48).trans le_82), h_86, hi_89, hS, ha.os⟩, hV.2⟩
 intro hc_99
 replace hV := hV.2 (ov hc_99)
 refine WC.exit (Wp ?_)
 refine Wp ?_
 refine WQ.hit (WQ.next (WC.sr ?_))
 iterate 2 refine R hS ?_
 replace hS := hS.f2
 obtain ⟨H_90, le_91, h_92, hS⟩ : ∃ K, View.le H_47 K ∧ IsSl K cV v_51 keys_50 ∧ St w0 K ([(b_4, oc #[.nilIface] 25)] ++ L) w := ⟨_, hS.put_le, h_53.share hS.put_le, hS.freeze⟩
 refine Rc (enters0 (vs := [v_51, v_2]) call65 ⟨rfl, rfl, trivial⟩) (S_FunctionOf h_92 ((h_3.mono le_48).mono le_91) hS hV) ?_
 clear hV hS
 rintro _ w ⟨r_93, u_94, H_96, hV, rfl, le_97, h_95, hS⟩
 refine ⟨_, rfl, ?_⟩
 refine St1 #[u_94] sizeOf25 hS ?_ (cs := [u_94]) (hone := ⟨(IsW.one h_95), trivial⟩)
 clear hS
 intro w hS
 refine WL.nx (WC.ret ?_)
 have hl_98 := load_own_agg (P := Tryz.prog) (cs := [u_94]) isAgg25 sizeOf25 hS rfl
 replace hS := hS.drop
 exact leavec1 (il) rfl rfl hl_98 (⟨r_93, u_94, H_96, hV, rfl, ((((View.le.refl _).trans le_48).trans le_91).trans le_97), h_95, hS⟩)
theorem S_fail {w0 : World} {H : View} {L : Seg} {w : World} {b_2 : Nat} {text_4 : Str} {xat_5 : Int} {deep_7 : Int} {heavy_9 : Bool} {err_10 : Int} {E : Int → Int → Prop} {Q : Prop} (hr_6 : I64 xat_5) (hr_8 : I64 deep_7) (hr_11 : I64 err_10) (hS : St w0 H ([(b_2, oc #[sv text_4, i6 xat_5, i6 deep_7, .bool heavy_9] 62)] ++ L) w) (hV : V_fail text_4 xat_5 deep_7 heavy_9 err_10 E Q) :
 Calls Tryz.prog 25 #[(pq b_2), i6 err_10] w fun e w' => (Q ∧ e = .returned (.tuple #[]) ∧ St w0 H ([(b_2, oc #[sv text_4, i6 xat_5, i6 deep_7, .bool heavy_9] 62)] ++ L) w') ∨ (∃ e1 a1, E e1 a1 ∧ e = .panicked (faultC e1 a1) ∧ ∃ H1, View.le H H1 ∧ St w0 H1 L w') := by
 unfold V_fail at hV
 refine enter func25 rfl ntmps25 rfl (lk_args_cons (d := 0) (v := (pq b_2)) rfl (lk_args_cons (d := 1) (v := i6 err_10) rfl (lk_args_nil _))) (WC.region ?_)
 iterate 5 refine R hS ?_
 refine Rn hS (ex_build (vs := [i6 err_10, i6 xat_5]) (zc := #[i6 0, i6 0]) (cs := #[i6 err_10, i6 xat_5]) (places := #[(0, 1), (1, 1)]) underlying59 zeroValue59 (fun w => by simp [sizeOf3, sizeOf57]) rfl ⟨rfl, rfl, trivial⟩ rfl (by simp [Instr.fill, cells_int, cells_bool, cells_iface, cells_niliface, cells_slice, str_cells])) ?_
 refine Rn hS (ex_makeIface concrete59 rfl) ?_
 refine WL.panic rfl ?_
 exact WQ.of fun a ha => And.intro ha.defers (.inr ⟨err_10, xat_5, hV, rfl, _, (View.le.refl _), hS.drop⟩)
theorem S_skip {w0 : World} {H : View} {L : Seg} {w : World} {b_2 : Nat} {text_4 : Str} {xat_5 : Int} {deep_7 : Int} {heavy_9 : Bool} {Q : Int → Prop} (hr_6 : I64 xat_5) (hr_8 : I64 deep_7) (hS : St w0 H ([(b_2, oc #[sv text_4, i6 xat_5, i6 deep_7, .bool heavy_9] 62)] ++ L) w) (hV : V_skip text_4 xat_5 deep_7 heavy_9 Q) :
 Calls Tryz.prog 24 #[(pq b_2)] w fun e w' => ∃ (r1 : Int), Q r1 ∧ e = .returned (.tuple #[]) ∧ I64 r1 ∧ St w0 H ([(b_2, oc #[sv text_4, i6 r1, i6 deep_7, .bool heavy_9] 62)] ++ L) w' := by
 unfold V_skip at hV
 refine enter func24 rfl ntmps24 rfl (lk_args_cons (d := 0) (v := (pq b_2)) rfl (lk_args_nil _)) (WC.block ?_)
 obtain ⟨I_56, mu_57, hI_81, hV⟩ := hV
 refine WC.loop (σ := Int) (fun s a w => ∃ (c_32 : Int), s = c_32 ∧ I_56 c_32 ∧ I64 c_32 ∧ St w0 H ([(b_2, oc #[sv text_4, i6 c_32, i6 deep_7, .bool heavy_9] 62)] ++ L) w ∧ Fr 32 [(0, (pq b_2))] a) mu_57 xat_5 ?_ ?_
 exact fun a ha => ⟨xat_5, rfl, hI_81, hr_6, hS, ha.os⟩
 clear hS hI_81
 rintro c_32 a w ⟨_, rfl, hI, hr_33, hS, ha⟩
 refine in_frame ha ?_
 clear ha
 replace hV := hV _ hI
 clear hI
 refine WC.seq ?_
 obtain ⟨J_68, hJ_69, hV⟩ := hV
 refine WC.meet (fun a w => ∃ (x_67 : Bool), J_68 x_67 ∧ St w0 H ([(b_2, oc #[sv text_4, i6 c_32, i6 deep_7, .bool heavy_9] 62)] ++ L) w ∧ Fr 32 [(0, (pq b_2)), (24, .bool x_67)] a) ?_ ?_
 rintro a w ⟨x_67, hI, hS, ha⟩
 refine in_frame ha ?_
 clear ha hV
 have hV := hJ_69 _ hI
 clear hI hJ_69
 refine Cd ?_ ?_
 intro hc_80
 replace hV := hV.1 hc_80
 refine WC.skip (WQ.next (WC.block (WC.region ?_)))
 iterate 4 refine R hS ?_
 obtain ⟨hi_79, hV⟩ := hV
 iterate 3 refine R hS ?_
 refine St1 #[sv text_4, i6 (c_32 + (1 : Int)), i6 deep_7, .bool heavy_9] sizeOf3 hS ?_
 clear hS
 intro w hS
 refine WL.nil (WQ.out nofun ?_)
 exact Wt fun a ha => ⟨(c_32 + (1 : Int)), ⟨(c_32 + (1 : Int)), rfl, hV.1, hi_79, hS, ha.os⟩, hV.2⟩
 intro hc_80
 replace hV := hV.2 hc_80
 refine WC.exit (Wp ?_)
 refine Wp ?_
 refine WQ.hit ?_
 exact leave0 (.inr rfl) rfl (⟨c_32, hV, rfl, hr_33, hS⟩)
 clear hJ_69
 refine WC.quiet (C := St w0 H ([(b_2, oc #[sv text_4, i6 c_32, i6 deep_7, .bool heavy_9] 62)] ++ L)) mixed (by kernel_rfl) (hS.drawn _) ?_
 clear hS w
 iterate 8 refine Rq ?_
 obtain ⟨hl_70, hV⟩ := hV
 iterate 3 refine Rq ?_
 rcases bft (decide (c_32 < (text_4.length : Int))) with hg_72 | hg_72
 replace hV := hV.1 (od hg_72)
 iterate 8 refine Rq ?_
 refine Uq hg_72 ?_
 obtain ⟨hin_73, hV⟩ := hV
 refine Rq ?_
 refine Uq hg_72 ?_
 obtain ⟨r_74, h_76, hr_75, hV⟩ := hV
 refine Wq.call (v := i6 r_74) rfl rfl rfl (fun w => enters0 (vs := [sv ([32, 9, 10] : Str), .int .u8 (byte text_4 c_32)]) call67 ⟨rfl, rfl, trivial⟩) (fun w hS => (S_IndexByte (Q := fun y0 => y0 = r_74) (byte_has (x := text_4) (i := c_32)) hS h_76).mono ?_) ?_
 rintro e w' ⟨_, rfl, he, _, hS⟩
 exact ⟨he, hS⟩
 iterate 2 refine Rq ?_
 refine Wq.nil fun w hS => ?_
 exact Wt fun a ha => ⟨decide ((0 : Int) ≤ r_74), hV, hS, ha.os⟩
 replace hV := hV.2 (ov hg_72)
 iterate 12 refine Rq ?_
 refine Wq.nil fun w hS => ?_
 exact Wt fun a ha => ⟨false, hV, hS, ha.os⟩
theorem S_hasPre0 {w0 : World} {H : View} {L : Seg} {w : World} {s_1 : Str} {prefix_2 : Str} {Q : Bool → Prop}  (hS : St w0 H (L) w) (hV : V_hasPre0 s_1 prefix_2 Q) :
 Calls Tryz.prog 94 #[sv s_1, sv prefix_2] w fun e w' => ∃ (r1 : Bool), Q r1 ∧ e = .returned (.bool r1) ∧ St w0 H (L) w' := by
 unfold V_hasPre0 at hV
 refine enter func94 rfl ntmps94 rfl (lk_args_cons (d := 0) (v := sv s_1) rfl (lk_args_cons (d := 1) (v := sv prefix_2) rfl (lk_args_nil _))) (WC.sr (R hS ?_))
 refine WL.nx ?_
 obtain ⟨J_10, hJ_11, hV⟩ := hV
 refine WC.meet (fun a w => ∃ (x_9 : Bool), J_10 x_9 ∧ St w0 H (L) w ∧ Fr 18 [(4, .bool x_9)] a) ?_ ?_
 rintro a w ⟨x_9, hI, hS, ha⟩
 refine in_frame ha ?_
 clear ha hV
 have hV := hJ_11 _ hI
 clear hI hJ_11
 refine WC.ret ?_
 exact leave1 rfl rfl (⟨x_9, hV, rfl, hS⟩)
 clear hJ_11
 refine WC.region (R hS ?_)
 obtain ⟨hl_12, hV⟩ := hV
 iterate 2 refine R hS ?_
 obtain ⟨hl_13, hV⟩ := hV
 iterate 3 refine R hS ?_
 rcases bft (decide ((prefix_2.length : Int) ≤ (s_1.length : Int))) with hg_15 | hg_15
 replace hV := hV.1 (od hg_15)
 iterate 2 refine R hS ?_
 refine Ug hg_15 ?_
 obtain ⟨hl_16, hV⟩ := hV
 refine R hS ?_
 refine Ug hg_15 ?_
 obtain ⟨hb_17, hV⟩ := hV
 refine Rn hS (ex_s_hi underlying9 rfl rfl hb_17) ?_
 iterate 4 refine R hS ?_
 refine WL.nil ?_
 exact Wt fun a ha => ⟨decide ((s_1.take (prefix_2.length : Int).toNat) = prefix_2), hV, hS, ha.os⟩
 replace hV := hV.2 (ov hg_15)
 iterate 8 refine R hS ?_
 refine WL.nil ?_
 exact Wt fun a ha => ⟨false, hV, hS, ha.os⟩
theorem S_hasPre {w0 : World} {H : View} {L : Seg} {w : World} {s_1 : Str} {prefix_2 : Str} {Q : Bool → Prop}  (hS : St w0 H (L) w) (hV : V_hasPre s_1 prefix_2 Q) :
 Calls Tryz.prog 57 #[sv s_1, sv prefix_2] w fun e w' => ∃ (r1 : Bool), Q r1 ∧ e = .returned (.bool r1) ∧ St w0 H (L) w' := by
 unfold V_hasPre at hV
 refine enter func57 rfl ntmps57 rfl (lk_args_cons (d := 0) (v := sv s_1) rfl (lk_args_cons (d := 1) (v := sv prefix_2) rfl (lk_args_nil _))) (WC.sr (R hS ?_))
 refine WL.nx (WC.sr ?_)
 iterate 2 refine R hS ?_
 refine Rc (enters0 (vs := [sv s_1, sv prefix_2]) call94 ⟨rfl, rfl, trivial⟩) (S_hasPre0  hS hV) ?_
 clear hV hS
 rintro _ w ⟨r_3, hV, rfl, hS⟩
 refine ⟨_, rfl, ?_⟩
 refine R hS ?_
 refine WL.nx (WC.ret ?_)
 exact leave1 rfl rfl (⟨r_3, hV, rfl, hS⟩)
theorem S_take {w0 : World} {H : View} {L : Seg} {w : World} {b_2 : Nat} {text_4 : Str} {xat_5 : Int} {deep_7 : Int} {heavy_9 : Bool} {sign_10 : Str} {Q : Bool → Int → Prop} (hr_6 : I64 xat_5) (hr_8 : I64 deep_7) (hS : St w0 H ([(b_2, oc #[sv text_4, i6 xat_5, i6 deep_7, .bool heavy_9] 62)] ++ L) w) (hV : V_take text_4 xat_5 deep_7 heavy_9 sign_10 Q) :
 Calls Tryz.prog 95 #[(pq b_2), sv sign_10] w fun e w' => ∃ (r1 : Bool) (r2 : Int), Q r1 r2 ∧ e = .returned (.bool r1) ∧ I64 r2 ∧ St w0 H ([(b_2, oc #[sv text_4, i6 r2, i6 deep_7, .bool heavy_9] 62)] ++ L) w' := by
 unfold V_take at hV
 refine enter func95 rfl ntmps95 rfl (lk_args_cons (d := 0) (v := (pq b_2)) rfl (lk_args_cons (d := 1) (v := sv sign_10) rfl (lk_args_nil _))) (WC.sr (R hS ?_))
 refine WL.nx (WC.sr (R hS ?_))
 refine Rc (enters0 (vs := [(pq b_2)]) call24 ⟨rfl, trivial⟩) (S_skip hr_6 hr_8 hS hV) ?_
 clear hV hS
 rintro _ w ⟨r_11, hV, rfl, hr_12, hS⟩
 refine ⟨_, rfl, ?_⟩
 refine WL.nx (WC.seq (WC.seq (WC.drawn (σ := [0, 1, 2, 3, 4, 5, 6, 7, 8, 9, 10]) (C := St w0 H ([(b_2, oc #[sv text_4, i6 r_11, i6 deep_7, .bool heavy_9] 62)] ++ L)) [[], [0], [0, 1], [0, 1, 2], [], [4], [4, 5], [4, 5, 6], [0, 1, 2, 3, 4, 5, 6, 7], [], [0, 1, 2, 3, 4, 5, 6, 7, 8, 9]] [10] mixed (by kernel_rfl) (hS.drawn _) ?_)))
 clear hS w
 refine Dm fun q_15 hq_14 => ?_
 refine Wd.run rfl rfl rfl rfl (fun _ => ex_nilCheck rfl) fun q_17 hq_16 => ?_
 refine Wd.run rfl rfl rfl rfl (fun _ => ex_fieldAddr (o' := 0) underlying62 rfl sizeOf9 rfl rfl) fun q_19 hq_18 => ?_
 refine Wd.runb (off := 0) rfl rfl rfl rfl (fun _ _ _ h => ex_load_box isAgg9 rfl h) rfl (fun _ h => h) fun q_21 hq_20 => ?_
 refine Dm fun q_23 hq_22 => ?_
 refine Wd.run rfl rfl rfl rfl (fun _ => ex_nilCheck rfl) fun q_25 hq_24 => ?_
 refine Wd.run rfl rfl rfl rfl (fun _ => ex_fieldAddr (o' := 1) underlying62 rfl sizeOf3 rfl rfl) fun q_27 hq_26 => ?_
 refine Wd.runb (off := 1) rfl rfl rfl rfl (fun _ _ _ h => ex_load_box isAgg3 rfl h) rfl (fun _ h => h) fun q_29 hq_28 => ?_
 obtain ⟨hb_32, hV⟩ := hV
 refine Wd.run rfl rfl rfl rfl (fun _ => ex_s_lo underlying9 rfl rfl hb_32) fun q_31 hq_30 => ?_
 refine Dm fun q_34 hq_33 => ?_
 refine Wd.turn rfl rfl rfl fun w hS => ?_
 refine Rc (enters0 (vs := [sv (text_4.drop r_11.toNat), sv sign_10]) call57 ⟨rfl, rfl, trivial⟩) (S_hasPre  hS hV) ?_
 clear hV hS
 rintro _ w ⟨r_35, hV, rfl, hS⟩
 refine ⟨_, rfl, ?_⟩
 refine WL.nil (DQ.mk2 (C' := St w0 H ([(b_2, oc #[sv text_4, i6 r_11, i6 deep_7, .bool heavy_9] 62)] ++ L)) hS ⟨il, il, il, il, il, il, il, il, il, il, trivial⟩ ?_)
 clear hS w
 refine Wd.nil fun w hS => ?_
 refine WQ.next (Sb [(0, (pq b_2)), (1, sv sign_10), (17, .bool r_35)] ?_)
 refine Cd ?_ ?_
 intro hc_40
 replace hV := hV.1 hc_40
 refine WC.sr ?_
 iterate 5 refine R hS ?_
 obtain ⟨hl_37, hV⟩ := hV
 refine R hS ?_
 obtain ⟨hi_39, hV⟩ := hV
 iterate 3 refine R hS ?_
 refine St1 #[sv text_4, i6 (r_11 + (sign_10.length : Int)), i6 deep_7, .bool heavy_9] sizeOf3 hS ?_
 clear hS
 intro w hS
 refine WL.nx (WC.sub (m := []) trivial (WC.sr (R hS ?_)))
 refine WL.nx (WC.ret (Wp ?_))
 exact leave1 rfl rfl (⟨true, (r_11 + (sign_10.length : Int)), hV, rfl, hi_39, hS⟩)
 intro hc_40
 replace hV := hV.2 hc_40
 refine WC.skip (WQ.next (WC.sr (R hS ?_)))
 refine WL.nx (WC.ret ?_)
 exact leave1 rfl rfl (⟨false, r_11, hV, rfl, hr_12, hS⟩)
theorem S_want {w0 : World} {H : View} {L : Seg} {w : World} {b_2 : Nat} {text_4 : Str} {xat_5 : Int} {deep_7 : Int} {heavy_9 : Bool} {sign_10 : Str} {E : Int → Int → Prop} {Q : Int → Prop} (hr_6 : I64 xat_5) (hr_8 : I64 deep_7) (hS : St w0 H ([(b_2, oc #[sv text_4, i6 xat_5, i6 deep_7, .bool heavy_9] 62)] ++ L) w) (hV : V_want text_4 xat_5 deep_7 heavy_9 sign_10 E Q) :
 Calls Tryz.prog 64 #[(pq b_2), sv sign_10] w fun e w' => (∃ (r1 : Int), Q r1 ∧ e = .returned (.tuple #[]) ∧ I64 r1 ∧ St w0 H ([(b_2, oc #[sv text_4, i6 r1, i6 deep_7, .bool heavy_9] 62)] ++ L) w') ∨ (∃ e1 a1, E e1 a1 ∧ e = .panicked (faultC e1 a1) ∧ ∃ H1, View.le H H1 ∧ St w0 H1 L w') := by
 unfold V_want at hV
 refine enter func64 rfl ntmps64 rfl (lk_args_cons (d := 0) (v := (pq b_2)) rfl (lk_args_cons (d := 1) (v := sv sign_10) rfl (lk_args_nil _))) (WC.sr ?_)
 iterate 2 refine R hS ?_
 refine Rc (enters0 (vs := [(pq b_2), sv sign_10]) call95 ⟨rfl, rfl, trivial⟩) (S_take hr_6 hr_8 hS hV) ?_
 clear hV hS
 rintro _ w ⟨r_11, r_12, hV, rfl, hr_13, hS⟩
 refine ⟨_, rfl, ?_⟩
 refine R hS ?_
 refine WL.nx ?_
 refine Cd ?_ ?_
 intro hc_21
 replace hV := hV.1 hc_21
 refine WC.region (R hS ?_)
 refine WL.callP rfl rfl rfl (enters0 (vs := [(pq b_2), i6 (1 : Int)]) call25 ⟨rfl, rfl, trivial⟩) (S_fail hr_13 hr_8 (show I64 (1 : Int) by unfold I64; omega) hS hV) (by rintro _ w ⟨e_16, xat_17, hE_18, rfl, H_19, le_20, hS⟩; exact ⟨_, rfl, WQ.of fun a ha => And.intro ha.defers (.inr ⟨e_16, xat_17, hE_18, rfl, _, ((View.le.refl _).trans le_20), hS⟩)⟩) ?_
 clear hV hS
 rintro _ w ⟨hV, rfl, hS⟩
 refine ⟨_, rfl, ?_⟩
 refine WL.nil ?_
 exact leave0 (.inr rfl) rfl (.inl ⟨r_12, hV, rfl, hr_13, hS⟩)
 intro hc_21
 replace hV := hV.2 hc_21
 refine WC.skip ?_
 exact leave0 (.inr rfl) rfl (.inl ⟨r_12, hV, rfl, hr_13, hS⟩)
theorem S_inWord {w0 : World} {H : View} {L : Seg} {w : World} {c_1 : Int} {Q : Bool → Prop} (hr_2 : IntKind.u8.has c_1) (hS : St w0 H (L) w) (hV : V_inWord c_1 Q) :
 Calls Tryz.prog 193 #[.int .u8 c_1] w fun e w' => ∃ (r1 : Bool), Q r1 ∧ e = .returned (.bool r1) ∧ St w0 H (L) w' := by
 unfold V_inWord at hV
 refine enter func193 rfl ntmps193 rfl (lk_args_cons (d := 0) (v := .int .u8 c_1) rfl (lk_args_nil _)) (WC.sr (R hS ?_))
 refine WL.nx (WC.seq ?_)
 refine WC.via (m := [(2, .bool (decide ((((((97 : Int) ≤ c_1) ∧ (c_1 ≤ (122 : Int))) ∨ (((65 : Int) ≤ c_1) ∧ (c_1 ≤ (90 : Int)))) ∨ (((48 : Int) ≤ c_1) ∧ (c_1 ≤ (57 : Int)))) ∨ (c_1 = (95 : Int)))))]) ?_ ?_
 refine WC.region ?_
 iterate 3 refine R hS ?_
 rcases bft (decide ((97 : Int) ≤ c_1)) with hg_3 | hg_3
 iterate 3 refine R hS ?_
 refine WL.up (s := 8) rfl (and_t hg_3 : decide (c_1 ≤ (122 : Int)) = decide (((97 : Int) ≤ c_1) ∧ (c_1 ≤ (122 : Int)))) (R hS ?_)
 rcases bft (decide (((97 : Int) ≤ c_1) ∧ (c_1 ≤ (122 : Int)))) with hg_4 | hg_4
 iterate 7 refine R hS ?_
 refine WL.up (s := 16) rfl (or_t hg_4 : true = decide ((((97 : Int) ≤ c_1) ∧ (c_1 ≤ (122 : Int))) ∨ (((65 : Int) ≤ c_1) ∧ (c_1 ≤ (90 : Int))))) (R hS ?_)
 refine WL.skip_g rfl rfl rfl (or_t hg_4).symm rfl rfl (WL.skip_g rfl rfl rfl (or_t hg_4).symm rfl rfl (WL.skip_g rfl rfl rfl (or_t hg_4).symm rfl rfl ?_))
 iterate 2 refine R hS ?_
 refine WL.skip_g rfl rfl rfl (or_t hg_4).symm rfl rfl (Rn hS (ex_pick_t rfl (or_t hg_4).symm rfl) ?_)
 refine WL.up (s := 24) rfl (or_t (or_t hg_4).symm : true = decide (((((97 : Int) ≤ c_1) ∧ (c_1 ≤ (122 : Int))) ∨ (((65 : Int) ≤ c_1) ∧ (c_1 ≤ (90 : Int)))) ∨ (((48 : Int) ≤ c_1) ∧ (c_1 ≤ (57 : Int))))) (R hS ?_)
 refine WL.skip_g rfl rfl rfl (or_t (or_t hg_4).symm).symm rfl rfl (WL.skip_g rfl rfl rfl (or_t (or_t hg_4).symm).symm rfl rfl (Rn hS (ex_pick_t rfl (or_t (or_t hg_4).symm).symm rfl) ?_))
 refine WL.up (s := 28) rfl (or_t (or_t (or_t hg_4).symm).symm : true = decide ((((((97 : Int) ≤ c_1) ∧ (c_1 ≤ (122 : Int))) ∨ (((65 : Int) ≤ c_1) ∧ (c_1 ≤ (90 : Int)))) ∨ (((48 : Int) ≤ c_1) ∧ (c_1 ≤ (57 : Int)))) ∨ (c_1 = (95 : Int)))) (R hS ?_)
 exact WL.nil At.os
 iterate 3 refine R hS ?_
 rcases bft (decide ((65 : Int) ≤ c_1)) with hg_5 | hg_5
 iterate 3 refine R hS ?_
 refine WL.up (s := 15) rfl (and_t hg_5 : decide (c_1 ≤ (90 : Int)) = decide (((65 : Int) ≤ c_1) ∧ (c_1 ≤ (90 : Int)))) (R hS ?_)
 refine WL.up (s := 16) rfl (or_f hg_4 : decide (((65 : Int) ≤ c_1) ∧ (c_1 ≤ (90 : Int))) = decide ((((97 : Int) ≤ c_1) ∧ (c_1 ≤ (122 : Int))) ∨ (((65 : Int) ≤ c_1) ∧ (c_1 ≤ (90 : Int))))) (R hS ?_)
 rcases bft (decide ((((97 : Int) ≤ c_1) ∧ (c_1 ≤ (122 : Int))) ∨ (((65 : Int) ≤ c_1) ∧ (c_1 ≤ (90 : Int))))) with hg_6 | hg_6
 iterate 7 refine R hS ?_
 refine WL.up (s := 24) rfl (or_t hg_6 : true = decide (((((97 : Int) ≤ c_1) ∧ (c_1 ≤ (122 : Int))) ∨ (((65 : Int) ≤ c_1) ∧ (c_1 ≤ (90 : Int)))) ∨ (((48 : Int) ≤ c_1) ∧ (c_1 ≤ (57 : Int))))) (R hS ?_)
 refine WL.skip_g rfl rfl rfl (or_t hg_6).symm rfl rfl (WL.skip_g rfl rfl rfl (or_t hg_6).symm rfl rfl (Rn hS (ex_pick_t rfl (or_t hg_6).symm rfl) ?_))
 refine WL.up (s := 28) rfl (or_t (or_t hg_6).symm : true = decide ((((((97 : Int) ≤ c_1) ∧ (c_1 ≤ (122 : Int))) ∨ (((65 : Int) ≤ c_1) ∧ (c_1 ≤ (90 : Int)))) ∨ (((48 : Int) ≤ c_1) ∧ (c_1 ≤ (57 : Int)))) ∨ (c_1 = (95 : Int)))) (R hS ?_)
 exact WL.nil At.os
 iterate 3 refine R hS ?_
 rcases bft (decide ((48 : Int) ≤ c_1)) with hg_7 | hg_7
 iterate 3 refine R hS ?_
 refine WL.up (s := 23) rfl (and_t hg_7 : decide (c_1 ≤ (57 : Int)) = decide (((48 : Int) ≤ c_1) ∧ (c_1 ≤ (57 : Int)))) (R hS ?_)
 refine WL.up (s := 24) rfl (or_f hg_6 : decide (((48 : Int) ≤ c_1) ∧ (c_1 ≤ (57 : Int))) = decide (((((97 : Int) ≤ c_1) ∧ (c_1 ≤ (122 : Int))) ∨ (((65 : Int) ≤ c_1) ∧ (c_1 ≤ (90 : Int)))) ∨ (((48 : Int) ≤ c_1) ∧ (c_1 ≤ (57 : Int))))) (R hS ?_)
 rcases bft (decide (((((97 : Int) ≤ c_1) ∧ (c_1 ≤ (122 : Int))) ∨ (((65 : Int) ≤ c_1) ∧ (c_1 ≤ (90 : Int)))) ∨ (((48 : Int) ≤ c_1) ∧ (c_1 ≤ (57 : Int))))) with hg_8 | hg_8
 iterate 3 refine R hS ?_
 refine WL.up (s := 28) rfl (or_t hg_8 : true = decide ((((((97 : Int) ≤ c_1) ∧ (c_1 ≤ (122 : Int))) ∨ (((65 : Int) ≤ c_1) ∧ (c_1 ≤ (90 : Int)))) ∨ (((48 : Int) ≤ c_1) ∧ (c_1 ≤ (57 : Int)))) ∨ (c_1 = (95 : Int)))) (R hS ?_)
 exact WL.nil At.os
 iterate 3 refine R hS ?_
 refine WL.up (s := 28) rfl (or_f hg_8 : decide (c_1 = (95 : Int)) = decide ((((((97 : Int) ≤ c_1) ∧ (c_1 ≤ (122 : Int))) ∨ (((65 : Int) ≤ c_1) ∧ (c_1 ≤ (90 : Int)))) ∨ (((48 : Int) ≤ c_1) ∧ (c_1 ≤ (57 : Int)))) ∨ (c_1 = (95 : Int)))) (R hS ?_)
 exact WL.nil At.os
 iterate 3 refine R hS ?_
 refine WL.up (s := 23) rfl (and_f hg_7 : false = decide (((48 : Int) ≤ c_1) ∧ (c_1 ≤ (57 : Int)))) (R hS ?_)
 refine WL.up (s := 24) rfl (or_f hg_6 : decide (((48 : Int) ≤ c_1) ∧ (c_1 ≤ (57 : Int))) = decide (((((97 : Int) ≤ c_1) ∧ (c_1 ≤ (122 : Int))) ∨ (((65 : Int) ≤ c_1) ∧ (c_1 ≤ (90 : Int)))) ∨ (((48 : Int) ≤ c_1) ∧ (c_1 ≤ (57 : Int))))) (R hS ?_)
 rcases bft (decide (((((97 : Int) ≤ c_1) ∧ (c_1 ≤ (122 : Int))) ∨ (((65 : Int) ≤ c_1) ∧ (c_1 ≤ (90 : Int)))) ∨ (((48 : Int) ≤ c_1) ∧ (c_1 ≤ (57 : Int))))) with hg_9 | hg_9
 iterate 3 refine R hS ?_
 refine WL.up (s := 28) rfl (or_t hg_9 : true = decide ((((((97 : Int) ≤ c_1) ∧ (c_1 ≤ (122 : Int))) ∨ (((65 : Int) ≤ c_1) ∧ (c_1 ≤ (90 : Int)))) ∨ (((48 : Int) ≤ c_1) ∧ (c_1 ≤ (57 : Int)))) ∨ (c_1 = (95 : Int)))) (R hS ?_)
 exact WL.nil At.os
 iterate 3 refine R hS ?_
 refine WL.up (s := 28) rfl (or_f hg_9 : decide (c_1 = (95 : Int)) = decide ((((((97 : Int) ≤ c_1) ∧ (c_1 ≤ (122 : Int))) ∨ (((65 : Int) ≤ c_1) ∧ (c_1 ≤ (90 : Int)))) ∨ (((48 : Int) ≤ c_1) ∧ (c_1 ≤ (57 : Int)))) ∨ (c_1 = (95 : Int)))) (R hS ?_)
 exact WL.nil At.os
 iterate 3 refine R hS ?_
 refine WL.up (s := 15) rfl (and_f hg_5 : false = decide (((65 : Int) ≤ c_1) ∧ (c_1 ≤ (90 : Int)))) (R hS ?_)
 refine WL.up (s := 16) rfl (or_f hg_4 : decide (((65 : Int) ≤ c_1) ∧ (c_1 ≤ (90 : Int))) = decide ((((97 : Int) ≤ c_1) ∧ (c_1 ≤ (122 : Int))) ∨ (((65 : Int) ≤ c_1) ∧ (c_1 ≤ (90 : Int))))) (R hS ?_)
 rcases bft (decide ((((97 : Int) ≤ c_1) ∧ (c_1 ≤ (122 : Int))) ∨ (((65 : Int) ≤ c_1) ∧ (c_1 ≤ (90 : Int))))) with hg_10 | hg_10
 iterate 7 refine R hS ?_
 refine WL.up (s := 24) rfl (or_t hg_10 : true = decide (((((97 : Int) ≤ c_1) ∧ (c_1 ≤ (122 : Int))) ∨ (((65 : Int) ≤ c_1) ∧ (c_1 ≤ (90 : Int)))) ∨ (((48 : Int) ≤ c_1) ∧ (c_1 ≤ (57 : Int))))) (R hS ?_)
 refine WL.skip_g rfl rfl rfl (or_t hg_10).symm rfl rfl (WL.skip_g rfl rfl rfl (or_t hg_10).symm rfl rfl (Rn hS (ex_pick_t rfl (or_t hg_10).symm rfl) ?_))
 refine WL.up (s := 28) rfl (or_t (or_t hg_10).symm : true = decide ((((((97 : Int) ≤ c_1) ∧ (c_1 ≤ (122 : Int))) ∨ (((65 : Int) ≤ c_1) ∧ (c_1 ≤ (90 : Int)))) ∨ (((48 : Int) ≤ c_1) ∧ (c_1 ≤ (57 : Int)))) ∨ (c_1 = (95 : Int)))) (R hS ?_)
 exact WL.nil At.os
 iterate 3 refine R hS ?_
 rcases bft (decide ((48 : Int) ≤ c_1)) with hg_11 | hg_11
 iterate 3 refine R hS ?_
 refine WL.up (s := 23) rfl (and_t hg_11 : decide (c_1 ≤ (57 : Int)) = decide (((48 : Int) ≤ c_1) ∧ (c_1 ≤ (57 : Int)))) (R hS ?_)
 refine WL.up (s := 24) rfl (or_f hg_10 : decide (((48 : Int) ≤ c_1) ∧ (c_1 ≤ (57 : Int))) = decide (((((97 : Int) ≤ c_1) ∧ (c_1 ≤ (122 : Int))) ∨ (((65 : Int) ≤ c_1) ∧ (c_1 ≤ (90 : Int)))) ∨ (((48 : Int) ≤ c_1) ∧ (c_1 ≤ (57 : Int))))) (R hS ?_)
 rcases bft (decide (((((97 : Int) ≤ c_1) ∧ (c_1 ≤ (122 : Int))) ∨ (((65 : Int) ≤ c_1) ∧ (c_1 ≤ (90 : Int)))) ∨ (((48 : Int) ≤ c_1) ∧ (c_1 ≤ (57 : Int))))) with hg_12 | hg_12
 iterate 3 refine R hS ?_
 refine WL.up (s := 28) rfl (or_t hg_12 : true = decide ((((((97 : Int) ≤ c_1) ∧ (c_1 ≤ (122 : Int))) ∨ (((65 : Int) ≤ c_1) ∧ (c_1 ≤ (90 : Int)))) ∨ (((48 : Int) ≤ c_1) ∧ (c_1 ≤ (57 : Int)))) ∨ (c_1 = (95 : Int)))) (R hS ?_)
 exact WL.nil At.os
 iterate 3 refine R hS ?_
 refine WL.up (s := 28) rfl (or_f hg_12 : decide (c_1 = (95 : Int)) = decide ((((((97 : Int) ≤ c_1) ∧ (c_1 ≤ (122 : Int))) ∨ (((65 : Int) ≤ c_1) ∧ (c_1 ≤ (90 : Int)))) ∨ (((48 : Int) ≤ c_1) ∧ (c_1 ≤ (57 : Int)))) ∨ (c_1 = (95 : Int)))) (R hS ?_)
 exact WL.nil At.os
 iterate 3 refine R hS ?_
 refine WL.up (s := 23) rfl (and_f hg_11 : false = decide (((48 : Int) ≤ c_1) ∧ (c_1 ≤ (57 : Int)))) (R hS ?_)
 refine WL.up (s := 24) rfl (or_f hg_10 : decide (((48 : Int) ≤ c_1) ∧ (c_1 ≤ (57 : Int))) = decide (((((97 : Int) ≤ c_1) ∧ (c_1 ≤ (122 : Int))) ∨ (((65 : Int) ≤ c_1) ∧ (c_1 ≤ (90 : Int)))) ∨ (((48 : Int) ≤ c_1) ∧ (c_1 ≤ (57 : Int))))) (R hS ?_)
 rcases bft (decide (((((97 : Int) ≤ c_1) ∧ (c_1 ≤ (122 : Int))) ∨ (((65 : Int) ≤ c_1) ∧ (c_1 ≤ (90 : Int)))) ∨ (((48 : Int) ≤ c_1) ∧ (c_1 ≤ (57 : Int))))) with hg_13 | hg_13
 iterate 3 refine R hS ?_
 refine WL.up (s := 28) rfl (or_t hg_13 : true = decide ((((((97 : Int) ≤ c_1) ∧ (c_1 ≤ (122 : Int))) ∨ (((65 : Int) ≤ c_1) ∧ (c_1 ≤ (90 : Int)))) ∨ (((48 : Int) ≤ c_1) ∧ (c_1 ≤ (57 : Int)))) ∨ (c_1 = (95 : Int)))) (R hS ?_)
 exact WL.nil At.os
 iterate 3 refine R hS ?_
 refine WL.up (s := 28) rfl (or_f hg_13 : decide (c_1 = (95 : Int)) = decide ((((((97 : Int) ≤ c_1) ∧ (c_1 ≤ (122 : Int))) ∨ (((65 : Int) ≤ c_1) ∧ (c_1 ≤ (90 : Int)))) ∨ (((48 : Int) ≤ c_1) ∧ (c_1 ≤ (57 : Int)))) ∨ (c_1 = (95 : Int)))) (R hS ?_)
 exact WL.nil At.os
 iterate 3 refine R hS ?_
 refine WL.up (s := 8) rfl (and_f hg_3 : false = decide (((97 : Int) ≤ c_1) ∧ (c_1 ≤ (122 : Int)))) (R hS ?_)
 refine Ug (and_f hg_3).symm ?_
 refine R hS ?_
 refine Ug (and_f hg_3).symm ?_
 refine R hS ?_
 refine Ug (and_f hg_3).symm ?_
 refine R hS ?_
 rcases bft (decide ((65 : Int) ≤ c_1)) with hg_14 | hg_14
 iterate 2 refine R hS ?_
 refine Ug (and_f hg_3).symm ?_
 refine R hS ?_
 refine WL.up (s := 15) rfl (and_t hg_14 : decide (c_1 ≤ (90 : Int)) = decide (((65 : Int) ≤ c_1) ∧ (c_1 ≤ (90 : Int)))) (Rn hS (ex_pick_f rfl (and_f hg_3).symm rfl) ?_)
 refine WL.up (s := 16) rfl (or_f (and_f hg_3).symm : decide (((65 : Int) ≤ c_1) ∧ (c_1 ≤ (90 : Int))) = decide ((((97 : Int) ≤ c_1) ∧ (c_1 ≤ (122 : Int))) ∨ (((65 : Int) ≤ c_1) ∧ (c_1 ≤ (90 : Int))))) (R hS ?_)
 rcases bft (decide ((((97 : Int) ≤ c_1) ∧ (c_1 ≤ (122 : Int))) ∨ (((65 : Int) ≤ c_1) ∧ (c_1 ≤ (90 : Int))))) with hg_15 | hg_15
 iterate 7 refine R hS ?_
 refine WL.up (s := 24) rfl (or_t hg_15 : true = decide (((((97 : Int) ≤ c_1) ∧ (c_1 ≤ (122 : Int))) ∨ (((65 : Int) ≤ c_1) ∧ (c_1 ≤ (90 : Int)))) ∨ (((48 : Int) ≤ c_1) ∧ (c_1 ≤ (57 : Int))))) (R hS ?_)
 refine WL.skip_g rfl rfl rfl (or_t hg_15).symm rfl rfl (WL.skip_g rfl rfl rfl (or_t hg_15).symm rfl rfl (Rn hS (ex_pick_t rfl (or_t hg_15).symm rfl) ?_))
 refine WL.up (s := 28) rfl (or_t (or_t hg_15).symm : true = decide ((((((97 : Int) ≤ c_1) ∧ (c_1 ≤ (122 : Int))) ∨ (((65 : Int) ≤ c_1) ∧ (c_1 ≤ (90 : Int)))) ∨ (((48 : Int) ≤ c_1) ∧ (c_1 ≤ (57 : Int)))) ∨ (c_1 = (95 : Int)))) (R hS ?_)
 exact WL.nil At.os
 iterate 3 refine R hS ?_
 rcases bft (decide ((48 : Int) ≤ c_1)) with hg_16 | hg_16
 iterate 3 refine R hS ?_
 refine WL.up (s := 23) rfl (and_t hg_16 : decide (c_1 ≤ (57 : Int)) = decide (((48 : Int) ≤ c_1) ∧ (c_1 ≤ (57 : Int)))) (R hS ?_)
 refine WL.up (s := 24) rfl (or_f hg_15 : decide (((48 : Int) ≤ c_1) ∧ (c_1 ≤ (57 : Int))) = decide (((((97 : Int) ≤ c_1) ∧ (c_1 ≤ (122 : Int))) ∨ (((65 : Int) ≤ c_1) ∧ (c_1 ≤ (90 : Int)))) ∨ (((48 : Int) ≤ c_1) ∧ (c_1 ≤ (57 : Int))))) (R hS ?_)
 rcases bft (decide (((((97 : Int) ≤ c_1) ∧ (c_1 ≤ (122 : Int))) ∨ (((65 : Int) ≤ c_1) ∧ (c_1 ≤ (90 : Int)))) ∨ (((48 : Int) ≤ c_1) ∧ (c_1 ≤ (57 : Int))))) with hg_17 | hg_17
 iterate 3 refine R hS ?_
 refine WL.up (s := 28) rfl (or_t hg_17 : true = decide ((((((97 : Int) ≤ c_1) ∧ (c_1 ≤ (122 : Int))) ∨ (((65 : Int) ≤ c_1) ∧ (c_1 ≤ (90 : Int)))) ∨ (((48 : Int) ≤ c_1) ∧ (c_1 ≤ (57 : Int)))) ∨ (c_1 = (95 : Int)))) (R hS ?_)
 exact WL.nil At.os
 iterate 3 refine R hS ?_
 refine WL.up (s := 28) rfl (or_f hg_17 : decide (c_1 = (95 : Int)) = decide ((((((97 : Int) ≤ c_1) ∧ (c_1 ≤ (122 : Int))) ∨ (((65 : Int) ≤ c_1) ∧ (c_1 ≤ (90 : Int)))) ∨ (((48 : Int) ≤ c_1) ∧ (c_1 ≤ (57 : Int)))) ∨ (c_1 = (95 : Int)))) (R hS ?_)
 exact WL.nil At.os
 iterate 3 refine R hS ?_
 refine WL.up (s := 23) rfl (and_f hg_16 : false = decide (((48 : Int) ≤ c_1) ∧ (c_1 ≤ (57 : Int)))) (R hS ?_)
 refine WL.up (s := 24) rfl (or_f hg_15 : decide (((48 : Int) ≤ c_1) ∧ (c_1 ≤ (57 : Int))) = decide (((((97 : Int) ≤ c_1) ∧ (c_1 ≤ (122 : Int))) ∨ (((65 : Int) ≤ c_1) ∧ (c_1 ≤ (90 : Int)))) ∨ (((48 : Int) ≤ c_1) ∧ (c_1 ≤ (57 : Int))))) (R hS ?_)
 rcases bft (decide (((((97 : Int) ≤ c_1) ∧ (c_1 ≤ (122 : Int))) ∨ (((65 : Int) ≤ c_1) ∧ (c_1 ≤ (90 : Int)))) ∨ (((48 : Int) ≤ c_1) ∧ (c_1 ≤ (57 : Int))))) with hg_18 | hg_18
 iterate 3 refine R hS ?_
 refine WL.up (s := 28) rfl (or_t hg_18 : true = decide ((((((97 : Int) ≤ c_1) ∧ (c_1 ≤ (122 : Int))) ∨ (((65 : Int) ≤ c_1) ∧ (c_1 ≤ (90 : Int)))) ∨ (((48 : Int) ≤ c_1) ∧ (c_1 ≤ (57 : Int)))) ∨ (c_1 = (95 : Int)))) (R hS ?_)
 exact WL.nil At.os
 iterate 3 refine R hS ?_
 refine WL.up (s := 28) rfl (or_f hg_18 : decide (c_1 = (95 : Int)) = decide ((((((97 : Int) ≤ c_1) ∧ (c_1 ≤ (122 : Int))) ∨ (((65 : Int) ≤ c_1) ∧ (c_1 ≤ (90 : Int)))) ∨ (((48 : Int) ≤ c_1) ∧ (c_1 ≤ (57 : Int)))) ∨ (c_1 = (95 : Int)))) (R hS ?_)
 exact WL.nil At.os
 iterate 2 refine R hS ?_
 refine Ug (and_f hg_3).symm ?_
 refine R hS ?_
 refine WL.up (s := 15) rfl (and_f hg_14 : false = decide (((65 : Int) ≤ c_1) ∧ (c_1 ≤ (90 : Int)))) (Rn hS (ex_pick_f rfl (and_f hg_3).symm rfl) ?_)
 refine WL.up (s := 16) rfl (or_f (and_f hg_3).symm : decide (((65 : Int) ≤ c_1) ∧ (c_1 ≤ (90 : Int))) = decide ((((97 : Int) ≤ c_1) ∧ (c_1 ≤ (122 : Int))) ∨ (((65 : Int) ≤ c_1) ∧ (c_1 ≤ (90 : Int))))) (R hS ?_)
 rcases bft (decide ((((97 : Int) ≤ c_1) ∧ (c_1 ≤ (122 : Int))) ∨ (((65 : Int) ≤ c_1) ∧ (c_1 ≤ (90 : Int))))) with hg_19 | hg_19
 iterate 7 refine R hS ?_
 refine WL.up (s := 24) rfl (or_t hg_19 : true = decide (((((97 : Int) ≤ c_1) ∧ (c_1 ≤ (122 : Int))) ∨ (((65 : Int) ≤ c_1) ∧ (c_1 ≤ (90 : Int)))) ∨ (((48 : Int) ≤ c_1) ∧ (c_1 ≤ (57 : Int))))) (R hS ?_)
 refine WL.skip_g rfl rfl rfl (or_t hg_19).symm rfl rfl (WL.skip_g rfl rfl rfl (or_t hg_19).symm rfl rfl (Rn hS (ex_pick_t rfl (or_t hg_19).symm rfl) ?_))
 refine WL.up (s := 28) rfl (or_t (or_t hg_19).symm : true = decide ((((((97 : Int) ≤ c_1) ∧ (c_1 ≤ (122 : Int))) ∨ (((65 : Int) ≤ c_1) ∧ (c_1 ≤ (90 : Int)))) ∨ (((48 : Int) ≤ c_1) ∧ (c_1 ≤ (57 : Int)))) ∨ (c_1 = (95 : Int)))) (R hS ?_)
 exact WL.nil At.os
 iterate 3 refine R hS ?_
 rcases bft (decide ((48 : Int) ≤ c_1)) with hg_20 | hg_20
 iterate 3 refine R hS ?_
 refine WL.up (s := 23) rfl (and_t hg_20 : decide (c_1 ≤ (57 : Int)) = decide (((48 : Int) ≤ c_1) ∧ (c_1 ≤ (57 : Int)))) (R hS ?_)
 refine WL.up (s := 24) rfl (or_f hg_19 : decide (((48 : Int) ≤ c_1) ∧ (c_1 ≤ (57 : Int))) = decide (((((97 : Int) ≤ c_1) ∧ (c_1 ≤ (122 : Int))) ∨ (((65 : Int) ≤ c_1) ∧ (c_1 ≤ (90 : Int)))) ∨ (((48 : Int) ≤ c_1) ∧ (c_1 ≤ (57 : Int))))) (R hS ?_)
 rcases bft (decide (((((97 : Int) ≤ c_1) ∧ (c_1 ≤ (122 : Int))) ∨ (((65 : Int) ≤ c_1) ∧ (c_1 ≤ (90 : Int)))) ∨ (((48 : Int) ≤ c_1) ∧ (c_1 ≤ (57 : Int))))) with hg_21 | hg_21
 iterate 3 refine R hS ?_
 refine WL.up (s := 28) rfl (or_t hg_21 : true = decide ((((((97 : Int) ≤ c_1) ∧ (c_1 ≤ (122 : Int))) ∨ (((65 : Int) ≤ c_1) ∧ (c_1 ≤ (90 : Int)))) ∨ (((48 : Int) ≤ c_1) ∧ (c_1 ≤ (57 : Int)))) ∨ (c_1 = (95 : Int)))) (R hS ?_)
 exact WL.nil At.os
 iterate 3 refine R hS ?_
 refine WL.up (s := 28) rfl (or_f hg_21 : decide (c_1 = (95 : Int)) = decide ((((((97 : Int) ≤ c_1) ∧ (c_1 ≤ (122 : Int))) ∨ (((65 : Int) ≤ c_1) ∧ (c_1 ≤ (90 : Int)))) ∨ (((48 : Int) ≤ c_1) ∧ (c_1 ≤ (57 : Int)))) ∨ (c_1 = (95 : Int)))) (R hS ?_)
 exact WL.nil At.os
 iterate 3 refine R hS ?_
 refine WL.up (s := 23) rfl (and_f hg_20 : false = decide (((48 : Int) ≤ c_1) ∧ (c_1 ≤ (57 : Int)))) (R hS ?_)
 refine WL.up (s := 24) rfl (or_f hg_19 : decide (((48 : Int) ≤ c_1) ∧ (c_1 ≤ (57 : Int))) = decide (((((97 : Int) ≤ c_1) ∧ (c_1 ≤ (122 : Int))) ∨ (((65 : Int) ≤ c_1) ∧ (c_1 ≤ (90 : Int)))) ∨ (((48 : Int) ≤ c_1) ∧ (c_1 ≤ (57 : Int))))) (R hS ?_)
 rcases bft (decide (((((97 : Int) ≤ c_1) ∧ (c_1 ≤ (122 : Int))) ∨ (((65 : Int) ≤ c_1) ∧ (c_1 ≤ (90 : Int)))) ∨ (((48 : Int) ≤ c_1) ∧ (c_1 ≤ (57 : Int))))) with hg_22 | hg_22
 iterate 3 refine R hS ?_
 refine WL.up (s := 28) rfl (or_t hg_22 : true = decide ((((((97 : Int) ≤ c_1) ∧ (c_1 ≤ (122 : Int))) ∨ (((65 : Int) ≤ c_1) ∧ (c_1 ≤ (90 : Int)))) ∨ (((48 : Int) ≤ c_1) ∧ (c_1 ≤ (57 : Int)))) ∨ (c_1 = (95 : Int)))) (R hS ?_)
 exact WL.nil At.os
 iterate 3 refine R hS ?_
 refine WL.up (s := 28) rfl (or_f hg_22 : decide (c_1 = (95 : Int)) = decide ((((((97 : Int) ≤ c_1) ∧ (c_1 ≤ (122 : Int))) ∨ (((65 : Int) ≤ c_1) ∧ (c_1 ≤ (90 : Int)))) ∨ (((48 : Int) ≤ c_1) ∧ (c_1 ≤ (57 : Int)))) ∨ (c_1 = (95 : Int)))) (R hS ?_)
 exact WL.nil At.os
 refine WQ.next (WC.ret ?_)
 exact leave1 rfl rfl (⟨decide ((((((97 : Int) ≤ c_1) ∧ (c_1 ≤ (122 : Int))) ∨ (((65 : Int) ≤ c_1) ∧ (c_1 ≤ (90 : Int)))) ∨ (((48 : Int) ≤ c_1) ∧ (c_1 ≤ (57 : Int)))) ∨ (c_1 = (95 : Int))), hV, rfl, hS⟩)
theorem S_word {w0 : World} {H : View} {L : Seg} {w : World} {b_2 : Nat} {text_4 : Str} {xat_5 : Int} {deep_7 : Int} {heavy_9 : Bool} {Q : Str → Prop} (hr_6 : I64 xat_5) (hr_8 : I64 deep_7) (hS : St w0 H ([(b_2, oc #[sv text_4, i6 xat_5, i6 deep_7, .bool heavy_9] 62)] ++ L) w) (hV : V_word text_4 xat_5 deep_7 heavy_9 Q) :
 Calls Tryz.prog 104 #[(pq b_2)] w fun e w' => ∃ (r1 : Str), Q r1 ∧ e = .returned (sv r1) ∧ St w0 H ([(b_2, oc #[sv text_4, i6 xat_5, i6 deep_7, .bool heavy_9] 62)] ++ L) w' := by
 unfold V_word at hV
 refine enter func104 rfl ntmps104 rfl (lk_args_cons (d := 0) (v := (pq b_2)) rfl (lk_args_nil _)) (WC.sr (R hS ?_))
 refine WL.nx (WC.sr ?_)
 iterate 5 refine R hS ?_
 refine WL.nx (WC.seq (WC.block ?_))
 obtain ⟨I_48, mu_49, hI_70, hV⟩ := hV
 refine WC.loop (σ := Int) (fun s a w => ∃ (k_28 : Int), s = k_28 ∧ I_48 k_28 ∧ I64 k_28 ∧ St w0 H ([(b_2, oc #[sv text_4, i6 xat_5, i6 deep_7, .bool heavy_9] 62)] ++ L) w ∧ Fr 36 [(0, (pq b_2)), (3, i6 k_28)] a) mu_49 xat_5 ?_ ?_
 exact fun a ha => ⟨xat_5, rfl, hI_70, hr_6, hS, ha.os⟩
 clear hS hI_70
 rintro k_28 a w ⟨_, rfl, hI, hr_29, hS, ha⟩
 refine in_frame ha ?_
 clear ha
 replace hV := hV _ hI
 clear hI
 refine WC.seq ?_
 obtain ⟨J_58, hJ_59, hV⟩ := hV
 refine WC.meet (fun a w => ∃ (x_57 : Bool), J_58 x_57 ∧ St w0 H ([(b_2, oc #[sv text_4, i6 xat_5, i6 deep_7, .bool heavy_9] 62)] ++ L) w ∧ Fr 36 [(0, (pq b_2)), (3, i6 k_28), (23, .bool x_57)] a) ?_ ?_
 rintro a w ⟨x_57, hI, hS, ha⟩
 refine in_frame ha ?_
 clear ha hV
 have hV := hJ_59 _ hI
 clear hI hJ_59
 refine Cd ?_ ?_
 intro hc_69
 replace hV := hV.1 hc_69
 refine WC.skip (WQ.next (WC.block (WC.region (R hS ?_))))
 obtain ⟨hi_67, hV⟩ := hV
 iterate 2 refine R hS ?_
 refine WL.nil (WQ.out nofun ?_)
 exact Wt fun a ha => ⟨(k_28 + (1 : Int)), ⟨(k_28 + (1 : Int)), rfl, hV.1, hi_67, hS, ha.os⟩, hV.2⟩
 intro hc_69
 replace hV := hV.2 hc_69
 refine WC.exit (Wp ?_)
 refine Wp ?_
 refine WQ.hit (WQ.next (WC.seq (WC.quiet (C := St w0 H ([(b_2, oc #[sv text_4, i6 xat_5, i6 deep_7, .bool heavy_9] 62)] ++ L)) mixed (by kernel_rfl) (hS.drawn _) ?_)))
 clear hS w
 iterate 9 refine Rq ?_
 obtain ⟨hb_68, hV⟩ := hV
 refine Rm (ex_s_lohi underlying9 rfl rfl rfl hb_68) ?_
 refine Rq ?_
 refine Wq.nil fun w hS => ?_
 refine WQ.next (Sb [(2, sv ((text_4.take k_28.toNat).drop xat_5.toNat))] ?_)
 refine WC.ret ?_
 exact leave1 rfl rfl (⟨((text_4.take k_28.toNat).drop xat_5.toNat), hV, rfl, hS⟩)
 clear hJ_59
 refine WC.region ?_
 iterate 5 refine R hS ?_
 obtain ⟨hl_60, hV⟩ := hV
 iterate 3 refine R hS ?_
 rcases bft (decide (k_28 < (text_4.length : Int))) with hg_62 | hg_62
 replace hV := hV.1 (od hg_62)
 iterate 5 refine R hS ?_
 refine Ug hg_62 ?_
 obtain ⟨hin_63, hV⟩ := hV
 refine R hS ?_
 refine Ug hg_62 ?_
 refine Rc (enters0 (vs := [.int .u8 (byte text_4 k_28)]) call193 ⟨rfl, trivial⟩) (S_inWord (byte_has (x := text_4) (i := k_28)) hS hV) ?_
 clear hV hS
 rintro _ w ⟨r_64, hV, rfl, hS⟩
 refine ⟨_, rfl, ?_⟩
 refine R hS ?_
 refine WL.nil ?_
 exact Wt fun a ha => ⟨r_64, hV, hS, ha.os⟩
 replace hV := hV.2 (ov hg_62)
 iterate 8 refine R hS ?_
 refine WL.nil ?_
 exact Wt fun a ha => ⟨false, hV, hS, ha.os⟩
theorem S_weighed {w0 : World} {H : View} {L : Seg} {w : World} {b_2 : Nat} {text_4 : Str} {xat_5 : Int} {deep_7 : Int} {heavy_9 : Bool} {v_10 : Val} {u_11 : Value} {Q : Val → Bool → Prop} (hr_6 : I64 xat_5) (hr_8 : I64 deep_7) (h_12 : IsW H u_11 v_10) (hS : St w0 H ([(b_2, oc #[sv text_4, i6 xat_5, i6 deep_7, .bool heavy_9] 62)] ++ L) w) (hV : V_weighed text_4 xat_5 deep_7 heavy_9 v_10 Q) :
 Calls Tryz.prog 59 #[(pq b_2), .agg #[u_11]] w fun e w' => ∃ (r1 : Val) (r2 : Bool) (u1 : Value) (H' : View), Q r1 r2 ∧ e = .returned (.agg #[u1]) ∧ View.le H H' ∧ IsW H' u1 r1 ∧ St w0 H' ([(b_2, oc #[sv text_4, i6 xat_5, i6 deep_7, .bool r2] 62)] ++ L) w' := by
 unfold V_weighed at hV
 refine enter func59 rfl ntmps59 rfl (lk_args_cons (d := 0) (v := (pq b_2)) rfl (lk_args_cons (d := 1) (v := .agg #[u_11]) rfl (lk_args_nil _))) (WC.sr (WL.box (arr := #[u_11]) rfl rfl rfl hS ?_))
 clear hS
 intro b_13 w hS
 refine WL.alloc (arr := #[.nilIface]) rfl zeroValue25 rfl hS ?_
 clear hS
 intro b_15 w hS
 refine WL.nx ?_
 obtain ⟨J_19, hJ_20, hV⟩ := hV
 refine WC.meet (fun a w => ∃ (c_18 : Bool), J_19 c_18 ∧ St w0 H ([(b_13, oc #[u_11] 25)] ++ ([(b_15, oc #[.nilIface] 25)] ++ ([(b_2, oc #[sv text_4, i6 xat_5, i6 deep_7, .bool c_18] 62)] ++ L))) w ∧ Fr 18 [(3, (pq b_13)), (4, (pq b_15))] a) ?_ ?_
 rintro a w ⟨c_18, hI, hS, ha⟩
 refine in_frame ha ?_
 clear ha hV
 have hV := hJ_20 _ hI
 clear hI hJ_20
 refine WC.sr (Rn hS (ex_load_box_agg (cs := [u_11]) isAgg25 sizeOf25 rfl rfl rfl) ?_)
 replace hS := hS.f2
 refine St1 #[u_11] sizeOf25 hS ?_ (cs := [u_11]) (hone := ⟨(IsW.one h_12), trivial⟩)
 clear hS
 intro w hS
 refine WL.nx ?_
 replace hS := hS.f2.drop
 refine WC.ret ?_
 have hl_22 := load_own_agg (P := Tryz.prog) (cs := [u_11]) isAgg25 sizeOf25 hS rfl
 replace hS := hS.drop
 exact leavec1 (il) rfl rfl hl_22 (⟨v_10, c_18, u_11, H, hV, rfl, (View.le.refl _), h_12, hS⟩)
 clear hJ_20
 refine WC.region ?_
 iterate 4 refine R hS ?_
 replace hS := hS.f3
 iterate 2 refine R hS ?_
 rcases bft heavy_9 with hg_21 | hg_21
 replace hV := hV.1 hg_21
 iterate 6 refine R hS ?_
 refine St1 #[sv text_4, i6 xat_5, i6 deep_7, .bool true] sizeOf4 hS ?_
 clear hS
 intro w hS
 refine WL.nil ?_
 replace hS := hS.f2.f3
 exact Wt fun a ha => ⟨true, hV, hS, ha.os⟩
 replace hV := hV.2 hg_21
 refine R hS ?_
 refine Ug hg_21 ?_
 replace hS := hS.f3
 refine R hS ?_
 refine Ug hg_21 ?_
 refine Rn hS (ex_v_eql iface23 rfl h_12) ?_
 iterate 3 refine R hS ?_
 replace hS := hS.f2
 refine St1 #[sv text_4, i6 xat_5, i6 deep_7, .bool v_10.isNil] sizeOf4 hS ?_
 clear hS
 intro w hS
 refine WL.nil ?_
 replace hS := hS.f3.f3
 exact Wt fun a ha => ⟨v_10.isNil, hV, hS, ha.os⟩
theorem S_Reserved {w0 : World} {H : View} {L : Seg} {w : World} {s_1 : Str} {Q : Bool → Prop}  (hS : St w0 H (L) w) (hV : V_Reserved s_1 Q) :
 Calls Tryz.prog 107 #[sv s_1] w fun e w' => ∃ (r1 : Bool), Q r1 ∧ e = .returned (.bool r1) ∧ St w0 H (L) w' := by
 unfold V_Reserved at hV
 refine enter func107 rfl ntmps107 rfl (lk_args_cons (d := 0) (v := sv s_1) rfl (lk_args_nil _)) (WC.sr (R hS ?_))
 refine WL.nx (WC.seq (WC.sr (R hS ?_)))
 refine WL.nx (WC.block ?_)
 obtain ⟨J_54, hJ_55, hV⟩ := hV
 refine WC.meet (fun a w => ∃ (x_53 : Bool), J_54 x_53 ∧ St w0 H (L) w ∧ Fr 57 [(4, .bool x_53)] a) ?_ ?_
 rintro a w ⟨x_53, hI, hS, ha⟩
 refine in_frame ha ?_
 clear ha hV
 have hV := hJ_55 _ hI
 clear hI hJ_55
 refine Cd ?_ ?_
 intro hc_107
 replace hV := hV.1 hc_107
 refine WC.sr (R hS ?_)
 refine WL.nx (WC.ret (WQ.out nofun (Wp ?_)))
 exact leave1 rfl rfl (⟨true, hV, rfl, hS⟩)
 intro hc_107
 replace hV := hV.2 hc_107
 refine WC.skip (WQ.out nofun (WQ.next (WC.sr (R hS ?_))))
 refine WL.nx (WC.ret ?_)
 exact leave1 rfl rfl (⟨false, hV, rfl, hS⟩)
 clear hJ_55
 refine WC.sr ?_
 iterate 2 refine R hS ?_
 refine WL.nx ?_
 refine Cd ?_ ?_
 intro hc_106
 replace hV := hV.1 (od hc_106)
 refine WC.skip ?_
 exact Wt fun a ha => ⟨decide (s_1 = ([109, 111, 100, 117, 108, 101] : Str)), hV, hS, ha.os⟩
 intro hc_106
 replace hV := hV.2 (ov hc_106)
 refine WC.sr ?_
 iterate 2 refine R hS ?_
 refine WL.nx ?_
 refine Cd ?_ ?_
 intro hc_105
 replace hV := hV.1 (od hc_105)
 refine WC.skip ?_
 exact Wt fun a ha => ⟨decide (s_1 = ([99, 111, 110, 115, 116, 97, 110, 116] : Str)), hV, hS, ha.os⟩
 intro hc_105
 replace hV := hV.2 (ov hc_105)
 refine WC.sr ?_
 iterate 2 refine R hS ?_
 refine WL.nx ?_
 refine Cd ?_ ?_
 intro hc_104
 replace hV := hV.1 (od hc_104)
 refine WC.skip ?_
 exact Wt fun a ha => ⟨decide (s_1 = ([97, 116, 111, 109, 115] : Str)), hV, hS, ha.os⟩
 intro hc_104
 replace hV := hV.2 (ov hc_104)
 refine WC.sr ?_
 iterate 2 refine R hS ?_
 refine WL.nx ?_
 refine Cd ?_ ?_
 intro hc_103
 replace hV := hV.1 (od hc_103)
 refine WC.skip ?_
 exact Wt fun a ha => ⟨decide (s_1 = ([115, 121, 109, 109, 101, 116, 114, 105, 99] : Str)), hV, hS, ha.os⟩
 intro hc_103
 replace hV := hV.2 (ov hc_103)
 refine WC.sr ?_
 iterate 2 refine R hS ?_
 refine WL.nx ?_
 refine Cd ?_ ?_
 intro hc_102
 replace hV := hV.1 (od hc_102)
 refine WC.skip ?_
 exact Wt fun a ha => ⟨decide (s_1 = ([118, 97, 114, 105, 97, 98, 108, 101] : Str)), hV, hS, ha.os⟩
 intro hc_102
 replace hV := hV.2 (ov hc_102)
 refine WC.sr ?_
 iterate 2 refine R hS ?_
 refine WL.nx ?_
 refine Cd ?_ ?_
 intro hc_101
 replace hV := hV.1 (od hc_101)
 refine WC.skip ?_
 exact Wt fun a ha => ⟨decide (s_1 = ([100, 101, 102, 105, 110, 101] : Str)), hV, hS, ha.os⟩
 intro hc_101
 replace hV := hV.2 (ov hc_101)
 refine WC.sr ?_
 iterate 2 refine R hS ?_
 refine WL.nx ?_
 refine Cd ?_ ?_
 intro hc_100
 replace hV := hV.1 (od hc_100)
 refine WC.skip ?_
 exact Wt fun a ha => ⟨decide (s_1 = ([105, 110, 105, 116] : Str)), hV, hS, ha.os⟩
 intro hc_100
 replace hV := hV.2 (ov hc_100)
 refine WC.sr ?_
 iterate 2 refine R hS ?_
 refine WL.nx (Sb [(3, sv s_1), (4, .bool (decide (s_1 = ([97, 99, 116, 105, 111, 110] : Str))))] ?_)
 refine Cd ?_ ?_
 intro hc_99
 replace hV := hV.1 (od hc_99)
 refine WC.skip ?_
 exact Wt fun a ha => ⟨decide (s_1 = ([97, 99, 116, 105, 111, 110] : Str)), hV, hS, ha.os⟩
 intro hc_99
 replace hV := hV.2 (ov hc_99)
 refine WC.sr ?_
 iterate 2 refine R hS ?_
 refine WL.nx ?_
 refine Cd ?_ ?_
 intro hc_98
 replace hV := hV.1 (od hc_98)
 refine WC.skip ?_
 exact Wt fun a ha => ⟨decide (s_1 = ([102, 97, 105, 114] : Str)), hV, hS, ha.os⟩
 intro hc_98
 replace hV := hV.2 (ov hc_98)
 refine WC.sr ?_
 iterate 2 refine R hS ?_
 refine WL.nx ?_
 refine Cd ?_ ?_
 intro hc_97
 replace hV := hV.1 (od hc_97)
 refine WC.skip ?_
 exact Wt fun a ha => ⟨decide (s_1 = ([119, 101, 97, 107] : Str)), hV, hS, ha.os⟩
 intro hc_97
 replace hV := hV.2 (ov hc_97)
 refine WC.sr ?_
 iterate 2 refine R hS ?_
 refine WL.nx ?_
 refine Cd ?_ ?_
 intro hc_96
 replace hV := hV.1 (od hc_96)
 refine WC.skip ?_
 exact Wt fun a ha => ⟨decide (s_1 = ([115, 116, 114, 111, 110, 103] : Str)), hV, hS, ha.os⟩
 intro hc_96
 replace hV := hV.2 (ov hc_96)
 refine WC.sr ?_
 iterate 2 refine R hS ?_
 refine WL.nx ?_
 refine Cd ?_ ?_
 intro hc_95
 replace hV := hV.1 (od hc_95)
 refine WC.skip ?_
 exact Wt fun a ha => ⟨decide (s_1 = ([105, 110, 118, 97, 114, 105, 97, 110, 116] : Str)), hV, hS, ha.os⟩
 intro hc_95
 replace hV := hV.2 (ov hc_95)
 refine WC.sr ?_
 iterate 2 refine R hS ?_
 refine WL.nx ?_
 refine Cd ?_ ?_
 intro hc_94
 replace hV := hV.1 (od hc_94)
 refine WC.skip ?_
 exact Wt fun a ha => ⟨decide (s_1 = ([112, 114, 111, 112, 101, 114, 116, 121] : Str)), hV, hS, ha.os⟩
 intro hc_94
 replace hV := hV.2 (ov hc_94)
 refine WC.sr ?_
 iterate 2 refine R hS ?_
 refine WL.nx ?_
 refine Cd ?_ ?_
 intro hc_93
 replace hV := hV.1 (od hc_93)
 refine WC.skip ?_
 exact Wt fun a ha => ⟨decide (s_1 = ([97, 110, 100] : Str)), hV, hS, ha.os⟩
 intro hc_93
 replace hV := hV.2 (ov hc_93)
 refine WC.sr ?_
 iterate 2 refine R hS ?_
 refine WL.nx ?_
 refine Cd ?_ ?_
 intro hc_92
 replace hV := hV.1 (od hc_92)
 refine WC.skip ?_
 exact Wt fun a ha => ⟨decide (s_1 = ([111, 114] : Str)), hV, hS, ha.os⟩
 intro hc_92
 replace hV := hV.2 (ov hc_92)
 refine WC.sr ?_
 iterate 2 refine R hS ?_
 refine WL.nx ?_
 refine Cd ?_ ?_
 intro hc_91
 replace hV := hV.1 (od hc_91)
 refine WC.skip ?_
 exact Wt fun a ha => ⟨decide (s_1 = ([110, 111, 116] : Str)), hV, hS, ha.os⟩
 intro hc_91
 replace hV := hV.2 (ov hc_91)
 refine WC.sr ?_
 iterate 2 refine R hS ?_
 refine WL.nx ?_
 refine Cd ?_ ?_
 intro hc_90
 replace hV := hV.1 (od hc_90)
 refine WC.skip ?_
 exact Wt fun a ha => ⟨decide (s_1 = ([105, 109, 112, 108, 105, 101, 115] : Str)), hV, hS, ha.os⟩
 intro hc_90
 replace hV := hV.2 (ov hc_90)
 refine WC.sr ?_
 iterate 2 refine R hS ?_
 refine WL.nx (Sb [(3, sv s_1), (4, .bool (decide (s_1 = ([105, 102, 102] : Str))))] ?_)
 refine Cd ?_ ?_
 intro hc_89
 replace hV := hV.1 (od hc_89)
 refine WC.skip ?_
 exact Wt fun a ha => ⟨decide (s_1 = ([105, 102, 102] : Str)), hV, hS, ha.os⟩
 intro hc_89
 replace hV := hV.2 (ov hc_89)
 refine WC.sr ?_
 iterate 2 refine R hS ?_
 refine WL.nx ?_
 refine Cd ?_ ?_
 intro hc_88
 replace hV := hV.1 (od hc_88)
 refine WC.skip ?_
 exact Wt fun a ha => ⟨decide (s_1 = ([105, 110] : Str)), hV, hS, ha.os⟩
 intro hc_88
 replace hV := hV.2 (ov hc_88)
 refine WC.sr ?_
 iterate 2 refine R hS ?_
 refine WL.nx ?_
 refine Cd ?_ ?_
 intro hc_87
 replace hV := hV.1 (od hc_87)
 refine WC.skip ?_
 exact Wt fun a ha => ⟨decide (s_1 = ([117, 110, 105, 111, 110] : Str)), hV, hS, ha.os⟩
 intro hc_87
 replace hV := hV.2 (ov hc_87)
 refine WC.sr ?_
 iterate 2 refine R hS ?_
 refine WL.nx ?_
 refine Cd ?_ ?_
 intro hc_86
 replace hV := hV.1 (od hc_86)
 refine WC.skip ?_
 exact Wt fun a ha => ⟨decide (s_1 = ([105, 110, 116, 101, 114] : Str)), hV, hS, ha.os⟩
 intro hc_86
 replace hV := hV.2 (ov hc_86)
 refine WC.sr ?_
 iterate 2 refine R hS ?_
 refine WL.nx ?_
 refine Cd ?_ ?_
 intro hc_85
 replace hV := hV.1 (od hc_85)
 refine WC.skip ?_
 exact Wt fun a ha => ⟨decide (s_1 = ([109, 105, 110, 117, 115] : Str)), hV, hS, ha.os⟩
 intro hc_85
 replace hV := hV.2 (ov hc_85)
 refine WC.sr ?_
 iterate 2 refine R hS ?_
 refine WL.nx ?_
 refine Cd ?_ ?_
 intro hc_84
 replace hV := hV.1 (od hc_84)
 refine WC.skip ?_
 exact Wt fun a ha => ⟨decide (s_1 = ([115, 117, 98, 115, 101, 116] : Str)), hV, hS, ha.os⟩
 intro hc_84
 replace hV := hV.2 (ov hc_84)
 refine WC.sr ?_
 iterate 2 refine R hS ?_
 refine WL.nx ?_
 refine Cd ?_ ?_
 intro hc_83
 replace hV := hV.1 (od hc_83)
 refine WC.skip ?_
 exact Wt fun a ha => ⟨decide (s_1 = ([112, 111, 119, 101, 114, 115, 101, 116] : Str)), hV, hS, ha.os⟩
 intro hc_83
 replace hV := hV.2 (ov hc_83)
 refine WC.sr ?_
 iterate 2 refine R hS ?_
 refine WL.nx ?_
 refine Cd ?_ ?_
 intro hc_82
 replace hV := hV.1 (od hc_82)
 refine WC.skip ?_
 exact Wt fun a ha => ⟨decide (s_1 = ([102, 108, 97, 116, 116, 101, 110] : Str)), hV, hS, ha.os⟩
 intro hc_82
 replace hV := hV.2 (ov hc_82)
 refine WC.sr ?_
 iterate 2 refine R hS ?_
 refine WL.nx ?_
 refine Cd ?_ ?_
 intro hc_81
 replace hV := hV.1 (od hc_81)
 refine WC.skip ?_
 exact Wt fun a ha => ⟨decide (s_1 = ([100, 111, 109, 97, 105, 110] : Str)), hV, hS, ha.os⟩
 intro hc_81
 replace hV := hV.2 (ov hc_81)
 refine WC.sr ?_
 iterate 2 refine R hS ?_
 refine WL.nx ?_
 refine Cd ?_ ?_
 intro hc_80
 replace hV := hV.1 (od hc_80)
 refine WC.skip ?_
 exact Wt fun a ha => ⟨decide (s_1 = ([117, 110, 99, 104, 97, 110, 103, 101, 100] : Str)), hV, hS, ha.os⟩
 intro hc_80
 replace hV := hV.2 (ov hc_80)
 refine WC.sr ?_
 iterate 2 refine R hS ?_
 refine WL.nx (Sb [(3, sv s_1), (4, .bool (decide (s_1 = ([101, 110, 97, 98, 108, 101, 100] : Str))))] ?_)
 refine Cd ?_ ?_
 intro hc_79
 replace hV := hV.1 (od hc_79)
 refine WC.skip ?_
 exact Wt fun a ha => ⟨decide (s_1 = ([101, 110, 97, 98, 108, 101, 100] : Str)), hV, hS, ha.os⟩
 intro hc_79
 replace hV := hV.2 (ov hc_79)
 refine WC.sr ?_
 iterate 2 refine R hS ?_
 refine WL.nx ?_
 refine Cd ?_ ?_
 intro hc_78
 replace hV := hV.1 (od hc_78)
 refine WC.skip ?_
 exact Wt fun a ha => ⟨decide (s_1 = ([97, 108, 119, 97, 121, 115] : Str)), hV, hS, ha.os⟩
 intro hc_78
 replace hV := hV.2 (ov hc_78)
 refine WC.sr ?_
 iterate 2 refine R hS ?_
 refine WL.nx ?_
 refine Cd ?_ ?_
 intro hc_77
 replace hV := hV.1 (od hc_77)
 refine WC.skip ?_
 exact Wt fun a ha => ⟨decide (s_1 = ([101, 118, 101, 110, 116, 117, 97, 108, 108, 121] : Str)), hV, hS, ha.os⟩
 intro hc_77
 replace hV := hV.2 (ov hc_77)
 refine WC.sr ?_
 iterate 2 refine R hS ?_
 refine WL.nx ?_
 refine Cd ?_ ?_
 intro hc_76
 replace hV := hV.1 (od hc_76)
 refine WC.skip ?_
 exact Wt fun a ha => ⟨decide (s_1 = ([117, 110, 116, 105, 108] : Str)), hV, hS, ha.os⟩
 intro hc_76
 replace hV := hV.2 (ov hc_76)
 refine WC.sr ?_
 iterate 2 refine R hS ?_
 refine WL.nx ?_
 refine Cd ?_ ?_
 intro hc_75
 replace hV := hV.1 (od hc_75)
 refine WC.skip ?_
 exact Wt fun a ha => ⟨decide (s_1 = ([108, 101, 97, 100, 115, 116, 111] : Str)), hV, hS, ha.os⟩
 intro hc_75
 replace hV := hV.2 (ov hc_75)
 refine WC.sr ?_
 iterate 2 refine R hS ?_
 refine WL.nx ?_
 refine Cd ?_ ?_
 intro hc_74
 replace hV := hV.1 (od hc_74)
 refine WC.skip ?_
 exact Wt fun a ha => ⟨decide (s_1 = ([99, 104, 111, 111, 115, 101] : Str)), hV, hS, ha.os⟩
 intro hc_74
 replace hV := hV.2 (ov hc_74)
 refine WC.sr ?_
 iterate 2 refine R hS ?_
 refine WL.nx ?_
 refine Cd ?_ ?_
 intro hc_73
 replace hV := hV.1 (od hc_73)
 refine WC.skip ?_
 exact Wt fun a ha => ⟨decide (s_1 = ([97, 108, 108] : Str)), hV, hS, ha.os⟩
 intro hc_73
 replace hV := hV.2 (ov hc_73)
 refine WC.sr ?_
 iterate 2 refine R hS ?_
 refine WL.nx ?_
 refine Cd ?_ ?_
 intro hc_72
 replace hV := hV.1 (od hc_72)
 refine WC.skip ?_
 exact Wt fun a ha => ⟨decide (s_1 = ([115, 111, 109, 101] : Str)), hV, hS, ha.os⟩
 intro hc_72
 replace hV := hV.2 (ov hc_72)
 refine WC.sr ?_
 iterate 2 refine R hS ?_
 refine WL.nx ?_
 refine Cd ?_ ?_
 intro hc_71
 replace hV := hV.1 (od hc_71)
 refine WC.skip ?_
 exact Wt fun a ha => ⟨decide (s_1 = ([101, 97, 99, 104] : Str)), hV, hS, ha.os⟩
 intro hc_71
 replace hV := hV.2 (ov hc_71)
 refine WC.sr ?_
 iterate 2 refine R hS ?_
 refine WL.nx ?_
 refine Cd ?_ ?_
 intro hc_70
 replace hV := hV.1 (od hc_70)
 refine WC.skip ?_
 exact Wt fun a ha => ⟨decide (s_1 = ([116, 104, 111, 115, 101] : Str)), hV, hS, ha.os⟩
 intro hc_70
 replace hV := hV.2 (ov hc_70)
 refine WC.sr ?_
 iterate 2 refine R hS ?_
 refine WL.nx (Sb [(3, sv s_1), (4, .bool (decide (s_1 = ([102, 117, 110] : Str))))] ?_)
 refine Cd ?_ ?_
 intro hc_69
 replace hV := hV.1 (od hc_69)
 refine WC.skip ?_
 exact Wt fun a ha => ⟨decide (s_1 = ([102, 117, 110] : Str)), hV, hS, ha.os⟩
 intro hc_69
 replace hV := hV.2 (ov hc_69)
 refine WC.sr ?_
 iterate 2 refine R hS ?_
 refine WL.nx ?_
 refine Cd ?_ ?_
 intro hc_68
 replace hV := hV.1 (od hc_68)
 refine WC.skip ?_
 exact Wt fun a ha => ⟨decide (s_1 = ([105, 102] : Str)), hV, hS, ha.os⟩
 intro hc_68
 replace hV := hV.2 (ov hc_68)
 refine WC.sr ?_
 iterate 2 refine R hS ?_
 refine WL.nx ?_
 refine Cd ?_ ?_
 intro hc_67
 replace hV := hV.1 (od hc_67)
 refine WC.skip ?_
 exact Wt fun a ha => ⟨decide (s_1 = ([116, 104, 101, 110] : Str)), hV, hS, ha.os⟩
 intro hc_67
 replace hV := hV.2 (ov hc_67)
 refine WC.sr ?_
 iterate 2 refine R hS ?_
 refine WL.nx ?_
 refine Cd ?_ ?_
 intro hc_66
 replace hV := hV.1 (od hc_66)
 refine WC.skip ?_
 exact Wt fun a ha => ⟨decide (s_1 = ([101, 108, 115, 101] : Str)), hV, hS, ha.os⟩
 intro hc_66
 replace hV := hV.2 (ov hc_66)
 refine WC.sr ?_
 iterate 2 refine R hS ?_
 refine WL.nx ?_
 refine Cd ?_ ?_
 intro hc_65
 replace hV := hV.1 (od hc_65)
 refine WC.skip ?_
 exact Wt fun a ha => ⟨decide (s_1 = ([108, 101, 116] : Str)), hV, hS, ha.os⟩
 intro hc_65
 replace hV := hV.2 (ov hc_65)
 refine WC.sr ?_
 iterate 2 refine R hS ?_
 refine WL.nx ?_
 refine Cd ?_ ?_
 intro hc_64
 replace hV := hV.1 (od hc_64)
 refine WC.skip ?_
 exact Wt fun a ha => ⟨decide (s_1 = ([110, 105, 108] : Str)), hV, hS, ha.os⟩
 intro hc_64
 replace hV := hV.2 (ov hc_64)
 refine WC.sr ?_
 iterate 2 refine R hS ?_
 refine WL.nx ?_
 refine Cd ?_ ?_
 intro hc_63
 replace hV := hV.1 (od hc_63)
 refine WC.skip ?_
 exact Wt fun a ha => ⟨decide (s_1 = ([116, 114, 117, 101] : Str)), hV, hS, ha.os⟩
 intro hc_63
 replace hV := hV.2 (ov hc_63)
 refine WC.sr ?_
 iterate 2 refine R hS ?_
 refine WL.nx ?_
 refine Cd ?_ ?_
 intro hc_62
 replace hV := hV.1 (od hc_62)
 refine WC.skip ?_
 exact Wt fun a ha => ⟨decide (s_1 = ([102, 97, 108, 115, 101] : Str)), hV, hS, ha.os⟩
 intro hc_62
 replace hV := hV.2 (ov hc_62)
 refine WC.sr ?_
 iterate 2 refine R hS ?_
 refine WL.nx ?_
 refine Cd ?_ ?_
 intro hc_61
 replace hV := hV.1 (od hc_61)
 refine WC.skip ?_
 exact Wt fun a ha => ⟨decide (s_1 = ([115, 105, 122, 101] : Str)), hV, hS, ha.os⟩
 intro hc_61
 replace hV := hV.2 (ov hc_61)
 refine WC.sr ?_
 iterate 2 refine R hS ?_
 refine WL.nx ?_
 refine Cd ?_ ?_
 intro hc_60
 replace hV := hV.1 (od hc_60)
 refine WC.skip ?_
 exact Wt fun a ha => ⟨decide (s_1 = ([108, 101, 110] : Str)), hV, hS, ha.os⟩
 intro hc_60
 replace hV := hV.2 (ov hc_60)
 refine WC.sr ?_
 iterate 2 refine R hS ?_
 refine WL.nx (Sb [(3, sv s_1), (4, .bool (decide (s_1 = ([104, 101, 97, 100] : Str))))] ?_)
 refine Cd ?_ ?_
 intro hc_59
 replace hV := hV.1 (od hc_59)
 refine WC.skip ?_
 exact Wt fun a ha => ⟨decide (s_1 = ([104, 101, 97, 100] : Str)), hV, hS, ha.os⟩
 intro hc_59
 replace hV := hV.2 (ov hc_59)
 refine WC.sr ?_
 iterate 2 refine R hS ?_
 refine WL.nx ?_
 refine Cd ?_ ?_
 intro hc_58
 replace hV := hV.1 (od hc_58)
 refine WC.skip ?_
 exact Wt fun a ha => ⟨decide (s_1 = ([116, 97, 105, 108] : Str)), hV, hS, ha.os⟩
 intro hc_58
 replace hV := hV.2 (ov hc_58)
 refine WC.sr ?_
 iterate 2 refine R hS ?_
 refine WL.nx ?_
 refine Cd ?_ ?_
 intro hc_57
 replace hV := hV.1 (od hc_57)
 refine WC.skip ?_
 exact Wt fun a ha => ⟨decide (s_1 = ([97, 112, 112, 101, 110, 100] : Str)), hV, hS, ha.os⟩
 intro hc_57
 replace hV := hV.2 (ov hc_57)
 refine WC.sr ?_
 iterate 2 refine R hS ?_
 refine WL.nx ?_
 refine Cd ?_ ?_
 intro hc_56
 replace hV := hV.1 (od hc_56)
 refine WC.skip ?_
 exact Wt fun a ha => ⟨decide (s_1 = ([118, 97, 108, 117, 101, 115] : Str)), hV, hS, ha.os⟩
 intro hc_56
 replace hV := hV.2 (ov hc_56)
 refine WC.region ?_
 iterate 2 refine R hS ?_
 refine WL.nil ?_
 exact Wt fun a ha => ⟨decide (s_1 = ([115, 101, 113, 115] : Str)), hV, hS, ha.os⟩
theorem S_number {w0 : World} {H : View} {L : Seg} {w : World} {b_2 : Nat} {text_4 : Str} {xat_5 : Int} {deep_7 : Int} {heavy_9 : Bool} {w_10 : Str} {minus_11 : Bool} {E : Int → Int → Prop} {Q : Val → Int → Prop} (hr_6 : I64 xat_5) (hr_8 : I64 deep_7) (hN : GlobN w0 H) (hS : St w0 H ([(b_2, oc #[sv text_4, i6 xat_5, i6 deep_7, .bool heavy_9] 62)] ++ L) w) (hV : V_number text_4 xat_5 deep_7 heavy_9 w_10 minus_11 E Q) :
 Calls Tryz.prog 105 #[(pq b_2), sv w_10, .bool minus_11] w fun e w' => (∃ (r1 : Val) (r2 : Int) (u1 : Value) (H' : View), Q r1 r2 ∧ e = .returned (.agg #[u1]) ∧ View.le H H' ∧ IsW H' u1 r1 ∧ I64 r2 ∧ St w0 H' ([(b_2, oc #[sv text_4, i6 r2, i6 deep_7, .bool heavy_9] 62)] ++ L) w') ∨ (∃ e1 a1, E e1 a1 ∧ e = .panicked (faultC e1 a1) ∧ ∃ H1, View.le H H1 ∧ St w0 H1 L w') := by
 unfold V_number at hV
 refine enter func105 rfl ntmps105 rfl (lk_args_cons (d := 0) (v := (pq b_2)) rfl (lk_args_cons (d := 1) (v := sv w_10) rfl (lk_args_cons (d := 2) (v := .bool minus_11) rfl (lk_args_nil _)))) (WC.sr (WL.alloc (arr := #[.nilIface]) rfl zeroValue25 rfl hS ?_))
 clear hS
 intro b_12 w hS
 refine WL.nx (WC.seq (WC.sr (R hS ?_)))
 obtain ⟨hl_14, hV⟩ := hV
 iterate 2 refine R hS ?_
 refine WL.nx (WC.block ?_)
 replace hS := hS.f2
 obtain ⟨I_129, mu_130, hI_242, hV⟩ := hV
 refine WC.loop (σ := Int) (fun s a w => ∃ (x_71 : Int), s = x_71 ∧ I_129 x_71 ∧ I64 x_71 ∧ St w0 H ([(b_2, oc #[sv text_4, i6 xat_5, i6 deep_7, .bool heavy_9] 62)] ++ ([(b_12, oc #[.nilIface] 25)] ++ L)) w ∧ Fr 85 [(0, (pq b_2)), (1, sv w_10), (2, .bool minus_11), (6, (pq b_12)), (11, i6 (w_10.length : Int)), (12, i6 x_71)] a) mu_130 (0 : Int) ?_ ?_
 exact fun a ha => ⟨(0 : Int), rfl, hI_242, i0, hS, ha.os⟩
 clear hS hI_242
 rintro x_71 a w ⟨_, rfl, hI, hr_72, hS, ha⟩
 refine in_frame ha ?_
 clear ha
 replace hV := hV _ hI
 clear hI
 refine WC.sr (R hS ?_)
 refine WL.nx (WC.seq ?_)
 refine Cd ?_ ?_
 intro hc_241
 replace hV := hV.1 (od hc_241)
 refine WC.skip (WQ.next ?_)
 obtain ⟨J_159, hJ_160, hV⟩ := hV
 refine WC.meet (fun a w => J_159 () ∧ St w0 H ([(b_2, oc #[sv text_4, i6 xat_5, i6 deep_7, .bool heavy_9] 62)] ++ ([(b_12, oc #[.nilIface] 25)] ++ L)) w ∧ Fr 85 [(0, (pq b_2)), (1, sv w_10), (2, .bool minus_11), (6, (pq b_12)), (11, i6 (w_10.length : Int)), (12, i6 x_71)] a) ?_ ?_
 rintro a w ⟨hI, hS, ha⟩
 refine in_frame ha ?_
 clear ha hV
 have hV := hJ_160 _ hI
 clear hI hJ_160
 refine WC.region (Rn hS (ex_wrap_add rfl rfl) ?_)
 refine R hS ?_
 refine WL.nil ?_
 replace hS := hS.f2.f2
 exact Wt fun a ha => ⟨(IntKind.i64.wrap (x_71 + (1 : Int))), ⟨(IntKind.i64.wrap (x_71 + (1 : Int))), rfl, hV.1, (wrap_I64 _), hS, ha.os⟩, hV.2⟩
 clear hJ_160
 refine WC.block (WC.sr ?_)
 iterate 2 refine R hS ?_
 refine WL.nx ?_
 obtain ⟨J_170, hJ_171, hV⟩ := hV
 refine WC.meet (fun a w => ∃ (x_169 : Bool), J_170 x_169 ∧ St w0 H ([(b_2, oc #[sv text_4, i6 xat_5, i6 deep_7, .bool heavy_9] 62)] ++ ([(b_12, oc #[.nilIface] 25)] ++ L)) w ∧ Fr 85 [(0, (pq b_2)), (1, sv w_10), (2, .bool minus_11), (6, (pq b_12)), (11, i6 (w_10.length : Int)), (12, i6 x_71), (36, .bool x_169)] a) ?_ ?_
 rintro a w ⟨x_169, hI, hS, ha⟩
 refine in_frame ha ?_
 clear ha hV
 have hV := hJ_171 _ hI
 clear hI hJ_171
 refine Cd ?_ ?_
 intro hc_186
 replace hV := hV.1 hc_186
 refine WC.region (R hS ?_)
 refine WL.callP rfl rfl rfl (enters0 (vs := [(pq b_2), i6 (1 : Int)]) call25 ⟨rfl, rfl, trivial⟩) (S_fail hr_6 hr_8 (show I64 (1 : Int) by unfold I64; omega) hS hV) (by rintro _ w ⟨e_181, xat_182, hE_183, rfl, H_184, le_185, hS⟩; exact ⟨_, rfl, WQ.of fun a ha => And.intro ha.defers (.inr ⟨e_181, xat_182, hE_183, rfl, _, ((View.le.refl _).trans le_185), hS.drop⟩)⟩) ?_
 clear hV hS
 rintro _ w ⟨hV, rfl, hS⟩
 refine ⟨_, rfl, ?_⟩
 refine WL.nil (WQ.out nofun ?_)
 replace hS := hS.f2.f2
 exact Wt fun a ha => ⟨hV, hS, ha.os⟩
 intro hc_186
 replace hV := hV.2 hc_186
 refine WC.skip (WQ.out nofun ?_)
 replace hS := hS.f2.f2
 exact Wt fun a ha => ⟨hV, hS, ha.os⟩
 clear hJ_171
 refine WC.region ?_
 iterate 2 refine R hS ?_
 obtain ⟨hin_172, hV⟩ := hV
 iterate 3 refine R hS ?_
 rcases bft (decide ((byte w_10 x_71) < (48 : Int))) with hg_173 | hg_173
 replace hV := hV.1 (od hg_173)
 iterate 17 refine R hS ?_
 refine WL.nil ?_
 replace hS := hS.f2.f2
 exact Wt fun a ha => ⟨true, hV, hS, ha.os⟩
 replace hV := hV.2 (ov hg_173)
 iterate 2 refine R hS ?_
 refine Ug hg_173 ?_
 obtain ⟨hin_174, hV⟩ := hV
 iterate 4 refine R hS ?_
 rcases bft (decide ((57 : Int) < (byte w_10 x_71))) with hg_175 | hg_175
 replace hV := hV.1 (od hg_175)
 iterate 11 refine R hS ?_
 refine WL.nil ?_
 replace hS := hS.f2.f2
 exact Wt fun a ha => ⟨true, hV, hS, ha.os⟩
 replace hV := hV.2 (ov hg_175)
 refine R hS ?_
 refine Ug hg_175 ?_
 obtain ⟨hin_176, hV⟩ := hV
 iterate 3 refine R hS ?_
 rcases bft (decide ((byte w_10 (0 : Int)) = (48 : Int))) with hg_177 | hg_177
 replace hV := hV.1 (od hg_177)
 iterate 3 refine R hS ?_
 rcases bft (decide ((0 : Int) < x_71)) with hg_179 | hg_179
 replace hV := hV.1 (od hg_179)
 iterate 4 refine R hS ?_
 refine WL.nil ?_
 replace hS := hS.f2.f2
 exact Wt fun a ha => ⟨true, hV, hS, ha.os⟩
 replace hV := hV.2 (ov hg_179)
 iterate 4 refine R hS ?_
 refine WL.nil ?_
 replace hS := hS.f2.f2
 exact Wt fun a ha => ⟨minus_11, hV, hS, ha.os⟩
 replace hV := hV.2 (ov hg_177)
 iterate 7 refine R hS ?_
 refine WL.nil ?_
 replace hS := hS.f2.f2
 exact Wt fun a ha => ⟨false, hV, hS, ha.os⟩
 intro hc_241
 replace hV := hV.2 (ov hc_241)
 refine WC.exit (Wp ?_)
 refine Wp ?_
 refine WQ.hit (WQ.next (WC.sr (R hS ?_)))
 refine Rc (enters0 (vs := [sv w_10, i6 (10 : Int), i6 (64 : Int)]) call194 ⟨rfl, rfl, rfl, trivial⟩) (S_ParseUint (show I64 (10 : Int) by unfold I64; omega) (show I64 (64 : Int) by unfold I64; omega) hN hS hV) ?_
 clear hV hS
 rintro _ w ⟨r_187, r_189, u_190, hV, rfl, hr_188, h_191, hS⟩
 refine ⟨_, rfl, ?_⟩
 iterate 5 refine R hS ?_
 refine WL.nx ?_
 obtain ⟨J_209, hJ_210, hV⟩ := hV
 refine WC.meet (fun a w => J_209 () ∧ St w0 H ([(b_2, oc #[sv text_4, i6 xat_5, i6 deep_7, .bool heavy_9] 62)] ++ ([(b_12, oc #[.nilIface] 25)] ++ L)) w ∧ Fr 85 [(0, (pq b_2)), (1, sv w_10), (2, .bool minus_11), (6, (pq b_12)), (8, .int .u64 r_187)] a) ?_ ?_
 rintro a w ⟨hI, hS, ha⟩
 refine in_frame ha ?_
 clear ha hV
 have hV := hJ_210 _ hI
 clear hI hJ_210
 refine WC.sr ?_
 iterate 5 refine R hS ?_
 obtain ⟨hl_227, hV⟩ := hV
 refine R hS ?_
 refine Rn hS (ex_wrap_add rfl rfl) ?_
 iterate 2 refine R hS ?_
 refine St1 #[sv text_4, i6 (IntKind.i64.wrap (xat_5 + (w_10.length : Int))), i6 deep_7, .bool heavy_9] sizeOf3 hS ?_
 clear hS
 intro w hS
 refine WL.nx (Sb [(0, (pq b_2)), (2, .bool minus_11), (6, (pq b_12)), (8, .int .u64 r_187)] ?_)
 refine WC.seq (WC.sr (R hS ?_))
 refine WL.nx ?_
 refine Cd ?_ ?_
 intro hc_240
 replace hV := hV.1 hc_240
 refine WC.sr ?_
 iterate 4 refine R hS ?_
 refine Rn hS (ex_wrap_add rfl rfl) ?_
 iterate 2 refine R hS ?_
 refine St1 #[sv text_4, i6 (IntKind.i64.wrap ((IntKind.i64.wrap (xat_5 + (w_10.length : Int))) + (1 : Int))), i6 deep_7, .bool heavy_9] sizeOf3 hS ?_
 clear hS
 intro w hS
 refine WL.nx (Sb [(6, (pq b_12)), (8, .int .u64 r_187)] ?_)
 refine WC.sr ?_
 iterate 2 refine R hS ?_
 refine Rn hS (ex_wneg rfl (wrap_I64 _)) ?_
 refine Rc (enters0 (vs := [i6 (wneg (IntKind.i64.wrap r_187))]) call100 ⟨rfl, trivial⟩) (S_Number (wneg_I64 _ (wrap_I64 _)) hS hV) ?_
 clear hV hS
 rintro _ w ⟨r_228, u_229, H_231, hV, rfl, le_232, h_230, hS⟩
 refine ⟨_, rfl, ?_⟩
 replace hS := hS.f2
 refine St1 #[u_229] sizeOf25 hS ?_ (cs := [u_229]) (hone := ⟨(IsW.one h_230), trivial⟩)
 clear hS
 intro w hS
 refine WL.nx (WC.ret (Wp ?_))
 have hl_233 := load_own_agg (P := Tryz.prog) (cs := [u_229]) isAgg25 sizeOf25 hS rfl
 replace hS := hS.drop
 exact leavec1 (il) rfl rfl hl_233 (.inl ⟨r_228, (IntKind.i64.wrap ((IntKind.i64.wrap (xat_5 + (w_10.length : Int))) + (1 : Int))), u_229, H_231, hV, rfl, ((View.le.refl _).trans le_232), h_230, (wrap_I64 _), hS⟩)
 intro hc_240
 replace hV := hV.2 hc_240
 refine WC.skip (WQ.next (WC.sr ?_))
 iterate 2 refine R hS ?_
 refine Rc (enters0 (vs := [i6 (IntKind.i64.wrap r_187)]) call100 ⟨rfl, trivial⟩) (S_Number (wrap_I64 _) hS hV) ?_
 clear hV hS
 rintro _ w ⟨r_234, u_235, H_237, hV, rfl, le_238, h_236, hS⟩
 refine ⟨_, rfl, ?_⟩
 replace hS := hS.f2
 refine St1 #[u_235] sizeOf25 hS ?_ (cs := [u_235]) (hone := ⟨(IsW.one h_236), trivial⟩)
 clear hS
 intro w hS
 refine WL.nx (WC.ret ?_)
 have hl_239 := load_own_agg (P := Tryz.prog) (cs := [u_235]) isAgg25 sizeOf25 hS rfl
 replace hS := hS.drop
 exact leavec1 (il) rfl rfl hl_239 (.inl ⟨r_234, (IntKind.i64.wrap (xat_5 + (w_10.length : Int))), u_235, H_237, hV, rfl, ((View.le.refl _).trans le_238), h_236, (wrap_I64 _), hS⟩)
 clear hJ_210
 obtain ⟨J_215, hJ_216, hV⟩ := hV
 refine WC.meet (fun a w => ∃ (x_214 : Bool), J_215 x_214 ∧ St w0 H ([(b_2, oc #[sv text_4, i6 xat_5, i6 deep_7, .bool heavy_9] 62)] ++ ([(b_12, oc #[.nilIface] 25)] ++ L)) w ∧ Fr 85 [(0, (pq b_2)), (1, sv w_10), (2, .bool minus_11), (6, (pq b_12)), (8, .int .u64 r_187), (58, .bool x_214)] a) ?_ ?_
 rintro a w ⟨x_214, hI, hS, ha⟩
 refine in_frame ha ?_
 clear ha hV
 have hV := hJ_216 _ hI
 clear hI hJ_216
 refine Cd ?_ ?_
 intro hc_226
 replace hV := hV.1 hc_226
 refine WC.region (R hS ?_)
 refine WL.callP rfl rfl rfl (enters0 (vs := [(pq b_2), i6 (5 : Int)]) call25 ⟨rfl, rfl, trivial⟩) (S_fail hr_6 hr_8 (show I64 (5 : Int) by unfold I64; omega) hS hV) (by rintro _ w ⟨e_221, xat_222, hE_223, rfl, H_224, le_225, hS⟩; exact ⟨_, rfl, WQ.of fun a ha => And.intro ha.defers (.inr ⟨e_221, xat_222, hE_223, rfl, _, ((View.le.refl _).trans le_225), hS.drop⟩)⟩) ?_
 clear hV hS
 rintro _ w ⟨hV, rfl, hS⟩
 refine ⟨_, rfl, ?_⟩
 refine WL.nil ?_
 replace hS := hS.f2.f2
 exact Wt fun a ha => ⟨hV, hS, ha.os⟩
 intro hc_226
 replace hV := hV.2 hc_226
 refine WC.skip ?_
 replace hS := hS.f2.f2
 exact Wt fun a ha => ⟨hV, hS, ha.os⟩
 clear hJ_216
 refine WC.region (R hS ?_)
 refine Rn hS (ex_aerr_neq iface27 rfl h_191) ?_
 refine R hS ?_
 rcases bft (!r_189) with hg_217 | hg_217
 replace hV := hV.1 hg_217
 iterate 11 refine R hS ?_
 refine WL.nil ?_
 replace hS := hS.f2.f2
 exact Wt fun a ha => ⟨true, hV, hS, ha.os⟩
 replace hV := hV.2 hg_217
 iterate 3 refine R hS ?_
 rcases bft (decide ((9223372036854775807 : Int) < r_187)) with hg_218 | hg_218
 replace hV := hV.1 (od hg_218)
 iterate 2 refine R hS ?_
 rcases bft minus_11 with hg_219 | hg_219
 replace hV := hV.1 hg_219
 iterate 6 refine R hS ?_
 refine WL.nil ?_
 replace hS := hS.f2.f2
 exact Wt fun a ha => ⟨(!(decide (r_187 = (9223372036854775808 : Int)))), hV, hS, ha.os⟩
 replace hV := hV.2 hg_219
 iterate 6 refine R hS ?_
 refine WL.nil ?_
 replace hS := hS.f2.f2
 exact Wt fun a ha => ⟨(!false), hV, hS, ha.os⟩
 replace hV := hV.2 (ov hg_218)
 iterate 8 refine R hS ?_
 refine WL.nil ?_
 replace hS := hS.f2.f2
 exact Wt fun a ha => ⟨false, hV, hS, ha.os⟩
theorem S_single {w0 : World} {H : View} {L : Seg} {w : World} {b_2 : Nat} {text_4 : Str} {xat_5 : Int} {deep_7 : Int} {heavy_9 : Bool} {E : Int → Int → Prop} {Q : Val → Int → Prop} (hr_6 : I64 xat_5) (hr_8 : I64 deep_7) (hN : GlobN w0 H) (hS : St w0 H ([(b_2, oc #[sv text_4, i6 xat_5, i6 deep_7, .bool heavy_9] 62)] ++ L) w) (hV : V_single text_4 xat_5 deep_7 heavy_9 E Q) :
 Calls Tryz.prog 66 #[(pq b_2)] w fun e w' => (∃ (r1 : Val) (r2 : Int) (u1 : Value) (H' : View), Q r1 r2 ∧ e = .returned (.agg #[u1]) ∧ View.le H H' ∧ IsW H' u1 r1 ∧ I64 r2 ∧ St w0 H' ([(b_2, oc #[sv text_4, i6 r2, i6 deep_7, .bool heavy_9] 62)] ++ L) w') ∨ (∃ e1 a1, E e1 a1 ∧ e = .panicked (faultC e1 a1) ∧ ∃ H1, View.le H H1 ∧ St w0 H1 L w') := by
 unfold V_single at hV
 refine enter func66 rfl ntmps66 rfl (lk_args_cons (d := 0) (v := (pq b_2)) rfl (lk_args_nil _)) (WC.sr (WL.alloc (arr := #[.nilIface]) rfl zeroValue25 rfl hS ?_))
 clear hS
 intro b_10 w hS
 refine WL.nx (WC.seq (WC.quiet (C := St w0 H ([(b_10, oc #[.nilIface] 25)] ++ ([(b_2, oc #[sv text_4, i6 xat_5, i6 deep_7, .bool heavy_9] 62)] ++ L))) mixed (by kernel_rfl) (hS.drawn _) ?_))
 clear hS w
 iterate 3 refine Rq ?_
 refine Rm ((ex_load_box isAgg9 rfl rfl).of (fun _ h => St.f2 h)) ?_
 iterate 3 refine Rq ?_
 refine Rm ((ex_load_box isAgg3 rfl rfl).of (fun _ h => St.f2 h)) ?_
 obtain ⟨hb_12, hV⟩ := hV
 refine Rm (ex_s_lo underlying9 rfl rfl hb_12) ?_
 refine Rq ?_
 refine Wq.nil fun w hS => ?_
 refine WQ.next ?_
 obtain ⟨J_132, hJ_133, hV⟩ := hV
 refine WC.meet (fun a w => J_132 () ∧ St w0 H ([(b_2, oc #[sv text_4, i6 xat_5, i6 deep_7, .bool heavy_9] 62)] ++ ([(b_10, oc #[.nilIface] 25)] ++ L)) w ∧ Fr 185 [(0, (pq b_2)), (2, (pq b_10)), (3, sv (text_4.drop xat_5.toNat))] a) ?_ ?_
 rintro a w ⟨hI, hS, ha⟩
 refine in_frame ha ?_
 clear ha hV
 have hV := hJ_133 _ hI
 clear hI hJ_133
 refine WC.sr (R hS ?_)
 refine Rc (enters0 (vs := [sv (text_4.drop xat_5.toNat), sv ([45] : Str)]) call57 ⟨rfl, rfl, trivial⟩) (S_hasPre  hS hV) ?_
 clear hV hS
 rintro _ w ⟨r_254, hV, rfl, hS⟩
 refine ⟨_, rfl, ?_⟩
 refine R hS ?_
 refine WL.nx ?_
 obtain ⟨J_261, hJ_262, hV⟩ := hV
 refine WC.meet (fun a w => ∃ (c_259 : Int), J_261 c_259 ∧ I64 c_259 ∧ St w0 H ([(b_2, oc #[sv text_4, i6 c_259, i6 deep_7, .bool heavy_9] 62)] ++ ([(b_10, oc #[.nilIface] 25)] ++ L)) w ∧ Fr 185 [(0, (pq b_2)), (2, (pq b_10)), (6, .bool r_254)] a) ?_ ?_
 rintro a w ⟨c_259, hI, hr_260, hS, ha⟩
 refine in_frame ha ?_
 clear ha hV
 have hV := hJ_262 _ hI
 clear hI hJ_262
 refine WC.sr (R hS ?_)
 refine Rc (enters0 (vs := [(pq b_2)]) call104 ⟨rfl, trivial⟩) (S_word hr_260 hr_8 hS hV) ?_
 clear hV hS
 rintro _ w ⟨r_266, hV, rfl, hS⟩
 refine ⟨_, rfl, ?_⟩
 refine R hS ?_
 refine WL.nx ?_
 obtain ⟨J_273, hJ_274, hV⟩ := hV
 refine WC.meet (fun a w => ∃ (c_271 : Int), J_273 c_271 ∧ I64 c_271 ∧ St w0 H ([(b_2, oc #[sv text_4, i6 c_271, i6 deep_7, .bool heavy_9] 62)] ++ ([(b_10, oc #[.nilIface] 25)] ++ L)) w ∧ Fr 185 [(0, (pq b_2)), (2, (pq b_10)), (6, .bool r_254), (7, sv r_266)] a) ?_ ?_
 rintro a w ⟨c_271, hI, hr_272, hS, ha⟩
 refine in_frame ha ?_
 clear ha hV
 have hV := hJ_274 _ hI
 clear hI hJ_274
 refine WC.seq ?_
 obtain ⟨J_283, hJ_284, hV⟩ := hV
 refine WC.meet (fun a w => ∃ (x_282 : Bool), J_283 x_282 ∧ St w0 H ([(b_2, oc #[sv text_4, i6 c_271, i6 deep_7, .bool heavy_9] 62)] ++ ([(b_10, oc #[.nilIface] 25)] ++ L)) w ∧ Fr 185 [(0, (pq b_2)), (2, (pq b_10)), (6, .bool r_254), (7, sv r_266), (118, .bool x_282)] a) ?_ ?_
 rintro a w ⟨x_282, hI, hS, ha⟩
 refine in_frame ha ?_
 clear ha hV
 have hV := hJ_284 _ hI
 clear hI hJ_284
 refine Cd ?_ ?_
 intro hc_403
 replace hV := hV.1 hc_403
 refine WC.sr ?_
 iterate 3 refine R hS ?_
 refine WL.callP rfl rfl rfl (enters0 (vs := [(pq b_2), sv r_266, .bool r_254]) call105 ⟨rfl, rfl, rfl, trivial⟩) (S_number hr_272 hr_8 hN hS hV) (by rintro _ w ⟨e_296, xat_297, hE_298, rfl, H_299, le_300, hS⟩; exact ⟨_, rfl, WQ.of fun a ha => And.intro ha.defers (.inr ⟨e_296, xat_297, hE_298, rfl, _, ((View.le.refl _).trans le_300), hS.drop⟩)⟩) ?_
 clear hV hS
 rintro _ w ⟨r_289, r_292, u_290, H_294, hV, rfl, le_295, h_291, hr_293, hS⟩
 refine ⟨_, rfl, ?_⟩
 replace hS := hS.f2
 refine St1 #[u_290] sizeOf25 hS ?_ (cs := [u_290]) (hone := ⟨(IsW.one h_291), trivial⟩)
 clear hS
 intro w hS
 refine WL.nx (WC.ret (Wp ?_))
 have hl_301 := load_own_agg (P := Tryz.prog) (cs := [u_290]) isAgg25 sizeOf25 hS rfl
 replace hS := hS.drop
 exact leavec1 (il) rfl rfl hl_301 (.inl ⟨r_289, r_292, u_290, H_294, hV, rfl, ((View.le.refl _).trans le_295), h_291, hr_293, hS⟩)
 intro hc_403
 replace hV := hV.2 hc_403
 refine WC.skip (WQ.next ?_)
 obtain ⟨J_318, hJ_319, hV⟩ := hV
 refine WC.meet (fun a w => J_318 () ∧ St w0 H ([(b_2, oc #[sv text_4, i6 c_271, i6 deep_7, .bool heavy_9] 62)] ++ ([(b_10, oc #[.nilIface] 25)] ++ L)) w ∧ Fr 185 [(0, (pq b_2)), (2, (pq b_10)), (7, sv r_266)] a) ?_ ?_
 rintro a w ⟨hI, hS, ha⟩
 refine in_frame ha ?_
 clear ha hV
 have hV := hJ_319 _ hI
 clear hI hJ_319
 refine WC.seq (WC.sr (R hS ?_))
 refine WL.nx (WC.block (WC.sr ?_))
 iterate 2 refine R hS ?_
 refine WL.nx ?_
 refine Cd ?_ ?_
 intro hc_402
 replace hV := hV.1 (od hc_402)
 refine WC.sr ?_
 iterate 5 refine R hS ?_
 obtain ⟨hl_336, hV⟩ := hV
 refine R hS ?_
 obtain ⟨hi_338, hV⟩ := hV
 iterate 3 refine R hS ?_
 refine St1 #[sv text_4, i6 (c_271 + (r_266.length : Int)), i6 deep_7, .bool heavy_9] sizeOf3 hS ?_
 clear hS
 intro w hS
 refine WL.nx (Sb [(2, (pq b_10))] ?_)
 refine WC.sr (Rn hS (ex_build (vs := []) (zc := #[.nilIface]) (cs := #[.nilIface]) (places := #[(0, 1)]) underlying25 zeroValue25 (fun w => by simp [sizeOf23]) rfl trivial rfl (by simp [Instr.fill, cells_int, cells_bool, cells_iface, cells_niliface, cells_slice, str_cells])) ?_)
 replace hS := hS.f2
 refine St1 #[.nilIface] sizeOf25 hS ?_
 clear hS
 intro w hS
 refine WL.nx (WC.ret (WQ.out nofun (Wp ?_)))
 have hl_339 := load_own_agg (P := Tryz.prog) (cs := [.nilIface]) isAgg25 sizeOf25 hS rfl
 replace hS := hS.drop
 exact leavec1 (il) rfl rfl hl_339 (.inl ⟨Val.nil, (c_271 + (r_266.length : Int)), .nilIface, H, hV, rfl, (View.le.refl _), IsW.nil, hi_338, hS⟩)
 intro hc_402
 replace hV := hV.2 (ov hc_402)
 obtain ⟨J_342, hJ_343, hV⟩ := hV
 refine WC.meet (fun a w => ∃ (x_341 : Bool), J_342 x_341 ∧ St w0 H ([(b_2, oc #[sv text_4, i6 c_271, i6 deep_7, .bool heavy_9] 62)] ++ ([(b_10, oc #[.nilIface] 25)] ++ L)) w ∧ Fr 185 [(0, (pq b_2)), (2, (pq b_10)), (7, sv r_266), (148, .bool x_341)] a) ?_ ?_
 rintro a w ⟨x_341, hI, hS, ha⟩
 refine in_frame ha ?_
 clear ha hV
 have hV := hJ_343 _ hI
 clear hI hJ_343
 refine Cd ?_ ?_
 intro hc_401
 replace hV := hV.1 hc_401
 refine WC.sr ?_
 iterate 5 refine R hS ?_
 obtain ⟨hl_345, hV⟩ := hV
 refine R hS ?_
 obtain ⟨hi_347, hV⟩ := hV
 iterate 3 refine R hS ?_
 refine St1 #[sv text_4, i6 (c_271 + (r_266.length : Int)), i6 deep_7, .bool heavy_9] sizeOf3 hS ?_
 clear hS
 intro w hS
 refine WL.nx (Sb [(2, (pq b_10)), (7, sv r_266)] ?_)
 refine WC.sr ?_
 iterate 2 refine R hS ?_
 refine Rc (enters0 (vs := [.bool (decide (r_266 = ([116, 114, 117, 101] : Str)))]) call106 ⟨rfl, trivial⟩) (S_Truth  hS hV) ?_
 clear hV hS
 rintro _ w ⟨r_348, u_349, H_351, hV, rfl, le_352, h_350, hS⟩
 refine ⟨_, rfl, ?_⟩
 replace hS := hS.f2
 refine St1 #[u_349] sizeOf25 hS ?_ (cs := [u_349]) (hone := ⟨(IsW.one h_350), trivial⟩)
 clear hS
 intro w hS
 refine WL.nx (WC.ret (WQ.out nofun (Wp ?_)))
 have hl_353 := load_own_agg (P := Tryz.prog) (cs := [u_349]) isAgg25 sizeOf25 hS rfl
 replace hS := hS.drop
 exact leavec1 (il) rfl rfl hl_353 (.inl ⟨r_348, (c_271 + (r_266.length : Int)), u_349, H_351, hV, rfl, ((View.le.refl _).trans le_352), h_350, hi_347, hS⟩)
 intro hc_401
 replace hV := hV.2 hc_401
 refine WC.skip (WQ.out nofun (WQ.next ?_))
 obtain ⟨J_372, hJ_373, hV⟩ := hV
 refine WC.meet (fun a w => J_372 () ∧ St w0 H ([(b_2, oc #[sv text_4, i6 c_271, i6 deep_7, .bool heavy_9] 62)] ++ ([(b_10, oc #[.nilIface] 25)] ++ L)) w ∧ Fr 185 [(0, (pq b_2)), (2, (pq b_10)), (7, sv r_266)] a) ?_ ?_
 rintro a w ⟨hI, hS, ha⟩
 refine in_frame ha ?_
 clear ha hV
 have hV := hJ_373 _ hI
 clear hI hJ_373
 refine WC.sr ?_
 iterate 5 refine R hS ?_
 obtain ⟨hl_392, hV⟩ := hV
 refine R hS ?_
 obtain ⟨hi_394, hV⟩ := hV
 iterate 3 refine R hS ?_
 refine St1 #[sv text_4, i6 (c_271 + (r_266.length : Int)), i6 deep_7, .bool heavy_9] sizeOf3 hS ?_
 clear hS
 intro w hS
 refine WL.nx (Sb [(2, (pq b_10)), (7, sv r_266)] ?_)
 refine WC.sr (R hS ?_)
 refine Rc (enters0 (vs := [sv r_266]) call108 ⟨rfl, trivial⟩) (S_Atom  hS hV) ?_
 clear hV hS
 rintro _ w ⟨r_395, u_396, H_398, hV, rfl, le_399, h_397, hS⟩
 refine ⟨_, rfl, ?_⟩
 replace hS := hS.f2
 refine St1 #[u_396] sizeOf25 hS ?_ (cs := [u_396]) (hone := ⟨(IsW.one h_397), trivial⟩)
 clear hS
 intro w hS
 refine WL.nx (WC.ret ?_)
 have hl_400 := load_own_agg (P := Tryz.prog) (cs := [u_396]) isAgg25 sizeOf25 hS rfl
 replace hS := hS.drop
 exact leavec1 (il) rfl rfl hl_400 (.inl ⟨r_395, (c_271 + (r_266.length : Int)), u_396, H_398, hV, rfl, ((View.le.refl _).trans le_399), h_397, hi_394, hS⟩)
 clear hJ_373
 refine WC.block (WC.sr (R hS ?_))
 refine Rc (enters0 (vs := [sv r_266]) call107 ⟨rfl, trivial⟩) (S_Reserved  hS hV) ?_
 clear hV hS
 rintro _ w ⟨r_374, hV, rfl, hS⟩
 refine ⟨_, rfl, ?_⟩
 refine R hS ?_
 refine WL.nx ?_
 refine Cd ?_ ?_
 intro hc_391
 replace hV := hV.1 hc_391
 refine WC.region (R hS ?_)
 refine WL.callP rfl rfl rfl (enters0 (vs := [(pq b_2), i6 (1 : Int)]) call25 ⟨rfl, rfl, trivial⟩) (S_fail hr_272 hr_8 (show I64 (1 : Int) by unfold I64; omega) hS hV) (by rintro _ w ⟨e_377, xat_378, hE_379, rfl, H_380, le_381, hS⟩; exact ⟨_, rfl, WQ.of fun a ha => And.intro ha.defers (.inr ⟨e_377, xat_378, hE_379, rfl, _, ((View.le.refl _).trans le_381), hS.drop⟩)⟩) ?_
 clear hV hS
 rintro _ w ⟨hV, rfl, hS⟩
 refine ⟨_, rfl, ?_⟩
 refine WL.nil (WQ.out nofun ?_)
 replace hS := hS.f2.f2
 exact Wt fun a ha => ⟨hV, hS, ha.os⟩
 intro hc_391
 replace hV := hV.2 hc_391
 refine WC.sr (R hS ?_)
 obtain ⟨hl_382, hV⟩ := hV
 iterate 3 refine R hS ?_
 refine WL.nx ?_
 refine Cd ?_ ?_
 intro hc_390
 replace hV := hV.1 (od hc_390)
 refine WC.region (R hS ?_)
 refine WL.callP rfl rfl rfl (enters0 (vs := [(pq b_2), i6 (5 : Int)]) call25 ⟨rfl, rfl, trivial⟩) (S_fail hr_272 hr_8 (show I64 (5 : Int) by unfold I64; omega) hS hV) (by rintro _ w ⟨e_385, xat_386, hE_387, rfl, H_388, le_389, hS⟩; exact ⟨_, rfl, WQ.of fun a ha => And.intro ha.defers (.inr ⟨e_385, xat_386, hE_387, rfl, _, ((View.le.refl _).trans le_389), hS.drop⟩)⟩) ?_
 clear hV hS
 rintro _ w ⟨hV, rfl, hS⟩
 refine ⟨_, rfl, ?_⟩
 refine WL.nil (WQ.out nofun ?_)
 replace hS := hS.f2.f2
 exact Wt fun a ha => ⟨hV, hS, ha.os⟩
 intro hc_390
 replace hV := hV.2 (ov hc_390)
 refine WC.skip (WQ.out nofun ?_)
 replace hS := hS.f2.f2
 exact Wt fun a ha => ⟨hV, hS, ha.os⟩
 clear hJ_343
 refine WC.sr ?_
 iterate 2 refine R hS ?_
 refine WL.nx ?_
 refine Cd ?_ ?_
 intro hc_344
 replace hV := hV.1 (od hc_344)
 refine WC.skip ?_
 replace hS := hS.f2.f2
 exact Wt fun a ha => ⟨decide (r_266 = ([116, 114, 117, 101] : Str)), hV, hS, ha.os⟩
 intro hc_344
 replace hV := hV.2 (ov hc_344)
 refine WC.region ?_
 iterate 2 refine R hS ?_
 refine WL.nil ?_
 replace hS := hS.f2.f2
 exact Wt fun a ha => ⟨decide (r_266 = ([102, 97, 108, 115, 101] : Str)), hV, hS, ha.os⟩
 clear hJ_319
 obtain ⟨J_324, hJ_325, hV⟩ := hV
 refine WC.meet (fun a w => ∃ (x_323 : Bool), J_324 x_323 ∧ St w0 H ([(b_2, oc #[sv text_4, i6 c_271, i6 deep_7, .bool heavy_9] 62)] ++ ([(b_10, oc #[.nilIface] 25)] ++ L)) w ∧ Fr 185 [(0, (pq b_2)), (2, (pq b_10)), (7, sv r_266), (132, .bool x_323)] a) ?_ ?_
 rintro a w ⟨x_323, hI, hS, ha⟩
 refine in_frame ha ?_
 clear ha hV
 have hV := hJ_325 _ hI
 clear hI hJ_325
 refine Cd ?_ ?_
 intro hc_335
 replace hV := hV.1 hc_335
 refine WC.region (R hS ?_)
 refine WL.callP rfl rfl rfl (enters0 (vs := [(pq b_2), i6 (1 : Int)]) call25 ⟨rfl, rfl, trivial⟩) (S_fail hr_272 hr_8 (show I64 (1 : Int) by unfold I64; omega) hS hV) (by rintro _ w ⟨e_330, xat_331, hE_332, rfl, H_333, le_334, hS⟩; exact ⟨_, rfl, WQ.of fun a ha => And.intro ha.defers (.inr ⟨e_330, xat_331, hE_332, rfl, _, ((View.le.refl _).trans le_334), hS.drop⟩)⟩) ?_
 clear hV hS
 rintro _ w ⟨hV, rfl, hS⟩
 refine ⟨_, rfl, ?_⟩
 refine WL.nil ?_
 replace hS := hS.f2.f2
 exact Wt fun a ha => ⟨hV, hS, ha.os⟩
 intro hc_335
 replace hV := hV.2 hc_335
 refine WC.skip ?_
 replace hS := hS.f2.f2
 exact Wt fun a ha => ⟨hV, hS, ha.os⟩
 clear hJ_325
 refine WC.region ?_
 iterate 3 refine R hS ?_
 rcases bft (decide (r_266 = ([] : Str))) with hg_326 | hg_326
 replace hV := hV.1 (od hg_326)
 iterate 7 refine R hS ?_
 refine WL.nil ?_
 replace hS := hS.f2.f2
 exact Wt fun a ha => ⟨true, hV, hS, ha.os⟩
 replace hV := hV.2 (ov hg_326)
 iterate 3 refine R hS ?_
 rcases bft r_254 with hg_327 | hg_327
 replace hV := hV.1 hg_327
 iterate 4 refine R hS ?_
 refine WL.nil ?_
 replace hS := hS.f2.f2
 exact Wt fun a ha => ⟨true, hV, hS, ha.os⟩
 replace hV := hV.2 hg_327
 refine R hS ?_
 refine Ug hg_327 ?_
 obtain ⟨hin_328, hV⟩ := hV
 iterate 3 refine R hS ?_
 refine WL.nil ?_
 replace hS := hS.f2.f2
 exact Wt fun a ha => ⟨decide ((byte r_266 (0 : Int)) = (95 : Int)), hV, hS, ha.os⟩
 clear hJ_284
 refine WC.region ?_
 iterate 3 refine R hS ?_
 rcases bft (decide (r_266 ≠ ([] : Str))) with hg_285 | hg_285
 replace hV := hV.1 (od hg_285)
 refine R hS ?_
 refine Ug hg_285 ?_
 obtain ⟨hin_286, hV⟩ := hV
 iterate 4 refine R hS ?_
 rcases bft (decide ((48 : Int) ≤ (byte r_266 (0 : Int)))) with hg_287 | hg_287
 replace hV := hV.1 (od hg_287)
 refine R hS ?_
 refine Ug hg_287 ?_
 obtain ⟨hin_288, hV⟩ := hV
 iterate 3 refine R hS ?_
 refine WL.nil ?_
 replace hS := hS.f2.f2
 exact Wt fun a ha => ⟨decide ((byte r_266 (0 : Int)) ≤ (57 : Int)), hV, hS, ha.os⟩
 replace hV := hV.2 (ov hg_287)
 iterate 4 refine R hS ?_
 refine WL.nil ?_
 replace hS := hS.f2.f2
 exact Wt fun a ha => ⟨false, hV, hS, ha.os⟩
 replace hV := hV.2 (ov hg_285)
 iterate 9 refine R hS ?_
 refine WL.nil ?_
 replace hS := hS.f2.f2
 exact Wt fun a ha => ⟨false, hV, hS, ha.os⟩
 clear hJ_274
 refine WC.sr (R hS ?_)
 refine WL.nx ?_
 refine Cd ?_ ?_
 intro hc_277
 replace hV := hV.1 hc_277
 refine WC.region ?_
 iterate 4 refine R hS ?_
 obtain ⟨hi_276, hV⟩ := hV
 iterate 3 refine R hS ?_
 refine St1 #[sv text_4, i6 (c_259 - (1 : Int)), i6 deep_7, .bool heavy_9] sizeOf3 hS ?_
 clear hS
 intro w hS
 refine WL.nil ?_
 replace hS := hS.f2.f2
 exact Wt fun a ha => ⟨(c_259 - (1 : Int)), hV, hi_276, hS, ha.os⟩
 intro hc_277
 replace hV := hV.2 hc_277
 refine WC.skip ?_
 replace hS := hS.f2.f2
 exact Wt fun a ha => ⟨c_259, hV, hr_260, hS, ha.os⟩
 clear hJ_262
 refine WC.sr (R hS ?_)
 refine WL.nx ?_
 refine Cd ?_ ?_
 intro hc_265
 replace hV := hV.1 hc_265
 refine WC.region ?_
 iterate 4 refine R hS ?_
 obtain ⟨hi_264, hV⟩ := hV
 iterate 3 refine R hS ?_
 refine St1 #[sv text_4, i6 (xat_5 + (1 : Int)), i6 deep_7, .bool heavy_9] sizeOf3 hS ?_
 clear hS
 intro w hS
 refine WL.nil ?_
 replace hS := hS.f2.f2
 exact Wt fun a ha => ⟨(xat_5 + (1 : Int)), hV, hi_264, hS, ha.os⟩
 intro hc_265
 replace hV := hV.2 hc_265
 refine WC.skip ?_
 replace hS := hS.f2.f2
 exact Wt fun a ha => ⟨xat_5, hV, hr_6, hS, ha.os⟩
 clear hJ_133
 refine WC.sr (R hS ?_)
 refine Rc (enters0 (vs := [sv (text_4.drop xat_5.toNat), sv ([34] : Str)]) call57 ⟨rfl, rfl, trivial⟩) (S_hasPre  hS hV) ?_
 clear hV hS
 rintro _ w ⟨r_134, hV, rfl, hS⟩
 refine ⟨_, rfl, ?_⟩
 refine WL.nx (Sb [(0, (pq b_2)), (2, (pq b_10)), (3, sv (text_4.drop xat_5.toNat)), (18, .bool r_134)] ?_)
 refine Cd ?_ ?_
 intro hc_253
 replace hV := hV.1 hc_253
 refine WC.seq (WC.sr ?_)
 iterate 3 refine R hS ?_
 replace hS := hS.f2
 refine R hS ?_
 obtain ⟨hi_137, hV⟩ := hV
 iterate 2 refine R hS ?_
 refine WL.nx (WC.block ?_)
 replace hS := hS.f2.f2
 obtain ⟨I_208, mu_209, hI_252, hV⟩ := hV
 refine WC.loop (σ := Int) (fun s a w => ∃ (k_172 : Int), s = k_172 ∧ I_208 k_172 ∧ I64 k_172 ∧ St w0 H ([(b_2, oc #[sv text_4, i6 xat_5, i6 deep_7, .bool heavy_9] 62)] ++ ([(b_10, oc #[.nilIface] 25)] ++ L)) w ∧ Fr 185 [(0, (pq b_2)), (2, (pq b_10)), (3, sv (text_4.drop xat_5.toNat)), (4, i6 k_172)] a) mu_209 (xat_5 + (1 : Int)) ?_ ?_
 exact fun a ha => ⟨(xat_5 + (1 : Int)), rfl, hI_252, hi_137, hS, ha.os⟩
 clear hS hI_252
 rintro k_172 a w ⟨_, rfl, hI, hr_173, hS, ha⟩
 refine in_frame ha ?_
 clear ha
 replace hV := hV _ hI
 clear hI
 refine WC.seq ?_
 obtain ⟨J_220, hJ_221, hV⟩ := hV
 refine WC.meet (fun a w => ∃ (x_219 : Bool), J_220 x_219 ∧ St w0 H ([(b_2, oc #[sv text_4, i6 xat_5, i6 deep_7, .bool heavy_9] 62)] ++ ([(b_10, oc #[.nilIface] 25)] ++ L)) w ∧ Fr 185 [(0, (pq b_2)), (2, (pq b_10)), (3, sv (text_4.drop xat_5.toNat)), (4, i6 k_172), (57, .bool x_219)] a) ?_ ?_
 rintro a w ⟨x_219, hI, hS, ha⟩
 refine in_frame ha ?_
 clear ha hV
 have hV := hJ_221 _ hI
 clear hI hJ_221
 refine Cd ?_ ?_
 intro hc_251
 replace hV := hV.1 hc_251
 refine WC.skip (WQ.next (WC.seq (WC.block (WC.sr ?_))))
 iterate 5 refine R hS ?_
 obtain ⟨hin_230, hV⟩ := hV
 iterate 2 refine R hS ?_
 refine WL.nx ?_
 refine Cd ?_ ?_
 intro hc_244
 replace hV := hV.1 (od hc_244)
 refine WC.seq (WC.quiet (C := St w0 H ([(b_2, oc #[sv text_4, i6 xat_5, i6 deep_7, .bool heavy_9] 62)] ++ ([(b_10, oc #[.nilIface] 25)] ++ L))) mixed (by kernel_rfl) (hS.drawn _) ?_)
 clear hS w
 iterate 8 refine Rq ?_
 obtain ⟨hi_232, hV⟩ := hV
 iterate 2 refine Rq ?_
 obtain ⟨hb_233, hV⟩ := hV
 refine Rm (ex_s_lohi underlying9 rfl rfl rfl hb_233) ?_
 refine Rq ?_
 refine Wq.nil fun w hS => ?_
 refine WQ.next (Sb [(0, (pq b_2)), (2, (pq b_10)), (4, i6 k_172), (5, sv ((text_4.take k_172.toNat).drop (xat_5 + (1 : Int)).toNat))] ?_)
 refine WC.sr ?_
 iterate 2 refine R hS ?_
 obtain ⟨hi_235, hV⟩ := hV
 iterate 3 refine R hS ?_
 refine St1 #[sv text_4, i6 (k_172 + (1 : Int)), i6 deep_7, .bool heavy_9] sizeOf3 hS ?_
 clear hS
 intro w hS
 refine WL.nx (WC.sr (R hS ?_))
 refine Rc (enters0 (vs := [sv ((text_4.take k_172.toNat).drop (xat_5 + (1 : Int)).toNat)]) call103 ⟨rfl, trivial⟩) (S_Text  hS hV) ?_
 clear hV hS
 rintro _ w ⟨r_236, u_237, H_239, hV, rfl, le_240, h_238, hS⟩
 refine ⟨_, rfl, ?_⟩
 replace hS := hS.f2
 refine St1 #[u_237] sizeOf25 hS ?_ (cs := [u_237]) (hone := ⟨(IsW.one h_238), trivial⟩)
 clear hS
 intro w hS
 refine WL.nx (Sb [(2, (pq b_10))] ?_)
 refine WC.ret (WQ.out nofun (Wp ?_))
 refine Wp ?_
 refine WQ.out nofun (Wp ?_)
 refine Wp ?_
 have hl_241 := load_own_agg (P := Tryz.prog) (cs := [u_237]) isAgg25 sizeOf25 hS rfl
 replace hS := hS.drop
 exact leavec1 (il) rfl rfl hl_241 (.inl ⟨r_236, (k_172 + (1 : Int)), u_237, H_239, hV, rfl, ((View.le.refl _).trans le_240), h_238, hi_235, hS⟩)
 intro hc_244
 replace hV := hV.2 (ov hc_244)
 refine WC.skip (WQ.out nofun (WQ.next (WC.region (R hS ?_))))
 obtain ⟨hi_243, hV⟩ := hV
 iterate 2 refine R hS ?_
 refine WL.nil ?_
 replace hS := hS.f2.f2
 exact Wt fun a ha => ⟨(k_172 + (1 : Int)), ⟨(k_172 + (1 : Int)), rfl, hV.1, hi_243, hS, ha.os⟩, hV.2⟩
 intro hc_251
 replace hV := hV.2 hc_251
 refine WC.exit (Wp ?_)
 refine Wp ?_
 refine WQ.hit (WQ.next (WC.region (R hS ?_)))
 refine WL.callP rfl rfl rfl (enters0 (vs := [(pq b_2), i6 (1 : Int)]) call25 ⟨rfl, rfl, trivial⟩) (S_fail hr_6 hr_8 (show I64 (1 : Int) by unfold I64; omega) hS hV) (by rintro _ w ⟨e_246, xat_247, hE_248, rfl, H_249, le_250, hS⟩; exact ⟨_, rfl, WQ.of fun a ha => And.intro ha.defers (.inr ⟨e_246, xat_247, hE_248, rfl, _, ((View.le.refl _).trans le_250), hS.drop⟩)⟩) ?_
 clear hV hS
 rintro _ w ⟨hV, rfl, hS⟩
 refine ⟨_, rfl, ?_⟩
 refine WL.nil ?_
 replace hS := hS.f2.f2
 exact Wt fun a ha => ⟨hV, hS, ha.os⟩
 clear hJ_221
 refine WC.region ?_
 iterate 5 refine R hS ?_
 obtain ⟨hl_222, hV⟩ := hV
 iterate 3 refine R hS ?_
 rcases bft (decide (k_172 < (text_4.length : Int))) with hg_224 | hg_224
 replace hV := hV.1 (od hg_224)
 iterate 5 refine R hS ?_
 refine Ug hg_224 ?_
 obtain ⟨hin_225, hV⟩ := hV
 iterate 4 refine R hS ?_
 rcases bft (decide ((32 : Int) ≤ (byte text_4 k_172))) with hg_226 | hg_226
 replace hV := hV.1 (od hg_226)
 iterate 5 refine R hS ?_
 refine Ug hg_226 ?_
 obtain ⟨hin_227, hV⟩ := hV
 iterate 4 refine R hS ?_
 rcases bft (decide ((byte text_4 k_172) ≤ (126 : Int))) with hg_228 | hg_228
 replace hV := hV.1 (od hg_228)
 iterate 5 refine R hS ?_
 refine Ug hg_228 ?_
 obtain ⟨hin_229, hV⟩ := hV
 iterate 3 refine R hS ?_
 refine WL.nil ?_
 replace hS := hS.f2.f2
 exact Wt fun a ha => ⟨decide ((byte text_4 k_172) ≠ (92 : Int)), hV, hS, ha.os⟩
 replace hV := hV.2 (ov hg_228)
 iterate 8 refine R hS ?_
 refine WL.nil ?_
 replace hS := hS.f2.f2
 exact Wt fun a ha => ⟨false, hV, hS, ha.os⟩
 replace hV := hV.2 (ov hg_226)
 iterate 17 refine R hS ?_
 refine WL.nil ?_
 replace hS := hS.f2.f2
 exact Wt fun a ha => ⟨false, hV, hS, ha.os⟩
 replace hV := hV.2 (ov hg_224)
 iterate 26 refine R hS ?_
 refine WL.nil ?_
 replace hS := hS.f2.f2
 exact Wt fun a ha => ⟨false, hV, hS, ha.os⟩
 intro hc_253
 replace hV := hV.2 hc_253
 refine WC.skip ?_
 replace hS := hS.f2
 exact Wt fun a ha => ⟨hV, hS, ha.os⟩
def H_value (G : Str → Int → Int → Bool → (Int → Int → Prop) → (Val → Int → Int → Bool → Prop) → Prop) : Prop := ∀ {w0 : World} {H : View} {L : Seg} {w : World} {b_2 : Nat} {text_4 : Str} {xat_5 : Int} {deep_7 : Int} {heavy_9 : Bool} {E : Int → Int → Prop} {Q : Val → Int → Int → Bool → Prop} (hr_6 : I64 xat_5) (hr_8 : I64 deep_7) (hN : GlobN w0 H) (hS : St w0 H ([(b_2, oc #[sv text_4, i6 xat_5, i6 deep_7, .bool heavy_9] 62)] ++ L) w) (hV : G text_4 xat_5 deep_7 heavy_9 E Q), Calls Tryz.prog 23 #[(pq b_2)] w fun e w' => (∃ (r1 : Val) (r2 : Int) (r3 : Int) (r4 : Bool) (u1 : Value) (H' : View), Q r1 r2 r3 r4 ∧ e = .returned (.agg #[u1]) ∧ View.le H H' ∧ IsW H' u1 r1 ∧ I64 r2 ∧ I64 r3 ∧ St w0 H' ([(b_2, oc #[sv text_4, i6 r2, i6 r3, .bool r4] 62)] ++ L) w') ∨ (∃ e1 a1, E e1 a1 ∧ e = .panicked (faultC e1 a1) ∧ ∃ H1, View.le H H1 ∧ St w0 H1 L w')
theorem S_value1 {G : Str → Int → Int → Bool → (Int → Int → Prop) → (Val → Int → Int → Bool → Prop) → Prop} (hG : H_value G) {w0 : World} {H : View} {L : Seg} {w : World} {b_2 : Nat} {v_5 : Value} {c_1_4 : List (Val)} {fp_7 : Seg} {b_10 : Nat} {b_13 : Nat} {text_15 : Str} {xat_16 : Int} {deep_18 : Int} {heavy_20 : Bool} {E : Int → Int → Prop} {Q : (List (Val)) → Int → Int → Bool → Prop} (h_6 : OwnSl H cV 25 v_5 c_1_4 fp_7) (hr_17 : I64 xat_16) (hr_19 : I64 deep_18) (hN : GlobN w0 H) (hS : St w0 H ([(b_2, oc #[v_5] 42)] ++ (fp_7 ++ ([(b_10, oc #[(pq b_13)] 60)] ++ ([(b_13, oc #[sv text_15, i6 xat_16, i6 deep_18, .bool heavy_20] 62)] ++ L)))) w) (hV : V_value1 G c_1_4 text_15 xat_16 deep_18 heavy_20 E Q) :
 Calls Tryz.prog 56 #[(pq b_2), (pq b_10)] w fun e w' => (∃ (r1 : List (Val)) (r2 : Int) (r3 : Int) (r4 : Bool) (v1 : Value) (fp1 : Seg) (H' : View), Q r1 r2 r3 r4 ∧ e = .returned (.tuple #[]) ∧ View.le H H' ∧ OwnSl H' cV 25 v1 r1 fp1 ∧ I64 r2 ∧ I64 r3 ∧ St w0 H' ([(b_2, oc #[v1] 42)] ++ (fp1 ++ ([(b_10, oc #[(pq b_13)] 60)] ++ ([(b_13, oc #[sv text_15, i6 r2, i6 r3, .bool r4] 62)] ++ L)))) w') ∨ (∃ e1 a1, E e1 a1 ∧ e = .panicked (faultC e1 a1) ∧ ∃ H1, View.le H H1 ∧ St w0 H1 L w') := by
 unfold V_value1 at hV
 refine enter func56 rfl ntmps56 rfl (lk_args_cons (d := 0) (v := (pq b_2)) rfl (lk_args_cons (d := 1) (v := (pq b_10)) rfl (lk_args_nil _))) (DP.WC.drawn (σ := [0, 1, 2, 3, 4, 5]) (C := St w0 H ([(b_2, oc #[v_5] 42)] ++ (fp_7 ++ ([(b_10, oc #[(pq b_13)] 60)] ++ ([(b_13, oc #[sv text_15, i6 xat_16, i6 deep_18, .bool heavy_20] 62)] ++ L))))) (Pn := fun c w => ∃ e1 a1, E e1 a1 ∧ Ending.panicked c = .panicked (faultC e1 a1) ∧ ∃ H1, View.le H H1 ∧ St w0 H1 L w) [[], [], [1], [1, 2], [0, 1, 2, 3], [0, 1, 2, 3, 4]] [2, 3, 4, 5] (fun c a w hd hp => And.intro hd (.inr hp)) mixed (by kernel_rfl) (hS.drawn _) ?_)
 clear hS w
 refine DP.Wd.runb (off := 0) rfl rfl rfl rfl (fun _ _ _ h => ex_load_box isAgg42 rfl h) rfl (fun _ h => h) fun q_22 hq_21 => ?_
 refine DP.Wd.runb (off := 0) rfl rfl rfl rfl (fun _ _ _ h => ex_load_box isAgg60 rfl h) rfl (fun _ h => St.f3 h) fun q_24 hq_23 => ?_
 refine DP.Wd.turn rfl rfl rfl fun w hS => ?_
 replace hS := hS.f4
 refine WL.callP rfl rfl rfl (enters0 (vs := [(pq b_13)]) call23 ⟨rfl, trivial⟩) (hG hr_17 hr_19 hN hS hV) (by rintro _ w ⟨e_35, xat_36, hE_37, rfl, H_38, le_39, hS⟩; exact ⟨_, rfl, DP.DQ.pan ⟨e_35, xat_36, hE_37, rfl, _, ((View.le.refl _).trans le_39), hS.drop.drop.drop⟩⟩) ?_
 clear hV hS
 rintro _ w ⟨r_25, r_28, r_30, r_32, u_26, H_33, hV, rfl, le_34, h_27, hr_29, hr_31, hS⟩
 refine ⟨_, rfl, ?_⟩
 refine WL.nil (DP.DQ.mk2 (C' := St w0 H_33 ([(b_13, oc #[sv text_15, i6 r_28, i6 r_30, .bool r_32] 62)] ++ ([(b_2, oc #[v_5] 42)] ++ (fp_7 ++ ([(b_10, oc #[(pq b_13)] 60)] ++ L))))) hS ⟨il, .inr (hq_21 H_33 ([(b_13, oc #[sv text_15, i6 r_28, i6 r_30, .bool r_32] 62)] ++ (fp_7 ++ ([(b_10, oc #[(pq b_13)] 60)] ++ L))) #[v_5] _ rfl (fun _ h => St.f2 h)), trivial⟩ ?_)
 clear hS w
 refine DP.Wd.turn rfl rfl rfl fun w hS => ?_
 refine WL.builds (c := cV) (xs := [r_25]) (vs := [.agg #[u_26]]) (css := [[u_26]]) rfl underlying42 info25 rfl ⟨rfl, trivial⟩ rfl (by decide) rfl (by simp; rfl) ⟨[u_26], _, rfl, (cV_mk h_27), rfl⟩ hS rfl (by decide) ?_
 clear hS
 intro v_41 w fp_42 h_43 hS
 refine WL.nil (DP.DQ.mk2 (C' := St w0 H_33 (fp_42 ++ ([(b_13, oc #[sv text_15, i6 r_28, i6 r_30, .bool r_32] 62)] ++ ([(b_2, oc #[v_5] 42)] ++ (fp_7 ++ ([(b_10, oc #[(pq b_13)] 60)] ++ L)))))) hS ⟨il, .inr (hq_21 H_33 (fp_42 ++ ([(b_13, oc #[sv text_15, i6 r_28, i6 r_30, .bool r_32] 62)] ++ (fp_7 ++ ([(b_10, oc #[(pq b_13)] 60)] ++ L)))) #[v_5] _ rfl (fun _ h => St.f3 h)), trivial⟩ ?_)
 clear hS w
 refine DP.Wd.turn rfl rfl rfl fun w hS => ?_
 obtain ⟨hr_44, hV⟩ := hV
 replace hS := hS.f4
 refine WL.append (c := cV) (xs := c_1_4) (ys := ([r_25])) rfl underlying42 info25 rfl rfl rfl hS (h_6.mono le_34) (h_43.src hS.f2) hr_44.1 hr_44.2 ?_
 clear hS
 intro v_45 w fp_46 h_47 hS
 refine WL.nil (DP.DQ.mk2 (C' := St w0 H_33 (fp_46 ++ (fp_42 ++ ([(b_13, oc #[sv text_15, i6 r_28, i6 r_30, .bool r_32] 62)] ++ ([(b_2, oc #[v_5] 42)] ++ ([(b_10, oc #[(pq b_13)] 60)] ++ L)))))) hS ⟨il, il, trivial⟩ ?_)
 clear hS w
 refine DP.Wd.turn rfl rfl rfl fun w hS => ?_
 replace hS := hS.f4
 refine St1 #[v_45] sizeOf42 hS ?_ (cs := [v_45]) (hc := (congrArg Array.toList (cells_one (OwnSl.one h_47)))) (hone := ⟨(OwnSl.one h_47), trivial⟩)
 clear hS
 intro w hS
 refine WL.nil (DP.DQ.mk2 (C' := St w0 H_33 ([(b_2, oc #[v_45] 42)] ++ (fp_46 ++ (fp_42 ++ ([(b_13, oc #[sv text_15, i6 r_28, i6 r_30, .bool r_32] 62)] ++ ([(b_10, oc #[(pq b_13)] 60)] ++ L)))))) hS ⟨il, il, trivial⟩ ?_)
 clear hS w
 refine DP.Wd.nil fun w hS => ?_
 replace hS := hS.f3.drop
 replace hS := hS.f3.f4.f4.f4
 exact leave0 (.inr rfl) rfl (.inl ⟨(c_1_4 ++ ([r_25])), r_28, r_30, r_32, v_45, fp_46, H_33, hV, rfl, ((View.le.refl _).trans le_34), h_47, hr_29, hr_31, hS⟩)
theorem S_value2 {G : Str → Int → Int → Bool → (Int → Int → Prop) → (Val → Int → Int → Bool → Prop) → Prop} (hG : H_value G) {w0 : World} {H : View} {L : Seg} {w : World} {b_2 : Nat} {v_5 : Value} {c_1_4 : List (Val)} {fp_7 : Seg} {b_10 : Nat} {b_13 : Nat} {text_15 : Str} {xat_16 : Int} {deep_18 : Int} {heavy_20 : Bool} {b_22 : Nat} {b_26 : Nat} {v_29 : Value} {c_25_28 : List (Val)} {fp_31 : Seg} {E : Int → Int → Prop} {Q : (List (Val)) → Int → Int → Bool → (List (Val)) → Prop} (h_6 : OwnSl H cV 25 v_5 c_1_4 fp_7) (hr_17 : I64 xat_16) (hr_19 : I64 deep_18) (h_30 : OwnSl H cV 25 v_29 c_25_28 fp_31) (hN : GlobN w0 H) (hS : St w0 H ([(b_2, oc #[v_5] 42)] ++ (fp_7 ++ ([(b_10, oc #[(pq b_13)] 60)] ++ ([(b_13, oc #[sv text_15, i6 xat_16, i6 deep_18, .bool heavy_20] 62)] ++ ([(b_22, Obj.cells #[.func (.func 56) #[] #[(pq b_26), (pq b_10)]] 1 (0, 0))] ++ ([(b_26, oc #[v_29] 42)] ++ (fp_31 ++ L))))))) w) (hV : V_value2 G c_1_4 text_15 xat_16 deep_18 heavy_20 c_25_28 E Q) :
 Calls Tryz.prog 63 #[(pq b_2), (pq b_10), (pq b_22)] w fun e w' => (∃ (r1 : List (Val)) (r2 : Int) (r3 : Int) (r4 : Bool) (r5 : List (Val)) (v1 : Value) (fp1 : Seg) (v5 : Value) (fp5 : Seg) (H' : View), Q r1 r2 r3 r4 r5 ∧ e = .returned (.tuple #[]) ∧ View.le H H' ∧ OwnSl H' cV 25 v1 r1 fp1 ∧ I64 r2 ∧ I64 r3 ∧ OwnSl H' cV 25 v5 r5 fp5 ∧ St w0 H' ([(b_2, oc #[v1] 42)] ++ (fp1 ++ ([(b_10, oc #[(pq b_13)] 60)] ++ ([(b_13, oc #[sv text_15, i6 r2, i6 r3, .bool r4] 62)] ++ ([(b_22, Obj.cells #[.func (.func 56) #[] #[(pq b_26), (pq b_10)]] 1 (0, 0))] ++ ([(b_26, oc #[v5] 42)] ++ (fp5 ++ L))))))) w') ∨ (∃ e1 a1, E e1 a1 ∧ e = .panicked (faultC e1 a1) ∧ ∃ H1, View.le H H1 ∧ St w0 H1 L w') := by
 unfold V_value2 at hV
 refine enter func63 rfl ntmps63 rfl (lk_args_cons (d := 0) (v := (pq b_2)) rfl (lk_args_cons (d := 1) (v := (pq b_10)) rfl (lk_args_cons (d := 2) (v := (pq b_22)) rfl (lk_args_nil _)))) (WC.seq (DP.WC.drawn (σ := [0, 1, 2, 3, 4, 5]) (C := St w0 H ([(b_2, oc #[v_5] 42)] ++ (fp_7 ++ ([(b_10, oc #[(pq b_13)] 60)] ++ ([(b_13, oc #[sv text_15, i6 xat_16, i6 deep_18, .bool heavy_20] 62)] ++ ([(b_22, Obj.cells #[.func (.func 56) #[] #[(pq b_26), (pq b_10)]] 1 (0, 0))] ++ ([(b_26, oc #[v_29] 42)] ++ (fp_31 ++ L)))))))) (Pn := fun c w => ∃ e1 a1, E e1 a1 ∧ Ending.panicked c = .panicked (faultC e1 a1) ∧ ∃ H1, View.le H H1 ∧ St w0 H1 L w) [[], [], [1], [1, 2], [0, 1, 2, 3], [0, 1, 2, 3, 4]] [2, 3, 4, 5] (fun c a w hd hp => And.intro hd (.inr hp)) mixed (by kernel_rfl) (hS.drawn _) ?_))
 clear hS w
 refine DP.Wd.runb (off := 0) rfl rfl rfl rfl (fun _ _ _ h => ex_load_box isAgg42 rfl h) rfl (fun _ h => h) fun q_35 hq_34 => ?_
 refine DP.Wd.runb (off := 0) rfl rfl rfl rfl (fun _ _ _ h => ex_load_box isAgg60 rfl h) rfl (fun _ h => St.f3 h) fun q_37 hq_36 => ?_
 refine DP.Wd.turn rfl rfl rfl fun w hS => ?_
 replace hS := hS.f4
 refine WL.callP rfl rfl rfl (enters0 (vs := [(pq b_13)]) call23 ⟨rfl, trivial⟩) (hG hr_17 hr_19 hN hS hV) (by rintro _ w ⟨e_48, xat_49, hE_50, rfl, H_51, le_52, hS⟩; exact ⟨_, rfl, DP.DQ.pan ⟨e_48, xat_49, hE_50, rfl, _, ((View.le.refl _).trans le_52), hS.drop.drop.drop.drop.drop.drop⟩⟩) ?_
 clear hV hS
 rintro _ w ⟨r_38, r_41, r_43, r_45, u_39, H_46, hV, rfl, le_47, h_40, hr_42, hr_44, hS⟩
 refine ⟨_, rfl, ?_⟩
 refine WL.nil (DP.DQ.mk2 (C' := St w0 H_46 ([(b_13, oc #[sv text_15, i6 r_41, i6 r_43, .bool r_45] 62)] ++ ([(b_2, oc #[v_5] 42)] ++ (fp_7 ++ ([(b_10, oc #[(pq b_13)] 60)] ++ ([(b_22, Obj.cells #[.func (.func 56) #[] #[(pq b_26), (pq b_10)]] 1 (0, 0))] ++ ([(b_26, oc #[v_29] 42)] ++ (fp_31 ++ L)))))))) hS ⟨il, .inr (hq_34 H_46 ([(b_13, oc #[sv text_15, i6 r_41, i6 r_43, .bool r_45] 62)] ++ (fp_7 ++ ([(b_10, oc #[(pq b_13)] 60)] ++ ([(b_22, Obj.cells #[.func (.func 56) #[] #[(pq b_26), (pq b_10)]] 1 (0, 0))] ++ ([(b_26, oc #[v_29] 42)] ++ (fp_31 ++ L)))))) #[v_5] _ rfl (fun _ h => St.f2 h)), trivial⟩ ?_)
 clear hS w
 refine DP.Wd.turn rfl rfl rfl fun w hS => ?_
 refine WL.builds (c := cV) (xs := [r_38]) (vs := [.agg #[u_39]]) (css := [[u_39]]) rfl underlying42 info25 rfl ⟨rfl, trivial⟩ rfl (by decide) rfl (by simp; rfl) ⟨[u_39], _, rfl, (cV_mk h_40), rfl⟩ hS rfl (by decide) ?_
 clear hS
 intro v_54 w fp_55 h_56 hS
 refine WL.nil (DP.DQ.mk2 (C' := St w0 H_46 (fp_55 ++ ([(b_13, oc #[sv text_15, i6 r_41, i6 r_43, .bool r_45] 62)] ++ ([(b_2, oc #[v_5] 42)] ++ (fp_7 ++ ([(b_10, oc #[(pq b_13)] 60)] ++ ([(b_22, Obj.cells #[.func (.func 56) #[] #[(pq b_26), (pq b_10)]] 1 (0, 0))] ++ ([(b_26, oc #[v_29] 42)] ++ (fp_31 ++ L))))))))) hS ⟨il, .inr (hq_34 H_46 (fp_55 ++ ([(b_13, oc #[sv text_15, i6 r_41, i6 r_43, .bool r_45] 62)] ++ (fp_7 ++ ([(b_10, oc #[(pq b_13)] 60)] ++ ([(b_22, Obj.cells #[.func (.func 56) #[] #[(pq b_26), (pq b_10)]] 1 (0, 0))] ++ ([(b_26, oc #[v_29] 42)] ++ (fp_31 ++ L))))))) #[v_5] _ rfl (fun _ h => St.f3 h)), trivial⟩ ?_)
 clear hS w
 refine DP.Wd.turn rfl rfl rfl fun w hS => ?_
 obtain ⟨hr_57, hV⟩ := hV
 replace hS := hS.f4
 refine WL.append (c := cV) (xs := c_1_4) (ys := ([r_38])) rfl underlying42 info25 rfl rfl rfl hS (h_6.mono le_47) (h_56.src hS.f2) hr_57.1 hr_57.2 ?_
 clear hS
 intro v_58 w fp_59 h_60 hS
 refine WL.nil (DP.DQ.mk2 (C' := St w0 H_46 (fp_59 ++ (fp_55 ++ ([(b_13, oc #[sv text_15, i6 r_41, i6 r_43, .bool r_45] 62)] ++ ([(b_2, oc #[v_5] 42)] ++ ([(b_10, oc #[(pq b_13)] 60)] ++ ([(b_22, Obj.cells #[.func (.func 56) #[] #[(pq b_26), (pq b_10)]] 1 (0, 0))] ++ ([(b_26, oc #[v_29] 42)] ++ (fp_31 ++ L))))))))) hS ⟨il, il, trivial⟩ ?_)
 clear hS w
 refine DP.Wd.turn rfl rfl rfl fun w hS => ?_
 replace hS := hS.f4
 refine St1 #[v_58] sizeOf42 hS ?_ (cs := [v_58]) (hc := (congrArg Array.toList (cells_one (OwnSl.one h_60)))) (hone := ⟨(OwnSl.one h_60), trivial⟩)
 clear hS
 intro w hS
 refine WL.nil (DP.DQ.mk2 (C' := St w0 H_46 ([(b_2, oc #[v_58] 42)] ++ (fp_59 ++ (fp_55 ++ ([(b_13, oc #[sv text_15, i6 r_41, i6 r_43, .bool r_45] 62)] ++ ([(b_10, oc #[(pq b_13)] 60)] ++ ([(b_22, Obj.cells #[.func (.func 56) #[] #[(pq b_26), (pq b_10)]] 1 (0, 0))] ++ ([(b_26, oc #[v_29] 42)] ++ (fp_31 ++ L))))))))) hS ⟨il, il, trivial⟩ ?_)
 clear hS w
 refine DP.Wd.nil fun w hS => ?_
 refine WQ.next ?_
 replace hS := hS.f3.drop
 refine WC.sr ?_
 replace hS := hS.f4
 refine R hS ?_
 replace hS := hS.f4
 refine WL.callP rfl rfl rfl (enters0 (vs := [(pq b_13), sv ([58] : Str)]) call64 ⟨rfl, rfl, trivial⟩) (S_want hr_42 hr_44 hS hV) (by rintro _ w ⟨e_65, xat_66, hE_67, rfl, H_68, le_69, hS⟩; exact ⟨_, rfl, WQ.of fun a ha => And.intro ha.defers (.inr ⟨e_65, xat_66, hE_67, rfl, _, (((View.le.refl _).trans le_47).trans le_69), hS.drop.drop.drop.drop.drop.drop⟩)⟩) ?_
 clear hV hS
 rintro _ w ⟨r_62, hV, rfl, hr_63, hS⟩
 refine ⟨_, rfl, ?_⟩
 refine WL.nx (WC.region ?_)
 replace hS := hS.f5
 refine R hS ?_
 replace hS := hS.f2.f3.f7.f7
 refine WL.callP rfl rfl rfl (enters_c (vs := []) (caps := [(pq b_26), (pq b_10)]) rfl call56 trivial) (S_value1 (@hG) (h_30.mono le_47) hr_63 hr_44 (hN.mono le_47) hS hV) (by rintro _ w ⟨e_81, xat_82, hE_83, rfl, H_84, le_85, hS⟩; exact ⟨_, rfl, WQ.of fun a ha => And.intro ha.defers (.inr ⟨e_81, xat_82, hE_83, rfl, _, (((View.le.refl _).trans le_47).trans le_85), hS.drop.drop.drop⟩)⟩) ?_
 clear hV hS
 rintro _ w ⟨c_70, r_74, r_76, r_78, v_71, fp_72, H_79, hV, rfl, le_80, h_73, hr_75, hr_77, hS⟩
 refine ⟨_, rfl, ?_⟩
 refine WL.nil ?_
 replace hS := hS.f2.f2.f5.f5.f5.f7.f7
 exact leave0 (.inr rfl) rfl (.inl ⟨(c_1_4 ++ ([r_38])), r_74, r_76, r_78, c_70, v_58, fp_59, v_71, fp_72, H_79, hV, rfl, (((View.le.refl _).trans le_47).trans le_80), (h_60.mono le_80), hr_75, hr_77, h_73, hS⟩)
theorem S_list {G : Str → Int → Int → Bool → (Int → Int → Prop) → (Val → Int → Int → Bool → Prop) → Prop} (hG : H_value G) {w0 : World} {H : View} {L : Seg} {w : World} {b_2 : Nat} {text_4 : Str} {xat_5 : Int} {deep_7 : Int} {heavy_9 : Bool} {last_10 : Str} {b_13 : Nat} {v_16 : Value} {c_12_15 : List (Val)} {fp_18 : Seg} {b_21 : Nat} {E : Int → Int → Prop} {Q : Int → Int → Bool → (List (Val)) → Prop} (hr_6 : I64 xat_5) (hr_8 : I64 deep_7) (h_17 : OwnSl H cV 25 v_16 c_12_15 fp_18) (hN : GlobN w0 H) (hS : St w0 H ([(b_2, oc #[sv text_4, i6 xat_5, i6 deep_7, .bool heavy_9] 62)] ++ ([(b_13, oc #[v_16] 42)] ++ (fp_18 ++ ([(b_21, oc #[(pq b_2)] 60)] ++ L)))) w) (hV : V_list G text_4 xat_5 deep_7 heavy_9 last_10 c_12_15 E Q) :
 Calls Tryz.prog 58 #[(pq b_2), sv last_10, .func (.func 56) #[] #[(pq b_13), (pq b_21)]] w fun e w' => (∃ (r1 : Int) (r2 : Int) (r3 : Bool) (r4 : List (Val)) (v4 : Value) (fp4 : Seg) (H' : View), Q r1 r2 r3 r4 ∧ e = .returned (.tuple #[]) ∧ View.le H H' ∧ I64 r1 ∧ I64 r2 ∧ OwnSl H' cV 25 v4 r4 fp4 ∧ St w0 H' ([(b_2, oc #[sv text_4, i6 r1, i6 r2, .bool r3] 62)] ++ ([(b_13, oc #[v4] 42)] ++ (fp4 ++ ([(b_21, oc #[(pq b_2)] 60)] ++ L)))) w') ∨ (∃ e1 a1, E e1 a1 ∧ e = .panicked (faultC e1 a1) ∧ ∃ H1, View.le H H1 ∧ St w0 H1 L w') := by
 unfold V_list at hV
 refine enter func58 rfl ntmps58 rfl (lk_args_cons (d := 0) (v := (pq b_2)) rfl (lk_args_cons (d := 1) (v := sv last_10) rfl (lk_args_cons (d := 2) (v := .func (.func 56) #[] #[(pq b_13), (pq b_21)]) rfl (lk_args_nil _)))) ?_
 obtain ⟨J_36, hJ_37, hV⟩ := hV
 refine WC.meet (fun a w => ∃ (c_34 : Int), J_36 c_34 ∧ I64 c_34 ∧ St w0 H ([(b_2, oc #[sv text_4, i6 xat_5, i6 c_34, .bool heavy_9] 62)] ++ ([(b_13, oc #[v_16] 42)] ++ (fp_18 ++ ([(b_21, oc #[(pq b_2)] 60)] ++ L)))) w ∧ Fr 49 [(0, (pq b_2)), (1, sv last_10), (2, .func (.func 56) #[] #[(pq b_13), (pq b_21)])] a) ?_ ?_
 rintro a w ⟨c_34, hI, hr_35, hS, ha⟩
 refine in_frame ha ?_
 clear ha hV
 have hV := hJ_37 _ hI
 clear hI hJ_37
 refine WC.sr ?_
 iterate 5 refine R hS ?_
 obtain ⟨hl_48, hV⟩ := hV
 refine R hS ?_
 obtain ⟨hi_50, hV⟩ := hV
 iterate 3 refine R hS ?_
 refine St1 #[sv text_4, i6 (xat_5 + (last_10.length : Int)), i6 c_34, .bool heavy_9] sizeOf3 hS ?_
 clear hS
 intro w hS
 refine WL.nx ?_
 obtain ⟨J_199, hJ_200, hV⟩ := hV
 refine WC.meet (fun a w => ∃ (c_189 : Int) (c_191 : Int) (c_193 : Bool) (c_195 : List (Val)) (H_187 : View) (v_196 : Value) (fp_197 : Seg), J_199 (c_189, c_191, c_193, c_195) ∧ View.le H H_187 ∧ I64 c_189 ∧ I64 c_191 ∧ OwnSl H_187 cV 25 v_196 c_195 fp_197 ∧ St w0 H_187 ([(b_2, oc #[sv text_4, i6 c_189, i6 c_191, .bool c_193] 62)] ++ ([(b_13, oc #[v_196] 42)] ++ (fp_197 ++ ([(b_21, oc #[(pq b_2)] 60)] ++ L)))) w ∧ Fr 49 [(0, (pq b_2))] a) ?_ ?_
 rintro a w ⟨c_189, c_191, c_193, c_195, H_187, v_196, fp_197, hI, le_188, hr_190, hr_192, h_198, hS, ha⟩
 refine in_frame ha ?_
 clear ha hV
 have hV := hJ_200 _ hI
 clear hI hJ_200
 refine WC.region ?_
 iterate 4 refine R hS ?_
 obtain ⟨hi_338, hV⟩ := hV
 iterate 3 refine R hS ?_
 refine St1 #[sv text_4, i6 c_189, i6 (c_191 - (1 : Int)), .bool c_193] sizeOf3 hS ?_
 clear hS
 intro w hS
 refine WL.nil ?_
 replace hS := hS.f4.f4.f4.f4
 exact leave0 (.inr rfl) rfl (.inl ⟨c_189, (c_191 - (1 : Int)), c_193, c_195, v_196, fp_197, H_187, hV, rfl, ((View.le.refl _).trans le_188), hr_190, hi_338, h_198, hS⟩)
 clear hJ_200
 refine WC.sr ?_
 iterate 2 refine R hS ?_
 refine Rc (enters0 (vs := [(pq b_2), sv last_10]) call95 ⟨rfl, rfl, trivial⟩) (S_take hi_50 hr_35 hS hV) ?_
 clear hV hS
 rintro _ w ⟨r_201, r_202, hV, rfl, hr_203, hS⟩
 refine ⟨_, rfl, ?_⟩
 refine R hS ?_
 refine WL.nx (Sb [(0, (pq b_2)), (1, sv last_10), (2, .func (.func 56) #[] #[(pq b_13), (pq b_21)]), (32, .bool (!r_201))] ?_)
 refine Cd ?_ ?_
 intro hc_336
 replace hV := hV.1 hc_336
 refine WC.sr (R hS ?_)
 replace hS := hS.f4.f4.f4
 refine WL.callP rfl rfl rfl (enters_c (vs := []) (caps := [(pq b_13), (pq b_21)]) rfl call56 trivial) (S_value1 (@hG) h_17 hr_203 hr_35 hN hS hV) (by rintro _ w ⟨e_216, xat_217, hE_218, rfl, H_219, le_220, hS⟩; exact ⟨_, rfl, WQ.of fun a ha => And.intro ha.defers (.inr ⟨e_216, xat_217, hE_218, rfl, _, ((View.le.refl _).trans le_220), hS⟩)⟩) ?_
 clear hV hS
 rintro _ w ⟨c_205, r_209, r_211, r_213, v_206, fp_207, H_214, hV, rfl, le_215, h_208, hr_210, hr_212, hS⟩
 refine ⟨_, rfl, ?_⟩
 refine WL.nx (WC.seq (WC.block ?_))
 replace hS := hS.f3.f3.f3.f4
 obtain ⟨I_302, mu_303, hI_335, hV⟩ := hV
 refine WC.loop (σ := Int × Int × Bool × (List (Val))) (fun s a w => ∃ (c_270 : Int) (c_272 : Int) (c_274 : Bool) (c_276 : List (Val)) (H_268 : View) (v_277 : Value) (fp_278 : Seg), s = (c_270, c_272, c_274, c_276) ∧ I_302 (c_270, c_272, c_274, c_276) ∧ View.le H_214 H_268 ∧ I64 c_270 ∧ I64 c_272 ∧ OwnSl H_268 cV 25 v_277 c_276 fp_278 ∧ St w0 H_268 ([(b_2, oc #[sv text_4, i6 c_270, i6 c_272, .bool c_274] 62)] ++ ([(b_13, oc #[v_277] 42)] ++ (fp_278 ++ ([(b_21, oc #[(pq b_2)] 60)] ++ L)))) w ∧ Fr 49 [(0, (pq b_2)), (1, sv last_10), (2, .func (.func 56) #[] #[(pq b_13), (pq b_21)])] a) mu_303 (r_209, r_211, r_213, c_205) ?_ ?_
 exact fun a ha => ⟨r_209, r_211, r_213, c_205, H_214, v_206, fp_207, rfl, hI_335, (View.le.refl _), hr_210, hr_212, h_208, hS, ha.os⟩
 clear hS hI_335
 rintro _ a w ⟨c_270, c_272, c_274, c_276, H_268, v_277, fp_278, rfl, hI, le_269, hr_271, hr_273, h_279, hS, ha⟩
 refine in_frame ha ?_
 clear ha
 replace hV := hV _ hI
 clear hI
 refine WC.seq (WC.sr (R hS ?_))
 refine Rc (enters0 (vs := [(pq b_2), sv ([44] : Str)]) call95 ⟨rfl, rfl, trivial⟩) (S_take hr_271 hr_273 hS hV) ?_
 clear hV hS
 rintro _ w ⟨r_305, r_306, hV, rfl, hr_307, hS⟩
 refine ⟨_, rfl, ?_⟩
 refine WL.nx ?_
 refine Cd ?_ ?_
 intro hc_334
 replace hV := hV.1 hc_334
 refine WC.skip (WQ.next (WC.block (WC.region (R hS ?_))))
 replace hS := hS.f4.f4.f4
 refine WL.callP rfl rfl rfl (enters_c (vs := []) (caps := [(pq b_13), (pq b_21)]) rfl call56 trivial) (S_value1 (@hG) h_279 hr_307 hr_273 ((hN.mono le_215).mono le_269) hS hV) (by rintro _ w ⟨e_320, xat_321, hE_322, rfl, H_323, le_324, hS⟩; exact ⟨_, rfl, WQ.of fun a ha => And.intro ha.defers (.inr ⟨e_320, xat_321, hE_322, rfl, _, ((((View.le.refl _).trans le_215).trans le_269).trans le_324), hS⟩)⟩) ?_
 clear hV hS
 rintro _ w ⟨c_309, r_313, r_315, r_317, v_310, fp_311, H_318, hV, rfl, le_319, h_312, hr_314, hr_316, hS⟩
 refine ⟨_, rfl, ?_⟩
 refine WL.nil (WQ.out nofun ?_)
 replace hS := hS.f3.f3.f3.f4
 exact Wt fun a ha => ⟨(r_313, r_315, r_317, c_309), ⟨r_313, r_315, r_317, c_309, H_318, v_310, fp_311, rfl, hV.1, (((View.le.refl _).trans le_269).trans le_319), hr_314, hr_316, h_312, hS, ha.os⟩, hV.2⟩
 intro hc_334
 replace hV := hV.2 hc_334
 refine WC.exit (Wp ?_)
 refine Wp ?_
 refine WQ.hit (WQ.next (WC.region ?_))
 iterate 2 refine R hS ?_
 refine WL.callP rfl rfl rfl (enters0 (vs := [(pq b_2), sv last_10]) call64 ⟨rfl, rfl, trivial⟩) (S_want hr_307 hr_273 hS hV) (by rintro _ w ⟨e_329, xat_330, hE_331, rfl, H_332, le_333, hS⟩; exact ⟨_, rfl, WQ.of fun a ha => And.intro ha.defers (.inr ⟨e_329, xat_330, hE_331, rfl, _, ((((View.le.refl _).trans le_215).trans le_269).trans le_333), hS.drop.drop.drop⟩)⟩) ?_
 clear hV hS
 rintro _ w ⟨r_326, hV, rfl, hr_327, hS⟩
 refine ⟨_, rfl, ?_⟩
 refine WL.nil ?_
 replace hS := hS.f4.f4.f4.f4
 exact Wt fun a ha => ⟨r_326, c_272, c_274, c_276, H_268, v_277, fp_278, hV, (((View.le.refl _).trans le_215).trans le_269), hr_327, hr_273, h_279, hS, ha.os⟩
 intro hc_336
 replace hV := hV.2 hc_336
 refine WC.skip ?_
 replace hS := hS.f4.f4.f4.f4
 exact Wt fun a ha => ⟨r_202, c_34, heavy_9, c_12_15, H, v_16, fp_18, hV, (View.le.refl _), hr_203, hr_35, h_17, hS, ha.os⟩
 clear hJ_37
 refine WC.sr ?_
 iterate 4 refine R hS ?_
 obtain ⟨hi_39, hV⟩ := hV
 iterate 3 refine R hS ?_
 refine St1 #[sv text_4, i6 xat_5, i6 (deep_7 + (1 : Int)), .bool heavy_9] sizeOf3 hS ?_
 clear hS
 intro w hS
 refine WL.nx (WC.sr ?_)
 iterate 5 refine R hS ?_
 refine WL.nx (Sb [(0, (pq b_2)), (1, sv last_10), (2, .func (.func 56) #[] #[(pq b_13), (pq b_21)]), (17, .bool (decide ((24 : Int) < (deep_7 + (1 : Int)))))] ?_)
 refine Cd ?_ ?_
 intro hc_47
 replace hV := hV.1 (od hc_47)
 refine WC.region (R hS ?_)
 refine WL.callP rfl rfl rfl (enters0 (vs := [(pq b_2), i6 (6 : Int)]) call25 ⟨rfl, rfl, trivial⟩) (S_fail hr_6 hi_39 (show I64 (6 : Int) by unfold I64; omega) hS hV) (by rintro _ w ⟨e_42, xat_43, hE_44, rfl, H_45, le_46, hS⟩; exact ⟨_, rfl, WQ.of fun a ha => And.intro ha.defers (.inr ⟨e_42, xat_43, hE_44, rfl, _, ((View.le.refl _).trans le_46), hS.drop.drop.drop⟩)⟩) ?_
 clear hV hS
 rintro _ w ⟨hV, rfl, hS⟩
 refine ⟨_, rfl, ?_⟩
 refine WL.nil ?_
 replace hS := hS.f4.f4.f4.f4
 exact Wt fun a ha => ⟨(deep_7 + (1 : Int)), hV, hi_39, hS, ha.os⟩
 intro hc_47
 replace hV := hV.2 (ov hc_47)
 refine WC.skip ?_
 replace hS := hS.f4.f4.f4.f4
 exact Wt fun a ha => ⟨(deep_7 + (1 : Int)), hV, hi_39, hS, ha.os⟩
theorem S_pairs {G : Str → Int → Int → Bool → (Int → Int → Prop) → (Val → Int → Int → Bool → Prop) → Prop} (hG : H_value G) {w0 : World} {H : View} {L : Seg} {w : World} {b_2 : Nat} {text_4 : Str} {xat_5 : Int} {deep_7 : Int} {heavy_9 : Bool} {b_12 : Nat} {v_15 : Value} {c_11_14 : List (Val)} {fp_17 : Seg} {b_20 : Nat} {b_24 : Nat} {b_28 : Nat} {v_31 : Value} {c_27_30 : List (Val)} {fp_33 : Seg} {E : Int → Int → Prop} {Q : Int → Int → Bool → (List (Val)) → (List (Val)) → Prop} (hr_6 : I64 xat_5) (hr_8 : I64 deep_7) (h_16 : OwnSl H cV 25 v_15 c_11_14 fp_17) (h_32 : OwnSl H cV 25 v_31 c_27_30 fp_33) (hN : GlobN w0 H) (hS : St w0 H ([(b_2, oc #[sv text_4, i6 xat_5, i6 deep_7, .bool heavy_9] 62)] ++ ([(b_12, oc #[v_15] 42)] ++ (fp_17 ++ ([(b_20, oc #[(pq b_2)] 60)] ++ ([(b_24, Obj.cells #[.func (.func 56) #[] #[(pq b_28), (pq b_20)]] 1 (0, 0))] ++ ([(b_28, oc #[v_31] 42)] ++ (fp_33 ++ L))))))) w) (hV : V_pairs G text_4 xat_5 deep_7 heavy_9 c_11_14 c_27_30 E Q) :
 Calls Tryz.prog 62 #[(pq b_2), .func (.func 63) #[] #[(pq b_12), (pq b_20), (pq b_24)]] w fun e w' => (∃ (r1 : Int) (r2 : Int) (r3 : Bool) (r4 : List (Val)) (r5 : List (Val)) (v4 : Value) (fp4 : Seg) (v5 : Value) (fp5 : Seg) (H' : View), Q r1 r2 r3 r4 r5 ∧ e = .returned (.tuple #[]) ∧ View.le H H' ∧ I64 r1 ∧ I64 r2 ∧ OwnSl H' cV 25 v4 r4 fp4 ∧ OwnSl H' cV 25 v5 r5 fp5 ∧ St w0 H' ([(b_2, oc #[sv text_4, i6 r1, i6 r2, .bool r3] 62)] ++ ([(b_12, oc #[v4] 42)] ++ (fp4 ++ ([(b_20, oc #[(pq b_2)] 60)] ++ ([(b_24, Obj.cells #[.func (.func 56) #[] #[(pq b_28), (pq b_20)]] 1 (0, 0))] ++ ([(b_28, oc #[v5] 42)] ++ (fp5 ++ L))))))) w') ∨ (∃ e1 a1, E e1 a1 ∧ e = .panicked (faultC e1 a1) ∧ ∃ H1, View.le H H1 ∧ St w0 H1 L w') := by
 unfold V_pairs at hV
 refine enter func62 rfl ntmps62 rfl (lk_args_cons (d := 0) (v := (pq b_2)) rfl (lk_args_cons (d := 1) (v := .func (.func 63) #[] #[(pq b_12), (pq b_20), (pq b_24)]) rfl (lk_args_nil _))) ?_
 obtain ⟨J_48, hJ_49, hV⟩ := hV
 refine WC.meet (fun a w => ∃ (c_46 : Int), J_48 c_46 ∧ I64 c_46 ∧ St w0 H ([(b_2, oc #[sv text_4, i6 xat_5, i6 c_46, .bool heavy_9] 62)] ++ ([(b_20, oc #[(pq b_2)] 60)] ++ ([(b_24, Obj.cells #[.func (.func 56) #[] #[(pq b_28), (pq b_20)]] 1 (0, 0))] ++ ([(b_28, oc #[v_31] 42)] ++ (fp_33 ++ ([(b_12, oc #[v_15] 42)] ++ (fp_17 ++ L))))))) w ∧ Fr 40 [(0, (pq b_2)), (1, .func (.func 63) #[] #[(pq b_12), (pq b_20), (pq b_24)])] a) ?_ ?_
 rintro a w ⟨c_46, hI, hr_47, hS, ha⟩
 refine in_frame ha ?_
 clear ha hV
 have hV := hJ_49 _ hI
 clear hI hJ_49
 refine WC.sr ?_
 iterate 4 refine R hS ?_
 obtain ⟨hi_61, hV⟩ := hV
 iterate 3 refine R hS ?_
 refine St1 #[sv text_4, i6 (xat_5 + (1 : Int)), i6 c_46, .bool heavy_9] sizeOf3 hS ?_
 clear hS
 intro w hS
 refine WL.nx (WC.sr (R hS ?_))
 replace hS := hS.f5.f5.f5.f4.f5.f7.f7
 refine WL.callP rfl rfl rfl (enters_c (vs := []) (caps := [(pq b_12), (pq b_20), (pq b_24)]) rfl call63 trivial) (S_value2 (@hG) h_16 hi_61 hr_47 h_32 hN hS hV) (by rintro _ w ⟨e_77, xat_78, hE_79, rfl, H_80, le_81, hS⟩; exact ⟨_, rfl, WQ.of fun a ha => And.intro ha.defers (.inr ⟨e_77, xat_78, hE_79, rfl, _, ((View.le.refl _).trans le_81), hS⟩)⟩) ?_
 clear hV hS
 rintro _ w ⟨c_62, r_66, r_68, r_70, c_71, v_63, fp_64, v_72, fp_73, H_75, hV, rfl, le_76, h_65, hr_67, hr_69, h_74, hS⟩
 refine ⟨_, rfl, ?_⟩
 refine WL.nx (WC.seq (WC.block ?_))
 replace hS := hS.f2.f2.f7.f7.f7.f6.f7
 obtain ⟨I_184, mu_185, hI_224, hV⟩ := hV
 refine WC.loop (σ := Int × Int × Bool × (List (Val)) × (List (Val))) (fun s a w => ∃ (c_142 : Int) (c_144 : Int) (c_146 : Bool) (c_148 : List (Val)) (c_153 : List (Val)) (H_140 : View) (v_149 : Value) (fp_150 : Seg) (v_154 : Value) (fp_155 : Seg), s = (c_142, c_144, c_146, c_148, c_153) ∧ I_184 (c_142, c_144, c_146, c_148, c_153) ∧ View.le H_75 H_140 ∧ I64 c_142 ∧ I64 c_144 ∧ OwnSl H_140 cV 25 v_149 c_148 fp_150 ∧ OwnSl H_140 cV 25 v_154 c_153 fp_155 ∧ St w0 H_140 ([(b_2, oc #[sv text_4, i6 c_142, i6 c_144, .bool c_146] 62)] ++ ([(b_20, oc #[(pq b_2)] 60)] ++ ([(b_24, Obj.cells #[.func (.func 56) #[] #[(pq b_28), (pq b_20)]] 1 (0, 0))] ++ ([(b_28, oc #[v_149] 42)] ++ (fp_150 ++ ([(b_12, oc #[v_154] 42)] ++ (fp_155 ++ L))))))) w ∧ Fr 40 [(0, (pq b_2)), (1, .func (.func 63) #[] #[(pq b_12), (pq b_20), (pq b_24)])] a) mu_185 (r_66, r_68, r_70, c_71, c_62) ?_ ?_
 exact fun a ha => ⟨r_66, r_68, r_70, c_71, c_62, H_75, v_72, fp_73, v_63, fp_64, rfl, hI_224, (View.le.refl _), hr_67, hr_69, h_74, h_65, hS, ha.os⟩
 clear hS hI_224
 rintro _ a w ⟨c_142, c_144, c_146, c_148, c_153, H_140, v_149, fp_150, v_154, fp_155, rfl, hI, le_141, hr_143, hr_145, h_151, h_156, hS, ha⟩
 refine in_frame ha ?_
 clear ha
 replace hV := hV _ hI
 clear hI
 refine WC.seq (WC.sr (R hS ?_))
 refine Rc (enters0 (vs := [(pq b_2), sv ([44] : Str)]) call95 ⟨rfl, rfl, trivial⟩) (S_take hr_143 hr_145 hS hV) ?_
 clear hV hS
 rintro _ w ⟨r_187, r_188, hV, rfl, hr_189, hS⟩
 refine ⟨_, rfl, ?_⟩
 refine WL.nx ?_
 refine Cd ?_ ?_
 intro hc_223
 replace hV := hV.1 hc_223
 refine WC.skip (WQ.next (WC.block (WC.region (R hS ?_))))
 replace hS := hS.f5.f5.f5.f4.f5.f7.f7
 refine WL.callP rfl rfl rfl (enters_c (vs := []) (caps := [(pq b_12), (pq b_20), (pq b_24)]) rfl call63 trivial) (S_value2 (@hG) h_156 hr_189 hr_145 h_151 ((hN.mono le_76).mono le_141) hS hV) (by rintro _ w ⟨e_206, xat_207, hE_208, rfl, H_209, le_210, hS⟩; exact ⟨_, rfl, WQ.of fun a ha => And.intro ha.defers (.inr ⟨e_206, xat_207, hE_208, rfl, _, ((((View.le.refl _).trans le_76).trans le_141).trans le_210), hS⟩)⟩) ?_
 clear hV hS
 rintro _ w ⟨c_191, r_195, r_197, r_199, c_200, v_192, fp_193, v_201, fp_202, H_204, hV, rfl, le_205, h_194, hr_196, hr_198, h_203, hS⟩
 refine ⟨_, rfl, ?_⟩
 refine WL.nil (WQ.out nofun ?_)
 replace hS := hS.f2.f2.f7.f7.f7.f6.f7
 exact Wt fun a ha => ⟨(r_195, r_197, r_199, c_200, c_191), ⟨r_195, r_197, r_199, c_200, c_191, H_204, v_201, fp_202, v_192, fp_193, rfl, hV.1, (((View.le.refl _).trans le_141).trans le_205), hr_196, hr_198, h_203, h_194, hS, ha.os⟩, hV.2⟩
 intro hc_223
 replace hV := hV.2 hc_223
 refine WC.exit (Wp ?_)
 refine Wp ?_
 refine WQ.hit (WQ.next (WC.sr (R hS ?_)))
 refine WL.callP rfl rfl rfl (enters0 (vs := [(pq b_2), sv ([93] : Str)]) call64 ⟨rfl, rfl, trivial⟩) (S_want hr_189 hr_145 hS hV) (by rintro _ w ⟨e_216, xat_217, hE_218, rfl, H_219, le_220, hS⟩; exact ⟨_, rfl, WQ.of fun a ha => And.intro ha.defers (.inr ⟨e_216, xat_217, hE_218, rfl, _, ((((View.le.refl _).trans le_76).trans le_141).trans le_220), hS.drop.drop.drop.drop.drop.drop⟩)⟩) ?_
 clear hV hS
 rintro _ w ⟨r_213, hV, rfl, hr_214, hS⟩
 refine ⟨_, rfl, ?_⟩
 refine WL.nx (WC.region ?_)
 iterate 4 refine R hS ?_
 obtain ⟨hi_222, hV⟩ := hV
 iterate 3 refine R hS ?_
 refine St1 #[sv text_4, i6 r_213, i6 (c_144 - (1 : Int)), .bool c_146] sizeOf3 hS ?_
 clear hS
 intro w hS
 refine WL.nil ?_
 replace hS := hS.f5.f5.f5.f5.f7.f7.f7
 exact leave0 (.inr rfl) rfl (.inl ⟨r_213, (c_144 - (1 : Int)), c_146, c_153, c_148, v_154, fp_155, v_149, fp_150, H_140, hV, rfl, (((View.le.refl _).trans le_76).trans le_141), hr_214, hi_222, h_156, h_151, hS⟩)
 clear hJ_49
 refine WC.sr ?_
 iterate 4 refine R hS ?_
 obtain ⟨hi_51, hV⟩ := hV
 iterate 3 refine R hS ?_
 refine St1 #[sv text_4, i6 xat_5, i6 (deep_7 + (1 : Int)), .bool heavy_9] sizeOf3 hS ?_
 clear hS
 intro w hS
 refine WL.nx (WC.sr ?_)
 iterate 5 refine R hS ?_
 refine WL.nx (Sb [(0, (pq b_2)), (1, .func (.func 63) #[] #[(pq b_12), (pq b_20), (pq b_24)]), (15, .bool (decide ((24 : Int) < (deep_7 + (1 : Int)))))] ?_)
 refine Cd ?_ ?_
 intro hc_59
 replace hV := hV.1 (od hc_59)
 refine WC.region (R hS ?_)
 refine WL.callP rfl rfl rfl (enters0 (vs := [(pq b_2), i6 (6 : Int)]) call25 ⟨rfl, rfl, trivial⟩) (S_fail hr_6 hi_51 (show I64 (6 : Int) by unfold I64; omega) hS hV) (by rintro _ w ⟨e_54, xat_55, hE_56, rfl, H_57, le_58, hS⟩; exact ⟨_, rfl, WQ.of fun a ha => And.intro ha.defers (.inr ⟨e_54, xat_55, hE_56, rfl, _, ((View.le.refl _).trans le_58), hS.drop.drop.drop.drop.drop.drop⟩)⟩) ?_
 clear hV hS
 rintro _ w ⟨hV, rfl, hS⟩
 refine ⟨_, rfl, ?_⟩
 refine WL.nil ?_
 replace hS := hS.f3.f3.f7.f7.f7.f7.f7
 exact Wt fun a ha => ⟨(deep_7 + (1 : Int)), hV, hi_51, hS, ha.os⟩
 intro hc_59
 replace hV := hV.2 (ov hc_59)
 refine WC.skip ?_
 replace hS := hS.f3.f3.f7.f7.f7.f7.f7
 exact Wt fun a ha => ⟨(deep_7 + (1 : Int)), hV, hi_51, hS, ha.os⟩
end Go.Proofs.YtlhkfkecoekoeaaGreatDoor
