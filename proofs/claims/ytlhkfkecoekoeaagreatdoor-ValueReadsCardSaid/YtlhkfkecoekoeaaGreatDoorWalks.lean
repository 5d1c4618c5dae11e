/- For each function: called, it does its work where its condition is so. Printed by program. -/
import Derived.Test.YtlhkfkecoekoeaaGreatDoorFacts
import Derived.Test.YtlhkfkecoekoeaaGreatDoorConds
import Derived.Test.YtlhkfkecoekoeaaGreatDoorShv
import Derived.Test.YtlhkfkecoekoeaaGreatDoorTold
import Derived.Test.YtlhkfkecoekoeaaGreatDoorWalks3
set_option linter.unusedVariables false
set_option linter.unusedSimpArgs false
set_option maxRecDepth 100000
set_option maxHeartbeats 1000000
namespace Go.Proofs.YtlhkfkecoekoeaaGreatDoor
open Go.Vc _root_.Go.Proofs.Tryz _root_.Go.Proofs.YtlhkfkecoekoeaaGreatDoor.Tryz
theorem S_rvalues {G : Str → Int → Int → Int → Int → Bool → (RV → Int → Int → Int → Int → Bool → Prop) → Prop} (hG : H_rvalue G) {w0 : World} {H : View} {L : Seg} {w : World} {b_2 : Nat} {s_4 : Str} {xat_5 : Int} {deep_7 : Int} {e_9 : Int} {bad_11 : Int} {heavy_13 : Bool} {last_14 : Str} {least_15 : Int} {pairs_17 : Bool} {Q : (List RV) → (List RV) → Int → Int → Int → Int → Bool → Prop} (hr_6 : I64 xat_5) (hr_8 : I64 deep_7) (hr_10 : I64 e_9) (hr_12 : I64 bad_11) (hr_16 : I64 least_15) (hS : St w0 H ([(b_2, oc #[sv s_4, i6 xat_5, i6 deep_7, i6 e_9, i6 bad_11, .bool heavy_13] 67)] ++ L) w) (hV : V_rvalues G s_4 xat_5 deep_7 e_9 bad_11 heavy_13 last_14 least_15 pairs_17 Q) :
 Calls Tryz.prog 69 #[(pq b_2), sv last_14, i6 least_15, .bool pairs_17] w fun e w' => ∃ (r1 : List RV) (r2 : List RV) (r3 : Int) (r4 : Int) (r5 : Int) (r6 : Int) (r7 : Bool) (v1 : Value) (fp1 : Seg) (v2 : Value) (fp2 : Seg) (H' : View), Q r1 r2 r3 r4 r5 r6 r7 ∧ e = .returned (.tuple #[v1, v2]) ∧ View.le H H' ∧ OwnSl H' cR 32 v1 r1 fp1 ∧ OwnSl H' cR 32 v2 r2 fp2 ∧ I64 r3 ∧ I64 r4 ∧ I64 r5 ∧ I64 r6 ∧ St w0 H' (fp1 ++ (fp2 ++ ([(b_2, oc #[sv s_4, i6 r3, i6 r4, i6 r5, i6 r6, .bool r7] 67)] ++ L))) w' := by
 unfold V_rvalues at hV
 refine enter func69 rfl ntmps69 rfl (lk_args_cons (d := 0) (v := (pq b_2)) rfl (lk_args_cons (d := 1) (v := sv last_14) rfl (lk_args_cons (d := 2) (v := i6 least_15) rfl (lk_args_cons (d := 3) (v := .bool pairs_17) rfl (lk_args_nil _))))) (WC.sr ?_)
 iterate 2 refine R hS ?_
 refine WL.nx (WC.sr (R hS ?_))
 refine WL.nx (WC.sr (R hS ?_))
 refine WL.nx (WC.sr ?_)
 iterate 5 refine R hS ?_
 obtain ⟨hi_23, hV⟩ := hV
 iterate 3 refine R hS ?_
 refine St1 #[sv s_4, i6 xat_5, i6 (deep_7 + (1 : Int)), i6 e_9, i6 bad_11, .bool heavy_13] sizeOf3 hS ?_
 clear hS
 intro w hS
 refine WL.nx (Sb [(0, (pq b_2)), (1, sv last_14), (2, i6 least_15), (3, .bool pairs_17), (10, ns), (11, ns)] ?_)
 obtain ⟨J_38, hJ_39, hV⟩ := hV
 refine WC.meet (fun a w => ∃ (c_34 : Int) (c_36 : Int), J_38 (c_34, c_36) ∧ I64 c_34 ∧ I64 c_36 ∧ St w0 H ([(b_2, oc #[sv s_4, i6 xat_5, i6 (deep_7 + (1 : Int)), i6 c_34, i6 c_36, .bool heavy_13] 67)] ++ L) w ∧ Fr 84 [(0, (pq b_2)), (1, sv last_14), (2, i6 least_15), (3, .bool pairs_17), (10, ns), (11, ns)] a) ?_ ?_
 rintro a w ⟨c_34, c_36, hI, hr_35, hr_37, hS, ha⟩
 refine in_frame ha ?_
 clear ha hV
 have hV := hJ_39 _ hI
 clear hI hJ_39
 refine WC.sr (R hS ?_)
 refine WL.nx ?_
 obtain ⟨J_59, hJ_60, hV⟩ := hV
 refine WC.meet (fun a w => ∃ (c_56 : Int) (xend_58 : Bool), J_59 (c_56, xend_58) ∧ I64 c_56 ∧ St w0 H ([(b_2, oc #[sv s_4, i6 c_56, i6 (deep_7 + (1 : Int)), i6 c_34, i6 c_36, .bool heavy_13] 67)] ++ L) w ∧ Fr 84 [(0, (pq b_2)), (1, sv last_14), (3, .bool pairs_17), (10, ns), (11, ns), (12, .bool xend_58)] a) ?_ ?_
 rintro a w ⟨c_56, xend_58, hI, hr_57, hS, ha⟩
 refine in_frame ha ?_
 clear ha hV
 have hV := hJ_60 _ hI
 clear hI hJ_60
 refine WC.seq (WC.block ?_)
 replace hS := hS.nilseg
 replace hS := hS.nilseg
 replace hS := hS.f2.f3
 obtain ⟨I_532, mu_533, hI_684, hV⟩ := hV
 refine WC.loop (σ := Int × Int × Int × Int × Bool × (List RV) × (List RV) × Bool) (fun s a w => ∃ (c_365 : Int) (c_367 : Int) (c_369 : Int) (c_371 : Int) (c_373 : Bool) (keys_375 : List RV) (vals_380 : List RV) (xend_384 : Bool) (H_363 : View) (v_376 : Value) (fp_377 : Seg) (v_381 : Value) (fp_382 : Seg), s = (c_365, c_367, c_369, c_371, c_373, keys_375, vals_380, xend_384) ∧ I_532 (c_365, c_367, c_369, c_371, c_373, keys_375, vals_380, xend_384) ∧ View.le H H_363 ∧ I64 c_365 ∧ I64 c_367 ∧ I64 c_369 ∧ I64 c_371 ∧ OwnSl H_363 cR 32 v_376 keys_375 fp_377 ∧ OwnSl H_363 cR 32 v_381 vals_380 fp_382 ∧ St w0 H_363 ([(b_2, oc #[sv s_4, i6 c_365, i6 c_367, i6 c_369, i6 c_371, .bool c_373] 67)] ++ (fp_377 ++ (fp_382 ++ L))) w ∧ Fr 84 [(0, (pq b_2)), (1, sv last_14), (3, .bool pairs_17), (10, v_376), (11, v_381), (12, .bool xend_384)] a) mu_533 (c_56, (deep_7 + (1 : Int)), c_34, c_36, heavy_13, ([] : List RV), ([] : List RV), xend_58) ?_ ?_
 exact fun a ha => ⟨c_56, (deep_7 + (1 : Int)), c_34, c_36, heavy_13, ([] : List RV), ([] : List RV), xend_58, H, ns, ([] : Seg), ns, ([] : Seg), rfl, hI_684, (View.le.refl _), hr_57, hi_23, hr_35, hr_37, OwnSl.nil, OwnSl.nil, hS, ha.os⟩
 clear hS hI_684
 rintro _ a w ⟨c_365, c_367, c_369, c_371, c_373, keys_375, vals_380, xend_384, H_363, v_376, fp_377, v_381, fp_382, rfl, hI, le_364, hr_366, hr_368, hr_370, hr_372, h_378, h_383, hS, ha⟩
 refine in_frame ha ?_
 clear ha
 replace hV := hV _ hI
 clear hI
 refine WC.seq ?_
 obtain ⟨J_538, hJ_539, hV⟩ := hV
 refine WC.meet (fun a w => ∃ (x_537 : Bool), J_538 x_537 ∧ St w0 H_363 ([(b_2, oc #[sv s_4, i6 c_365, i6 c_367, i6 c_369, i6 c_371, .bool c_373] 67)] ++ (fp_377 ++ (fp_382 ++ L))) w ∧ Fr 84 [(0, (pq b_2)), (1, sv last_14), (3, .bool pairs_17), (10, v_376), (11, v_381), (12, .bool xend_384), (51, .bool x_537)] a) ?_ ?_
 rintro a w ⟨x_537, hI, hS, ha⟩
 refine in_frame ha ?_
 clear ha hV
 have hV := hJ_539 _ hI
 clear hI hJ_539
 refine Cd ?_ ?_
 intro hc_683
 replace hV := hV.1 hc_683
 refine WC.skip (WQ.next (WC.block (WC.sr (R hS ?_))))
 refine Rc (enters0 (vs := [(pq b_2)]) call26 ⟨rfl, trivial⟩) (hG hr_366 hr_368 hr_370 hr_372 hS hV) ?_
 clear hV hS
 rintro _ w ⟨r_542, r_549, r_551, r_553, r_555, r_557, v_543, v_544, H_558, hV, rfl, le_559, hr_545, hr_546, h_547, h_548, hr_550, hr_552, hr_554, hr_556, hS⟩
 refine ⟨_, rfl, ?_⟩
 refine WL.alloc (arr := #[i6 0, i6 0, sv ([] : Str), ns, ns]) rfl zeroValue32 rfl hS ?_
 clear hS
 intro b_560 w hS
 refine St1 #[i6 r_542.k, i6 r_542.i, sv r_542.t, v_543, v_544] sizeOf32 hS ?_ (cs := [i6 r_542.k, i6 r_542.i, sv r_542.t, v_543, v_544]) (hone := ⟨rfl, rfl, rfl, (IsSl.one h_547), (IsSl.one h_548), trivial⟩)
 clear hS
 intro w hS
 refine WL.nx (WC.sr (R hS ?_))
 refine Rn hS (ex_load_box_agg (cs := [i6 r_542.k, i6 r_542.i, sv r_542.t, v_543, v_544]) isAgg32 sizeOf32 rfl rfl rfl) ?_
 refine WL.builds (c := cR) (xs := [r_542]) (vs := [.agg #[i6 r_542.k, i6 r_542.i, sv r_542.t, v_543, v_544]]) (css := [[i6 r_542.k, i6 r_542.i, sv r_542.t, v_543, v_544]]) rfl underlying30 info32 rfl ⟨rfl, trivial⟩ rfl (by decide) rfl (by simp; rfl) ⟨[i6 r_542.k, i6 r_542.i, sv r_542.t, v_543, v_544], _, rfl, (cR_rep.2 ⟨_, _, rfl, hr_545, hr_546, h_547, h_548⟩), rfl⟩ hS rfl (by decide) ?_
 clear hS
 intro v_565 w fp_566 h_567 hS
 obtain ⟨hr_568, hV⟩ := hV
 replace hS := hS.f4
 refine WL.append (c := cR) (xs := keys_375) (ys := ([r_542])) rfl underlying30 info32 rfl rfl rfl hS (h_378.mono le_559) (h_567.src hS.f2) hr_568.1 hr_568.2 ?_
 clear hS
 intro v_569 w fp_570 h_571 hS
 refine R hS ?_
 refine WL.nx ?_
 replace hS := hS.f3.drop
 replace hS := hS.f2.drop
 obtain ⟨J_628, hJ_629, hV⟩ := hV
 refine WC.meet (fun a w => ∃ (c_614 : Int) (c_616 : Int) (c_618 : Int) (c_620 : Int) (c_622 : Bool) (vals_624 : List RV) (H_612 : View) (v_625 : Value) (fp_626 : Seg), J_628 (c_614, c_616, c_618, c_620, c_622, vals_624) ∧ View.le H_558 H_612 ∧ I64 c_614 ∧ I64 c_616 ∧ I64 c_618 ∧ I64 c_620 ∧ OwnSl H_612 cR 32 v_625 vals_624 fp_626 ∧ St w0 H_612 ([(b_2, oc #[sv s_4, i6 c_614, i6 c_616, i6 c_618, i6 c_620, .bool c_622] 67)] ++ (fp_570 ++ (fp_626 ++ L))) w ∧ Fr 84 [(0, (pq b_2)), (1, sv last_14), (3, .bool pairs_17), (10, v_569), (11, v_625), (12, .bool xend_384)] a) ?_ ?_
 rintro a w ⟨c_614, c_616, c_618, c_620, c_622, vals_624, H_612, v_625, fp_626, hI, le_613, hr_615, hr_617, hr_619, hr_621, h_627, hS, ha⟩
 refine in_frame ha ?_
 clear ha hV
 have hV := hJ_629 _ hI
 clear hI hJ_629
 refine WC.sr (R hS ?_)
 refine Rc (enters0 (vs := [(pq b_2), sv ([44] : Str)]) call68 ⟨rfl, rfl, trivial⟩) (S_rsign hr_615 hr_617 hr_619 hr_621 hS hV) ?_
 clear hV hS
 rintro _ w ⟨r_669, r_670, hV, rfl, hr_671, hS⟩
 refine ⟨_, rfl, ?_⟩
 refine R hS ?_
 refine WL.nx (WC.sr ?_)
 iterate 2 refine R hS ?_
 refine WL.nx ?_
 refine Cd ?_ ?_
 intro hc_680
 replace hV := hV.1 hc_680
 refine WC.sr ?_
 iterate 2 refine R hS ?_
 refine Rc (enters0 (vs := [(pq b_2), sv last_14]) call110 ⟨rfl, rfl, trivial⟩) (S_rwant hr_671 hr_617 hr_619 hr_621 hS hV) ?_
 clear hV hS
 rintro _ w ⟨r_673, r_675, r_677, hV, rfl, hr_674, hr_676, hr_678, hS⟩
 refine ⟨_, rfl, ?_⟩
 refine WL.nx (WC.region (R hS ?_))
 refine WL.nil (WQ.out nofun ?_)
 replace hS := hS.f3.f3.f3
 exact Wt fun a ha => ⟨(r_673, c_616, r_675, r_677, c_622, (keys_375 ++ ([r_542])), vals_624, true), ⟨r_673, c_616, r_675, r_677, c_622, (keys_375 ++ ([r_542])), vals_624, true, H_612, v_569, fp_570, v_625, fp_626, rfl, hV.1, ((((View.le.refl _).trans le_364).trans le_559).trans le_613), hr_674, hr_617, hr_676, hr_678, (h_571.mono le_613), h_627, hS, ha.os⟩, hV.2⟩
 intro hc_680
 replace hV := hV.2 hc_680
 refine WC.skip (WQ.out nofun ?_)
 replace hS := hS.f3.f3.f3
 exact Wt fun a ha => ⟨(r_670, c_616, c_618, c_620, c_622, (keys_375 ++ ([r_542])), vals_624, xend_384), ⟨r_670, c_616, c_618, c_620, c_622, (keys_375 ++ ([r_542])), vals_624, xend_384, H_612, v_569, fp_570, v_625, fp_626, rfl, hV.1, ((((View.le.refl _).trans le_364).trans le_559).trans le_613), hr_671, hr_617, hr_619, hr_621, (h_571.mono le_613), h_627, hS, ha.os⟩, hV.2⟩
 clear hJ_629
 refine WC.sr (R hS ?_)
 refine WL.nx ?_
 refine Cd ?_ ?_
 intro hc_668
 replace hV := hV.1 hc_668
 refine WC.sr (R hS ?_)
 replace hS := hS.f2
 refine Rc (enters0 (vs := [(pq b_2), sv ([58] : Str)]) call110 ⟨rfl, rfl, trivial⟩) (S_rwant hr_550 hr_552 hr_554 hr_556 hS hV) ?_
 clear hV hS
 rintro _ w ⟨r_630, r_632, r_634, hV, rfl, hr_631, hr_633, hr_635, hS⟩
 refine ⟨_, rfl, ?_⟩
 refine WL.nx (Sb [(0, (pq b_2)), (1, sv last_14), (3, .bool pairs_17), (10, v_569), (11, v_381), (12, .bool xend_384)] ?_)
 refine WC.sr (R hS ?_)
 refine Rc (enters0 (vs := [(pq b_2)]) call26 ⟨rfl, trivial⟩) (hG hr_631 hr_552 hr_633 hr_635 hS hV) ?_
 clear hV hS
 rintro _ w ⟨r_637, r_644, r_646, r_648, r_650, r_652, v_638, v_639, H_653, hV, rfl, le_654, hr_640, hr_641, h_642, h_643, hr_645, hr_647, hr_649, hr_651, hS⟩
 refine ⟨_, rfl, ?_⟩
 refine WL.alloc (arr := #[i6 0, i6 0, sv ([] : Str), ns, ns]) rfl zeroValue32 rfl hS ?_
 clear hS
 intro b_655 w hS
 refine St1 #[i6 r_637.k, i6 r_637.i, sv r_637.t, v_638, v_639] sizeOf32 hS ?_ (cs := [i6 r_637.k, i6 r_637.i, sv r_637.t, v_638, v_639]) (hone := ⟨rfl, rfl, rfl, (IsSl.one h_642), (IsSl.one h_643), trivial⟩)
 clear hS
 intro w hS
 refine WL.nx (WC.region (R hS ?_))
 refine Rn hS (ex_load_box_agg (cs := [i6 r_637.k, i6 r_637.i, sv r_637.t, v_638, v_639]) isAgg32 sizeOf32 rfl rfl rfl) ?_
 refine WL.builds (c := cR) (xs := [r_637]) (vs := [.agg #[i6 r_637.k, i6 r_637.i, sv r_637.t, v_638, v_639]]) (css := [[i6 r_637.k, i6 r_637.i, sv r_637.t, v_638, v_639]]) rfl underlying30 info32 rfl ⟨rfl, trivial⟩ rfl (by decide) rfl (by simp; rfl) ⟨[i6 r_637.k, i6 r_637.i, sv r_637.t, v_638, v_639], _, rfl, (cR_rep.2 ⟨_, _, rfl, hr_640, hr_641, h_642, h_643⟩), rfl⟩ hS rfl (by decide) ?_
 clear hS
 intro v_660 w fp_661 h_662 hS
 obtain ⟨hr_663, hV⟩ := hV
 replace hS := hS.f5
 refine WL.append (c := cR) (xs := vals_380) (ys := ([r_637])) rfl underlying30 info32 rfl rfl rfl hS ((h_383.mono le_559).mono le_654) (h_662.src hS.f2) hr_663.1 hr_663.2 ?_
 clear hS
 intro v_664 w fp_665 h_666 hS
 refine R hS ?_
 refine WL.nil ?_
 replace hS := hS.f2.drop
 replace hS := hS.f2.drop
 replace hS := hS.f3.f3
 exact Wt fun a ha => ⟨r_644, r_646, r_648, r_650, r_652, (vals_380 ++ ([r_637])), H_653, v_664, fp_665, hV, ((View.le.refl _).trans le_654), hr_645, hr_647, hr_649, hr_651, h_666, hS, ha.os⟩
 intro hc_668
 replace hV := hV.2 hc_668
 refine WC.skip ?_
 replace hS := hS.f3.f2.f3
 exact Wt fun a ha => ⟨r_549, r_551, r_553, r_555, r_557, vals_380, H_558, v_381, fp_382, hV, (View.le.refl _), hr_550, hr_552, hr_554, hr_556, (h_383.mono le_559), hS, ha.os⟩
 intro hc_683
 replace hV := hV.2 hc_683
 refine WC.exit (Wp ?_)
 refine Wp ?_
 refine WQ.hit (WQ.next (WC.sr ?_))
 iterate 5 refine R hS ?_
 obtain ⟨hi_682, hV⟩ := hV
 iterate 3 refine R hS ?_
 refine St1 #[sv s_4, i6 c_365, i6 (c_367 - (1 : Int)), i6 c_369, i6 c_371, .bool c_373] sizeOf3 hS ?_
 clear hS
 intro w hS
 refine WL.nx (Sb [(10, v_376), (11, v_381)] ?_)
 refine WC.sr ?_
 iterate 4 refine R hS ?_
 refine WL.nx (WC.ret ?_)
 replace hS := hS.f3.f3
 exact leave2 rfl rfl rfl (⟨keys_375, vals_380, c_365, (c_367 - (1 : Int)), c_369, c_371, c_373, v_376, fp_377, v_381, fp_382, H_363, hV, rfl, ((View.le.refl _).trans le_364), h_378, h_383, hr_366, hi_682, hr_370, hr_372, hS⟩)
 clear hJ_539
 refine WC.region ?_
 iterate 6 refine R hS ?_
 rcases bft (decide (c_369 = (0 : Int))) with hg_541 | hg_541
 replace hV := hV.1 (od hg_541)
 iterate 3 refine R hS ?_
 refine WL.nil ?_
 replace hS := hS.f3.f3.f3
 exact Wt fun a ha => ⟨(!xend_384), hV, hS, ha.os⟩
 replace hV := hV.2 (ov hg_541)
 iterate 3 refine R hS ?_
 refine WL.nil ?_
 replace hS := hS.f3.f3.f3
 exact Wt fun a ha => ⟨false, hV, hS, ha.os⟩
 clear hJ_60
 refine WC.sr ?_
 iterate 2 refine R hS ?_
 refine WL.nx ?_
 refine Cd ?_ ?_
 intro hc_66
 replace hV := hV.1 (od hc_66)
 refine WC.region ?_
 iterate 2 refine R hS ?_
 refine Rc (enters0 (vs := [(pq b_2), sv last_14]) call68 ⟨rfl, rfl, trivial⟩) (S_rsign hr_6 hi_23 hr_35 hr_37 hS hV) ?_
 clear hV hS
 rintro _ w ⟨r_62, r_63, hV, rfl, hr_64, hS⟩
 refine ⟨_, rfl, ?_⟩
 refine R hS ?_
 refine WL.nil ?_
 exact Wt fun a ha => ⟨r_63, r_62, hV, hr_64, hS, ha.os⟩
 intro hc_66
 replace hV := hV.2 (ov hc_66)
 refine WC.skip ?_
 exact Wt fun a ha => ⟨xat_5, false, hV, hr_6, hS, ha.os⟩
 clear hJ_39
 refine WC.sr ?_
 iterate 5 refine R hS ?_
 refine WL.nx ?_
 refine Cd ?_ ?_
 intro hc_49
 replace hV := hV.1 (od hc_49)
 refine WC.region ?_
 iterate 6 refine R hS ?_
 obtain ⟨hl_41, hV⟩ := hV
 refine R hS ?_
 obtain ⟨hi_43, hV⟩ := hV
 refine R hS ?_
 refine Rc (enters0 (vs := [(pq b_2), i6 (6 : Int), i6 (xat_5 - (last_14.length : Int))]) call28 ⟨rfl, rfl, rfl, trivial⟩) (S_rfail hr_6 hi_23 hr_10 hr_12 (show I64 (6 : Int) by unfold I64; omega) hi_43 hS hV) ?_
 clear hV hS
 rintro _ w ⟨r_44, r_46, hV, rfl, hr_45, hr_47, hS⟩
 refine ⟨_, rfl, ?_⟩
 refine WL.nil ?_
 exact Wt fun a ha => ⟨r_44, r_46, hV, hr_45, hr_47, hS, ha.os⟩
 intro hc_49
 replace hV := hV.2 (ov hc_49)
 refine WC.skip ?_
 exact Wt fun a ha => ⟨e_9, bad_11, hV, hr_10, hr_12, hS, ha.os⟩
theorem S_rvalue (m0 : Nat) : ∀ {w0 : World} {H : View} {L : Seg} {w : World} {b_2 : Nat} {s_4 : Str} {xat_5 : Int} {deep_7 : Int} {e_9 : Int} {bad_11 : Int} {heavy_13 : Bool} {Q : RV → Int → Int → Int → Int → Bool → Prop} (hr_6 : I64 xat_5) (hr_8 : I64 deep_7) (hr_10 : I64 e_9) (hr_12 : I64 bad_11) (hS : St w0 H ([(b_2, oc #[sv s_4, i6 xat_5, i6 deep_7, i6 e_9, i6 bad_11, .bool heavy_13] 67)] ++ L) w) (hV : V_rvalue m0 s_4 xat_5 deep_7 e_9 bad_11 heavy_13 Q),
 Calls Tryz.prog 26 #[(pq b_2)] w fun e w' => ∃ (r1 : RV) (r2 : Int) (r3 : Int) (r4 : Int) (r5 : Int) (r6 : Bool) (u1 : Value) (w1 : Value) (H' : View), Q r1 r2 r3 r4 r5 r6 ∧ e = .returned (.agg #[i6 r1.k, i6 r1.i, sv r1.t, u1, w1]) ∧ View.le H H' ∧ I64 r1.k ∧ I64 r1.i ∧ IsSl H' cR u1 r1.ks ∧ IsSl H' cR w1 r1.vs ∧ I64 r2 ∧ I64 r3 ∧ I64 r4 ∧ I64 r5 ∧ St w0 H' ([(b_2, oc #[sv s_4, i6 r2, i6 r3, i6 r4, i6 r5, .bool r6] 67)] ++ L) w' := by
 induction m0 with
 | zero => intro w0 H L w b_2 s_4 xat_5 deep_7 e_9 bad_11 heavy_13 Q hr_6 hr_8 hr_10 hr_12 hS hV; exact hV.elim
 | succ m0 ih =>
  intro w0 H L w b_2 s_4 xat_5 deep_7 e_9 bad_11 heavy_13 Q hr_6 hr_8 hr_10 hr_12 hS hV
  unfold V_rvalue at hV
  refine enter func26 rfl ntmps26 rfl (lk_args_cons (d := 0) (v := (pq b_2)) rfl (lk_args_nil _)) (WC.sr (WL.alloc (arr := #[i6 0, i6 0, sv ([] : Str), ns, ns]) rfl zeroValue32 rfl hS ?_))
  clear hS
  intro b_14 w hS
  refine WL.nx (WC.sr (R hS ?_))
  replace hS := hS.f2
  refine Rc (enters0 (vs := [(pq b_2)]) call27 ⟨rfl, trivial⟩) (S_rskip hr_6 hr_8 hr_10 hr_12 hS hV) ?_
  clear hV hS
  rintro _ w ⟨r_18, hV, rfl, hr_19, hS⟩
  refine ⟨_, rfl, ?_⟩
  refine WL.nx (WC.seq (WC.sr ?_))
  iterate 5 refine R hS ?_
  refine WL.nx ?_
  refine Cd ?_ ?_
  intro hc_208
  replace hV := hV.1 (od hc_208)
  refine WC.sr (Rn hS (ex_build (vs := []) (zc := #[i6 0, i6 0, sv ([] : Str), ns, ns]) (cs := #[i6 0, i6 0, sv ([] : Str), ns, ns]) (places := #[(0, 1), (1, 1), (2, 1), (3, 1), (4, 1)]) underlying32 zeroValue32 (fun w => by simp [sizeOf2, sizeOf3, sizeOf30, sizeOf9]) rfl trivial rfl (by simp [Instr.fill, cells_int, cells_bool, cells_iface, cells_niliface, cells_slice, str_cells])) ?_)
  replace hS := hS.f2
  refine St1 #[i6 0, i6 0, sv ([] : Str), ns, ns] sizeOf32 hS ?_
  clear hS
  intro w hS
  refine WL.nx (WC.ret (Wp ?_))
  have hl_24 := load_own_agg (P := Tryz.prog) (cs := [i6 0, i6 0, sv ([] : Str), ns, ns]) isAgg32 sizeOf32 hS rfl
  replace hS := hS.drop
  exact leavec1 (il) rfl rfl hl_24 (⟨(RV.mk 0 0 ([] : Str) ([] : List RV) ([] : List RV)), r_18, deep_7, e_9, bad_11, heavy_13, ns, ns, H, hV, rfl, (View.le.refl _), i0, i0, IsSl.nil, IsSl.nil, hr_19, hr_8, hr_10, hr_12, hS⟩)
  intro hc_208
  replace hV := hV.2 (ov hc_208)
  refine WC.skip (WQ.next (WC.sr (R hS ?_)))
  refine Rc (enters0 (vs := [(pq b_2), sv ([123] : Str)]) call68 ⟨rfl, rfl, trivial⟩) (S_rsign hr_19 hr_8 hr_10 hr_12 hS hV) ?_
  clear hV hS
  rintro _ w ⟨r_25, r_26, hV, rfl, hr_27, hS⟩
  refine ⟨_, rfl, ?_⟩
  refine R hS ?_
  refine WL.nx (WC.seq (WC.sr (R hS ?_)))
  refine WL.nx (Sb [(0, (pq b_2)), (2, (pq b_14)), (25, .bool r_25)] ?_)
  refine Cd ?_ ?_
  intro hc_207
  replace hV := hV.1 hc_207
  refine WC.sr (R hS ?_)
  refine Rc (enters0 (vs := [(pq b_2), sv ([125] : Str), i6 (0 : Int), .bool false]) call69 ⟨rfl, rfl, rfl, rfl, trivial⟩) (S_rvalues (@ih) hr_27 hr_8 hr_10 hr_12 i0 hS hV) ?_
  clear hV hS
  rintro _ w ⟨r_29, r_34, r_39, r_41, r_43, r_45, r_47, v_30, fp_31, v_35, fp_36, H_48, hV, rfl, le_49, h_32, h_37, hr_40, hr_42, hr_44, hr_46, hS⟩
  refine ⟨_, rfl, ?_⟩
  iterate 5 refine R hS ?_
  refine WL.nx ?_
  replace hS := hS.f2.drop
  refine WC.sr (R hS ?_)
  obtain ⟨H_50, le_51, h_52, hS⟩ : ∃ K, View.le H_48 K ∧ IsSl K cR v_30 r_29 ∧ St w0 K ([(b_2, oc #[sv s_4, i6 r_39, i6 r_41, i6 r_43, i6 r_45, .bool r_47] 67)] ++ ([(b_14, Obj.cells #[i6 0, i6 0, sv ([] : Str), ns, ns] 32 (0, 0))] ++ L)) w := ⟨_, hS.put_le, h_32.share hS.put_le, hS.freeze⟩
  refine Rc (enters0 (vs := [v_30]) call36 ⟨rfl, trivial⟩) (S_rSetOf h_52 hS hV) ?_
  clear hV hS
  rintro _ w ⟨r_53, v_54, v_55, H_60, hV, rfl, le_61, hr_56, hr_57, h_58, h_59, hS⟩
  refine ⟨_, rfl, ?_⟩
  refine WL.alloc (arr := #[i6 0, i6 0, sv ([] : Str), ns, ns]) rfl zeroValue32 rfl hS ?_
  clear hS
  intro b_62 w hS
  refine St1 #[i6 r_53.k, i6 r_53.i, sv r_53.t, v_54, v_55] sizeOf32 hS ?_ (cs := [i6 r_53.k, i6 r_53.i, sv r_53.t, v_54, v_55]) (hone := ⟨rfl, rfl, rfl, (IsSl.one h_58), (IsSl.one h_59), trivial⟩)
  clear hS
  intro w hS
  refine WL.nx (Sb [(0, (pq b_2)), (2, (pq b_14)), (6, (pq b_62))] ?_)
  refine WC.sr (R hS ?_)
  refine Rn hS (ex_load_box_agg (cs := [i6 r_53.k, i6 r_53.i, sv r_53.t, v_54, v_55]) isAgg32 sizeOf32 rfl rfl rfl) ?_
  replace hS := hS.f2
  refine Rc (enters0 (vs := [(pq b_2), .agg #[i6 r_53.k, i6 r_53.i, sv r_53.t, v_54, v_55]]) call70 ⟨rfl, rfl, trivial⟩) (S_rlight (v_14 := r_53) hr_40 hr_42 hr_44 hr_46 hr_56 hr_57 h_58 h_59 hS hV) ?_
  clear hV hS
  rintro _ w ⟨r_66, r_73, v_67, v_68, H_74, hV, rfl, le_75, hr_69, hr_70, h_71, h_72, hS⟩
  refine ⟨_, rfl, ?_⟩
  replace hS := hS.f3
  refine St1 #[i6 r_66.k, i6 r_66.i, sv r_66.t, v_67, v_68] sizeOf32 hS ?_ (cs := [i6 r_66.k, i6 r_66.i, sv r_66.t, v_67, v_68]) (hone := ⟨rfl, rfl, rfl, (IsSl.one h_71), (IsSl.one h_72), trivial⟩)
  clear hS
  intro w hS
  refine WL.nx ?_
  replace hS := hS.f3.drop
  refine WC.ret (Wp ?_)
  have hl_76 := load_own_agg (P := Tryz.prog) (cs := [i6 r_66.k, i6 r_66.i, sv r_66.t, v_67, v_68]) isAgg32 sizeOf32 hS rfl
  replace hS := hS.drop
  exact leavec1 (il) rfl rfl hl_76 (⟨r_66, r_39, r_41, r_43, r_45, r_73, v_67, v_68, H_74, hV, rfl, (((((View.le.refl _).trans le_49).trans le_51).trans le_61).trans le_75), hr_69, hr_70, h_71, h_72, hr_40, hr_42, hr_44, hr_46, hS⟩)
  intro hc_207
  replace hV := hV.2 hc_207
  refine WC.skip (WQ.next (WC.sr (R hS ?_)))
  refine Rc (enters0 (vs := [(pq b_2), sv ([60, 60] : Str)]) call68 ⟨rfl, rfl, trivial⟩) (S_rsign hr_27 hr_8 hr_10 hr_12 hS hV) ?_
  clear hV hS
  rintro _ w ⟨r_77, r_78, hV, rfl, hr_79, hS⟩
  refine ⟨_, rfl, ?_⟩
  refine R hS ?_
  refine WL.nx (WC.seq (WC.sr (R hS ?_)))
  refine WL.nx ?_
  refine Cd ?_ ?_
  intro hc_206
  replace hV := hV.1 hc_206
  refine WC.sr (R hS ?_)
  refine Rc (enters0 (vs := [(pq b_2), sv ([62, 62] : Str), i6 (0 : Int), .bool false]) call69 ⟨rfl, rfl, rfl, rfl, trivial⟩) (S_rvalues (@ih) hr_79 hr_8 hr_10 hr_12 i0 hS hV) ?_
  clear hV hS
  rintro _ w ⟨r_81, r_86, r_91, r_93, r_95, r_97, r_99, v_82, fp_83, v_87, fp_88, H_100, hV, rfl, le_101, h_84, h_89, hr_92, hr_94, hr_96, hr_98, hS⟩
  refine ⟨_, rfl, ?_⟩
  iterate 5 refine R hS ?_
  refine WL.nx (Sb [(0, (pq b_2)), (2, (pq b_14)), (8, v_82)] ?_)
  replace hS := hS.f2.drop
  refine WC.sr (R hS ?_)
  obtain ⟨H_102, le_103, h_104, hS⟩ : ∃ K, View.le H_100 K ∧ IsSl K cR v_82 r_81 ∧ St w0 K ([(b_2, oc #[sv s_4, i6 r_91, i6 r_93, i6 r_95, i6 r_97, .bool r_99] 67)] ++ ([(b_14, Obj.cells #[i6 0, i6 0, sv ([] : Str), ns, ns] 32 (0, 0))] ++ L)) w := ⟨_, hS.put_le, h_84.share hS.put_le, hS.freeze⟩
  refine Rc (enters0 (vs := [v_82]) call37 ⟨rfl, trivial⟩) (S_rSeqOf h_104 hS hV) ?_
  clear hV hS
  rintro _ w ⟨r_105, v_106, v_107, H_112, hV, rfl, le_113, hr_108, hr_109, h_110, h_111, hS⟩
  refine ⟨_, rfl, ?_⟩
  refine WL.alloc (arr := #[i6 0, i6 0, sv ([] : Str), ns, ns]) rfl zeroValue32 rfl hS ?_
  clear hS
  intro b_114 w hS
  refine St1 #[i6 r_105.k, i6 r_105.i, sv r_105.t, v_106, v_107] sizeOf32 hS ?_ (cs := [i6 r_105.k, i6 r_105.i, sv r_105.t, v_106, v_107]) (hone := ⟨rfl, rfl, rfl, (IsSl.one h_110), (IsSl.one h_111), trivial⟩)
  clear hS
  intro w hS
  refine WL.nx (WC.sr (R hS ?_))
  refine Rn hS (ex_load_box_agg (cs := [i6 r_105.k, i6 r_105.i, sv r_105.t, v_106, v_107]) isAgg32 sizeOf32 rfl rfl rfl) ?_
  replace hS := hS.f2
  refine Rc (enters0 (vs := [(pq b_2), .agg #[i6 r_105.k, i6 r_105.i, sv r_105.t, v_106, v_107]]) call70 ⟨rfl, rfl, trivial⟩) (S_rlight (v_14 := r_105) hr_92 hr_94 hr_96 hr_98 hr_108 hr_109 h_110 h_111 hS hV) ?_
  clear hV hS
  rintro _ w ⟨r_118, r_125, v_119, v_120, H_126, hV, rfl, le_127, hr_121, hr_122, h_123, h_124, hS⟩
  refine ⟨_, rfl, ?_⟩
  replace hS := hS.f3
  refine St1 #[i6 r_118.k, i6 r_118.i, sv r_118.t, v_119, v_120] sizeOf32 hS ?_ (cs := [i6 r_118.k, i6 r_118.i, sv r_118.t, v_119, v_120]) (hone := ⟨rfl, rfl, rfl, (IsSl.one h_123), (IsSl.one h_124), trivial⟩)
  clear hS
  intro w hS
  refine WL.nx ?_
  replace hS := hS.f3.drop
  refine WC.ret (Wp ?_)
  have hl_128 := load_own_agg (P := Tryz.prog) (cs := [i6 r_118.k, i6 r_118.i, sv r_118.t, v_119, v_120]) isAgg32 sizeOf32 hS rfl
  replace hS := hS.drop
  exact leavec1 (il) rfl rfl hl_128 (⟨r_118, r_91, r_93, r_95, r_97, r_125, v_119, v_120, H_126, hV, rfl, (((((View.le.refl _).trans le_101).trans le_103).trans le_113).trans le_127), hr_121, hr_122, h_123, h_124, hr_92, hr_94, hr_96, hr_98, hS⟩)
  intro hc_206
  replace hV := hV.2 hc_206
  refine WC.skip (WQ.next (WC.sr (R hS ?_)))
  refine Rc (enters0 (vs := [(pq b_2), sv ([91] : Str)]) call68 ⟨rfl, rfl, trivial⟩) (S_rsign hr_79 hr_8 hr_10 hr_12 hS hV) ?_
  clear hV hS
  rintro _ w ⟨r_129, r_130, hV, rfl, hr_131, hS⟩
  refine ⟨_, rfl, ?_⟩
  refine R hS ?_
  refine WL.nx (WC.seq (WC.sr (R hS ?_)))
  refine WL.nx ?_
  refine Cd ?_ ?_
  intro hc_205
  replace hV := hV.1 hc_205
  refine WC.sr (R hS ?_)
  refine Rc (enters0 (vs := [(pq b_2), sv ([93] : Str), i6 (1 : Int), .bool true]) call69 ⟨rfl, rfl, rfl, rfl, trivial⟩) (S_rvalues (@ih) hr_131 hr_8 hr_10 hr_12 (show I64 (1 : Int) by unfold I64; omega) hS hV) ?_
  clear hV hS
  rintro _ w ⟨r_133, r_138, r_143, r_145, r_147, r_149, r_151, v_134, fp_135, v_139, fp_140, H_152, hV, rfl, le_153, h_136, h_141, hr_144, hr_146, hr_148, hr_150, hS⟩
  refine ⟨_, rfl, ?_⟩
  iterate 5 refine R hS ?_
  refine WL.nx (Sb [(0, (pq b_2)), (2, (pq b_14)), (12, v_134), (13, v_139)] ?_)
  refine WC.seq (WC.sr ?_)
  iterate 3 refine R hS ?_
  replace hS := hS.f3
  iterate 2 refine R hS ?_
  refine WL.nx ?_
  refine Cd ?_ ?_
  intro hc_188
  replace hV := hV.1 (od hc_188)
  refine WC.sr (Rn hS (ex_build (vs := []) (zc := #[i6 0, i6 0, sv ([] : Str), ns, ns]) (cs := #[i6 0, i6 0, sv ([] : Str), ns, ns]) (places := #[(0, 1), (1, 1), (2, 1), (3, 1), (4, 1)]) underlying32 zeroValue32 (fun w => by simp [sizeOf2, sizeOf3, sizeOf30, sizeOf9]) rfl trivial rfl (by simp [Instr.fill, cells_int, cells_bool, cells_iface, cells_niliface, cells_slice, str_cells])) ?_)
  replace hS := hS.f4
  refine St1 #[i6 0, i6 0, sv ([] : Str), ns, ns] sizeOf32 hS ?_
  clear hS
  intro w hS
  refine WL.nx ?_
  replace hS := hS.f3.drop
  replace hS := hS.f3.drop
  refine WC.ret (Wp ?_)
  refine Wp ?_
  have hl_157 := load_own_agg (P := Tryz.prog) (cs := [i6 0, i6 0, sv ([] : Str), ns, ns]) isAgg32 sizeOf32 hS rfl
  replace hS := hS.drop
  exact leavec1 (il) rfl rfl hl_157 (⟨(RV.mk 0 0 ([] : Str) ([] : List RV) ([] : List RV)), r_143, r_145, r_147, r_149, r_151, ns, ns, H_152, hV, rfl, ((View.le.refl _).trans le_153), i0, i0, IsSl.nil, IsSl.nil, hr_144, hr_146, hr_148, hr_150, hS⟩)
  intro hc_188
  replace hV := hV.2 (ov hc_188)
  refine WC.skip (WQ.next (WC.sr ?_))
  iterate 2 refine R hS ?_
  replace hS := hS.f2
  obtain ⟨H_158, le_159, h_160, hS⟩ : ∃ K, View.le H_152 K ∧ IsSl K cR v_134 r_133 ∧ St w0 K ([(b_2, oc #[sv s_4, i6 r_143, i6 r_145, i6 r_147, i6 r_149, .bool r_151] 67)] ++ (fp_140 ++ ([(b_14, Obj.cells #[i6 0, i6 0, sv ([] : Str), ns, ns] 32 (0, 0))] ++ L))) w := ⟨_, hS.put_le, h_136.share hS.put_le, hS.freeze⟩
  replace hS := hS.f2
  obtain ⟨H_161, le_162, h_163, hS⟩ : ∃ K, View.le H_158 K ∧ IsSl K cR v_139 r_138 ∧ St w0 K ([(b_2, oc #[sv s_4, i6 r_143, i6 r_145, i6 r_147, i6 r_149, .bool r_151] 67)] ++ ([(b_14, Obj.cells #[i6 0, i6 0, sv ([] : Str), ns, ns] 32 (0, 0))] ++ L)) w := ⟨_, hS.put_le, (h_141.mono le_159).share hS.put_le, hS.freeze⟩
  refine Rc (enters0 (vs := [v_134, v_139]) call71 ⟨rfl, rfl, trivial⟩) (S_rFunOf (h_160.mono le_162) h_163 hS hV) ?_
  clear hV hS
  rintro _ w ⟨r_164, v_165, v_166, H_171, hV, rfl, le_172, hr_167, hr_168, h_169, h_170, hS⟩
  refine ⟨_, rfl, ?_⟩
  refine WL.alloc (arr := #[i6 0, i6 0, sv ([] : Str), ns, ns]) rfl zeroValue32 rfl hS ?_
  clear hS
  intro b_173 w hS
  refine St1 #[i6 r_164.k, i6 r_164.i, sv r_164.t, v_165, v_166] sizeOf32 hS ?_ (cs := [i6 r_164.k, i6 r_164.i, sv r_164.t, v_165, v_166]) (hone := ⟨rfl, rfl, rfl, (IsSl.one h_169), (IsSl.one h_170), trivial⟩)
  clear hS
  intro w hS
  refine WL.nx (Sb [(0, (pq b_2)), (2, (pq b_14)), (14, (pq b_173))] ?_)
  refine WC.sr (R hS ?_)
  refine Rn hS (ex_load_box_agg (cs := [i6 r_164.k, i6 r_164.i, sv r_164.t, v_165, v_166]) isAgg32 sizeOf32 rfl rfl rfl) ?_
  replace hS := hS.f2
  refine Rc (enters0 (vs := [(pq b_2), .agg #[i6 r_164.k, i6 r_164.i, sv r_164.t, v_165, v_166]]) call70 ⟨rfl, rfl, trivial⟩) (S_rlight (v_14 := r_164) hr_144 hr_146 hr_148 hr_150 hr_167 hr_168 h_169 h_170 hS hV) ?_
  clear hV hS
  rintro _ w ⟨r_177, r_184, v_178, v_179, H_185, hV, rfl, le_186, hr_180, hr_181, h_182, h_183, hS⟩
  refine ⟨_, rfl, ?_⟩
  replace hS := hS.f3
  refine St1 #[i6 r_177.k, i6 r_177.i, sv r_177.t, v_178, v_179] sizeOf32 hS ?_ (cs := [i6 r_177.k, i6 r_177.i, sv r_177.t, v_178, v_179]) (hone := ⟨rfl, rfl, rfl, (IsSl.one h_182), (IsSl.one h_183), trivial⟩)
  clear hS
  intro w hS
  refine WL.nx ?_
  replace hS := hS.f3.drop
  refine WC.ret (Wp ?_)
  have hl_187 := load_own_agg (P := Tryz.prog) (cs := [i6 r_177.k, i6 r_177.i, sv r_177.t, v_178, v_179]) isAgg32 sizeOf32 hS rfl
  replace hS := hS.drop
  exact leavec1 (il) rfl rfl hl_187 (⟨r_177, r_143, r_145, r_147, r_149, r_184, v_178, v_179, H_185, hV, rfl, ((((((View.le.refl _).trans le_153).trans le_159).trans le_162).trans le_172).trans le_186), hr_180, hr_181, h_182, h_183, hr_144, hr_146, hr_148, hr_150, hS⟩)
  intro hc_205
  replace hV := hV.2 hc_205
  refine WC.skip (WQ.next (WC.sr (R hS ?_)))
  refine Rc (enters0 (vs := [(pq b_2)]) call72 ⟨rfl, trivial⟩) (S_rsingle hr_131 hr_8 hr_10 hr_12 hS hV) ?_
  clear hV hS
  rintro _ w ⟨r_189, r_196, r_198, r_200, v_190, v_191, H_202, hV, rfl, le_203, hr_192, hr_193, h_194, h_195, hr_197, hr_199, hr_201, hS⟩
  refine ⟨_, rfl, ?_⟩
  replace hS := hS.f2
  refine St1 #[i6 r_189.k, i6 r_189.i, sv r_189.t, v_190, v_191] sizeOf32 hS ?_ (cs := [i6 r_189.k, i6 r_189.i, sv r_189.t, v_190, v_191]) (hone := ⟨rfl, rfl, rfl, (IsSl.one h_194), (IsSl.one h_195), trivial⟩)
  clear hS
  intro w hS
  refine WL.nx (Sb [(2, (pq b_14))] ?_)
  refine WC.ret ?_
  have hl_204 := load_own_agg (P := Tryz.prog) (cs := [i6 r_189.k, i6 r_189.i, sv r_189.t, v_190, v_191]) isAgg32 sizeOf32 hS rfl
  replace hS := hS.drop
  exact leavec1 (il) rfl rfl hl_204 (⟨r_189, r_196, deep_7, r_198, r_200, heavy_13, v_190, v_191, H_202, hV, rfl, ((View.le.refl _).trans le_203), hr_192, hr_193, h_194, h_195, hr_197, hr_8, hr_199, hr_201, hS⟩)
theorem S_rRead {w0 : World} {H : View} {L : Seg} {w : World} {s_1 : Str} {Q : RV → Int → Int → Prop}  (hS : St w0 H (L) w) (hV : V_rRead s_1 Q) :
 Calls Tryz.prog 9 #[sv s_1] w fun e w' => ∃ (r1 : RV) (r2 : Int) (r3 : Int) (u1 : Value) (w1 : Value) (H' : View), Q r1 r2 r3 ∧ e = .returned (.tuple #[.agg #[i6 r1.k, i6 r1.i, sv r1.t, u1, w1], i6 r2, i6 r3]) ∧ View.le H H' ∧ I64 r1.k ∧ I64 r1.i ∧ IsSl H' cR u1 r1.ks ∧ IsSl H' cR w1 r1.vs ∧ I64 r2 ∧ I64 r3 ∧ St w0 H' (L) w' := by
 unfold V_rRead at hV
 refine enter func9 rfl ntmps9 rfl (lk_args_cons (d := 0) (v := sv s_1) rfl (lk_args_nil _)) (WC.sr (WL.alloc (arr := #[i6 0, i6 0, sv ([] : Str), ns, ns]) rfl zeroValue32 rfl hS ?_))
 clear hS
 intro b_2 w hS
 iterate 2 refine R hS ?_
 refine WL.nx (WC.seq (WC.sr (R hS ?_)))
 obtain ⟨hl_6, hV⟩ := hV
 iterate 2 refine R hS ?_
 refine WL.nx ?_
 refine Cd ?_ ?_
 intro hc_138
 replace hV := hV.1 (od hc_138)
 refine WC.sr (Rn hS (ex_build (vs := []) (zc := #[i6 0, i6 0, sv ([] : Str), ns, ns]) (cs := #[i6 0, i6 0, sv ([] : Str), ns, ns]) (places := #[(0, 1), (1, 1), (2, 1), (3, 1), (4, 1)]) underlying32 zeroValue32 (fun w => by simp [sizeOf2, sizeOf3, sizeOf30, sizeOf9]) rfl trivial rfl (by simp [Instr.fill, cells_int, cells_bool, cells_iface, cells_niliface, cells_slice, str_cells])) ?_)
 refine St1 #[i6 0, i6 0, sv ([] : Str), ns, ns] sizeOf32 hS ?_
 clear hS
 intro w hS
 iterate 2 refine R hS ?_
 refine WL.nx (WC.ret (Wp ?_))
 have hl_10 := load_own_agg (P := Tryz.prog) (cs := [i6 0, i6 0, sv ([] : Str), ns, ns]) isAgg32 sizeOf32 hS rfl
 replace hS := hS.drop
 exact leavectt (il) rfl rfl rfl rfl hl_10 (⟨(RV.mk 0 0 ([] : Str) ([] : List RV) ([] : List RV)), (0 : Int), (6 : Int), ns, ns, H, hV, rfl, (View.le.refl _), i0, i0, IsSl.nil, IsSl.nil, i0, (show I64 (6 : Int) by unfold I64; omega), hS⟩)
 intro hc_138
 replace hV := hV.2 (ov hc_138)
 refine WC.skip (WQ.next (WC.sr (R hS ?_)))
 refine Rn hS (ex_build (vs := [sv s_1]) (zc := #[sv ([] : Str), i6 0, i6 0, i6 0, i6 0, .bool false]) (cs := #[sv s_1, i6 0, i6 0, i6 0, i6 0, .bool false]) (places := #[(0, 1), (1, 1), (2, 1), (3, 1), (4, 1), (5, 1)]) underlying67 zeroValue67 (fun w => by simp [sizeOf3, sizeOf4, sizeOf9]) rfl ⟨rfl, trivial⟩ rfl (by simp [Instr.fill, cells_int, cells_bool, cells_iface, cells_niliface, cells_slice, str_cells])) ?_
 refine WL.box (arr := #[sv s_1, i6 0, i6 0, i6 0, i6 0, .bool false]) rfl rfl rfl hS ?_
 clear hS
 intro b_11 w hS
 refine R hS ?_
 refine WL.nx (WC.sr (R hS ?_))
 obtain ⟨mf, hV⟩ := hV
 refine Rc (enters0 (vs := [(pq b_11)]) call26 ⟨rfl, trivial⟩) (S_rvalue mf i0 i0 i0 i0 hS hV) ?_
 clear hV hS
 rintro _ w ⟨r_13, r_20, r_22, r_24, r_26, r_28, v_14, v_15, H_29, hV, rfl, le_30, hr_16, hr_17, h_18, h_19, hr_21, hr_23, hr_25, hr_27, hS⟩
 refine ⟨_, rfl, ?_⟩
 refine WL.alloc (arr := #[i6 0, i6 0, sv ([] : Str), ns, ns]) rfl zeroValue32 rfl hS ?_
 clear hS
 intro b_31 w hS
 refine St1 #[i6 r_13.k, i6 r_13.i, sv r_13.t, v_14, v_15] sizeOf32 hS ?_ (cs := [i6 r_13.k, i6 r_13.i, sv r_13.t, v_14, v_15]) (hone := ⟨rfl, rfl, rfl, (IsSl.one h_18), (IsSl.one h_19), trivial⟩)
 clear hS
 intro w hS
 refine WL.nx (Sb [(0, sv s_1), (2, (pq b_2)), (5, (pq b_11)), (6, (pq b_31))] ?_)
 refine WC.sr (R hS ?_)
 replace hS := hS.f2
 refine Rc (enters0 (vs := [(pq b_11)]) call27 ⟨rfl, trivial⟩) (S_rskip hr_21 hr_23 hr_25 hr_27 hS hV) ?_
 clear hV hS
 rintro _ w ⟨r_35, hV, rfl, hr_36, hS⟩
 refine ⟨_, rfl, ?_⟩
 refine WL.nx ?_
 obtain ⟨J_59, hJ_60, hV⟩ := hV
 refine WC.meet (fun a w => ∃ (c_55 : Int) (c_57 : Int), J_59 (c_55, c_57) ∧ I64 c_55 ∧ I64 c_57 ∧ St w0 H_29 ([(b_2, Obj.cells #[i6 0, i6 0, sv ([] : Str), ns, ns] 32 (0, 0))] ++ ([(b_11, oc #[sv s_1, i6 r_35, i6 r_22, i6 c_55, i6 c_57, .bool r_28] 67)] ++ ([(b_31, oc #[i6 r_13.k, i6 r_13.i, sv r_13.t, v_14, v_15] 32)] ++ L))) w ∧ Fr 66 [(2, (pq b_2)), (5, (pq b_11)), (6, (pq b_31))] a) ?_ ?_
 rintro a w ⟨c_55, c_57, hI, hr_56, hr_58, hS, ha⟩
 refine in_frame ha ?_
 clear ha hV
 have hV := hJ_60 _ hI
 clear hI hJ_60
 obtain ⟨J_95, hJ_96, hV⟩ := hV
 refine WC.meet (fun a w => ∃ (c_91 : Int) (c_93 : Int), J_95 (c_91, c_93) ∧ I64 c_91 ∧ I64 c_93 ∧ St w0 H_29 ([(b_2, Obj.cells #[i6 0, i6 0, sv ([] : Str), ns, ns] 32 (0, 0))] ++ ([(b_11, oc #[sv s_1, i6 r_35, i6 r_22, i6 c_91, i6 c_93, .bool r_28] 67)] ++ ([(b_31, oc #[i6 r_13.k, i6 r_13.i, sv r_13.t, v_14, v_15] 32)] ++ L))) w ∧ Fr 66 [(2, (pq b_2)), (5, (pq b_11)), (6, (pq b_31))] a) ?_ ?_
 rintro a w ⟨c_91, c_93, hI, hr_92, hr_94, hS, ha⟩
 refine in_frame ha ?_
 clear ha hV
 have hV := hJ_96 _ hI
 clear hI hJ_96
 refine WC.seq (WC.sr ?_)
 iterate 3 refine R hS ?_
 replace hS := hS.f2
 iterate 2 refine R hS ?_
 refine WL.nx ?_
 refine Cd ?_ ?_
 intro hc_137
 replace hV := hV.1 (od hc_137)
 refine WC.seq (WC.drawn (σ := [0, 1, 2, 3, 4, 5, 6, 7, 8, 9, 10, 11]) (C := St w0 H_29 ([(b_11, oc #[sv s_1, i6 r_35, i6 r_22, i6 c_91, i6 c_93, .bool r_28] 67)] ++ ([(b_2, Obj.cells #[i6 0, i6 0, sv ([] : Str), ns, ns] 32 (0, 0))] ++ ([(b_31, oc #[i6 r_13.k, i6 r_13.i, sv r_13.t, v_14, v_15] 32)] ++ L)))) [[], [], [1], [1, 2], [1, 2, 3], [], [5], [5, 6], [5, 6, 7], [0], [0, 1, 2, 3, 4, 9], [0, 1, 2, 3, 4, 5, 6, 7, 8, 9, 10]] [9] mixed (by kernel_rfl) (hS.drawn _) ?_)
 clear hS w
 refine Wd.run rfl rfl rfl rfl (fun _ => ex_build (vs := []) (zc := #[i6 0, i6 0, sv ([] : Str), ns, ns]) (cs := #[i6 0, i6 0, sv ([] : Str), ns, ns]) (places := #[(0, 1), (1, 1), (2, 1), (3, 1), (4, 1)]) underlying32 zeroValue32 (fun w => by simp [sizeOf2, sizeOf3, sizeOf30, sizeOf9]) rfl trivial rfl (by simp [Instr.fill, cells_int, cells_bool, cells_iface, cells_niliface, cells_slice, str_cells])) fun q_112 hq_111 => ?_
 refine Dm fun q_116 hq_115 => ?_
 refine Wd.run rfl rfl rfl rfl (fun _ => ex_nilCheck rfl) fun q_118 hq_117 => ?_
 refine Wd.run rfl rfl rfl rfl (fun _ => ex_fieldAddr (o' := 4) underlying67 rfl sizeOf3 rfl rfl) fun q_120 hq_119 => ?_
 refine Wd.runb (off := 4) rfl rfl rfl rfl (fun _ _ _ h => ex_load_box isAgg3 rfl h) rfl (fun _ h => h) fun q_122 hq_121 => ?_
 refine Dm fun q_124 hq_123 => ?_
 refine Wd.run rfl rfl rfl rfl (fun _ => ex_nilCheck rfl) fun q_126 hq_125 => ?_
 refine Wd.run rfl rfl rfl rfl (fun _ => ex_fieldAddr (o' := 3) underlying67 rfl sizeOf3 rfl rfl) fun q_128 hq_127 => ?_
 refine Wd.runb (off := 3) rfl rfl rfl rfl (fun _ _ _ h => ex_load_box isAgg3 rfl h) rfl (fun _ h => h) fun q_130 hq_129 => ?_
 refine Wd.turn rfl rfl rfl fun w hS => ?_
 replace hS := hS.f2
 refine St1 #[i6 0, i6 0, sv ([] : Str), ns, ns] sizeOf32 hS ?_
 clear hS
 intro w hS
 refine WL.nil (DQ.mk2 (C' := St w0 H_29 ([(b_2, Obj.cells #[i6 0, i6 0, sv ([] : Str), ns, ns] 32 (0, 0))] ++ ([(b_11, oc #[sv s_1, i6 r_35, i6 r_22, i6 c_91, i6 c_93, .bool r_28] 67)] ++ ([(b_31, oc #[i6 r_13.k, i6 r_13.i, sv r_13.t, v_14, v_15] 32)] ++ L)))) hS ⟨.inr (hq_129 H_29 ([(b_2, Obj.cells #[i6 0, i6 0, sv ([] : Str), ns, ns] 32 (0, 0))] ++ ([(b_31, oc #[i6 r_13.k, i6 r_13.i, sv r_13.t, v_14, v_15] 32)] ++ L)) #[sv s_1, i6 r_35, i6 r_22, i6 c_91, i6 c_93, .bool r_28] _ rfl (fun _ h => St.f2 h)), .inr (hq_127 _), .inr (hq_125 _), .inr (hq_123 _), .inr (hq_121 H_29 ([(b_2, Obj.cells #[i6 0, i6 0, sv ([] : Str), ns, ns] 32 (0, 0))] ++ ([(b_31, oc #[i6 r_13.k, i6 r_13.i, sv r_13.t, v_14, v_15] 32)] ++ L)) #[sv s_1, i6 r_35, i6 r_22, i6 c_91, i6 c_93, .bool r_28] _ rfl (fun _ h => St.f2 h)), .inr (hq_119 _), .inr (hq_117 _), .inr (hq_115 _), il, trivial⟩ ?_)
 clear hS w
 refine Wd.run rfl rfl rfl rfl (fun _ => ex_assign rfl) fun q_132 hq_131 => ?_
 refine Wd.run rfl rfl rfl rfl (fun _ => ex_assign rfl) fun q_134 hq_133 => ?_
 refine Wd.nil fun w hS => ?_
 refine WQ.next (Sb [(2, (pq b_2)), (3, i6 c_93), (4, i6 c_91)] ?_)
 replace hS := hS.f2.drop
 replace hS := hS.f2.drop
 refine WC.ret (Wp ?_)
 have hl_135 := load_own_agg (P := Tryz.prog) (cs := [i6 0, i6 0, sv ([] : Str), ns, ns]) isAgg32 sizeOf32 hS rfl
 replace hS := hS.drop
 exact leavectt (il) rfl rfl rfl rfl hl_135 (⟨(RV.mk 0 0 ([] : Str) ([] : List RV) ([] : List RV)), c_93, c_91, ns, ns, H_29, hV, rfl, ((View.le.refl _).trans le_30), i0, i0, IsSl.nil, IsSl.nil, hr_94, hr_92, hS⟩)
 intro hc_137
 replace hV := hV.2 (ov hc_137)
 refine WC.skip (WQ.next ?_)
 replace hS := hS.drop
 refine WC.sr ?_
 replace hS := hS.f2
 refine Rn hS (ex_load_box_agg (cs := [i6 r_13.k, i6 r_13.i, sv r_13.t, v_14, v_15]) isAgg32 sizeOf32 rfl rfl rfl) ?_
 replace hS := hS.f2
 refine St1 #[i6 r_13.k, i6 r_13.i, sv r_13.t, v_14, v_15] sizeOf32 hS ?_ (cs := [i6 r_13.k, i6 r_13.i, sv r_13.t, v_14, v_15]) (hone := ⟨rfl, rfl, rfl, (IsSl.one h_18), (IsSl.one h_19), trivial⟩)
 clear hS
 intro w hS
 iterate 2 refine R hS ?_
 refine WL.nx ?_
 replace hS := hS.f2.drop
 refine WC.ret ?_
 have hl_136 := load_own_agg (P := Tryz.prog) (cs := [i6 r_13.k, i6 r_13.i, sv r_13.t, v_14, v_15]) isAgg32 sizeOf32 hS rfl
 replace hS := hS.drop
 exact leavectt (il) rfl rfl rfl rfl hl_136 (⟨r_13, (0 : Int), (0 : Int), v_14, v_15, H_29, hV, rfl, ((View.le.refl _).trans le_30), hr_16, hr_17, h_18, h_19, i0, i0, hS⟩)
 clear hJ_96
 obtain ⟨J_100, hJ_101, hV⟩ := hV
 refine WC.meet (fun a w => ∃ (x_99 : Bool), J_100 x_99 ∧ St w0 H_29 ([(b_2, Obj.cells #[i6 0, i6 0, sv ([] : Str), ns, ns] 32 (0, 0))] ++ ([(b_11, oc #[sv s_1, i6 r_35, i6 r_22, i6 c_55, i6 c_57, .bool r_28] 67)] ++ ([(b_31, oc #[i6 r_13.k, i6 r_13.i, sv r_13.t, v_14, v_15] 32)] ++ L))) w ∧ Fr 66 [(2, (pq b_2)), (5, (pq b_11)), (6, (pq b_31)), (48, .bool x_99)] a) ?_ ?_
 rintro a w ⟨x_99, hI, hS, ha⟩
 refine in_frame ha ?_
 clear ha hV
 have hV := hJ_101 _ hI
 clear hI hJ_101
 refine Cd ?_ ?_
 intro hc_109
 replace hV := hV.1 hc_109
 refine WC.region (R hS ?_)
 replace hS := hS.f2
 refine Rc (enters0 (vs := [(pq b_11), i6 (6 : Int), i6 (0 : Int)]) call28 ⟨rfl, rfl, rfl, trivial⟩) (S_rfail hr_36 hr_23 hr_56 hr_58 (show I64 (6 : Int) by unfold I64; omega) i0 hS hV) ?_
 clear hV hS
 rintro _ w ⟨r_104, r_106, hV, rfl, hr_105, hr_107, hS⟩
 refine ⟨_, rfl, ?_⟩
 refine WL.nil ?_
 replace hS := hS.f3.f2.f3
 exact Wt fun a ha => ⟨r_104, r_106, hV, hr_105, hr_107, hS, ha.os⟩
 intro hc_109
 replace hV := hV.2 hc_109
 refine WC.skip ?_
 replace hS := hS.f3.f3.f3
 exact Wt fun a ha => ⟨c_55, c_57, hV, hr_56, hr_58, hS, ha.os⟩
 clear hJ_101
 refine WC.region ?_
 iterate 3 refine R hS ?_
 replace hS := hS.f2
 iterate 3 refine R hS ?_
 rcases bft (decide (c_55 = (0 : Int))) with hg_103 | hg_103
 replace hV := hV.1 (od hg_103)
 iterate 5 refine R hS ?_
 refine WL.nil ?_
 replace hS := hS.f3.f2.f3
 exact Wt fun a ha => ⟨r_28, hV, hS, ha.os⟩
 replace hV := hV.2 (ov hg_103)
 iterate 5 refine R hS ?_
 refine WL.nil ?_
 replace hS := hS.f3.f2.f3
 exact Wt fun a ha => ⟨false, hV, hS, ha.os⟩
 clear hJ_60
 obtain ⟨J_66, hJ_67, hV⟩ := hV
 refine WC.meet (fun a w => ∃ (x_65 : Bool), J_66 x_65 ∧ St w0 H_29 ([(b_2, Obj.cells #[i6 0, i6 0, sv ([] : Str), ns, ns] 32 (0, 0))] ++ ([(b_11, oc #[sv s_1, i6 r_35, i6 r_22, i6 r_24, i6 r_26, .bool r_28] 67)] ++ ([(b_31, oc #[i6 r_13.k, i6 r_13.i, sv r_13.t, v_14, v_15] 32)] ++ L))) w ∧ Fr 66 [(2, (pq b_2)), (5, (pq b_11)), (6, (pq b_31)), (31, .bool x_65)] a) ?_ ?_
 rintro a w ⟨x_65, hI, hS, ha⟩
 refine in_frame ha ?_
 clear ha hV
 have hV := hJ_67 _ hI
 clear hI hJ_67
 refine Cd ?_ ?_
 intro hc_77
 replace hV := hV.1 hc_77
 refine WC.region ?_
 iterate 4 refine R hS ?_
 replace hS := hS.f2
 refine R hS ?_
 refine Rc (enters0 (vs := [(pq b_11), i6 (1 : Int), i6 r_35]) call28 ⟨rfl, rfl, rfl, trivial⟩) (S_rfail hr_36 hr_23 hr_25 hr_27 (show I64 (1 : Int) by unfold I64; omega) hr_36 hS hV) ?_
 clear hV hS
 rintro _ w ⟨r_72, r_74, hV, rfl, hr_73, hr_75, hS⟩
 refine ⟨_, rfl, ?_⟩
 refine WL.nil ?_
 replace hS := hS.f3.f2.f3
 exact Wt fun a ha => ⟨r_72, r_74, hV, hr_73, hr_75, hS, ha.os⟩
 intro hc_77
 replace hV := hV.2 hc_77
 refine WC.skip ?_
 replace hS := hS.f3.f3.f3
 exact Wt fun a ha => ⟨r_24, r_26, hV, hr_25, hr_27, hS, ha.os⟩
 clear hJ_67
 refine WC.region ?_
 iterate 6 refine R hS ?_
 rcases bft (decide (r_24 = (0 : Int))) with hg_69 | hg_69
 replace hV := hV.1 (od hg_69)
 iterate 5 refine R hS ?_
 refine Ug hg_69 ?_
 obtain ⟨hl_70, hV⟩ := hV
 iterate 3 refine R hS ?_
 refine WL.nil ?_
 replace hS := hS.f2.f2.f3
 exact Wt fun a ha => ⟨decide (r_35 < (s_1.length : Int)), hV, hS, ha.os⟩
 replace hV := hV.2 (ov hg_69)
 iterate 8 refine R hS ?_
 refine WL.nil ?_
 replace hS := hS.f2.f2.f3
 exact Wt fun a ha => ⟨false, hV, hS, ha.os⟩
theorem read_off_ret {w : World} {x y z : Value} : CallsD Tryz.prog 22 #[x, y, z] .returning w fun e u' w' => e = .returned (.tuple #[]) ∧ u' = .returning ∧ w' = w := by
  refine enterS (n := 18) (l := []) Tryz.func22 rfl rfl rfl (lk_args_nil _) fun c₀ cs a hu ha => ?_
  refine wpS_recover_none (by simp [recoverD, hu]) ?_
  refine WC.inS ?_ (ha.put (d := 6) rfl .nilIface)
  refine WC.block (WC.sr (WL.run (C := fun _ => True) trivial rfl rfl rfl (ex_eqv (r := true) rfl rfl (fun w => by kernel_rfl) (fun w => by kernel_rfl)) (WL.nx (WC.cond_true rfl (WC.region (WL.ma rfl rfl (WL.nil ?_)))))))
  intro a ha
  exact ⟨ha.defers, .returning, by rw [← hu], _, results_none rfl _ _ _, rfl, rfl, rfl⟩
theorem read_off_panic {w0 : World} {H : View} {L : Seg} {w : World} {b_2 b_4 b_6 : Nat} {u i ev : Value} {e1 a1 : Int} (hS : St w0 H ([(b_2, Obj.cells #[u] 25 (0, 0))] ++ ([(b_4, Obj.cells #[i] 3 (0, 0))] ++ ([(b_6, Obj.cells #[ev] 27 (0, 0))] ++ L))) w) :
    CallsD Tryz.prog 22 #[.pointer (some ⟨b_2, 0, none⟩), .pointer (some ⟨b_4, 0, none⟩), .pointer (some ⟨b_6, 0, none⟩)] (.panicking (faultC e1 a1)) w fun e u' w' => e = .returned (.tuple #[]) ∧ settle u' = .returning ∧
      St w0 H ([(b_2, Obj.cells #[.nilIface] 25 (0, 0))] ++ ([(b_4, Obj.cells #[.int .i64 a1] 3 (0, 0))] ++ ([(b_6, Obj.cells #[.iface 57 (.int .i64 e1)] 27 (0, 0))] ++ L))) w' := by
  refine enterS (n := 18) (l := [(0, .pointer (some ⟨b_2, 0, none⟩)), (1, .pointer (some ⟨b_4, 0, none⟩)), (2, .pointer (some ⟨b_6, 0, none⟩))]) Tryz.func22 rfl rfl rfl (lk_args_cons rfl (lk_args_cons rfl (lk_args_cons rfl (lk_args_nil _)))) fun c₀ cs a hu ha => ?_
  refine wpS_recover_some (v := .iface 59 (.agg #[.int .i64 e1, .int .i64 a1])) (cs' := { c₀ with mode := .panicking [{ v := .iface 59 (.agg #[.int .i64 e1, .int .i64 a1]), recovered := true }] } :: cs) (by simp [recoverD, hu, faultC]) ?_
  refine WC.inS ?_ (ha.put (d := 6) rfl _)
  refine WC.block (WC.sr (WL.run hS rfl rfl rfl (ex_eqv (r := false) rfl rfl (fun w => by kernel_rfl) (fun w => by kernel_rfl)) (WL.nx (WC.cond_false rfl (WC.sr ?_)))))
  refine WL.run hS rfl rfl rfl (v := .tuple #[.agg #[.int .i64 e1, .int .i64 a1], .bool true]) (fun w _ a ha => by
    have e1 := ha.eval (x := .tmp 6) rfl
    simp [execOp, e1, run_assert_ok (P := Tryz.prog) (at_ := 59) (by kernel_rfl) Tryz.zeroValue59]) ?_
  refine WL.run hS rfl rfl rfl (ex_extract rfl rfl) (WL.run hS rfl rfl rfl (ex_extract rfl rfl) (WL.nx (WC.cond_true rfl (WC.sr (WL.alloc (arr := #[.int .i64 0, .int .i64 0]) rfl Tryz.zeroValue59 rfl hS ?_)))))
  clear hS
  intro b_11 w hS
  refine WL.store_box (pre := []) (old := [.int .i64 0, .int .i64 0]) (rst := []) (cs := [.int .i64 e1, .int .i64 a1]) (arr' := #[.int .i64 e1, .int .i64 a1]) Tryz.sizeOf59 rfl rfl rfl ⟨rfl, rfl, trivial⟩ rfl rfl rfl rfl hS ?_
  clear hS
  intro w hS
  refine WL.nx ?_
  replace hS := hS.f3.f4.f3
  refine WC.drawn (σ := [0, 1, 2, 3, 4, 5, 6, 7, 8]) (C := St w0 H ([(b_11, Obj.cells #[.int .i64 e1, .int .i64 a1] 59 (0, 0))] ++ ([(b_6, Obj.cells #[ev] 27 (0, 0))] ++ ([(b_4, Obj.cells #[i] 3 (0, 0))] ++ ([(b_2, Obj.cells #[u] 25 (0, 0))] ++ L))))) [[], [], [1], [], [3], [3, 4], [0], [0, 1, 2, 6], [0, 1, 2, 3, 4, 5, 6, 7]] [6, 7, 8] Tryz.mixed (by kernel_rfl) (hS.drawn _) ?_
  clear hS w
  refine Wd.run rfl rfl rfl rfl (fun _ => ex_build (vs := []) (zc := #[.nilIface]) (cs := #[.nilIface]) (places := #[(0, 1)]) Tryz.underlying25 Tryz.zeroValue25 (fun w => by simp [Tryz.sizeOf23]) rfl trivial rfl (by simp [Instr.fill, cells_int, cells_bool, cells_iface, cells_niliface, cells_slice, str_cells])) fun q_14 hq_13 => ?_
  refine Wd.run rfl rfl rfl rfl (fun _ => ex_fieldAddr (o' := 1) Tryz.underlying59 rfl Tryz.sizeOf3 rfl rfl) fun q_16 hq_15 => ?_
  refine Wd.runb (off := 1) rfl rfl rfl rfl (fun _ _ _ h => ex_load_box Tryz.isAgg3 rfl h) rfl (fun _ h => h) fun q_18 hq_17 => ?_
  refine Wd.run rfl rfl rfl rfl (fun _ => ex_fieldAddr (o' := 0) Tryz.underlying59 rfl Tryz.sizeOf57 rfl rfl) fun q_20 hq_19 => ?_
  refine Wd.runb (off := 0) rfl rfl rfl rfl (fun _ _ _ h => ex_load_box Tryz.isAgg57 rfl h) rfl (fun _ h => h) fun q_22 hq_21 => ?_
  refine Wd.run rfl rfl rfl rfl (fun _ => ex_makeIface (by kernel_rfl) rfl) fun q_24 hq_23 => ?_
  refine Wd.turn rfl rfl rfl fun w hS => ?_
  replace hS := hS.f4
  refine WL.store_box (pre := []) (old := [u]) (rst := []) (cs := [.nilIface]) (arr' := #[.nilIface]) Tryz.sizeOf25 rfl rfl rfl ⟨rfl, trivial⟩ rfl rfl rfl rfl hS ?_
  clear hS
  intro w hS
  refine WL.nil (DQ.mk2 (C' := St w0 H ([(b_2, Obj.cells #[.nilIface] 25 (0, 0))] ++ ([(b_11, Obj.cells #[.int .i64 e1, .int .i64 a1] 59 (0, 0))] ++ ([(b_6, Obj.cells #[ev] 27 (0, 0))] ++ ([(b_4, Obj.cells #[i] 3 (0, 0))] ++ L))))) hS ⟨.inr (hq_23 _), .inr (hq_21 H ([(b_2, Obj.cells #[.nilIface] 25 (0, 0))] ++ ([(b_6, Obj.cells #[ev] 27 (0, 0))] ++ ([(b_4, Obj.cells #[i] 3 (0, 0))] ++ L))) #[.int .i64 e1, .int .i64 a1] _ rfl (fun _ h => St.f2 h)), .inr (hq_19 _), .inr (hq_17 H ([(b_2, Obj.cells #[.nilIface] 25 (0, 0))] ++ ([(b_6, Obj.cells #[ev] 27 (0, 0))] ++ ([(b_4, Obj.cells #[i] 3 (0, 0))] ++ L))) #[.int .i64 e1, .int .i64 a1] _ rfl (fun _ h => St.f2 h)), .inr (hq_15 _), .inl rfl, trivial⟩ ?_)
  clear hS w
  refine Wd.turn rfl rfl rfl fun w hS => ?_
  replace hS := hS.f4
  refine WL.store_box (pre := []) (old := [i]) (rst := []) (cs := [.int .i64 a1]) (arr' := #[.int .i64 a1]) Tryz.sizeOf3 rfl rfl rfl ⟨rfl, trivial⟩ rfl rfl rfl rfl hS ?_
  clear hS
  intro w hS
  refine WL.nil (DQ.mk2 (C' := St w0 H ([(b_4, Obj.cells #[.int .i64 a1] 3 (0, 0))] ++ ([(b_2, Obj.cells #[.nilIface] 25 (0, 0))] ++ ([(b_11, Obj.cells #[.int .i64 e1, .int .i64 a1] 59 (0, 0))] ++ ([(b_6, Obj.cells #[ev] 27 (0, 0))] ++ L))))) hS ⟨.inr (hq_23 _), .inr (hq_21 H ([(b_4, Obj.cells #[.int .i64 a1] 3 (0, 0))] ++ ([(b_2, Obj.cells #[.nilIface] 25 (0, 0))] ++ ([(b_6, Obj.cells #[ev] 27 (0, 0))] ++ L))) #[.int .i64 e1, .int .i64 a1] _ rfl (fun _ h => St.f3 h)), .inr (hq_19 _), .inl rfl, .inl rfl, .inl rfl, trivial⟩ ?_)
  clear hS w
  refine Wd.turn rfl rfl rfl fun w hS => ?_
  replace hS := hS.f4
  refine WL.store_box (pre := []) (old := [ev]) (rst := []) (cs := [(.iface 57 (.int .i64 e1))]) (arr' := #[(.iface 57 (.int .i64 e1))]) Tryz.sizeOf27 rfl rfl rfl ⟨rfl, trivial⟩ rfl rfl rfl rfl hS ?_
  clear hS
  intro w hS
  refine WL.nil (DQ.mk2 (C' := St w0 H ([(b_6, Obj.cells #[(.iface 57 (.int .i64 e1))] 27 (0, 0))] ++ ([(b_4, Obj.cells #[.int .i64 a1] 3 (0, 0))] ++ ([(b_2, Obj.cells #[.nilIface] 25 (0, 0))] ++ ([(b_11, Obj.cells #[.int .i64 e1, .int .i64 a1] 59 (0, 0))] ++ L))))) hS ⟨.inl rfl, .inl rfl, .inl rfl, .inl rfl, .inl rfl, .inl rfl, trivial⟩ ?_)
  clear hS w
  refine Wd.nil fun w hS => ?_
  refine WQ.out nofun ?_
  intro a ha
  exact ⟨ha.defers, _, rfl, _, results_none rfl _ _ _, rfl, rfl, hS.f4.drop.f3.f3.f2⟩
theorem read_results {w0 : World} {H : View} {L : Seg} {w : World} {b_2 b_4 b_6 : Nat} {u ev : Value} {i : Int} {n : Nat} {l : List (Nat × Value)} {a : Act} (hS : St w0 H ([(b_2, Obj.cells #[u] 25 (0, 0))] ++ ([(b_4, Obj.cells #[.int .i64 i] 3 (0, 0))] ++ ([(b_6, Obj.cells #[ev] 27 (0, 0))] ++ L))) w) (ha : Fr n l a)
    (h2 : lk l 2 = some (.pointer (some ⟨b_2, 0, none⟩))) (h4 : lk l 3 = some (.pointer (some ⟨b_4, 0, none⟩))) (h6 : lk l 4 = some (.pointer (some ⟨b_6, 0, none⟩))) : (results Tryz.f8 a.tmps).run Tryz.prog w = .ok (.tuple #[.agg #[u], .int .i64 i, ev]) w := by
  have e2 := ha.val 2 _ h2
  have e4 := ha.val 3 _ h4
  have e6 := ha.val 4 _ h6
  have l2 : (loadVar 25 ⟨b_2, 0, none⟩).run Tryz.prog w = .ok (.agg #[u]) w := load_own_agg (k := 1) (cs := [u]) (fun w => by kernel_rfl) (fun w => by kernel_rfl) hS rfl
  have l4 : (loadVar 3 ⟨b_4, 0, none⟩).run Tryz.prog w = .ok (.int .i64 i) w := load_own (fun w => by kernel_rfl) hS.f2
  have l6 : (loadVar 27 ⟨b_6, 0, none⟩).run Tryz.prog w = .ok ev w := load_own (fun w => by kernel_rfl) hS.f3
  have hr : Tryz.f8.results = #[.cell 2 25, .cell 3 3, .cell 4 27] := rfl
  simp [results, hr, Array.getD_eq_getD_getElem?, e2, e4, e6, asAddr, l2, l4, l6]
theorem S_Read {w0 : World} {H : View} {L : Seg} {w : World} {text_1 : Str} {Q : Val → Int → (Option Int) → Prop} (hN : GlobN w0 H) (hS : St w0 H (L) w) (hV : V_Read text_1 Q) :
    Calls Tryz.prog 8 #[sv text_1] w fun e w' => ∃ (r1 : Val) (r2 : Int) (r3 : Option Int) (u1 : Value) (H' : View), Q r1 r2 r3 ∧ e = .returned (.tuple #[.agg #[u1], .int .i64 r2, errV 57 r3]) ∧ View.le H H' ∧ IsW H' u1 r1 ∧ I64 r2 ∧ St w0 H' (L) w' := by
  obtain ⟨hl, hbig, hsm⟩ := hV
  refine enterD Tryz.func8 rfl Tryz.ntmps8 rfl (lk_args_cons (d := 0) (v := sv text_1) rfl (lk_args_nil _)) (WC.sr (WL.alloc (arr := #[.nilIface]) rfl Tryz.zeroValue25 rfl hS ?_))
  clear hS
  intro b_2 w hS
  refine WL.alloc (arr := #[.int .i64 0]) rfl Tryz.zeroValue3 rfl hS ?_
  clear hS
  intro b_4 w hS
  refine WL.alloc (arr := #[.nilIface]) rfl Tryz.zeroValue27 rfl hS ?_
  clear hS
  intro b_6 w hS
  refine WL.nx (WC.sr (WL.run hS rfl rfl rfl (ex_makeFunc (fn := .func 22) (xs := [.tmp 2, .tmp 3, .tmp 4]) (vs := [.pointer (some ⟨b_2, 0, none⟩), .pointer (some ⟨b_4, 0, none⟩), .pointer (some ⟨b_6, 0, none⟩)]) ⟨rfl, rfl, rfl, trivial⟩) ?_))
  refine WL.defer (f := 22) (cap := #[.pointer (some ⟨b_2, 0, none⟩), .pointer (some ⟨b_4, 0, none⟩), .pointer (some ⟨b_6, 0, none⟩)]) rfl (fun a ha => by
    have e6 : a.eval (.tmp 6) = .func (.func 22) #[] #[.pointer (some ⟨b_2, 0, none⟩), .pointer (some ⟨b_4, 0, none⟩), .pointer (some ⟨b_6, 0, none⟩)] := ha.eval rfl
    simp [execOp, resolve, Deferred.ofValue, e6]) ?_
  have fin : ∀ {w : World} {H' : View} {u ev : Value} {i : Int} {r1 : Val} {r3 : Option Int} {l : List (Nat × Value)} {a : Act} {e : Exit}, (e = .ret ∨ e = .normal) → St w0 H' ([(b_2, Obj.cells #[u] 25 (0, 0))] ++ ([(b_4, Obj.cells #[.int .i64 i] 3 (0, 0))] ++ ([(b_6, Obj.cells #[ev] 27 (0, 0))] ++ L))) w → View.le H H' → IsW H' u r1 → I64 i → ev = errV 57 r3 → Q r1 i r3 →
      lk l 2 = some (.pointer (some ⟨b_2, 0, none⟩)) → lk l 3 = some (.pointer (some ⟨b_4, 0, none⟩)) → lk l 4 = some (.pointer (some ⟨b_6, 0, none⟩)) → FrD [{ target := .fn (.func 22) #[.pointer (some ⟨b_2, 0, none⟩), .pointer (some ⟨b_4, 0, none⟩), .pointer (some ⟨b_6, 0, none⟩)], args := #[] }] 37 l a →
      bodyPostD Tryz.prog Tryz.f8 (fun e w' => ∃ (r1 : Val) (r2 : Int) (r3 : Option Int) (u1 : Value) (H' : View), Q r1 r2 r3 ∧ e = .returned (.tuple #[.agg #[u1], .int .i64 r2, errV 57 r3]) ∧ View.le H H' ∧ IsW H' u1 r1 ∧ I64 r2 ∧ St w0 H' (L) w') e a w := fun {w H' u ev i r1 r3 l a e} he hS hle hu hi hev hQ h2 h4 h6 ha => by
    have main : Leaves Tryz.prog Tryz.f8 a.tmps (fun e w' => ∃ (r1 : Val) (r2 : Int) (r3 : Option Int) (u1 : Value) (H' : View), Q r1 r2 r3 ∧ e = .returned (.tuple #[.agg #[u1], .int .i64 r2, errV 57 r3]) ∧ View.le H H' ∧ IsW H' u1 r1 ∧ I64 r2 ∧ St w0 H' (L) w') a.defers .returning w := by
      rw [ha.1]
      refine leaves_cons (by simp) (f := 22) (args := #[.pointer (some ⟨b_2, 0, none⟩), .pointer (some ⟨b_4, 0, none⟩), .pointer (some ⟨b_6, 0, none⟩)]) (by kernel_rfl) (read_off_ret.mono ?_)
      rintro e u' w' ⟨rfl, rfl, rfl⟩
      exact leaves_nil (read_results (a := { a with defers := [] }) hS ha.2 h2 h4 h6) ⟨r1, i, r3, u, H', hQ, by rw [hev], hle, hu, hi, hS.drop.drop.drop⟩
    rcases he with rfl | rfl <;> exact main
  have pan : ∀ {w : World} {H' : View} {u ev i : Value} {e1 a1 : Int} {l : List (Nat × Value)} {a : Act}, St w0 H' ([(b_2, Obj.cells #[u] 25 (0, 0))] ++ ([(b_4, Obj.cells #[i] 3 (0, 0))] ++ ([(b_6, Obj.cells #[ev] 27 (0, 0))] ++ L))) w → View.le H H' → I64 a1 → Q .nil a1 (some e1) →
      lk l 2 = some (.pointer (some ⟨b_2, 0, none⟩)) → lk l 3 = some (.pointer (some ⟨b_4, 0, none⟩)) → lk l 4 = some (.pointer (some ⟨b_6, 0, none⟩)) → Fr 37 l a →
      bodyPostD Tryz.prog Tryz.f8 (fun e w' => ∃ (r1 : Val) (r2 : Int) (r3 : Option Int) (u1 : Value) (H' : View), Q r1 r2 r3 ∧ e = .returned (.tuple #[.agg #[u1], .int .i64 r2, errV 57 r3]) ∧ View.le H H' ∧ IsW H' u1 r1 ∧ I64 r2 ∧ St w0 H' (L) w') (.panic (faultC e1 a1)) { a with defers := a.defers ++ [{ target := .fn (.func 22) #[.pointer (some ⟨b_2, 0, none⟩), .pointer (some ⟨b_4, 0, none⟩), .pointer (some ⟨b_6, 0, none⟩)], args := #[] }] } w := fun {w H' u ev i e1 a1 l a} hS hle hi hQ h2 h4 h6 ha => by
    show Leaves Tryz.prog Tryz.f8 a.tmps _ (a.defers ++ _) (.panicking (faultC e1 a1)) w
    rw [ha.defers, List.nil_append]
    refine leaves_cons (by simp) (f := 22) (args := #[.pointer (some ⟨b_2, 0, none⟩), .pointer (some ⟨b_4, 0, none⟩), .pointer (some ⟨b_6, 0, none⟩)]) (by kernel_rfl) ((read_off_panic hS).mono ?_)
    rintro e u' w' ⟨rfl, hu, hS⟩
    show Leaves _ _ _ _ [] (settle u') w'
    rw [hu]
    exact leaves_nil (read_results hS ha h2 h4 h6) ⟨.nil, a1, some e1, .nilIface, H', hQ, rfl, hle, IsW.nil, hi, hS.drop.drop.drop⟩
  refine WCD.seq (WCD.sr (WL.mv rfl rfl (WL.run hS rfl rfl rfl (ex_s_len Tryz.underlying9 rfl) (WL.run hS rfl rfl rfl (ex_gtr rfl rfl) (WL.nxD ?_)))))
  refine WCD.cond rfl ?_ ?_
  · intro hc_52
    have hQ := hbig (of_decide_eq_true hc_52)
    refine WCD.sr (WL.run hS rfl rfl rfl (ex_build (vs := []) (zc := #[.nilIface]) (cs := #[.nilIface]) (places := #[(0, 1)]) Tryz.underlying25 Tryz.zeroValue25 (fun w => by simp [Tryz.sizeOf23]) rfl trivial rfl (by simp [Instr.fill, cells_int, cells_bool, cells_iface, cells_niliface, cells_slice, str_cells])) (WL.run hS rfl rfl rfl (ex_makeIface (by kernel_rfl) rfl) ?_))
    replace hS := hS.f3
    refine WL.store_box (pre := []) (old := [.nilIface]) (rst := []) (cs := [.nilIface]) (arr' := #[.nilIface]) Tryz.sizeOf25 rfl rfl rfl ⟨rfl, trivial⟩ rfl rfl rfl rfl hS ?_
    clear hS
    intro w hS
    replace hS := hS.f3
    refine WL.store_box (pre := []) (old := [.int .i64 0]) (rst := []) (cs := [.int .i64 (0 : Int)]) (arr' := #[.int .i64 (0 : Int)]) Tryz.sizeOf3 rfl rfl rfl ⟨rfl, trivial⟩ rfl rfl rfl rfl hS ?_
    clear hS
    intro w hS
    replace hS := hS.f3
    refine WL.store_box (pre := []) (old := [.nilIface]) (rst := []) (cs := [(.iface 57 (.int .i64 (6 : Int)))]) (arr' := #[(.iface 57 (.int .i64 (6 : Int)))]) (by first | exact Tryz.sizeOf27 | exact fun w => by kernel_rfl) rfl rfl rfl ⟨rfl, trivial⟩ rfl rfl rfl rfl hS ?_
    clear hS
    intro w hS
    refine WL.nxD (WCD.ret (WQD.pass nofun ?_))
    exact fun a ha => fin (.inl rfl) hS.f2.f3 (View.le.refl _) IsW.nil (by unfold I64; omega) (r3 := some 6) rfl hQ rfl rfl rfl ha
  · intro hc_52
    obtain ⟨mf, hV⟩ := hsm (of_decide_eq_false hc_52)
    refine WCD.skip (WQD.next (WCD.sr (WL.mv rfl rfl (WL.run hS rfl rfl rfl (ex_build (vs := [sv text_1]) (zc := #[sv ([] : Str), .int .i64 0, .int .i64 0, .bool false]) (cs := #[sv text_1, .int .i64 0, .int .i64 0, .bool false]) (places := #[(0, 1), (1, 1), (2, 1), (3, 1)]) Tryz.underlying62 Tryz.zeroValue62 (fun w => by simp [Tryz.sizeOf3, Tryz.sizeOf4, Tryz.sizeOf9]) rfl ⟨rfl, trivial⟩ rfl (by simp [Instr.fill, cells_int, cells_bool, cells_iface, cells_niliface, cells_slice, str_cells])) (WL.box (arr := #[sv text_1, .int .i64 0, .int .i64 0, .bool false]) rfl rfl rfl hS ?_)))))
    clear hS
    intro b_10 w hS
    refine WL.ma rfl rfl (WL.nxD (WCD.sr (WL.mv rfl rfl (WL.callP rfl rfl rfl (enters0 (vs := [.pointer (some ⟨b_10, 0, none⟩)]) Tryz.call23 ⟨rfl, trivial⟩) (S_value mf (show I64 0 by unfold I64; omega) (show I64 0 by unfold I64; omega) hN hS hV) (by rintro _ w ⟨e_22, xat_23, hE_24, rfl, H_25, le_26, hS⟩; exact ⟨_, rfl, fun a ha => pan hS.f2.f3 le_26 hE_24.1 hE_24.2 rfl rfl rfl ha⟩) ?_))))
    clear hV hS
    rintro _ w ⟨r_12, r_15, r_17, r_19, u_13, H_20, hV, rfl, le_21, h_14, hr_16, hr_18, hS⟩
    refine ⟨_, rfl, ?_⟩
    replace hS := hS.f4
    refine WL.store_box (pre := []) (old := [.nilIface]) (rst := []) (cs := [u_13]) (arr' := #[u_13]) Tryz.sizeOf25 rfl rfl rfl ⟨(IsW.one h_14), trivial⟩ rfl rfl rfl rfl hS ?_
    clear hS
    intro w hS
    refine WL.nxD (WCD.sr (WL.mv rfl rfl ?_))
    replace hS := hS.f2
    refine WL.call rfl rfl rfl (enters0 (vs := [.pointer (some ⟨b_10, 0, none⟩)]) Tryz.call24 ⟨rfl, trivial⟩) (S_skip hr_16 hr_18 hS hV) ?_
    clear hV hS
    rintro _ w ⟨r_27, hV, rfl, hr_28, hS⟩
    refine ⟨_, rfl, ?_⟩
    refine WL.nxD (WCD.seq (WCD.block (WCD.sr (WL.mv rfl rfl (WL.run hS rfl rfl rfl (ex_nilCheck rfl) (WL.run hS rfl rfl rfl (ex_fieldAddr (o' := 1) Tryz.underlying62 rfl Tryz.sizeOf3 rfl rfl) (WL.run hS rfl rfl rfl (ex_load_box Tryz.isAgg3 rfl rfl) (WL.mv rfl rfl (WL.run hS rfl rfl rfl (ex_s_len Tryz.underlying9 rfl) ?_)))))))))
    refine WL.run hS rfl rfl rfl (ex_lss rfl rfl) (WL.ma rfl rfl (WL.nxD ?_))
    refine WCD.cond rfl ?_ ?_
    · intro hc_51
      have hQ := hV.1 (of_decide_eq_true hc_51)
      refine WCD.region (WL.mv rfl rfl ?_)
      have hF : V_fail text_1 r_27 r_17 r_19 (1 : Int) (fun e a => I64 a ∧ Q .nil a (some e)) False := ⟨hr_28, hQ⟩
      refine WL.callP rfl rfl rfl (enters0 (vs := [.pointer (some ⟨b_10, 0, none⟩), .int .i64 (1 : Int)]) Tryz.call25 ⟨rfl, rfl, trivial⟩) (S_fail hr_28 hr_18 (show I64 (1 : Int) by unfold I64; omega) hS hF) (by rintro _ w ⟨e_45, xat_46, hE_47, rfl, H_48, le_49, hS⟩; exact ⟨_, rfl, fun a ha => pan hS.f3.f2 (le_21.trans le_49) hE_47.1 hE_47.2 rfl rfl rfl ha⟩) ?_
      rintro _ w ⟨hV, rfl, hS⟩
      exact hV.elim
    · intro hc_51
      have hV2 := hV.2 (of_decide_eq_false hc_51)
      refine WCD.sr (WL.mv rfl rfl (WL.run hS rfl rfl rfl (ex_nilCheck rfl) (WL.run hS rfl rfl rfl (ex_fieldAddr (o' := 3) Tryz.underlying62 rfl Tryz.sizeOf4 rfl rfl) (WL.run hS rfl rfl rfl (ex_load_box Tryz.isAgg4 rfl rfl) (WL.ma rfl rfl (WL.nxD ?_))))))
      replace hS := hS.drop
      refine WCD.cond rfl ?_ ?_
      · intro hc_50
        have hQ := hV2.1 hc_50
        refine WCD.sr (WL.run hS rfl rfl rfl (ex_build (vs := []) (zc := #[.nilIface]) (cs := #[.nilIface]) (places := #[(0, 1)]) Tryz.underlying25 Tryz.zeroValue25 (fun w => by simp [Tryz.sizeOf23]) rfl trivial rfl (by simp [Instr.fill, cells_int, cells_bool, cells_iface, cells_niliface, cells_slice, str_cells])) (WL.run hS rfl rfl rfl (ex_makeIface (by kernel_rfl) rfl) (WL.store_box (pre := []) (old := [u_13]) (rst := []) (cs := [.nilIface]) (arr' := #[.nilIface]) Tryz.sizeOf25 rfl rfl rfl ⟨rfl, trivial⟩ rfl rfl rfl rfl hS ?_)))
        clear hS
        intro w hS
        replace hS := hS.f3
        refine WL.store_box (pre := []) (old := [.int .i64 0]) (rst := []) (cs := [.int .i64 (0 : Int)]) (arr' := #[.int .i64 (0 : Int)]) Tryz.sizeOf3 rfl rfl rfl ⟨rfl, trivial⟩ rfl rfl rfl rfl hS ?_
        clear hS
        intro w hS
        replace hS := hS.f3
        refine WL.store_box (pre := []) (old := [.nilIface]) (rst := []) (cs := [(.iface 57 (.int .i64 (6 : Int)))]) (arr' := #[(.iface 57 (.int .i64 (6 : Int)))]) (fun w => by kernel_rfl) rfl rfl rfl ⟨rfl, trivial⟩ rfl rfl rfl rfl hS ?_
        clear hS
        intro w hS
        refine WL.nxD (WCD.ret (WQD.out nofun (WQD.pass nofun ?_)))
        exact fun a ha => fin (.inl rfl) hS.f3.f3.f2 le_21 IsW.nil (by unfold I64; omega) (r3 := some 6) rfl hQ rfl rfl rfl ha
      · intro hc_50
        have hQ := hV2.2 hc_50
        refine WCD.skip (WQD.out nofun (WQD.next (WCD.sr (WL.run hS rfl rfl rfl (ex_load_box_agg (cs := [u_13]) Tryz.isAgg25 Tryz.sizeOf25 rfl rfl rfl) (WL.store_box (pre := []) (old := [u_13]) (rst := []) (cs := [u_13]) (arr' := #[u_13]) Tryz.sizeOf25 rfl rfl rfl ⟨(IsW.one h_14), trivial⟩ rfl rfl rfl rfl hS ?_)))))
        clear hS
        intro w hS
        replace hS := hS.f3
        refine WL.store_box (pre := []) (old := [.int .i64 0]) (rst := []) (cs := [.int .i64 (0 : Int)]) (arr' := #[.int .i64 (0 : Int)]) Tryz.sizeOf3 rfl rfl rfl ⟨rfl, trivial⟩ rfl rfl rfl rfl hS ?_
        clear hS
        intro w hS
        replace hS := hS.f3
        refine WL.store_box (pre := []) (old := [.nilIface]) (rst := []) (cs := [.nilIface]) (arr' := #[.nilIface]) (fun w => by kernel_rfl) rfl rfl rfl ⟨rfl, trivial⟩ rfl rfl rfl rfl hS ?_
        clear hS
        intro w hS
        refine WL.nxD (WCD.ret ?_)
        exact fun a ha => fin (.inl rfl) hS.f3.f3.f2 le_21 h_14 (by unfold I64; omega) (r3 := none) rfl hQ rfl rfl rfl ha
theorem S_Told {w0 : World} {H : View} {L : Seg} {w : World} {err_1 : Option Int} {Q : Int → Prop} (hG : Glob H) (hS : St w0 H (L) w) (hV : V_Told err_1 Q) :
 Calls Tryz.prog 29 #[(errV 57 err_1)] w fun e w' => ∃ (r1 : Int), Q r1 ∧ e = .returned (i6 r1) ∧ I64 r1 ∧ St w0 H (L) w' := by
 unfold V_Told at hV
 refine enter func29 rfl ntmps29 rfl (lk_args_cons (d := 0) (v := (errV 57 err_1)) rfl (lk_args_nil _)) (WC.sr (R hS ?_))
 refine WL.nx (WC.seq (WC.sr (R hS ?_)))
 refine Rn hS (ex_err_eql (T := 57) (e := err_1) iface27 rfl rfl) ?_
 refine WL.nx ?_
 refine Cd ?_ ?_
 intro hc_9
 replace hV := hV.1 (od hc_9)
 refine WC.sr (R hS ?_)
 refine WL.nx (WC.ret (Wp ?_))
 exact leave1 rfl rfl (⟨(0 : Int), hV, rfl, i0, hS⟩)
 intro hc_9
 replace hV := hV.2 (ov hc_9)
 refine WC.skip (WQ.next (WC.sr (WL.alloc (arr := #[i6 0]) rfl zeroValue57 rfl hS ?_)))
 clear hS
 intro b_2 w hS
 refine WL.nx (WC.seq (WC.sr (R hS ?_)))
 refine Rn hS (ex_makeIface concrete114 rfl) ?_
 refine Rc (enters0 (vs := [(errV 57 err_1), .iface 114 ((pq b_2))]) call73 ⟨rfl, rfl, trivial⟩) (S_As i0 hG hS hV) ?_
 clear hV hS
 rintro _ w ⟨r_4, r_5, hV, rfl, hr_6, hS⟩
 refine ⟨_, rfl, ?_⟩
 refine WL.nx ?_
 refine Cd ?_ ?_
 intro hc_8
 replace hV := hV.1 hc_8
 refine WC.sr ?_
 iterate 2 refine R hS ?_
 refine WL.nx ?_
 replace hS := hS.drop
 refine WC.ret (Wp ?_)
 exact leave1 rfl rfl (⟨r_5, hV, rfl, hr_6, hS⟩)
 intro hc_8
 replace hV := hV.2 hc_8
 refine WC.skip (WQ.next ?_)
 replace hS := hS.drop
 refine WC.sr (R hS ?_)
 refine WL.nx (WC.ret ?_)
 exact leave1 rfl rfl (⟨(-1), hV, rfl, (show I64 ((-1) : Int) by unfold I64; omega), hS⟩)
theorem S_Error {w0 : World} {H : View} {L : Seg} {w : World} {err_1 : Option Int} {e_2 : Int} {Q : Bool → Prop} (hr_3 : I64 e_2) (hG : Glob H) (hS : St w0 H (L) w) (hV : V_Error err_1 e_2 Q) :
 Calls Tryz.prog 10 #[(errV 57 err_1), i6 e_2] w fun e w' => ∃ (r1 : Bool), Q r1 ∧ e = .returned (.bool r1) ∧ St w0 H (L) w' := by
 unfold V_Error at hV
 refine enter func10 rfl ntmps10 rfl (lk_args_cons (d := 0) (v := (errV 57 err_1)) rfl (lk_args_cons (d := 1) (v := i6 e_2) rfl (lk_args_nil _))) (WC.sr (R hS ?_))
 refine WL.nx (WC.sr (R hS ?_))
 refine Rc (enters0 (vs := [(errV 57 err_1)]) call29 ⟨rfl, trivial⟩) (S_Told hG hS hV) ?_
 clear hV hS
 rintro _ w ⟨r_4, hV, rfl, hr_5, hS⟩
 refine ⟨_, rfl, ?_⟩
 refine R hS ?_
 refine WL.nx (WC.sr ?_)
 iterate 4 refine R hS ?_
 refine WL.nx (WC.ret ?_)
 exact leave1 rfl rfl (⟨decide (r_4 = e_2), hV, rfl, hS⟩)
theorem S_ValueReads {w0 : World} {H : View} {L : Seg} {w : World} {text_1 : Str} {Q : Bool → Prop} (hG : Glob H) (hN : GlobN w0 H) (hS : St w0 H (L) w) (hV : V_ValueReads text_1 Q) :
 Calls Tryz.prog 3 #[sv text_1] w fun e w' => ∃ (r1 : Bool), Q r1 ∧ e = .returned (.bool r1) ∧ St w0 H (L) w' := by
 unfold V_ValueReads at hV
 refine enter func3 rfl ntmps3 rfl (lk_args_cons (d := 0) (v := sv text_1) rfl (lk_args_nil _)) (WC.sr (R hS ?_))
 refine WL.nx (WC.sr (R hS ?_))
 refine Rc (enters0 (vs := [sv text_1]) call8 ⟨rfl, trivial⟩) (S_Read hN hS hV) ?_
 clear hV hS
 rintro _ w ⟨r_2, r_5, r_7, u_3, H_8, hV, rfl, le_9, h_4, hr_6, hS⟩
 refine ⟨_, rfl, ?_⟩
 iterate 4 refine R hS ?_
 refine WL.alloc (arr := #[.nilIface]) rfl zeroValue25 rfl hS ?_
 clear hS
 intro b_10 w hS
 refine St1 #[u_3] sizeOf25 hS ?_ (cs := [u_3]) (hone := ⟨(IsW.one h_4), trivial⟩)
 clear hS
 intro w hS
 iterate 2 refine R hS ?_
 refine WL.nx (WC.sr (R hS ?_))
 refine Rc (enters0 (vs := [sv text_1]) call9 ⟨rfl, trivial⟩) (S_rRead  hS hV) ?_
 clear hV hS
 rintro _ w ⟨r_12, r_19, r_21, v_13, v_14, H_23, hV, rfl, le_24, hr_15, hr_16, h_17, h_18, hr_20, hr_22, hS⟩
 refine ⟨_, rfl, ?_⟩
 iterate 4 refine R hS ?_
 refine WL.alloc (arr := #[i6 0, i6 0, sv ([] : Str), ns, ns]) rfl zeroValue32 rfl hS ?_
 clear hS
 intro b_25 w hS
 refine St1 #[i6 r_12.k, i6 r_12.i, sv r_12.t, v_13, v_14] sizeOf32 hS ?_ (cs := [i6 r_12.k, i6 r_12.i, sv r_12.t, v_13, v_14]) (hone := ⟨rfl, rfl, rfl, (IsSl.one h_17), (IsSl.one h_18), trivial⟩)
 clear hS
 intro w hS
 iterate 2 refine R hS ?_
 refine WL.nx (Sb [(3, (pq b_10)), (4, i6 r_5), (5, (errV 57 r_7)), (6, (pq b_25)), (7, i6 r_19), (8, i6 r_21)] ?_)
 refine WC.sr ?_
 iterate 2 refine R hS ?_
 refine Rc (enters0 (vs := [(errV 57 r_7), i6 r_21]) call10 ⟨rfl, rfl, trivial⟩) (S_Error hr_22 ((hG.mono le_9).mono le_24) hS hV) ?_
 clear hV hS
 rintro _ w ⟨r_29, hV, rfl, hS⟩
 refine ⟨_, rfl, ?_⟩
 refine R hS ?_
 refine WL.nx (WC.seq (WC.seq ?_))
 refine WC.via (m := [(3, (pq b_10)), (6, (pq b_25)), (35, .bool (decide (((!r_29) = true) ∨ (r_5 ≠ r_19))))]) ?_ ?_
 refine WC.region ?_
 iterate 3 refine R hS ?_
 rcases bft (!r_29) with hg_32 | hg_32
 iterate 4 refine R hS ?_
 refine WL.up (s := 35) rfl (or_t ((dec_true _).symm.trans hg_32) : true = decide (((!r_29) = true) ∨ (r_5 ≠ r_19))) ?_
 exact WL.nil At.os
 iterate 4 refine R hS ?_
 refine WL.up (s := 35) rfl (or_f ((dec_true _).symm.trans hg_32) : decide (r_5 ≠ r_19) = decide (((!r_29) = true) ∨ (r_5 ≠ r_19))) ?_
 exact WL.nil At.os
 refine WQ.next ?_
 refine Cd ?_ ?_
 intro hc_51
 replace hV := hV.1 (od hc_51)
 refine WC.sr (R hS ?_)
 refine WL.nx ?_
 replace hS := hS.f2.drop
 replace hS := hS.drop
 refine WC.ret (Wp ?_)
 exact leave1 rfl rfl (⟨false, hV, rfl, (hS.weaken (((View.le.refl _).trans le_9).trans le_24))⟩)
 intro hc_51
 replace hV := hV.2 (ov hc_51)
 refine WC.skip (WQ.next (WC.sr ?_))
 replace hS := hS.f2
 refine Rn hS (ex_load_box_agg (cs := [u_3]) isAgg25 sizeOf25 rfl rfl rfl) ?_
 refine Rc (enters0 (vs := [.agg #[u_3]]) call11 ⟨rfl, trivial⟩) (S_Show (h_4.mono le_24) ((hN.mono le_9).mono le_24) hS hV) ?_
 clear hV hS
 rintro _ w ⟨r_34, hV, rfl, hS⟩
 refine ⟨_, rfl, ?_⟩
 refine R hS ?_
 refine WL.nx (WC.sr ?_)
 replace hS := hS.f2
 refine Rn hS (ex_load_box_agg (cs := [i6 r_12.k, i6 r_12.i, sv r_12.t, v_13, v_14]) isAgg32 sizeOf32 rfl rfl rfl) ?_
 obtain ⟨mf, hV⟩ := hV
 refine Rc (enters0 (vs := [.agg #[i6 r_12.k, i6 r_12.i, sv r_12.t, v_13, v_14]]) call12 ⟨rfl, trivial⟩) (S_rShow mf (v_1 := r_12) hr_15 hr_16 h_17 h_18 hS hV) ?_
 clear hV hS
 rintro _ w ⟨r_36, hV, rfl, hS⟩
 refine ⟨_, rfl, ?_⟩
 refine R hS ?_
 refine WL.nx (Sb [(3, (pq b_10)), (6, (pq b_25)), (10, sv r_34), (11, sv r_36)] ?_)
 refine WC.sr ?_
 replace hS := hS.f2
 refine Rn hS (ex_load_box_agg (cs := [u_3]) isAgg25 sizeOf25 rfl rfl rfl) ?_
 refine Rc (enters0 (vs := [.agg #[u_3]]) call13 ⟨rfl, trivial⟩) (S_Weight (h_4.mono le_24) hS hV) ?_
 clear hV hS
 rintro _ w ⟨r_38, hV, rfl, hr_39, hS⟩
 refine ⟨_, rfl, ?_⟩
 refine R hS ?_
 refine WL.nx ?_
 replace hS := hS.drop
 refine WC.sr (Rn hS (ex_load_box_agg (cs := [i6 r_12.k, i6 r_12.i, sv r_12.t, v_13, v_14]) isAgg32 sizeOf32 rfl rfl rfl) ?_)
 obtain ⟨mf, hV⟩ := hV
 refine Rc (enters0 (vs := [.agg #[i6 r_12.k, i6 r_12.i, sv r_12.t, v_13, v_14]]) call14 ⟨rfl, trivial⟩) (S_rWeight mf (v_1 := r_12) hr_15 hr_16 h_17 h_18 hS hV) ?_
 clear hV hS
 rintro _ w ⟨r_41, hV, rfl, hr_42, hS⟩
 refine ⟨_, rfl, ?_⟩
 refine R hS ?_
 refine WL.nx ?_
 replace hS := hS.drop
 obtain ⟨J_47, hJ_48, hV⟩ := hV
 refine WC.meet (fun a w => ∃ (x_46 : Bool), J_47 x_46 ∧ St w0 H_23 (L) w ∧ Fr 52 [(2, .bool x_46)] a) ?_ ?_
 rintro a w ⟨x_46, hI, hS, ha⟩
 refine in_frame ha ?_
 clear ha hV
 have hV := hJ_48 _ hI
 clear hI hJ_48
 refine WC.ret ?_
 exact leave1 rfl rfl (⟨x_46, hV, rfl, (hS.weaken (((View.le.refl _).trans le_9).trans le_24))⟩)
 clear hJ_48
 refine WC.region ?_
 iterate 4 refine R hS ?_
 rcases bft (decide (r_34 = r_36)) with hg_49 | hg_49
 replace hV := hV.1 (od hg_49)
 iterate 5 refine R hS ?_
 refine WL.nil ?_
 exact Wt fun a ha => ⟨decide (r_38 = r_41), hV, hS, ha.os⟩
 replace hV := hV.2 (ov hg_49)
 iterate 5 refine R hS ?_
 refine WL.nil ?_
 exact Wt fun a ha => ⟨false, hV, hS, ha.os⟩
end Go.Proofs.YtlhkfkecoekoeaaGreatDoor
