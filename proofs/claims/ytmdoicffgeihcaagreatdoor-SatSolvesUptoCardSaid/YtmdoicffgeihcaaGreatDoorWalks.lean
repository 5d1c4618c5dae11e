/- For each function: called, it does its work where its condition is so. Printed by program. -/
import Derived.Test.YtmdoicffgeihcaaGreatDoorFacts
import Derived.Test.YtmdoicffgeihcaaGreatDoorConds
import Derived.Test.YtmdoicffgeihcaaGreatDoorTold
import Derived.Test.YtmdoicffgeihcaaGreatDoorManSS
import Derived.Test.YtmdoicffgeihcaaGreatDoorBkw
import Derived.Test.YtmdoicffgeihcaaGreatDoorWalks2
set_option linter.unusedVariables false
set_option linter.unusedSimpArgs false
set_option maxRecDepth 100000
set_option maxHeartbeats 1000000
namespace Go.Proofs.YtmdoicffgeihcaaGreatDoor
open Go.Vc _root_.Go.Proofs.Tryz _root_.Go.Proofs.YtmdoicffgeihcaaGreatDoor.Tryz
theorem S_run {w0 : World} {H : View} {L : Seg} {w : World} {b_2 : Nat} {n_4 : Int} {v_7 : Value} {clauses_6 : List Raw} {fp_9 : Seg} {v_12 : Value} {watch_11 : List (Int × Raw)} {fp_14 : Seg} {v_17 : Value} {value_16 : LI} {fp_19 : Seg} {v_22 : Value} {level_21 : LI} {fp_24 : Seg} {v_27 : Value} {reason_26 : LI} {fp_29 : Seg} {v_32 : Value} {trail_31 : LI} {fp_34 : Seg} {v_37 : Value} {starts_36 : LI} {fp_39 : Seg} {head_41 : Int} {v_44 : Value} {heat_43 : List Unit} {fp_46 : Seg} {u_49 : Value} {v_52 : Value} {proof_51 : List (Bool × LI)} {fp_54 : Seg} {dead_56 : Bool} {A_61 : Arena} {fp_59 : Seg} {v_63 : Value} {suppose_62 : LI} {Q : Bool → (List Bool) → LI → (List (Bool × LI)) → Prop} (hr_5 : I64 n_4) (h_8 : OwnSl H cRaw 23 v_7 clauses_6 fp_9) (h_13 : OwnMp H kInt cRaw v_12 watch_11 fp_14) (h_18 : OwnSl H (cInt .i64) 3 v_17 value_16 fp_19) (h_23 : OwnSl H (cInt .i64) 3 v_22 level_21 fp_24) (h_28 : OwnSl H (cInt .i64) 3 v_27 reason_26 fp_29) (h_33 : OwnSl H (cInt .i64) 3 v_32 trail_31 fp_34) (h_38 : OwnSl H (cInt .i64) 3 v_37 starts_36 fp_39) (hr_42 : I64 head_41) (h_45 : OwnSl H cF 58 v_44 heat_43 fp_46) (h_50 : IsF u_49) (h_53 : OwnSl H (cPair cBool (cSl (cInt .i64))) 50 v_52 proof_51 fp_54) (hA_58 : IsAr 3 A_61 fp_59) (h_64 : IsSl H (cInt .i64) v_63 suppose_62) (hS : St w0 H ([(b_2, oc #[i6 n_4, v_7, v_12, v_17, v_22, v_27, v_32, v_37, i6 head_41, v_44, u_49, v_52, .bool dead_56] 60)] ++ (fp_9 ++ (fp_14 ++ (fp_19 ++ (fp_24 ++ (fp_29 ++ (fp_34 ++ (fp_39 ++ (fp_46 ++ (fp_54 ++ (fp_59 ++ L))))))))))) w) (hV : V_run n_4 clauses_6 watch_11 value_16 level_21 reason_26 trail_31 starts_36 head_41 heat_43 proof_51 dead_56 A_61 suppose_62 Q) :
 Calls Tryz.prog 17 #[(pq b_2), v_63] w fun e w' => ∃ (r1 : Bool) (r2 : List Bool) (r3 : LI) (r4 : List (Bool × LI)) (v2 : Value) (v3 : Value) (v4 : Value) (H' : View), Q r1 r2 r3 r4 ∧ e = .returned (.agg #[.bool r1, v2, v3, v4]) ∧ View.le H H' ∧ IsSl H' cBool v2 r2 ∧ IsSl H' (cInt .i64) v3 r3 ∧ IsSl H' (cPair cBool (cSl (cInt .i64))) v4 r4 ∧ St w0 H' (L) w' := by
 unfold V_run at hV
 refine enter func17 rfl ntmps17 rfl (lk_args_cons (d := 0) (v := (pq b_2)) rfl (lk_args_cons (d := 1) (v := v_63) rfl (lk_args_nil _))) ?_
 refine WC.sr ?_
 refine WL.alloc (arr := #[.bool false, ns, ns, ns]) rfl zeroValue30 rfl hS ?_
 clear hS
 intro b_65 w hS
 refine WL.nx ?_
 obtain ⟨J_2720, hJ_2721, hV⟩ := hV
 refine WC.meet (fun a w => ∃ (c_2671 : List Raw) (c_2675 : List (Int × Raw)) (c_2679 : LI) (c_2684 : LI) (c_2689 : LI) (c_2694 : LI) (c_2699 : LI) (c_2703 : Int) (c_2706 : List Unit) (c_2713 : List (Bool × LI)) (A_2717 : Arena) (H_2668 : View) (v_2672 : Value) (fp_2673 : Seg) (fp_2676 : Seg) (v_2680 : Value) (fp_2681 : Seg) (v_2685 : Value) (fp_2686 : Seg) (v_2690 : Value) (fp_2691 : Seg) (v_2695 : Value) (fp_2696 : Seg) (v_2700 : Value) (fp_2701 : Seg) (v_2707 : Value) (fp_2708 : Seg) (u_2710 : Value) (v_2714 : Value) (fp_2715 : Seg) (fp_2718 : Seg), J_2720 (c_2671, c_2675, c_2679, c_2684, c_2689, c_2694, c_2699, c_2703, c_2706, c_2713, A_2717) ∧ View.le H H_2668 ∧ OwnSl H_2668 cRaw 23 v_2672 c_2671 fp_2673 ∧ OwnMp H_2668 kInt cRaw v_12 c_2675 fp_2676 ∧ OwnSl H_2668 (cInt .i64) 3 v_2680 c_2679 fp_2681 ∧ OwnSl H_2668 (cInt .i64) 3 v_2685 c_2684 fp_2686 ∧ OwnSl H_2668 (cInt .i64) 3 v_2690 c_2689 fp_2691 ∧ OwnSl H_2668 (cInt .i64) 3 v_2695 c_2694 fp_2696 ∧ OwnSl H_2668 (cInt .i64) 3 v_2700 c_2699 fp_2701 ∧ I64 c_2703 ∧ OwnSl H_2668 cF 58 v_2707 c_2706 fp_2708 ∧ IsF u_2710 ∧ OwnSl H_2668 (cPair cBool (cSl (cInt .i64))) 50 v_2714 c_2713 fp_2715 ∧ IsAr 3 A_2717 fp_2718 ∧ St w0 H_2668 ([(b_2, oc #[i6 n_4, v_2672, v_12, v_2680, v_2685, v_2690, v_2695, v_2700, i6 c_2703, v_2707, u_2710, v_2714, .bool dead_56] 60)] ++ (fp_2673 ++ (fp_2676 ++ (fp_2681 ++ (fp_2686 ++ (fp_2691 ++ (fp_2696 ++ (fp_2701 ++ (fp_2708 ++ (fp_2715 ++ (fp_2718 ++ ([(b_65, oc #[.bool false, ns, ns, ns] 30)] ++ L)))))))))))) w ∧ Fr 145 [(0, (pq b_2)), (4, (pq b_65))] a) ?_ ?_
 rintro a w ⟨c_2671, c_2675, c_2679, c_2684, c_2689, c_2694, c_2699, c_2703, c_2706, c_2713, A_2717, H_2668, v_2672, fp_2673, fp_2676, v_2680, fp_2681, v_2685, fp_2686, v_2690, fp_2691, v_2695, fp_2696, v_2700, fp_2701, v_2707, fp_2708, u_2710, v_2714, fp_2715, fp_2718, hI, le_2669, h_2674, h_2677, h_2682, h_2687, h_2692, h_2697, h_2702, hr_2704, h_2709, h_2711, h_2716, hA_2719, hS, ha⟩
 refine in_frame ha ?_
 clear ha hV
 have hV := hJ_2721 _ hI
 clear hI hJ_2721
 refine WC.sr ?_
 iterate 5 refine R hS ?_
 refine Rn hS (ex_build (vs := []) (zc := #[.bool false, ns]) (cs := #[.bool false, ns]) (places := #[(0, 1), (1, 1)]) underlying50 zeroValue50 (fun w => by simp [sizeOf23, sizeOf4]) rfl trivial rfl (by simp [Instr.fill, cells_int, cells_bool, cells_slice, cells_flt])) ?_
 refine WL.builds (c := (cPair cBool (cSl (cInt .i64)))) (xs := [(false, ([] : LI))]) (vs := [.agg #[.bool false, ns]]) (css := [[.bool false, ns]]) rfl underlying28 info50 rfl ⟨rfl, trivial⟩ rfl (by decide) rfl (by simp; rfl) ⟨[.bool false, ns], _, rfl, ⟨[.bool false], _, rfl, cBool_mk, (cSl_mk IsSl.nil)⟩, rfl⟩ hS rfl (by decide) ?_
 clear hS
 intro v_5330 w fp_5331 h_5332 hS
 obtain ⟨hr_5333, hV⟩ := hV
 replace hS := hS.f11
 refine WL.append (c := (cPair cBool (cSl (cInt .i64)))) (xs := c_2713) (ys := ([(false, ([] : LI))])) rfl underlying28 info50 rfl rfl rfl hS h_2716 (h_5332.src hS.f2) hr_5333.1 hr_5333.2 ?_
 clear hS
 intro v_5334 w fp_5335 h_5336 hS
 iterate 2 refine R hS ?_
 replace hS := hS.f3
 refine St1 #[i6 n_4, v_2672, v_12, v_2680, v_2685, v_2690, v_2695, v_2700, i6 c_2703, v_2707, u_2710, v_5334, .bool dead_56] sizeOf28 hS ?_ (cs := [v_5334]) (hc := (congrArg Array.toList (cells_one (OwnSl.one h_5336)))) (hone := ⟨(OwnSl.one h_5336), trivial⟩)
 clear hS
 intro w hS
 refine WL.nx ?_
 replace hS := hS.f3.drop
 refine WC.sr ?_
 iterate 4 refine R hS ?_
 refine Rn hS (ex_build (vs := [v_5334]) (zc := #[.bool false, ns, ns, ns]) (cs := #[.bool false, ns, ns, v_5334]) (places := #[(0, 1), (1, 1), (2, 1), (3, 1)]) underlying30 zeroValue30 (fun w => by simp [sizeOf23, sizeOf24, sizeOf28, sizeOf4]) rfl ⟨rfl, trivial⟩ rfl (by simp [Instr.fill, cells_int, cells_bool, cells_slice, cells_flt, cells_one (OwnSl.one h_5336)])) ?_
 replace hS := hS.f12
 refine St1 #[.bool false, ns, ns, v_5334] sizeOf30 hS ?_ (cs := [.bool false, ns, ns, v_5334]) (hone := ⟨rfl, rfl, rfl, (OwnSl.one h_5336), trivial⟩)
 clear hS
 intro w hS
 refine WL.nx ?_
 refine Sb [(4, (pq b_65))] ?_
 refine WC.ret ?_
 replace hS := hS.f3
 obtain ⟨H_5341, le_5342, h_5343, hS⟩ : ∃ K, View.le H_2668 K ∧ IsSl K (cPair cBool (cSl (cInt .i64))) v_5334 (c_2713 ++ ([(false, ([] : LI))])) ∧ St w0 K ([(b_65, oc #[.bool false, ns, ns, v_5334] 30)] ++ ([(b_2, oc #[i6 n_4, v_2672, v_12, v_2680, v_2685, v_2690, v_2695, v_2700, i6 c_2703, v_2707, u_2710, v_5334, .bool dead_56] 60)] ++ (fp_2673 ++ (fp_2676 ++ (fp_2681 ++ (fp_2686 ++ (fp_2691 ++ (fp_2696 ++ (fp_2701 ++ (fp_2708 ++ (fp_2718 ++ L))))))))))) w := ⟨_, hS.put_le, h_5336.share hS.put_le, hS.freeze⟩
 have hl_5344 := load_own_agg (P := Tryz.prog) (cs := [.bool false, ns, ns, v_5334]) isAgg30 sizeOf30 hS rfl
 replace hS := hS.drop
 replace hS := hS.drop
 replace hS := hS.drop
 replace hS := hS.drop
 replace hS := hS.drop
 replace hS := hS.drop
 replace hS := hS.drop
 replace hS := hS.drop
 replace hS := hS.drop
 replace hS := hS.drop
 replace hS := hS.drop
 exact leavec1 (il) rfl rfl hl_5344 (⟨false, ([] : List Bool), ([] : LI), (c_2713 ++ ([(false, ([] : LI))])), ns, ns, v_5334, H_5341, hV, rfl, (((View.le.refl _).trans le_2669).trans le_5342), IsSl.nil, IsSl.nil, h_5343, hS⟩)
 clear hJ_2721
 refine WC.block ?_
 replace hS := hS.f12.f12.f12.f12.f12.f12.f12.f12.f12.f12.f12
 obtain ⟨I_4681, mu_4682, hI_5327, hV⟩ := hV
 refine WC.loop (σ := (List Raw) × (List (Int × Raw)) × LI × LI × LI × LI × LI × Int × (List Unit) × (List (Bool × LI)) × Arena) (fun s a w => ∃ (c_3997 : List Raw) (c_4001 : List (Int × Raw)) (c_4005 : LI) (c_4010 : LI) (c_4015 : LI) (c_4020 : LI) (c_4025 : LI) (c_4029 : Int) (c_4032 : List Unit) (c_4039 : List (Bool × LI)) (A_4043 : Arena) (H_3994 : View) (v_3998 : Value) (fp_3999 : Seg) (fp_4002 : Seg) (v_4006 : Value) (fp_4007 : Seg) (v_4011 : Value) (fp_4012 : Seg) (v_4016 : Value) (fp_4017 : Seg) (v_4021 : Value) (fp_4022 : Seg) (v_4026 : Value) (fp_4027 : Seg) (v_4033 : Value) (fp_4034 : Seg) (u_4036 : Value) (v_4040 : Value) (fp_4041 : Seg) (fp_4044 : Seg), s = (c_3997, c_4001, c_4005, c_4010, c_4015, c_4020, c_4025, c_4029, c_4032, c_4039, A_4043) ∧ I_4681 (c_3997, c_4001, c_4005, c_4010, c_4015, c_4020, c_4025, c_4029, c_4032, c_4039, A_4043) ∧ View.le H H_3994 ∧ OwnSl H_3994 cRaw 23 v_3998 c_3997 fp_3999 ∧ OwnMp H_3994 kInt cRaw v_12 c_4001 fp_4002 ∧ OwnSl H_3994 (cInt .i64) 3 v_4006 c_4005 fp_4007 ∧ OwnSl H_3994 (cInt .i64) 3 v_4011 c_4010 fp_4012 ∧ OwnSl H_3994 (cInt .i64) 3 v_4016 c_4015 fp_4017 ∧ OwnSl H_3994 (cInt .i64) 3 v_4021 c_4020 fp_4022 ∧ OwnSl H_3994 (cInt .i64) 3 v_4026 c_4025 fp_4027 ∧ I64 c_4029 ∧ OwnSl H_3994 cF 58 v_4033 c_4032 fp_4034 ∧ IsF u_4036 ∧ OwnSl H_3994 (cPair cBool (cSl (cInt .i64))) 50 v_4040 c_4039 fp_4041 ∧ IsAr 3 A_4043 fp_4044 ∧ St w0 H_3994 ([(b_2, oc #[i6 n_4, v_3998, v_12, v_4006, v_4011, v_4016, v_4021, v_4026, i6 c_4029, v_4033, u_4036, v_4040, .bool dead_56] 60)] ++ (fp_3999 ++ (fp_4002 ++ (fp_4007 ++ (fp_4012 ++ (fp_4017 ++ (fp_4022 ++ (fp_4027 ++ (fp_4034 ++ (fp_4041 ++ (fp_4044 ++ ([(b_65, oc #[.bool false, ns, ns, ns] 30)] ++ L)))))))))))) w ∧ Fr 145 [(0, (pq b_2)), (1, v_63), (4, (pq b_65))] a) mu_4682 (clauses_6, watch_11, value_16, level_21, reason_26, trail_31, starts_36, head_41, heat_43, proof_51, A_61) ?_ ?_
 exact fun a ha => ⟨clauses_6, watch_11, value_16, level_21, reason_26, trail_31, starts_36, head_41, heat_43, proof_51, A_61, H, v_7, fp_9, fp_14, v_17, fp_19, v_22, fp_24, v_27, fp_29, v_32, fp_34, v_37, fp_39, v_44, fp_46, u_49, v_52, fp_54, fp_59, rfl, hI_5327, (View.le.refl _), h_8, h_13, h_18, h_23, h_28, h_33, h_38, hr_42, h_45, h_50, h_53, hA_58, hS, ha.os⟩
 clear hS hI_5327
 rintro _ a w ⟨c_3997, c_4001, c_4005, c_4010, c_4015, c_4020, c_4025, c_4029, c_4032, c_4039, A_4043, H_3994, v_3998, fp_3999, fp_4002, v_4006, fp_4007, v_4011, fp_4012, v_4016, fp_4017, v_4021, fp_4022, v_4026, fp_4027, v_4033, fp_4034, u_4036, v_4040, fp_4041, fp_4044, rfl, hI, le_3995, h_4000, h_4003, h_4008, h_4013, h_4018, h_4023, h_4028, hr_4030, h_4035, h_4037, h_4042, hA_4045, hS, ha⟩
 refine in_frame ha ?_
 clear ha
 replace hV := hV _ hI
 clear hI
 refine WC.seq ?_
 refine WC.sr ?_
 iterate 5 refine R hS ?_
 refine WL.nx ?_
 refine Cd ?_ ?_
 intro hc_5326
 replace hV := hV.1 hc_5326
 refine WC.skip ?_
 refine WQ.next ?_
 refine WC.block ?_
 refine WC.sr ?_
 refine R hS ?_
 replace hS := hS.f11.f11.f11.f11.f11.f11.f11.f11.f11.f11.f11
 refine Rc (enters0 (vs := [(pq b_2)]) call26 ⟨rfl, trivial⟩) (S_sfollow  hr_5 h_4000 h_4003 h_4008 h_4013 h_4018 h_4023 h_4028 hr_4030 h_4035 h_4037 h_4042 hA_4045 hS hV) ?_
 clear hV hS
 rintro _ w ⟨r_4684, m_4686, c_4689, c_4693, c_4697, c_4701, c_4705, A_4707, fp_4687, v_4690, fp_4691, v_4694, fp_4695, v_4698, fp_4699, v_4702, fp_4703, fp_4708, hV, rfl, hr_4685, h_4688, h_4692, h_4696, h_4700, h_4704, hr_4706, hA_4709, hS⟩
 refine ⟨_, rfl, ?_⟩
 refine R hS ?_
 refine WL.nx ?_
 refine WC.seq ?_
 refine WC.sr ?_
 iterate 2 refine R hS ?_
 refine WL.nx ?_
 refine Cd ?_ ?_
 intro hc_5325
 replace hV := hV.1 (od hc_5325)
 refine WC.seq ?_
 refine WC.sr ?_
 iterate 4 refine R hS ?_
 have hl_4716 : Len c_4025 := h_4028.bound
 replace hV := hV hl_4716
 refine Rn hS (ex_len_own underlying23 rfl h_4028) ?_
 refine R hS ?_
 refine WL.nx ?_
 refine Sb [(0, (pq b_2)), (1, v_63), (4, (pq b_65)), (5, i6 r_4684), (25, .bool (decide ((c_4025.length : Int) = 0)))] ?_
 refine Cd ?_ ?_
 intro hc_4857
 replace hV := hV.1 (od hc_4857)
 refine WC.exit ?_
 refine Wp ?_
 refine Wp ?_
 refine WQ.by rfl ?_
 refine Wp ?_
 refine WQ.hit ?_
 replace hS := hS.f12.f12.f12.f12.f12.f12.f12.f12.f12.f12.f12.f12
 exact Wt fun a ha => ⟨c_3997, m_4686, c_4689, c_4693, c_4697, c_4701, c_4025, c_4705, c_4032, c_4039, A_4707, H_3994, v_3998, fp_3999, fp_4687, v_4690, fp_4691, v_4694, fp_4695, v_4698, fp_4699, v_4702, fp_4703, v_4026, fp_4027, v_4033, fp_4034, u_4036, v_4040, fp_4041, fp_4708, hV, ((View.le.refl _).trans le_3995), h_4000, h_4688, h_4692, h_4696, h_4700, h_4704, h_4028, hr_4706, h_4035, h_4037, h_4042, hA_4709, hS, ha.os⟩
 intro hc_4857
 replace hV := hV.2 (ov hc_4857)
 refine WC.skip ?_
 refine WQ.next ?_
 refine WC.sr ?_
 iterate 2 refine R hS ?_
 replace hS := hS.f11.f11.f11.f11.f11.f11.f11.f11.f11.f11.f11
 refine Rc (enters0 (vs := [(pq b_2), i6 r_4684]) call27 ⟨rfl, rfl, trivial⟩) (S_learn  hr_5 h_4000 h_4688 h_4692 h_4696 h_4700 h_4704 h_4028 hr_4706 h_4035 h_4037 h_4042 hA_4709 hr_4685 hS hV) ?_
 clear hV hS
 rintro _ w ⟨r_4718, r_4723, c_4725, v_4719, fp_4720, v_4726, fp_4727, u_4729, hV, rfl, h_4721, hr_4724, h_4728, h_4730, hS⟩
 refine ⟨_, rfl, ?_⟩
 iterate 5 refine R hS ?_
 refine WL.nx ?_
 refine WC.seq ?_
 refine WC.drawn (σ := [0, 1, 2, 3, 4, 5, 6, 7, 8, 9, 10, 11, 12]) (C := St w0 H_3994 (fp_4720 ++ ([(b_2, oc #[i6 n_4, v_3998, v_12, v_4690, v_4694, v_4698, v_4702, v_4026, i6 c_4705, v_4726, u_4729, v_4040, .bool dead_56] 60)] ++ (fp_3999 ++ (fp_4687 ++ (fp_4691 ++ (fp_4695 ++ (fp_4699 ++ (fp_4703 ++ (fp_4027 ++ (fp_4727 ++ (fp_4041 ++ (fp_4708 ++ ([(b_65, oc #[.bool false, ns, ns, ns] 30)] ++ L)))))))))))))) [[], [], [1], [1, 2], [1, 2, 3], [], [5], [5, 6], [5, 6, 7], [1, 2, 3, 4, 5, 6, 7, 8], [0, 1, 2, 3, 4, 5, 6, 7, 8, 9], [0, 1, 2, 3, 4, 5, 6, 7, 8, 9, 10], [0, 1, 2, 3, 4, 5, 6, 7, 8, 9, 10, 11]] [6, 8, 9, 12] mixed (by kernel_rfl) (hS.drawn _) ?_
 clear hS w
 refine Dm fun q_4734 hq_4733 => ?_
 refine Dm fun q_4736 hq_4735 => ?_
 refine Wd.run rfl rfl rfl rfl (fun _ => ex_nilCheck rfl) fun q_4738 hq_4737 => ?_
 refine Wd.run rfl rfl rfl rfl (fun _ => ex_fieldAddr (o' := 11) underlying60 rfl sizeOf28 rfl rfl) fun q_4740 hq_4739 => ?_
 refine Wd.runb (off := 11) rfl rfl rfl rfl (fun _ _ _ h => ex_load_box isAgg28 rfl h) rfl (fun _ h => St.f2 h) fun q_4742 hq_4741 => ?_
 refine Dm fun q_4744 hq_4743 => ?_
 refine Wd.turn rfl rfl rfl fun w hS => ?_
 have hL_4745 := hS.freeze
 refine Rc (enters0 (vs := [v_4719]) call28 ⟨rfl, trivial⟩) (S_CloneI  (h_4721.share hS.put_le) hL_4745 hV) ?_
 clear hV
 rintro _ w ⟨r_4746, v_4747, fp_4748, hV, rfl, h_4749, hL_4751⟩
 refine ⟨_, rfl, ?_⟩
 have hB_4753 := hS.back hL_4751
 replace hS := hB_4753
 clear hL_4751 hL_4745 hB_4753
 replace h_4749 := rep_own (K := H_3994) h_4749 (fun _ _ h => h)
 refine WL.nil (DQ.mk2 (C' := St w0 H_3994 (fp_4720 ++ (fp_4748 ++ ([(b_2, oc #[i6 n_4, v_3998, v_12, v_4690, v_4694, v_4698, v_4702, v_4026, i6 c_4705, v_4726, u_4729, v_4040, .bool dead_56] 60)] ++ (fp_3999 ++ (fp_4687 ++ (fp_4691 ++ (fp_4695 ++ (fp_4699 ++ (fp_4703 ++ (fp_4027 ++ (fp_4727 ++ (fp_4041 ++ (fp_4708 ++ ([(b_65, oc #[.bool false, ns, ns, ns] 30)] ++ L))))))))))))))) hS ⟨il, .inr (hq_4741 H_3994 (fp_4720 ++ (fp_4748 ++ (fp_3999 ++ (fp_4687 ++ (fp_4691 ++ (fp_4695 ++ (fp_4699 ++ (fp_4703 ++ (fp_4027 ++ (fp_4727 ++ (fp_4041 ++ (fp_4708 ++ ([(b_65, oc #[.bool false, ns, ns, ns] 30)] ++ L))))))))))))) #[i6 n_4, v_3998, v_12, v_4690, v_4694, v_4698, v_4702, v_4026, i6 c_4705, v_4726, u_4729, v_4040, .bool dead_56] _ rfl (fun _ h => St.f3 h)), .inr (hq_4739 _), .inr (hq_4737 _), .inr (hq_4735 _), .inr (hq_4733 _), trivial⟩ ?_)
 clear hS w
 refine Wd.run rfl rfl rfl rfl (fun _ => ex_build (vs := [v_4747]) (zc := #[.bool false, ns]) (cs := #[.bool false, v_4747]) (places := #[(0, 1), (1, 1)]) underlying50 zeroValue50 (fun w => by simp [sizeOf23, sizeOf4]) rfl ⟨rfl, trivial⟩ rfl (by simp [Instr.fill, cells_int, cells_bool, cells_slice, cells_flt, cells_one (OwnSl.one h_4749)])) fun q_4755 hq_4754 => ?_
 refine Wd.turn rfl rfl rfl fun w hS => ?_
 replace hS := hS.f2
 obtain ⟨H_4761, le_4762, h_4763, hS⟩ : ∃ K, View.le H_3994 K ∧ IsSl K (cInt .i64) v_4747 r_4746 ∧ St w0 K (fp_4720 ++ ([(b_2, oc #[i6 n_4, v_3998, v_12, v_4690, v_4694, v_4698, v_4702, v_4026, i6 c_4705, v_4726, u_4729, v_4040, .bool dead_56] 60)] ++ (fp_3999 ++ (fp_4687 ++ (fp_4691 ++ (fp_4695 ++ (fp_4699 ++ (fp_4703 ++ (fp_4027 ++ (fp_4727 ++ (fp_4041 ++ (fp_4708 ++ ([(b_65, oc #[.bool false, ns, ns, ns] 30)] ++ L))))))))))))) w := ⟨_, hS.put_le, h_4749.share hS.put_le, hS.freeze⟩
 refine WL.builds (c := (cPair cBool (cSl (cInt .i64)))) (xs := [(false, r_4746)]) (vs := [.agg #[.bool false, v_4747]]) (css := [[.bool false, v_4747]]) rfl underlying28 info50 rfl ⟨rfl, trivial⟩ rfl (by decide) rfl (by simp; rfl) ⟨[.bool false, v_4747], _, rfl, ⟨[.bool false], _, rfl, cBool_mk, (cSl_mk h_4763)⟩, rfl⟩ hS rfl (by decide) ?_
 clear hS
 intro v_4758 w fp_4759 h_4760 hS
 refine WL.nil (DQ.mk2 (C' := St w0 H_4761 (fp_4759 ++ (fp_4720 ++ ([(b_2, oc #[i6 n_4, v_3998, v_12, v_4690, v_4694, v_4698, v_4702, v_4026, i6 c_4705, v_4726, u_4729, v_4040, .bool dead_56] 60)] ++ (fp_3999 ++ (fp_4687 ++ (fp_4691 ++ (fp_4695 ++ (fp_4699 ++ (fp_4703 ++ (fp_4027 ++ (fp_4727 ++ (fp_4041 ++ (fp_4708 ++ ([(b_65, oc #[.bool false, ns, ns, ns] 30)] ++ L))))))))))))))) hS ⟨il, il, .inr (hq_4741 H_4761 (fp_4759 ++ (fp_4720 ++ (fp_3999 ++ (fp_4687 ++ (fp_4691 ++ (fp_4695 ++ (fp_4699 ++ (fp_4703 ++ (fp_4027 ++ (fp_4727 ++ (fp_4041 ++ (fp_4708 ++ ([(b_65, oc #[.bool false, ns, ns, ns] 30)] ++ L))))))))))))) #[i6 n_4, v_3998, v_12, v_4690, v_4694, v_4698, v_4702, v_4026, i6 c_4705, v_4726, u_4729, v_4040, .bool dead_56] _ rfl (fun _ h => St.f3 h)), .inr (hq_4739 _), .inr (hq_4737 _), .inr (hq_4735 _), .inr (hq_4733 _), trivial⟩ ?_)
 clear hS w
 refine Wd.turn rfl rfl rfl fun w hS => ?_
 obtain ⟨hr_4764, hV⟩ := hV
 replace hS := hS.f12
 refine WL.append (c := (cPair cBool (cSl (cInt .i64)))) (xs := c_4039) (ys := ([(false, r_4746)])) rfl underlying28 info50 rfl rfl rfl hS (h_4042.mono le_4762) (h_4760.src hS.f2) hr_4764.1 hr_4764.2 ?_
 clear hS
 intro v_4765 w fp_4766 h_4767 hS
 refine WL.nil (DQ.mk2 (C' := St w0 H_4761 (fp_4766 ++ (fp_4759 ++ (fp_4720 ++ ([(b_2, oc #[i6 n_4, v_3998, v_12, v_4690, v_4694, v_4698, v_4702, v_4026, i6 c_4705, v_4726, u_4729, v_4040, .bool dead_56] 60)] ++ (fp_3999 ++ (fp_4687 ++ (fp_4691 ++ (fp_4695 ++ (fp_4699 ++ (fp_4703 ++ (fp_4027 ++ (fp_4727 ++ (fp_4708 ++ ([(b_65, oc #[.bool false, ns, ns, ns] 30)] ++ L))))))))))))))) hS ⟨il, il, il, il, il, il, .inr (hq_4733 _), trivial⟩ ?_)
 clear hS w
 refine Wd.run rfl rfl rfl rfl (fun _ => ex_nilCheck rfl) fun q_4770 hq_4769 => ?_
 refine Wd.run rfl rfl rfl rfl (fun _ => ex_fieldAddr (o' := 11) underlying60 rfl sizeOf28 rfl rfl) fun q_4772 hq_4771 => ?_
 refine Wd.turn rfl rfl rfl fun w hS => ?_
 replace hS := hS.f4
 refine St1 #[i6 n_4, v_3998, v_12, v_4690, v_4694, v_4698, v_4702, v_4026, i6 c_4705, v_4726, u_4729, v_4765, .bool dead_56] sizeOf28 hS ?_ (cs := [v_4765]) (hc := (congrArg Array.toList (cells_one (OwnSl.one h_4767)))) (hone := ⟨(OwnSl.one h_4767), trivial⟩)
 clear hS
 intro w hS
 refine WL.nil (DQ.mk2 (C' := St w0 H_4761 ([(b_2, oc #[i6 n_4, v_3998, v_12, v_4690, v_4694, v_4698, v_4702, v_4026, i6 c_4705, v_4726, u_4729, v_4765, .bool dead_56] 60)] ++ (fp_4766 ++ (fp_4759 ++ (fp_4720 ++ (fp_3999 ++ (fp_4687 ++ (fp_4691 ++ (fp_4695 ++ (fp_4699 ++ (fp_4703 ++ (fp_4027 ++ (fp_4727 ++ (fp_4708 ++ ([(b_65, oc #[.bool false, ns, ns, ns] 30)] ++ L))))))))))))))) hS ⟨il, il, il, il, il, il, il, il, il, trivial⟩ ?_)
 clear hS w
 refine Wd.nil fun w hS => ?_
 refine WQ.next ?_
 refine Sb [(0, (pq b_2)), (1, v_63), (4, (pq b_65)), (6, v_4719), (7, i6 r_4723)] ?_
 replace hS := hS.f3.drop
 refine WC.sr ?_
 iterate 2 refine R hS ?_
 replace hS := hS.f12.f3.f12.f12.f12.f12.f12.f12.f12.f12.f11
 refine Rc (enters0 (vs := [(pq b_2), i6 r_4723]) call29 ⟨rfl, rfl, trivial⟩) (S_back  hr_5 (h_4000.mono le_4762) (h_4688.mono le_4762) (h_4692.mono le_4762) (h_4696.mono le_4762) (h_4700.mono le_4762) (h_4704.mono le_4762) (h_4028.mono le_4762) hr_4706 (h_4728.mono le_4762) h_4730 h_4767 hA_4709 hr_4724 hS hV) ?_
 clear hV hS
 rintro _ w ⟨c_4773, c_4777, c_4781, c_4785, v_4774, fp_4775, v_4778, fp_4779, v_4782, fp_4783, hV, rfl, h_4776, h_4780, h_4784, hr_4786, hS⟩
 refine ⟨_, rfl, ?_⟩
 refine WL.nx ?_
 refine WC.sr ?_
 iterate 2 refine R hS ?_
 replace hS := hS.f11.f12
 obtain ⟨A_4791, r_4792, rfl, hab_4793, hA_4794, hS⟩ := OwnSl.absorb hA_4709 (h_4721.mono le_4762) hS
 replace hV := hV A_4791 r_4792 hab_4793
 replace hS := hS.f11.f11.f11.f11.f11.f11.f11.f11.f11.f11
 refine Rc (enters0 (vs := [(pq b_2), rawV r_4792]) call30 ⟨rfl, rfl, trivial⟩) (S_keep  hr_5 (h_4000.mono le_4762) (h_4688.mono le_4762) h_4776 (h_4696.mono le_4762) (h_4700.mono le_4762) h_4780 h_4784 hr_4786 (h_4728.mono le_4762) h_4730 h_4767 hA_4794 hS hV) ?_
 clear hV hS
 rintro _ w ⟨c_4796, m_4800, A_4803, v_4797, fp_4798, fp_4801, fp_4804, hV, rfl, h_4799, h_4802, hA_4805, hS⟩
 refine ⟨_, rfl, ?_⟩
 refine WL.nx ?_
 refine WC.seq ?_
 refine WC.drawn (σ := [0, 1, 2, 3, 4, 5, 6, 7, 8, 9, 10]) (C := St w0 H_4761 ([(b_2, oc #[i6 n_4, v_4797, v_12, v_4774, v_4694, v_4698, v_4778, v_4782, i6 c_4785, v_4726, u_4729, v_4765, .bool dead_56] 60)] ++ (fp_4798 ++ (fp_4801 ++ (fp_4775 ++ (fp_4695 ++ (fp_4699 ++ (fp_4779 ++ (fp_4783 ++ (fp_4727 ++ (fp_4766 ++ (fp_4804 ++ ([(b_65, oc #[.bool false, ns, ns, ns] 30)] ++ L))))))))))))) [[], [], [1], [1, 2], [], [4], [4, 5], [4, 5, 6], [4, 5, 6, 7], [4, 5, 6, 7, 8], [0, 1, 2, 3, 4, 5, 6, 7, 8, 9]] [10] mixed (by kernel_rfl) (hS.drawn _) ?_
 clear hS w
 refine Dm fun q_4809 hq_4808 => ?_
 refine Dm fun q_4811 hq_4810 => ?_
 obtain ⟨hin_4814, hV⟩ := hV
 refine Wd.run rfl rfl rfl rfl (fun _ => ex_r_index underlying23 sizeOf3 rfl rfl hin_4814) fun q_4813 hq_4812 => ?_
 obtain ⟨hrd_4817, hV⟩ := hV
 refine Wd.runr rfl rfl rfl rfl isAgg3 rfl hA_4805 hrd_4817 (fun _ h => St.f11 h) fun q_4816 hq_4815 => ?_
 refine Dm fun q_4820 hq_4819 => ?_
 refine Wd.run rfl rfl rfl rfl (fun _ => ex_nilCheck rfl) fun q_4822 hq_4821 => ?_
 refine Wd.run rfl rfl rfl rfl (fun _ => ex_fieldAddr (o' := 1) underlying60 rfl sizeOf22 rfl rfl) fun q_4824 hq_4823 => ?_
 refine Wd.runb (off := 1) rfl rfl rfl rfl (fun _ _ _ h => ex_load_box isAgg22 rfl h) rfl (fun _ h => h) fun q_4826 hq_4825 => ?_
 have hl_4829 : Len c_4796 := h_4799.bound
 replace hV := hV hl_4829
 refine Wd.run rfl rfl rfl rfl (fun _ => ex_len_own underlying22 rfl h_4799) fun q_4828 hq_4827 => ?_
 obtain ⟨hi_4833, hV⟩ := hV
 refine Wd.run rfl rfl rfl rfl (fun _ => ex_sub rfl rfl hi_4833) fun q_4831 hq_4830 => ?_
 refine Wd.turn rfl rfl rfl fun w hS => ?_
 replace hS := hS.f11.f11.f11.f11.f11.f11.f11.f11.f11.f11.f11
 refine Rc (enters0 (vs := [(pq b_2), i6 (ag A_4803 r_4792 0), i6 ((c_4796.length : Int) - 1)]) call31 ⟨rfl, rfl, rfl, trivial⟩) (S_set  hr_5 h_4799 h_4802 h_4776 (h_4696.mono le_4762) (h_4700.mono le_4762) h_4780 h_4784 hr_4786 (h_4728.mono le_4762) h_4730 h_4767 hA_4805 (IsAr.ag64 hA_4805 _ _) hi_4833 hS hV) ?_
 clear hV hS
 rintro _ w ⟨c_4834, c_4838, c_4842, c_4846, v_4835, fp_4836, v_4839, fp_4840, v_4843, fp_4844, v_4847, fp_4848, hV, rfl, h_4837, h_4841, h_4845, h_4849, hS⟩
 refine ⟨_, rfl, ?_⟩
 refine WL.nil (DQ.mk2 (C' := St w0 H_4761 ([(b_2, oc #[i6 n_4, v_4797, v_12, v_4835, v_4839, v_4843, v_4847, v_4782, i6 c_4785, v_4726, u_4729, v_4765, .bool dead_56] 60)] ++ (fp_4798 ++ (fp_4801 ++ (fp_4836 ++ (fp_4840 ++ (fp_4844 ++ (fp_4848 ++ (fp_4783 ++ (fp_4727 ++ (fp_4766 ++ (fp_4804 ++ ([(b_65, oc #[.bool false, ns, ns, ns] 30)] ++ L))))))))))))) hS ⟨il, il, il, il, il, il, il, il, il, il, trivial⟩ ?_)
 clear hS w
 refine Wd.nil fun w hS => ?_
 refine WQ.next ?_
 refine Sb [(0, (pq b_2)), (1, v_63), (4, (pq b_65))] ?_
 refine WC.sr ?_
 iterate 4 refine R hS ?_
 refine Rx hS (ex_f_mul rfl rfl h_4730 (show IsFin (.float .f64 4607407598781385933) from ⟨_, rfl, by decide, by decide⟩)) ?_
 intro u_4855 h_4856
 iterate 2 refine R hS ?_
 refine St1 #[i6 n_4, v_4797, v_12, v_4835, v_4839, v_4843, v_4847, v_4782, i6 c_4785, v_4726, u_4855, v_4765, .bool dead_56] sizeOf58 hS ?_ (cs := [u_4855]) (hc := (congrArg Array.toList (cells_one (IsF.one h_4856)))) (hone := ⟨(IsF.one h_4856), trivial⟩)
 clear hS
 intro w hS
 refine WL.nx ?_
 refine WC.exit ?_
 refine Wp ?_
 refine WQ.hit ?_
 replace hS := hS.f12.f12.f12.f12.f12.f12.f12.f12.f12.f12.f12.f12
 exact Wt fun a ha => ⟨(c_4796, m_4800, c_4834, c_4838, c_4842, c_4846, c_4781, c_4785, c_4725, (c_4039 ++ ([(false, r_4746)])), A_4803), ⟨c_4796, m_4800, c_4834, c_4838, c_4842, c_4846, c_4781, c_4785, c_4725, (c_4039 ++ ([(false, r_4746)])), A_4803, H_4761, v_4797, fp_4798, fp_4801, v_4835, fp_4836, v_4839, fp_4840, v_4843, fp_4844, v_4847, fp_4848, v_4782, fp_4783, v_4726, fp_4727, u_4855, v_4765, fp_4766, fp_4804, rfl, hV.1, (((View.le.refl _).trans le_3995).trans le_4762), h_4799, h_4802, h_4837, h_4841, h_4845, h_4849, h_4784, hr_4786, (h_4728.mono le_4762), h_4856, h_4767, hA_4805, hS, ha.os⟩, hV.2⟩
 intro hc_5325
 replace hV := hV.2 (ov hc_5325)
 refine WC.skip ?_
 refine WQ.next ?_
 refine Sb [(0, (pq b_2)), (1, v_63), (4, (pq b_65))] ?_
 refine WC.sr ?_
 refine R hS ?_
 refine WL.nx ?_
 obtain ⟨J_5038, hJ_5039, hV⟩ := hV
 refine WC.meet (fun a w => ∃ (l_5036 : Int), J_5038 l_5036 ∧ I64 l_5036 ∧ St w0 H_3994 ([(b_2, oc #[i6 n_4, v_3998, v_12, v_4690, v_4694, v_4698, v_4702, v_4026, i6 c_4705, v_4033, u_4036, v_4040, .bool dead_56] 60)] ++ (fp_3999 ++ (fp_4687 ++ (fp_4691 ++ (fp_4695 ++ (fp_4699 ++ (fp_4703 ++ (fp_4027 ++ (fp_4034 ++ (fp_4041 ++ (fp_4708 ++ ([(b_65, oc #[.bool false, ns, ns, ns] 30)] ++ L)))))))))))) w ∧ Fr 145 [(0, (pq b_2)), (1, v_63), (4, (pq b_65)), (8, i6 l_5036)] a) ?_ ?_
 rintro a w ⟨l_5036, hI, hr_5037, hS, ha⟩
 refine in_frame ha ?_
 clear ha hV
 have hV := hJ_5039 _ hI
 clear hI hJ_5039
 obtain ⟨J_5247, hJ_5248, hV⟩ := hV
 refine WC.meet (fun a w => ∃ (l_5245 : Int), J_5247 l_5245 ∧ I64 l_5245 ∧ St w0 H_3994 ([(b_2, oc #[i6 n_4, v_3998, v_12, v_4690, v_4694, v_4698, v_4702, v_4026, i6 c_4705, v_4033, u_4036, v_4040, .bool dead_56] 60)] ++ (fp_3999 ++ (fp_4687 ++ (fp_4691 ++ (fp_4695 ++ (fp_4699 ++ (fp_4703 ++ (fp_4027 ++ (fp_4034 ++ (fp_4041 ++ (fp_4708 ++ ([(b_65, oc #[.bool false, ns, ns, ns] 30)] ++ L)))))))))))) w ∧ Fr 145 [(0, (pq b_2)), (1, v_63), (4, (pq b_65)), (8, i6 l_5245)] a) ?_ ?_
 rintro a w ⟨l_5245, hI, hr_5246, hS, ha⟩
 refine in_frame ha ?_
 clear ha hV
 have hV := hJ_5248 _ hI
 clear hI hJ_5248
 refine WC.seq ?_
 refine WC.drawn (σ := [0, 1, 2, 3, 4, 5, 6, 7, 8, 9, 10, 11, 12, 13, 14]) (C := St w0 H_3994 ([(b_2, oc #[i6 n_4, v_3998, v_12, v_4690, v_4694, v_4698, v_4702, v_4026, i6 c_4705, v_4033, u_4036, v_4040, .bool dead_56] 60)] ++ (fp_3999 ++ (fp_4687 ++ (fp_4691 ++ (fp_4695 ++ (fp_4699 ++ (fp_4703 ++ (fp_4027 ++ (fp_4034 ++ (fp_4041 ++ (fp_4708 ++ ([(b_65, oc #[.bool false, ns, ns, ns] 30)] ++ L))))))))))))) [[], [], [1], [1, 2], [1, 2, 3], [], [5], [5, 6], [5, 6, 7], [5, 6, 7, 8], [5, 6, 7, 8, 9], [1, 2, 3, 4, 5, 6, 7, 8, 9, 10], [0, 1, 2, 3, 4, 5, 6, 7, 8, 9, 10, 11], [0, 1, 2, 3, 4, 5, 6, 7, 8, 9, 10, 11, 12], [0, 1, 2, 3, 4, 5, 6, 7, 8, 9, 10, 11, 12, 13]] [10, 11, 14] mixed (by kernel_rfl) (hS.drawn _) ?_
 clear hS w
 refine Dm fun q_5271 hq_5270 => ?_
 refine Dm fun q_5273 hq_5272 => ?_
 refine Wd.run rfl rfl rfl rfl (fun _ => ex_nilCheck rfl) fun q_5275 hq_5274 => ?_
 refine Wd.run rfl rfl rfl rfl (fun _ => ex_fieldAddr (o' := 7) underlying60 rfl sizeOf23 rfl rfl) fun q_5277 hq_5276 => ?_
 refine Wd.runb (off := 7) rfl rfl rfl rfl (fun _ _ _ h => ex_load_box isAgg23 rfl h) rfl (fun _ h => h) fun q_5279 hq_5278 => ?_
 refine Dm fun q_5281 hq_5280 => ?_
 refine Wd.run rfl rfl rfl rfl (fun _ => ex_nilCheck rfl) fun q_5283 hq_5282 => ?_
 refine Wd.run rfl rfl rfl rfl (fun _ => ex_fieldAddr (o' := 6) underlying60 rfl sizeOf23 rfl rfl) fun q_5285 hq_5284 => ?_
 refine Wd.runb (off := 6) rfl rfl rfl rfl (fun _ _ _ h => ex_load_box isAgg23 rfl h) rfl (fun _ h => h) fun q_5287 hq_5286 => ?_
 have hl_5290 : Len c_4701 := h_4704.bound
 replace hV := hV hl_5290
 refine Wd.run rfl rfl rfl rfl (fun _ => ex_len_own underlying23 rfl h_4704) fun q_5289 hq_5288 => ?_
 refine Wd.turn rfl rfl rfl fun w hS => ?_
 refine WL.build1 (c := (cInt .i64)) rfl underlying23 info3 rfl rfl (cInt_mk (I64.has (Len.i64 hl_5290))) hS ?_
 clear hS
 intro v_5292 w fp_5293 h_5294 hS
 refine WL.nil (DQ.mk2 (C' := St w0 H_3994 (fp_5293 ++ ([(b_2, oc #[i6 n_4, v_3998, v_12, v_4690, v_4694, v_4698, v_4702, v_4026, i6 c_4705, v_4033, u_4036, v_4040, .bool dead_56] 60)] ++ (fp_3999 ++ (fp_4687 ++ (fp_4691 ++ (fp_4695 ++ (fp_4699 ++ (fp_4703 ++ (fp_4027 ++ (fp_4034 ++ (fp_4041 ++ (fp_4708 ++ ([(b_65, oc #[.bool false, ns, ns, ns] 30)] ++ L)))))))))))))) hS ⟨il, il, il, il, il, .inr (hq_5278 H_3994 (fp_5293 ++ (fp_3999 ++ (fp_4687 ++ (fp_4691 ++ (fp_4695 ++ (fp_4699 ++ (fp_4703 ++ (fp_4027 ++ (fp_4034 ++ (fp_4041 ++ (fp_4708 ++ ([(b_65, oc #[.bool false, ns, ns, ns] 30)] ++ L)))))))))))) #[i6 n_4, v_3998, v_12, v_4690, v_4694, v_4698, v_4702, v_4026, i6 c_4705, v_4033, u_4036, v_4040, .bool dead_56] _ rfl (fun _ h => St.f2 h)), .inr (hq_5276 _), .inr (hq_5274 _), .inr (hq_5272 _), .inr (hq_5270 _), trivial⟩ ?_)
 clear hS w
 refine Wd.turn rfl rfl rfl fun w hS => ?_
 obtain ⟨hr_5295, hV⟩ := hV
 replace hS := hS.f9
 refine WL.append (c := (cInt .i64)) (xs := c_4025) (ys := ([(c_4701.length : Int)])) rfl underlying23 info3 rfl rfl rfl hS h_4028 (h_5294.src hS.f2) hr_5295.1 hr_5295.2 ?_
 clear hS
 intro v_5296 w fp_5297 h_5298 hS
 refine WL.nil (DQ.mk2 (C' := St w0 H_3994 (fp_5297 ++ (fp_5293 ++ ([(b_2, oc #[i6 n_4, v_3998, v_12, v_4690, v_4694, v_4698, v_4702, v_4026, i6 c_4705, v_4033, u_4036, v_4040, .bool dead_56] 60)] ++ (fp_3999 ++ (fp_4687 ++ (fp_4691 ++ (fp_4695 ++ (fp_4699 ++ (fp_4703 ++ (fp_4034 ++ (fp_4041 ++ (fp_4708 ++ ([(b_65, oc #[.bool false, ns, ns, ns] 30)] ++ L)))))))))))))) hS ⟨il, il, il, il, il, il, il, il, il, .inr (hq_5270 _), trivial⟩ ?_)
 clear hS w
 refine Wd.run rfl rfl rfl rfl (fun _ => ex_nilCheck rfl) fun q_5301 hq_5300 => ?_
 refine Wd.run rfl rfl rfl rfl (fun _ => ex_fieldAddr (o' := 7) underlying60 rfl sizeOf23 rfl rfl) fun q_5303 hq_5302 => ?_
 refine Wd.turn rfl rfl rfl fun w hS => ?_
 replace hS := hS.f3
 refine St1 #[i6 n_4, v_3998, v_12, v_4690, v_4694, v_4698, v_4702, v_5296, i6 c_4705, v_4033, u_4036, v_4040, .bool dead_56] sizeOf23 hS ?_ (cs := [v_5296]) (hc := (congrArg Array.toList (cells_one (OwnSl.one h_5298)))) (hone := ⟨(OwnSl.one h_5298), trivial⟩)
 clear hS
 intro w hS
 refine WL.nil (DQ.mk2 (C' := St w0 H_3994 ([(b_2, oc #[i6 n_4, v_3998, v_12, v_4690, v_4694, v_4698, v_4702, v_5296, i6 c_4705, v_4033, u_4036, v_4040, .bool dead_56] 60)] ++ (fp_5297 ++ (fp_5293 ++ (fp_3999 ++ (fp_4687 ++ (fp_4691 ++ (fp_4695 ++ (fp_4699 ++ (fp_4703 ++ (fp_4034 ++ (fp_4041 ++ (fp_4708 ++ ([(b_65, oc #[.bool false, ns, ns, ns] 30)] ++ L)))))))))))))) hS ⟨il, il, il, il, il, il, il, il, il, il, il, il, trivial⟩ ?_)
 clear hS w
 refine Wd.nil fun w hS => ?_
 refine WQ.next ?_
 refine Sb [(0, (pq b_2)), (1, v_63), (4, (pq b_65)), (8, i6 l_5245)] ?_
 replace hS := hS.f3.drop
 refine WC.region ?_
 iterate 2 refine R hS ?_
 replace hS := hS.f11.f11.f11.f5.f11.f11.f11.f11.f11.f11.f11
 refine Rc (enters0 (vs := [(pq b_2), i6 l_5245, i6 (-1)]) call31 ⟨rfl, rfl, rfl, trivial⟩) (S_set  hr_5 h_4000 h_4688 h_4692 h_4696 h_4700 h_4704 h_5298 hr_4706 h_4035 h_4037 h_4042 hA_4709 hr_5246 (by unfold I64; omega) hS hV) ?_
 clear hV hS
 rintro _ w ⟨c_5304, c_5308, c_5312, c_5316, v_5305, fp_5306, v_5309, fp_5310, v_5313, fp_5314, v_5317, fp_5318, hV, rfl, h_5307, h_5311, h_5315, h_5319, hS⟩
 refine ⟨_, rfl, ?_⟩
 refine WL.nil ?_
 refine WQ.out nofun ?_
 replace hS := hS.f12.f12.f12.f12.f12.f12.f12.f12.f12.f12.f12.f12
 exact Wt fun a ha => ⟨(c_3997, m_4686, c_5304, c_5308, c_5312, c_5316, (c_4025 ++ ([(c_4701.length : Int)])), c_4705, c_4032, c_4039, A_4707), ⟨c_3997, m_4686, c_5304, c_5308, c_5312, c_5316, (c_4025 ++ ([(c_4701.length : Int)])), c_4705, c_4032, c_4039, A_4707, H_3994, v_3998, fp_3999, fp_4687, v_5305, fp_5306, v_5309, fp_5310, v_5313, fp_5314, v_5317, fp_5318, v_5296, fp_5297, v_4033, fp_4034, u_4036, v_4040, fp_4041, fp_4708, rfl, hV.1, ((View.le.refl _).trans le_3995), h_4000, h_4688, h_5307, h_5311, h_5315, h_5319, h_5298, hr_4706, h_4035, h_4037, h_4042, hA_4709, hS, ha.os⟩, hV.2⟩
 clear hJ_5248
 refine WC.sr ?_
 iterate 2 refine R hS ?_
 refine WL.nx ?_
 refine Cd ?_ ?_
 intro hc_5269
 replace hV := hV.1 (od hc_5269)
 refine WC.seq ?_
 refine WC.sr ?_
 refine R hS ?_
 replace hS := hS.f11.f11.f11.f11.f11.f11.f11.f11.f11.f11.f11
 refine Rc (enters0 (vs := [(pq b_2)]) call34 ⟨rfl, trivial⟩) (S_pick  hr_5 h_4000 h_4688 h_4692 h_4696 h_4700 h_4704 h_4028 hr_4706 h_4035 h_4037 h_4042 hA_4709 hS hV) ?_
 clear hV hS
 rintro _ w ⟨r_5250, hV, rfl, hr_5251, hS⟩
 refine ⟨_, rfl, ?_⟩
 refine R hS ?_
 refine WL.nx ?_
 refine WC.sr ?_
 iterate 2 refine R hS ?_
 refine WL.nx ?_
 refine Cd ?_ ?_
 intro hc_5268
 replace hV := hV.1 (od hc_5268)
 refine WC.sr ?_
 refine R hS ?_
 replace hS := hS.f11.f11.f11.f11.f11.f11.f11.f11.f11.f11.f11
 refine Rc (enters0 (vs := [(pq b_2)]) call35 ⟨rfl, trivial⟩) (S_found  hr_5 h_4000 h_4688 h_4692 h_4696 h_4700 h_4704 h_4028 hr_4706 h_4035 h_4037 h_4042 hA_4709 hS hV) ?_
 clear hV hS
 rintro _ w ⟨r_5254, r_5255, r_5258, r_5261, v_5256, v_5259, v_5262, H_5264, hV, rfl, le_5265, h_5257, h_5260, h_5263, hS⟩
 refine ⟨_, rfl, ?_⟩
 replace hS := hS.f12
 refine St1 #[.bool r_5254, v_5256, v_5259, v_5262] sizeOf30 hS ?_ (cs := [.bool r_5254, v_5256, v_5259, v_5262]) (hone := ⟨rfl, (IsSl.one h_5257), (IsSl.one h_5260), (IsSl.one h_5263), trivial⟩)
 clear hS
 intro w hS
 refine WL.nx ?_
 refine Sb [(4, (pq b_65))] ?_
 refine WC.ret ?_
 refine Wp ?_
 refine Wp ?_
 refine WQ.out nofun ?_
 refine Wp ?_
 refine WQ.out nofun ?_
 refine Wp ?_
 have hl_5266 := load_own_agg (P := Tryz.prog) (cs := [.bool r_5254, v_5256, v_5259, v_5262]) isAgg30 sizeOf30 hS rfl
 replace hS := hS.drop
 replace hS := hS.drop
 replace hS := hS.drop
 replace hS := hS.drop
 replace hS := hS.drop
 replace hS := hS.drop
 replace hS := hS.drop
 replace hS := hS.drop
 replace hS := hS.drop
 replace hS := hS.drop
 replace hS := hS.drop
 replace hS := hS.drop
 exact leavec1 (il) rfl rfl hl_5266 (⟨r_5254, r_5255, r_5258, r_5261, v_5256, v_5259, v_5262, H_5264, hV, rfl, (((View.le.refl _).trans le_3995).trans le_5265), h_5257, h_5260, h_5263, hS⟩)
 intro hc_5268
 replace hV := hV.2 (ov hc_5268)
 refine WC.skip ?_
 refine WQ.next ?_
 refine WC.region ?_
 refine R hS ?_
 obtain ⟨hi_5267, hV⟩ := hV
 iterate 2 refine R hS ?_
 refine WL.nil ?_
 replace hS := hS.f12.f12.f12.f12.f12.f12.f12.f12.f12.f12.f12.f12
 exact Wt fun a ha => ⟨(-r_5250), hV, hi_5267, hS, ha.os⟩
 intro hc_5269
 replace hV := hV.2 (ov hc_5269)
 refine WC.skip ?_
 replace hS := hS.f12.f12.f12.f12.f12.f12.f12.f12.f12.f12.f12.f12
 exact Wt fun a ha => ⟨l_5036, hV, hr_5037, hS, ha.os⟩
 clear hJ_5039
 refine WC.sr ?_
 refine R hS ?_
 have hl_5040 : Len suppose_62 := (h_64.mono le_3995).bound
 replace hV := hV hl_5040
 refine Rn hS (ex_len_sl underlying23 rfl (h_64.mono le_3995)) ?_
 refine R hS ?_
 refine WL.nx ?_
 refine WC.block ?_
 replace hS := hS.f12.f12.f12.f12.f12.f12.f12.f12.f12.f12.f12.f12
 obtain ⟨I_5157, mu_5158, hI_5224, hV⟩ := hV
 refine WC.loop (σ := Int) (fun s a w => ∃ (x_5098 : Int), s = x_5098 ∧ I_5157 x_5098 ∧ I64 x_5098 ∧ St w0 H_3994 ([(b_2, oc #[i6 n_4, v_3998, v_12, v_4690, v_4694, v_4698, v_4702, v_4026, i6 c_4705, v_4033, u_4036, v_4040, .bool dead_56] 60)] ++ (fp_3999 ++ (fp_4687 ++ (fp_4691 ++ (fp_4695 ++ (fp_4699 ++ (fp_4703 ++ (fp_4027 ++ (fp_4034 ++ (fp_4041 ++ (fp_4708 ++ ([(b_65, oc #[.bool false, ns, ns, ns] 30)] ++ L)))))))))))) w ∧ Fr 145 [(0, (pq b_2)), (1, v_63), (4, (pq b_65)), (8, i6 0), (68, v_63), (69, i6 (suppose_62.length : Int)), (70, i6 x_5098)] a) mu_5158 0 ?_ ?_
 exact fun a ha => ⟨0, rfl, hI_5224, (by unfold I64; omega), hS, ha.os⟩
 clear hS hI_5224
 rintro x_5098 a w ⟨_, rfl, hI, hr_5099, hS, ha⟩
 refine in_frame ha ?_
 clear ha
 replace hV := hV _ hI
 clear hI
 refine WC.sr ?_
 refine R hS ?_
 refine WL.nx ?_
 refine WC.seq ?_
 refine Cd ?_ ?_
 intro hc_5223
 replace hV := hV.1 (od hc_5223)
 refine WC.skip ?_
 refine WQ.next ?_
 refine WC.seq ?_
 refine WC.block ?_
 refine WC.sr ?_
 obtain ⟨hin_5161, hV⟩ := hV
 refine Rx hS (ex_index underlying23 sizeOf3 rfl rfl (h_64.mono le_3995) hin_5161) ?_
 intro p_5162 hp_5163
 refine Rx hS (ex_load isAgg3 rfl rfl hp_5163) ?_
 intro u_5166 hu_5167
 obtain ⟨rfl, hr_5168⟩ := cInt_rep hu_5167
 replace hr_5168 := has_I64 hr_5168
 replace hV := hV hr_5168
 refine R hS ?_
 refine WL.nx ?_
 refine WC.seq ?_
 refine WC.sr ?_
 iterate 2 refine R hS ?_
 replace hS := hS.f11.f11.f11.f11.f11.f11.f11.f11.f11.f11.f11
 refine Rc (enters0 (vs := [(pq b_2), i6 (ix suppose_62 x_5098)]) call32 ⟨rfl, rfl, trivial⟩) (S_of  hr_5 h_4000 h_4688 h_4692 h_4696 h_4700 h_4704 h_4028 hr_4706 h_4035 h_4037 h_4042 hA_4709 hr_5168 hS hV) ?_
 clear hV hS
 rintro _ w ⟨r_5169, hV, rfl, hr_5170, hS⟩
 refine ⟨_, rfl, ?_⟩
 refine R hS ?_
 refine WL.nx ?_
 refine Cd ?_ ?_
 intro hc_5222
 replace hV := hV.1 (od hc_5222)
 refine WC.sr ?_
 iterate 5 refine R hS ?_
 refine Rn hS (ex_build (vs := []) (zc := #[.bool false, ns]) (cs := #[.bool false, ns]) (places := #[(0, 1), (1, 1)]) underlying50 zeroValue50 (fun w => by simp [sizeOf23, sizeOf4]) rfl trivial rfl (by simp [Instr.fill, cells_int, cells_bool, cells_slice, cells_flt])) ?_
 refine WL.builds (c := (cPair cBool (cSl (cInt .i64)))) (xs := [(false, ([] : LI))]) (vs := [.agg #[.bool false, ns]]) (css := [[.bool false, ns]]) rfl underlying28 info50 rfl ⟨rfl, trivial⟩ rfl (by decide) rfl (by simp; rfl) ⟨[.bool false, ns], _, rfl, ⟨[.bool false], _, rfl, cBool_mk, (cSl_mk IsSl.nil)⟩, rfl⟩ hS rfl (by decide) ?_
 clear hS
 intro v_5175 w fp_5176 h_5177 hS
 obtain ⟨hr_5178, hV⟩ := hV
 replace hS := hS.f11
 refine WL.append (c := (cPair cBool (cSl (cInt .i64)))) (xs := c_4039) (ys := ([(false, ([] : LI))])) rfl underlying28 info50 rfl rfl rfl hS h_4042 (h_5177.src hS.f2) hr_5178.1 hr_5178.2 ?_
 clear hS
 intro v_5179 w fp_5180 h_5181 hS
 iterate 2 refine R hS ?_
 replace hS := hS.f3
 refine St1 #[i6 n_4, v_3998, v_12, v_4690, v_4694, v_4698, v_4702, v_4026, i6 c_4705, v_4033, u_4036, v_5179, .bool dead_56] sizeOf28 hS ?_ (cs := [v_5179]) (hc := (congrArg Array.toList (cells_one (OwnSl.one h_5181)))) (hone := ⟨(OwnSl.one h_5181), trivial⟩)
 clear hS
 intro w hS
 refine WL.nx ?_
 refine Sb [(0, (pq b_2)), (1, v_63), (4, (pq b_65)), (10, i6 (ix suppose_62 x_5098))] ?_
 replace hS := hS.f3.drop
 refine WC.seq ?_
 refine WC.drawn (σ := [0, 1, 2, 4, 5, 6, 7, 3, 8, 9]) (C := St w0 H_3994 ([(b_2, oc #[i6 n_4, v_3998, v_12, v_4690, v_4694, v_4698, v_4702, v_4026, i6 c_4705, v_4033, u_4036, v_5179, .bool dead_56] 60)] ++ (fp_5180 ++ (fp_3999 ++ (fp_4687 ++ (fp_4691 ++ (fp_4695 ++ (fp_4699 ++ (fp_4703 ++ (fp_4027 ++ (fp_4034 ++ (fp_4708 ++ ([(b_65, oc #[.bool false, ns, ns, ns] 30)] ++ L))))))))))))) [[], [], [], [0, 1, 2], [], [4], [4, 5], [4, 5, 6], [0, 1, 2, 3, 4, 5, 6, 7], [0, 1, 2, 3, 4, 5, 6, 7, 8]] [3, 9] mixed (by kernel_rfl) (hS.drawn _) ?_
 clear hS w
 refine Dm fun q_5184 hq_5183 => ?_
 refine Dm fun q_5186 hq_5185 => ?_
 refine Dm fun q_5188 hq_5187 => ?_
 refine Dm fun q_5190 hq_5189 => ?_
 refine Wd.run rfl rfl rfl rfl (fun _ => ex_nilCheck rfl) fun q_5192 hq_5191 => ?_
 refine Wd.run rfl rfl rfl rfl (fun _ => ex_fieldAddr (o' := 11) underlying60 rfl sizeOf28 rfl rfl) fun q_5194 hq_5193 => ?_
 refine Wd.runb (off := 11) rfl rfl rfl rfl (fun _ _ _ h => ex_load_box isAgg28 rfl h) rfl (fun _ h => h) fun q_5196 hq_5195 => ?_
 refine Wd.turn rfl rfl rfl fun w hS => ?_
 replace hS := hS.f11.f3.f11.f11.f11.f11.f11.f11.f11.f11.f11
 refine Rc (enters0 (vs := [(pq b_2), i6 (ix suppose_62 x_5098), v_63]) call33 ⟨rfl, rfl, rfl, trivial⟩) (S_core  hr_5 h_4000 h_4688 h_4692 h_4696 h_4700 h_4704 h_4028 hr_4706 h_4035 h_4037 h_5181 hA_4709 hr_5168 (h_64.mono le_3995) hS hV) ?_
 clear hV hS
 rintro _ w ⟨r_5197, v_5198, fp_5199, hV, rfl, h_5200, hS⟩
 refine ⟨_, rfl, ?_⟩
 refine WL.nil (DQ.mk2 (C' := St w0 H_3994 (fp_5199 ++ ([(b_2, oc #[i6 n_4, v_3998, v_12, v_4690, v_4694, v_4698, v_4702, v_4026, i6 c_4705, v_4033, u_4036, v_5179, .bool dead_56] 60)] ++ (fp_3999 ++ (fp_4687 ++ (fp_4691 ++ (fp_4695 ++ (fp_4699 ++ (fp_4703 ++ (fp_4027 ++ (fp_4034 ++ (fp_5180 ++ (fp_4708 ++ ([(b_65, oc #[.bool false, ns, ns, ns] 30)] ++ L)))))))))))))) hS ⟨.inr (hq_5195 H_3994 (fp_5199 ++ (fp_3999 ++ (fp_4687 ++ (fp_4691 ++ (fp_4695 ++ (fp_4699 ++ (fp_4703 ++ (fp_4027 ++ (fp_4034 ++ (fp_5180 ++ (fp_4708 ++ ([(b_65, oc #[.bool false, ns, ns, ns] 30)] ++ L)))))))))))) #[i6 n_4, v_3998, v_12, v_4690, v_4694, v_4698, v_4702, v_4026, i6 c_4705, v_4033, u_4036, v_5179, .bool dead_56] _ rfl (fun _ h => St.f2 h)), .inr (hq_5193 _), .inr (hq_5191 _), .inr (hq_5189 _), il, il, il, trivial⟩ ?_)
 clear hS w
 refine Wd.run rfl rfl rfl rfl (fun _ => ex_build (vs := [v_5198, v_5179]) (zc := #[.bool false, ns, ns, ns]) (cs := #[.bool false, ns, v_5198, v_5179]) (places := #[(0, 1), (1, 1), (2, 1), (3, 1)]) underlying30 zeroValue30 (fun w => by simp [sizeOf23, sizeOf24, sizeOf28, sizeOf4]) rfl ⟨rfl, rfl, trivial⟩ rfl (by simp [Instr.fill, cells_int, cells_bool, cells_slice, cells_flt, cells_one (OwnSl.one h_5200), cells_one (OwnSl.one h_5181)])) fun q_5204 hq_5203 => ?_
 refine Wd.turn rfl rfl rfl fun w hS => ?_
 replace hS := hS.f13
 refine St1 #[.bool false, ns, v_5198, v_5179] sizeOf30 hS ?_ (cs := [.bool false, ns, v_5198, v_5179]) (hone := ⟨rfl, rfl, (OwnSl.one h_5200), (OwnSl.one h_5181), trivial⟩)
 clear hS
 intro w hS
 refine WL.nil (DQ.mk2 (C' := St w0 H_3994 ([(b_65, oc #[.bool false, ns, v_5198, v_5179] 30)] ++ (fp_5199 ++ ([(b_2, oc #[i6 n_4, v_3998, v_12, v_4690, v_4694, v_4698, v_4702, v_4026, i6 c_4705, v_4033, u_4036, v_5179, .bool dead_56] 60)] ++ (fp_3999 ++ (fp_4687 ++ (fp_4691 ++ (fp_4695 ++ (fp_4699 ++ (fp_4703 ++ (fp_4027 ++ (fp_4034 ++ (fp_5180 ++ (fp_4708 ++ L)))))))))))))) hS ⟨il, il, il, il, il, il, il, il, trivial⟩ ?_)
 clear hS w
 refine Wd.nil fun w hS => ?_
 refine WQ.next ?_
 refine Sb [(4, (pq b_65))] ?_
 refine WC.ret ?_
 refine Wp ?_
 refine WQ.out nofun ?_
 refine Wp ?_
 refine Wp ?_
 refine WQ.out nofun ?_
 refine Wp ?_
 refine WQ.out nofun ?_
 refine Wp ?_
 refine WQ.out nofun ?_
 refine Wp ?_
 replace hS := hS.f2
 obtain ⟨H_5208, le_5209, h_5210, hS⟩ : ∃ K, View.le H_3994 K ∧ IsSl K (cInt .i64) v_5198 r_5197 ∧ St w0 K ([(b_65, oc #[.bool false, ns, v_5198, v_5179] 30)] ++ ([(b_2, oc #[i6 n_4, v_3998, v_12, v_4690, v_4694, v_4698, v_4702, v_4026, i6 c_4705, v_4033, u_4036, v_5179, .bool dead_56] 60)] ++ (fp_3999 ++ (fp_4687 ++ (fp_4691 ++ (fp_4695 ++ (fp_4699 ++ (fp_4703 ++ (fp_4027 ++ (fp_4034 ++ (fp_5180 ++ (fp_4708 ++ L)))))))))))) w := ⟨_, hS.put_le, h_5200.share hS.put_le, hS.freeze⟩
 replace hS := hS.f11
 obtain ⟨H_5211, le_5212, h_5213, hS⟩ : ∃ K, View.le H_5208 K ∧ IsSl K (cPair cBool (cSl (cInt .i64))) v_5179 (c_4039 ++ ([(false, ([] : LI))])) ∧ St w0 K ([(b_65, oc #[.bool false, ns, v_5198, v_5179] 30)] ++ ([(b_2, oc #[i6 n_4, v_3998, v_12, v_4690, v_4694, v_4698, v_4702, v_4026, i6 c_4705, v_4033, u_4036, v_5179, .bool dead_56] 60)] ++ (fp_3999 ++ (fp_4687 ++ (fp_4691 ++ (fp_4695 ++ (fp_4699 ++ (fp_4703 ++ (fp_4027 ++ (fp_4034 ++ (fp_4708 ++ L))))))))))) w := ⟨_, hS.put_le, (h_5181.mono le_5209).share hS.put_le, hS.freeze⟩
 have hl_5214 := load_own_agg (P := Tryz.prog) (cs := [.bool false, ns, v_5198, v_5179]) isAgg30 sizeOf30 hS rfl
 replace hS := hS.drop
 replace hS := hS.drop
 replace hS := hS.drop
 replace hS := hS.drop
 replace hS := hS.drop
 replace hS := hS.drop
 replace hS := hS.drop
 replace hS := hS.drop
 replace hS := hS.drop
 replace hS := hS.drop
 replace hS := hS.drop
 exact leavec1 (il) rfl rfl hl_5214 (⟨false, ([] : List Bool), r_5197, (c_4039 ++ ([(false, ([] : LI))])), ns, v_5198, v_5179, H_5211, hV, rfl, ((((View.le.refl _).trans le_3995).trans le_5209).trans le_5212), IsSl.nil, (h_5210.mono le_5212), h_5213, hS⟩)
 intro hc_5222
 replace hV := hV.2 (ov hc_5222)
 refine WC.skip ?_
 refine WQ.next ?_
 refine WC.sr ?_
 iterate 2 refine R hS ?_
 replace hS := hS.f11.f11.f11.f11.f11.f11.f11.f11.f11.f11.f11
 refine Rc (enters0 (vs := [(pq b_2), i6 (ix suppose_62 x_5098)]) call32 ⟨rfl, rfl, trivial⟩) (S_of  hr_5 h_4000 h_4688 h_4692 h_4696 h_4700 h_4704 h_4028 hr_4706 h_4035 h_4037 h_4042 hA_4709 hr_5168 hS hV) ?_
 clear hV hS
 rintro _ w ⟨r_5215, hV, rfl, hr_5216, hS⟩
 refine ⟨_, rfl, ?_⟩
 refine R hS ?_
 refine WL.nx ?_
 refine Sb [(0, (pq b_2)), (1, v_63), (4, (pq b_65)), (8, i6 0), (10, i6 (ix suppose_62 x_5098)), (68, v_63), (69, i6 (suppose_62.length : Int)), (70, i6 x_5098), (100, .bool (decide (r_5215 = 0)))] ?_
 refine Cd ?_ ?_
 intro hc_5221
 replace hV := hV.1 (od hc_5221)
 refine WC.sr ?_
 iterate 2 refine R hS ?_
 refine WL.nx ?_
 refine WC.exit ?_
 refine WQ.by rfl ?_
 refine Wp ?_
 refine Wp ?_
 refine WQ.hit ?_
 replace hS := hS.f12.f12.f12.f12.f12.f12.f12.f12.f12.f12.f12.f12
 exact Wt fun a ha => ⟨(ix suppose_62 x_5098), hV, hr_5168, hS, ha.os⟩
 intro hc_5221
 replace hV := hV.2 (ov hc_5221)
 refine WC.skip ?_
 refine WQ.out nofun ?_
 refine WQ.next ?_
 refine WC.region ?_
 obtain ⟨hi_5220, hV⟩ := hV
 iterate 2 refine R hS ?_
 refine WL.nil ?_
 replace hS := hS.f12.f12.f12.f12.f12.f12.f12.f12.f12.f12.f12.f12
 exact Wt fun a ha => ⟨(x_5098 + 1), ⟨(x_5098 + 1), rfl, hV.1, hi_5220, hS, ha.os⟩, hV.2⟩
 intro hc_5223
 replace hV := hV.2 (ov hc_5223)
 refine WC.exit ?_
 refine Wp ?_
 refine Wp ?_
 refine WQ.hit ?_
 replace hS := hS.f12.f12.f12.f12.f12.f12.f12.f12.f12.f12.f12.f12
 exact Wt fun a ha => ⟨0, hV, (by unfold I64; omega), hS, ha.os⟩
 intro hc_5326
 replace hV := hV.2 hc_5326
 refine WC.exit ?_
 refine Wp ?_
 refine Wp ?_
 refine WQ.hit ?_
 replace hS := hS.f12.f12.f12.f12.f12.f12.f12.f12.f12.f12.f12.f12
 exact Wt fun a ha => ⟨c_3997, c_4001, c_4005, c_4010, c_4015, c_4020, c_4025, c_4029, c_4032, c_4039, A_4043, H_3994, v_3998, fp_3999, fp_4002, v_4006, fp_4007, v_4011, fp_4012, v_4016, fp_4017, v_4021, fp_4022, v_4026, fp_4027, v_4033, fp_4034, u_4036, v_4040, fp_4041, fp_4044, hV, ((View.le.refl _).trans le_3995), h_4000, h_4003, h_4008, h_4013, h_4018, h_4023, h_4028, hr_4030, h_4035, h_4037, h_4042, hA_4045, hS, ha.os⟩

theorem S_newSolver {w0 : World} {H : View} {L : Seg} {w : World} {n_1 : Int} {v_4 : Value} {clauses_3 : List LI} {Q : Int → (List Raw) → (List (Int × Raw)) → LI → LI → LI → LI → LI → Int → (List Unit) → (List (Bool × LI)) → Bool → Arena → Prop} (hr_2 : I64 n_1) (h_5 : IsSl H (cSl (cInt .i64)) v_4 clauses_3) (hS : St w0 H (L) w) (hV : V_newSolver n_1 clauses_3 Q) :
 Calls Tryz.prog 16 #[i6 n_1, v_4] w fun e w' => ∃ (r2 : Int) (r3 : List Raw) (r4 : List (Int × Raw)) (r5 : LI) (r6 : LI) (r7 : LI) (r8 : LI) (r9 : LI) (r10 : Int) (r11 : List Unit) (r13 : List (Bool × LI)) (r14 : Bool) (r15 : Arena) (b1 : Nat) (v3 : Value) (fp3 : Seg) (v4 : Value) (fp4 : Seg) (v5 : Value) (fp5 : Seg) (v6 : Value) (fp6 : Seg) (v7 : Value) (fp7 : Seg) (v8 : Value) (fp8 : Seg) (v9 : Value) (fp9 : Seg) (v11 : Value) (fp11 : Seg) (u12 : Value) (v13 : Value) (fp13 : Seg) (fp15 : Seg), Q r2 r3 r4 r5 r6 r7 r8 r9 r10 r11 r13 r14 r15 ∧ e = .returned ((pq b1)) ∧ I64 r2 ∧ OwnSl H cRaw 23 v3 r3 fp3 ∧ OwnMp H kInt cRaw v4 r4 fp4 ∧ OwnSl H (cInt .i64) 3 v5 r5 fp5 ∧ OwnSl H (cInt .i64) 3 v6 r6 fp6 ∧ OwnSl H (cInt .i64) 3 v7 r7 fp7 ∧ OwnSl H (cInt .i64) 3 v8 r8 fp8 ∧ OwnSl H (cInt .i64) 3 v9 r9 fp9 ∧ I64 r10 ∧ OwnSl H cF 58 v11 r11 fp11 ∧ IsF u12 ∧ OwnSl H (cPair cBool (cSl (cInt .i64))) 50 v13 r13 fp13 ∧ IsAr 3 r15 fp15 ∧ St w0 H ([(b1, oc #[i6 r2, v3, v4, v5, v6, v7, v8, v9, i6 r10, v11, u12, v13, .bool r14] 60)] ++ (fp3 ++ (fp4 ++ (fp5 ++ (fp6 ++ (fp7 ++ (fp8 ++ (fp9 ++ (fp11 ++ (fp13 ++ (fp15 ++ L))))))))))) w' := by
 unfold V_newSolver at hV
 refine enter func16 rfl ntmps16 rfl (lk_args_cons (d := 0) (v := i6 n_1) rfl (lk_args_cons (d := 1) (v := v_4) rfl (lk_args_nil _))) ?_
 refine WC.sr ?_
 refine R hS ?_
 refine WL.nx ?_
 refine WC.seq ?_
 refine WC.drawna (C := St w0 H (L)) [[], [], [], [2], [2, 3], [], [5], [5, 6], [], [8], [8, 9], [], [11], [11, 12], [0, 1, 2, 3, 4, 5, 6, 7, 8, 9, 10, 11, 12, 13], [0, 1, 2, 3, 4, 5, 6, 7, 8, 9, 10, 11, 12, 13, 14], [0, 1, 2, 3, 4, 5, 6, 7, 8, 9, 10, 11, 12, 13, 14, 15]] [1, 4, 7, 10, 13, 15] [0, 2, 3, 5, 6, 8, 9, 11, 12] [1, 4, 7, 10, 13] [14, 15, 16] mixed (by kernel_rfl) (hS.drawn _) (fun τ hτ => ?_)
 clear hS w
 refine Dm fun q_6 hq_7 => ?_
 refine Dm fun q_8 hq_9 => ?_
 obtain ⟨hi_13, hV⟩ := hV
 refine Wd.run rfl rfl rfl rfl (fun _ => ex_add rfl rfl hi_13) fun q_10 hq_11 => ?_
 refine Dm fun q_14 hq_15 => ?_
 obtain ⟨hi_19, hV⟩ := hV
 refine Wd.run rfl rfl rfl rfl (fun _ => ex_add rfl rfl hi_19) fun q_16 hq_17 => ?_
 refine Dm fun q_20 hq_21 => ?_
 obtain ⟨hi_25, hV⟩ := hV
 refine Wd.run rfl rfl rfl rfl (fun _ => ex_add rfl rfl hi_25) fun q_22 hq_23 => ?_
 refine Dm fun q_26 hq_27 => ?_
 obtain ⟨hi_31, hV⟩ := hV
 refine Wd.run rfl rfl rfl rfl (fun _ => ex_add rfl rfl hi_31) fun q_28 hq_29 => ?_
 obtain ⟨hm_32, hV⟩ := hV
 obtain ⟨hm_33, hV⟩ := hV
 obtain ⟨hm_34, hV⟩ := hV
 obtain ⟨hm_35, hV⟩ := hV
 refine Wd.allocs (τ := τ) (post := [14, 15, 16]) (S := [⟨1, 9, fun v fp => OwnMp H kInt cRaw v ([] : List (Int × Raw)) fp⟩, ⟨4, 12, fun v fp => OwnSl H (cInt .i64) 3 v (List.replicate (n_1 + 1).toNat (0 : Int)) fp⟩, ⟨7, 15, fun v fp => OwnSl H (cInt .i64) 3 v (List.replicate (n_1 + 1).toNat (0 : Int)) fp⟩, ⟨10, 18, fun v fp => OwnSl H (cInt .i64) 3 v (List.replicate (n_1 + 1).toNat (0 : Int)) fp⟩, ⟨13, 21, fun v fp => OwnSl H cF 58 v (List.replicate (n_1 + 1).toNat ()) fp⟩]) ⟨hq_29, hq_27, hq_23, hq_21, hq_17, hq_15, hq_11, hq_9, hq_7, trivial⟩ hτ ⟨⟨_, rfl, rfl, rfl, rfl, rfl, rfl, ?_⟩, ⟨_, rfl, rfl, rfl, rfl, rfl, rfl, ?_⟩, ⟨_, rfl, rfl, rfl, rfl, rfl, rfl, ?_⟩, ⟨_, rfl, rfl, rfl, rfl, rfl, rfl, ?_⟩, ⟨_, rfl, rfl, rfl, rfl, rfl, rfl, ?_⟩, trivial⟩ (fun g_36 hg_37 => ?_)
 exact fun L w hS Q k => WL.makeMap (κ := Int) (ν := Raw) (kc := kInt) (c := cRaw) rfl hS fun v w fp h hS => k v fp w h hS
 exact fun L w hS Q k => WL.make (c := (cInt .i64)) (z0 := (0 : Int)) rfl underlying23 info3 rfl ⟨rfl, I64.has (by unfold I64; omega)⟩ rfl rfl hm_32.1 hm_32.2.1 hm_32.2.2 hS fun v w fp h hS => k v fp w h hS
 exact fun L w hS Q k => WL.make (c := (cInt .i64)) (z0 := (0 : Int)) rfl underlying23 info3 rfl ⟨rfl, I64.has (by unfold I64; omega)⟩ rfl rfl hm_33.1 hm_33.2.1 hm_33.2.2 hS fun v w fp h hS => k v fp w h hS
 exact fun L w hS Q k => WL.make (c := (cInt .i64)) (z0 := (0 : Int)) rfl underlying23 info3 rfl ⟨rfl, I64.has (by unfold I64; omega)⟩ rfl rfl hm_34.1 hm_34.2.1 hm_34.2.2 hS fun v w fp h hS => k v fp w h hS
 exact fun L w hS Q k => WL.make (c := cF) (z0 := ()) rfl underlying57 info58 rfl (cF_mk ⟨_, rfl, by decide⟩) rfl rfl hm_35.1 hm_35.2.1 hm_35.2.2 hS fun v w fp h hS => k v fp w h hS
 obtain ⟨h_39, h_41, h_43, h_45, h_47, hZZ⟩ := hg_37
 clear hZZ
 refine Wd.cls (C := St w0 H ((g_36 1).2 ++ ((g_36 4).2 ++ ((g_36 7).2 ++ ((g_36 10).2 ++ ((g_36 13).2 ++ L)))))) (fun w h => by simpa only [List.map_cons, List.map_nil, List.flatten_cons, List.flatten_nil, List.append_assoc, List.append_nil, List.nil_append, List.cons_append] using h) ?_
 simp only [List.map_cons, List.map_nil, List.cons_append, List.nil_append]
 generalize (g_36 1).1 = v_48 at *
 generalize (g_36 1).2 = fp_49 at *
 generalize (g_36 4).1 = v_50 at *
 generalize (g_36 4).2 = fp_51 at *
 generalize (g_36 7).1 = v_52 at *
 generalize (g_36 7).2 = fp_53 at *
 generalize (g_36 10).1 = v_54 at *
 generalize (g_36 10).2 = fp_55 at *
 generalize (g_36 13).1 = v_56 at *
 generalize (g_36 13).2 = fp_57 at *
 clear g_36
 refine Wd.run rfl rfl rfl rfl (fun _ => ex_build (vs := [i6 n_1, v_48, v_50, v_52, v_54, v_56, (.float .f64 4607182418800017408)]) (zc := #[i6 0, ns, .map none, ns, ns, ns, ns, ns, i6 0, ns, (.float .f64 0), ns, .bool false]) (cs := #[i6 n_1, ns, v_48, v_50, v_52, v_54, ns, ns, i6 0, v_56, (.float .f64 4607182418800017408), ns, .bool false]) (places := #[(0, 1), (1, 1), (2, 1), (3, 1), (4, 1), (5, 1), (6, 1), (7, 1), (8, 1), (9, 1), (10, 1), (11, 1), (12, 1)]) underlying60 zeroValue60 (fun w => by simp [sizeOf22, sizeOf23, sizeOf28, sizeOf3, sizeOf4, sizeOf56, sizeOf57, sizeOf58]) rfl ⟨rfl, rfl, rfl, rfl, rfl, rfl, rfl, trivial⟩ rfl (by simp [Instr.fill, cells_int, cells_bool, cells_slice, cells_flt, cells_one (OwnMp.one h_39), cells_one (OwnSl.one h_41), cells_one (OwnSl.one h_43), cells_one (OwnSl.one h_45), cells_one (OwnSl.one h_47)])) fun q_58 hq_59 => ?_
 refine Wd.turn rfl rfl rfl fun w hS => ?_
 refine WL.box (arr := #[i6 n_1, ns, v_48, v_50, v_52, v_54, ns, ns, i6 0, v_56, (.float .f64 4607182418800017408), ns, .bool false]) rfl rfl rfl hS ?_
 clear hS
 intro b_68 w hS
 refine WL.nil (DQ.mk2 (C' := St w0 H ([(b_68, oc #[i6 n_1, ns, v_48, v_50, v_52, v_54, ns, ns, i6 0, v_56, (.float .f64 4607182418800017408), ns, .bool false] 60)] ++ (fp_49 ++ (fp_51 ++ (fp_53 ++ (fp_55 ++ (fp_57 ++ L))))))) hS ⟨il, il, il, il, il, il, il, il, il, il, trivial⟩ ?_)
 clear hS w
 refine Wd.run rfl rfl rfl rfl (fun _ => ex_assign rfl) fun q_71 hq_72 => ?_
 refine Wd.nil fun w hS => ?_
 refine WQ.next ?_
 refine Sb [(1, v_4), (5, (pq b_68))] ?_
 refine WC.seq ?_
 refine WC.sr ?_
 refine R hS ?_
 have hl_73 : Len clauses_3 := h_5.bound
 replace hV := hV hl_73
 refine Rn hS (ex_len_sl underlying22 rfl h_5) ?_
 refine R hS ?_
 refine WL.nx ?_
 refine WC.block ?_
 replace hS := hS.nilseg
 replace hS := hS.nilseg
 replace hS := hS.nilseg
 replace hS := hS.nilseg
 replace hS := hS.nilseg
 replace hS := hS.f2.f11.f4.f5.f11.f11.f11.f11.f10.f11
 obtain ⟨I_212, mu_213, hI_261, hV⟩ := hV
 refine WC.loop (σ := (List Raw) × (List (Int × Raw)) × LI × LI × LI × LI × LI × Int × (List (Bool × LI)) × Bool × Arena × Int) (fun s a w => ∃ (c_121 : List Raw) (c_125 : List (Int × Raw)) (c_129 : LI) (c_134 : LI) (c_139 : LI) (c_144 : LI) (c_149 : LI) (c_153 : Int) (c_156 : List (Bool × LI)) (c_160 : Bool) (A_161 : Arena) (x_164 : Int) (v_122 : Value) (fp_123 : Seg) (fp_126 : Seg) (v_130 : Value) (fp_131 : Seg) (v_135 : Value) (fp_136 : Seg) (v_140 : Value) (fp_141 : Seg) (v_145 : Value) (fp_146 : Seg) (v_150 : Value) (fp_151 : Seg) (v_157 : Value) (fp_158 : Seg) (fp_162 : Seg), s = (c_121, c_125, c_129, c_134, c_139, c_144, c_149, c_153, c_156, c_160, A_161, x_164) ∧ I_212 (c_121, c_125, c_129, c_134, c_139, c_144, c_149, c_153, c_156, c_160, A_161, x_164) ∧ OwnSl H cRaw 23 v_122 c_121 fp_123 ∧ OwnMp H kInt cRaw v_48 c_125 fp_126 ∧ OwnSl H (cInt .i64) 3 v_130 c_129 fp_131 ∧ OwnSl H (cInt .i64) 3 v_135 c_134 fp_136 ∧ OwnSl H (cInt .i64) 3 v_140 c_139 fp_141 ∧ OwnSl H (cInt .i64) 3 v_145 c_144 fp_146 ∧ OwnSl H (cInt .i64) 3 v_150 c_149 fp_151 ∧ I64 c_153 ∧ OwnSl H (cPair cBool (cSl (cInt .i64))) 50 v_157 c_156 fp_158 ∧ IsAr 3 A_161 fp_162 ∧ I64 x_164 ∧ St w0 H ([(b_68, oc #[i6 n_1, v_122, v_48, v_130, v_135, v_140, v_145, v_150, i6 c_153, v_56, (.float .f64 4607182418800017408), v_157, .bool c_160] 60)] ++ (fp_123 ++ (fp_126 ++ (fp_131 ++ (fp_136 ++ (fp_141 ++ (fp_146 ++ (fp_151 ++ (fp_57 ++ (fp_158 ++ (fp_162 ++ L))))))))))) w ∧ Fr 35 [(5, (pq b_68)), (24, v_4), (25, i6 (clauses_3.length : Int)), (26, i6 x_164)] a) mu_213 (([] : List Raw), ([] : List (Int × Raw)), (List.replicate (n_1 + 1).toNat (0 : Int)), (List.replicate (n_1 + 1).toNat (0 : Int)), (List.replicate (n_1 + 1).toNat (0 : Int)), ([] : LI), ([] : LI), 0, ([] : List (Bool × LI)), false, ([] : Arena), 0) ?_ ?_
 exact fun a ha => ⟨([] : List Raw), ([] : List (Int × Raw)), (List.replicate (n_1 + 1).toNat (0 : Int)), (List.replicate (n_1 + 1).toNat (0 : Int)), (List.replicate (n_1 + 1).toNat (0 : Int)), ([] : LI), ([] : LI), 0, ([] : List (Bool × LI)), false, ([] : Arena), 0, ns, ([] : Seg), fp_49, v_50, fp_51, v_52, fp_53, v_54, fp_55, ns, ([] : Seg), ns, ([] : Seg), ns, ([] : Seg), ([] : Seg), rfl, hI_261, OwnSl.nil, h_39, h_41, h_43, h_45, OwnSl.nil, OwnSl.nil, (by unfold I64; omega), OwnSl.nil, (show IsAr 3 [] ([] : Seg) from rfl), (by unfold I64; omega), hS, ha.os⟩
 clear hS hI_261
 rintro _ a w ⟨c_121, c_125, c_129, c_134, c_139, c_144, c_149, c_153, c_156, c_160, A_161, x_164, v_122, fp_123, fp_126, v_130, fp_131, v_135, fp_136, v_140, fp_141, v_145, fp_146, v_150, fp_151, v_157, fp_158, fp_162, rfl, hI, h_124, h_127, h_132, h_137, h_142, h_147, h_152, hr_154, h_159, hA_163, hr_165, hS, ha⟩
 refine in_frame ha ?_
 clear ha
 replace hV := hV _ hI
 clear hI
 refine WC.sr ?_
 refine R hS ?_
 refine WL.nx ?_
 refine WC.seq ?_
 refine Cd ?_ ?_
 intro hc_260
 replace hV := hV.1 (od hc_260)
 refine WC.skip ?_
 refine WQ.next ?_
 refine WC.seq ?_
 refine WC.block ?_
 refine WC.sr ?_
 obtain ⟨hin_216, hV⟩ := hV
 refine Rx hS (ex_index underlying22 sizeOf23 rfl rfl h_5 hin_216) ?_
 intro p_217 hp_218
 refine Rx hS (ex_load isAgg23 rfl rfl hp_218) ?_
 intro u_221 hu_222
 replace hu_222 := cSl_rep hu_222
 refine R hS ?_
 refine WL.nx ?_
 refine WC.region ?_
 iterate 2 refine R hS ?_
 replace hS := hS.f11.f11.f11.f11.f11.f11.f11.f11.f11.f11.f11
 refine Rc (enters0 (vs := [(pq b_68), u_221]) call25 ⟨rfl, rfl, trivial⟩) (S_add  hr_2 h_124 h_127 h_132 h_137 h_142 h_147 h_152 hr_154 h_47 (show IsF (.float .f64 4607182418800017408) from ⟨_, rfl, by decide⟩) h_159 hA_163 hu_222 hS hV) ?_
 clear hV hS
 rintro _ w ⟨c_223, m_227, c_230, c_234, c_238, c_242, c_246, c_248, A_249, v_224, fp_225, fp_228, v_231, fp_232, v_235, fp_236, v_239, fp_240, v_243, fp_244, fp_250, hV, rfl, h_226, h_229, h_233, h_237, h_241, h_245, hr_247, hA_251, hS⟩
 refine ⟨_, rfl, ?_⟩
 refine WL.nil ?_
 refine WQ.out nofun ?_
 refine WQ.next ?_
 refine WC.region ?_
 obtain ⟨hi_259, hV⟩ := hV
 iterate 2 refine R hS ?_
 refine WL.nil ?_
 replace hS := hS.f11.f11.f11.f11.f11.f11.f11.f11.f11.f11.f11
 exact Wt fun a ha => ⟨(c_223, m_227, c_230, c_234, c_238, c_242, c_149, c_246, c_156, c_248, A_249, (x_164 + 1)), ⟨c_223, m_227, c_230, c_234, c_238, c_242, c_149, c_246, c_156, c_248, A_249, (x_164 + 1), v_224, fp_225, fp_228, v_231, fp_232, v_235, fp_236, v_239, fp_240, v_243, fp_244, v_150, fp_151, v_157, fp_158, fp_250, rfl, hV.1, h_226, h_229, h_233, h_237, h_241, h_245, h_152, hr_247, h_159, hA_251, hi_259, hS, ha.os⟩, hV.2⟩
 intro hc_260
 replace hV := hV.2 (ov hc_260)
 refine WC.exit ?_
 refine Wp ?_
 refine Wp ?_
 refine WQ.hit ?_
 refine WQ.next ?_
 refine WC.sr ?_
 iterate 2 refine R hS ?_
 refine WL.nx ?_
 refine WC.ret ?_
 replace hS := hS.f11.f11.f11.f11.f11.f11.f11.f11.f11.f11.f11
 exact leave1 rfl rfl (⟨n_1, c_121, c_125, c_129, c_134, c_139, c_144, c_149, c_153, (List.replicate (n_1 + 1).toNat ()), c_156, c_160, A_161, b_68, v_122, fp_123, v_48, fp_126, v_130, fp_131, v_135, fp_136, v_140, fp_141, v_145, fp_146, v_150, fp_151, v_56, fp_57, (.float .f64 4607182418800017408), v_157, fp_158, fp_162, hV, rfl, hr_2, h_124, h_127, h_132, h_137, h_142, h_147, h_152, hr_154, h_47, ⟨_, rfl, by decide⟩, h_159, hA_163, hS⟩)

theorem S_Solve {w0 : World} {H : View} {L : Seg} {w : World} {n_1 : Int} {v_4 : Value} {clauses_3 : List LI} {v_7 : Value} {suppose_6 : LI} {Q : Bool → (List Bool) → LI → (List (Bool × LI)) → (Option Int) → Prop} (hr_2 : I64 n_1) (h_5 : IsSl H (cSl (cInt .i64)) v_4 clauses_3) (h_8 : IsSl H (cInt .i64) v_7 suppose_6) (hS : St w0 H (L) w) (hV : V_Solve n_1 clauses_3 suppose_6 Q) :
 Calls Tryz.prog 7 #[i6 n_1, v_4, v_7] w fun e w' => ∃ (r1 : Bool) (r2 : List Bool) (r3 : LI) (r4 : List (Bool × LI)) (r5 : Option Int) (v2 : Value) (v3 : Value) (v4 : Value) (H' : View), Q r1 r2 r3 r4 r5 ∧ e = .returned (.tuple #[.agg #[.bool r1, v2, v3, v4], errV 46 r5]) ∧ View.le H H' ∧ IsSl H' cBool v2 r2 ∧ IsSl H' (cInt .i64) v3 r3 ∧ IsSl H' (cPair cBool (cSl (cInt .i64))) v4 r4 ∧ St w0 H' (L) w' := by
 unfold V_Solve at hV
 refine enter func7 rfl ntmps7 rfl (lk_args_cons (d := 0) (v := i6 n_1) rfl (lk_args_cons (d := 1) (v := v_4) rfl (lk_args_cons (d := 2) (v := v_7) rfl (lk_args_nil _)))) ?_
 refine WC.sr ?_
 refine WL.alloc (arr := #[.bool false, ns, ns, ns]) rfl zeroValue30 rfl hS ?_
 clear hS
 intro b_9 w hS
 refine R hS ?_
 refine WL.nx ?_
 refine WC.seq ?_
 refine WC.sr ?_
 iterate 3 refine R hS ?_
 refine Rc (enters0 (vs := [i6 n_1, v_4, v_7]) call15 ⟨rfl, rfl, rfl, trivial⟩) (S_checked  hr_2 h_5 h_8 hS hV) ?_
 clear hV hS
 rintro _ w ⟨r_14, hV, rfl, hS⟩
 refine ⟨_, rfl, ?_⟩
 refine R hS ?_
 refine WL.nx ?_
 refine WC.sr ?_
 refine R hS ?_
 refine Rn hS (ex_err_neq (T := 46) (e := r_14) iface32 rfl rfl) ?_
 refine WL.nx ?_
 refine Cd ?_ ?_
 intro hc_95
 replace hV := hV.1 (od hc_95)
 refine WC.sr ?_
 refine Rn hS (ex_build (vs := []) (zc := #[.bool false, ns, ns, ns]) (cs := #[.bool false, ns, ns, ns]) (places := #[(0, 1), (1, 1), (2, 1), (3, 1)]) underlying30 zeroValue30 (fun w => by simp [sizeOf23, sizeOf24, sizeOf28, sizeOf4]) rfl trivial rfl (by simp [Instr.fill, cells_int, cells_bool, cells_slice, cells_flt])) ?_
 refine R hS ?_
 refine St1 #[.bool false, ns, ns, ns] sizeOf30 hS ?_
 clear hS
 intro w hS
 refine R hS ?_
 refine WL.nx ?_
 refine Sb [(6, (pq b_9)), (7, (errV 46 r_14))] ?_
 refine WC.ret ?_
 refine Wp ?_
 have hl_19 := load_own_agg (P := Tryz.prog) (cs := [.bool false, ns, ns, ns]) isAgg30 sizeOf30 hS rfl
 replace hS := hS.drop
 exact leavect (il) rfl rfl rfl hl_19 (⟨false, ([] : List Bool), ([] : LI), ([] : List (Bool × LI)), r_14, ns, ns, ns, H, hV, rfl, (View.le.refl _), IsSl.nil, IsSl.nil, IsSl.nil, hS⟩)
 intro hc_95
 replace hV := hV.2 (ov hc_95)
 refine WC.skip ?_
 refine WQ.next ?_
 refine WC.sr ?_
 iterate 2 refine R hS ?_
 refine Rc (enters0 (vs := [i6 n_1, v_4]) call16 ⟨rfl, rfl, trivial⟩) (S_newSolver  hr_2 h_5 hS hV) ?_
 clear hV hS
 rintro _ w ⟨r_23, r_25, r_30, r_35, r_40, r_45, r_50, r_55, r_60, r_62, r_70, r_75, A_80, b_21, v_26, fp_27, v_31, fp_32, v_36, fp_37, v_41, fp_42, v_46, fp_47, v_51, fp_52, v_56, fp_57, v_63, fp_64, u_68, v_71, fp_72, fp_77, hV, rfl, hr_24, h_28, h_33, h_38, h_43, h_48, h_53, h_58, hr_61, h_65, h_69, h_73, hA_78, hS⟩
 refine ⟨_, rfl, ?_⟩
 refine R hS ?_
 replace hS := hS.f11.f11.f11.f11.f11.f11.f11.f11.f11.f11.f11
 refine Rc (enters0 (vs := [(pq b_21), v_7]) call17 ⟨rfl, rfl, trivial⟩) (S_run  hr_24 h_28 h_33 h_38 h_43 h_48 h_53 h_58 hr_61 h_65 h_69 h_73 hA_78 h_8 hS hV) ?_
 clear hV hS
 rintro _ w ⟨r_82, r_83, r_86, r_89, v_84, v_87, v_90, H_92, hV, rfl, le_93, h_85, h_88, h_91, hS⟩
 refine ⟨_, rfl, ?_⟩
 refine St1 #[.bool r_82, v_84, v_87, v_90] sizeOf30 hS ?_ (cs := [.bool r_82, v_84, v_87, v_90]) (hone := ⟨rfl, (IsSl.one h_85), (IsSl.one h_88), (IsSl.one h_91), trivial⟩)
 clear hS
 intro w hS
 refine R hS ?_
 refine WL.nx ?_
 refine Sb [(6, (pq b_9)), (7, .nilIface)] ?_
 refine WC.ret ?_
 have hl_94 := load_own_agg (P := Tryz.prog) (cs := [.bool r_82, v_84, v_87, v_90]) isAgg30 sizeOf30 hS rfl
 replace hS := hS.drop
 exact leavect (il) rfl rfl rfl hl_94 (⟨r_82, r_83, r_86, r_89, none, v_84, v_87, v_90, H_92, hV, rfl, ((View.le.refl _).trans le_93), h_85, h_88, h_91, hS⟩)

theorem S_SatSolves {w0 : World} {H : View} {L : Seg} {w : World} {n_1 : Int} {v_4 : Value} {clauses_3 : List LI} {v_7 : Value} {suppose_6 : LI} {v_10 : Value} {model_9 : List Bool} {Q : Bool → Prop} (hr_2 : I64 n_1) (h_5 : IsSl H (cSl (cInt .i64)) v_4 clauses_3) (h_8 : IsSl H (cInt .i64) v_7 suppose_6) (h_11 : IsSl H cBool v_10 model_9) (hG : Glob H) (hS : St w0 H (L) w) (hV : V_SatSolves n_1 clauses_3 suppose_6 model_9 Q) :
 Calls Tryz.prog 3 #[i6 n_1, v_4, v_7, v_10] w fun e w' => ∃ (r1 : Bool), Q r1 ∧ e = .returned (.bool r1) ∧ St w0 H (L) w' := by
 unfold V_SatSolves at hV
 refine enter func3 rfl ntmps3 rfl (lk_args_cons (d := 0) (v := i6 n_1) rfl (lk_args_cons (d := 1) (v := v_4) rfl (lk_args_cons (d := 2) (v := v_7) rfl (lk_args_cons (d := 3) (v := v_10) rfl (lk_args_nil _))))) ?_
 refine WC.sr ?_
 refine R hS ?_
 refine WL.nx ?_
 refine WC.sr ?_
 refine R hS ?_
 refine Rc (enters0 (vs := [v_4]) call4 ⟨rfl, trivial⟩) (S_copied  h_5 hS hV) ?_
 clear hV hS
 rintro _ w ⟨r_12, v_13, fp_14, H_17, hV, rfl, le_18, h_15, hS⟩
 refine ⟨_, rfl, ?_⟩
 refine R hS ?_
 refine WL.nx ?_
 refine WC.sr ?_
 refine WL.build0 (α := Int) (c := (cInt .i64)) rfl underlying23 sizeOf3 hS ?_
 clear hS
 intro v_20 w fp_21 h_22 hS
 refine R hS ?_
 obtain ⟨hr_23, hV⟩ := hV
 refine WL.append (c := (cInt .i64)) (xs := ([] : LI)) (ys := suppose_6) rfl underlying23 info3 rfl rfl rfl hS h_22 ((h_8.mono le_18).src hS) hr_23.1 hr_23.2 ?_
 clear hS
 intro v_24 w fp_25 h_26 hS
 rw [List.nil_append] at h_26
 refine R hS ?_
 refine WL.nx ?_
 refine WC.sr ?_
 iterate 2 refine R hS ?_
 refine Rc (enters0 (vs := [i6 n_1, v_4]) call5 ⟨rfl, rfl, trivial⟩) (S_Fault  hr_2 (h_5.mono le_18) hS hV) ?_
 clear hV hS
 rintro _ w ⟨r_28, hV, rfl, hr_29, hS⟩
 refine ⟨_, rfl, ?_⟩
 refine R hS ?_
 refine WL.nx ?_
 refine WC.sr ?_
 iterate 2 refine R hS ?_
 refine Rc (enters0 (vs := [i6 n_1, v_7]) call6 ⟨rfl, rfl, trivial⟩) (S_lawLiterals  hr_2 (h_8.mono le_18) hS hV) ?_
 clear hV hS
 rintro _ w ⟨r_31, hV, rfl, hS⟩
 refine ⟨_, rfl, ?_⟩
 refine R hS ?_
 refine WL.nx ?_
 refine Sb [(0, i6 n_1), (1, v_4), (2, v_7), (3, v_10), (9, v_13), (10, v_24), (11, i6 r_28), (12, .bool r_31)] ?_
 obtain ⟨J_39, hJ_40, hV⟩ := hV
 refine WC.meet (fun a w => ∃ (f_37 : Int), J_39 f_37 ∧ I64 f_37 ∧ St w0 H_17 (fp_14 ++ (fp_25 ++ L)) w ∧ Fr 228 [(0, i6 n_1), (1, v_4), (2, v_7), (3, v_10), (9, v_13), (10, v_24), (11, i6 f_37)] a) ?_ ?_
 rintro a w ⟨f_37, hI, hr_38, hS, ha⟩
 refine in_frame ha ?_
 clear ha hV
 have hV := hJ_40 _ hI
 clear hI hJ_40
 refine WC.seq ?_
 refine WC.seq ?_
 refine WC.via (m := [(0, i6 n_1), (1, v_4), (2, v_7), (3, v_10), (9, v_13), (10, v_24), (11, i6 f_37), (49, .bool (decide ((f_37 = 0) ∧ (24 < n_1))))]) ?_ ?_
 refine WC.region ?_
 iterate 3 refine R hS ?_
 rcases bft (decide (f_37 = 0)) with hg_48 | hg_48
 iterate 3 refine R hS ?_
 refine WL.up (s := 49) rfl (and_t hg_48 : decide (24 < n_1) = decide ((f_37 = 0) ∧ (24 < n_1))) ?_
 exact WL.nil At.os
 iterate 3 refine R hS ?_
 refine WL.up (s := 49) rfl (and_f hg_48 : false = decide ((f_37 = 0) ∧ (24 < n_1))) ?_
 exact WL.nil At.os
 refine WQ.next ?_
 refine Cd ?_ ?_
 intro hc_1566
 replace hV := hV.1 (od hc_1566)
 refine WC.sr ?_
 refine R hS ?_
 refine WL.nx ?_
 replace hS := hS.drop
 replace hS := hS.drop
 refine WC.ret ?_
 refine Wp ?_
 exact leave1 rfl rfl (⟨true, hV, rfl, (hS.weaken ((View.le.refl _).trans le_18))⟩)
 intro hc_1566
 replace hV := hV.2 (ov hc_1566)
 refine WC.skip ?_
 refine WQ.next ?_
 refine WC.sr ?_
 iterate 3 refine R hS ?_
 obtain ⟨H_50, le_51, h_52, hS⟩ : ∃ K, View.le H_17 K ∧ IsSl K (cSl (cInt .i64)) v_13 r_12 ∧ St w0 K (fp_25 ++ L) w := ⟨_, hS.put_le, h_15.share hS.put_le, hS.freeze⟩
 obtain ⟨H_53, le_54, h_55, hS⟩ : ∃ K, View.le H_50 K ∧ IsSl K (cInt .i64) v_24 suppose_6 ∧ St w0 K (L) w := ⟨_, hS.put_le, (h_26.mono le_51).share hS.put_le, hS.freeze⟩
 refine Rc (enters0 (vs := [i6 n_1, v_13, v_24]) call7 ⟨rfl, rfl, rfl, trivial⟩) (S_Solve  hr_2 (h_52.mono le_54) h_55 hS hV) ?_
 clear hV hS
 rintro _ w ⟨r_56, r_57, r_60, r_63, r_66, v_58, v_61, v_64, H_67, hV, rfl, le_68, h_59, h_62, h_65, hS⟩
 refine ⟨_, rfl, ?_⟩
 iterate 3 refine R hS ?_
 refine WL.alloc (arr := #[.bool false, ns, ns, ns]) rfl zeroValue30 rfl hS ?_
 clear hS
 intro b_69 w hS
 refine St1 #[.bool r_56, v_58, v_61, v_64] sizeOf30 hS ?_ (cs := [.bool r_56, v_58, v_61, v_64]) (hone := ⟨rfl, (IsSl.one h_59), (IsSl.one h_62), (IsSl.one h_65), trivial⟩)
 clear hS
 intro w hS
 refine R hS ?_
 refine WL.nx ?_
 refine WC.sr ?_
 iterate 2 refine R hS ?_
 refine Rc (enters0 (vs := [(errV 46 r_66), i6 f_37]) call8 ⟨rfl, rfl, trivial⟩) (S_Error  hr_38 ((((hG.mono le_18).mono le_51).mono le_54).mono le_68) hS hV) ?_
 clear hV hS
 rintro _ w ⟨r_74, hV, rfl, hS⟩
 refine ⟨_, rfl, ?_⟩
 refine R hS ?_
 refine WL.nx ?_
 refine Sb [(0, i6 n_1), (1, v_4), (2, v_7), (3, v_10), (9, v_13), (10, v_24), (11, i6 f_37), (13, (pq b_69)), (15, .bool r_74)] ?_
 refine WC.sr ?_
 iterate 2 refine R hS ?_
 refine Rc (enters0 (vs := [v_13, v_4]) call9 ⟨rfl, rfl, trivial⟩) (S_sameClauses  ((h_52.mono le_54).mono le_68) ((((h_5.mono le_18).mono le_51).mono le_54).mono le_68) hS hV) ?_
 clear hV hS
 rintro _ w ⟨r_76, hV, rfl, hS⟩
 refine ⟨_, rfl, ?_⟩
 refine R hS ?_
 refine WL.nx ?_
 refine WC.sr ?_
 iterate 2 refine R hS ?_
 refine Rc (enters0 (vs := [v_24, v_7]) call10 ⟨rfl, rfl, trivial⟩) (S_sameInts  (h_55.mono le_68) ((((h_8.mono le_18).mono le_51).mono le_54).mono le_68) hS hV) ?_
 clear hV hS
 rintro _ w ⟨r_78, hV, rfl, hS⟩
 refine ⟨_, rfl, ?_⟩
 refine R hS ?_
 refine WL.nx ?_
 refine WC.seq ?_
 refine WC.seq ?_
 refine WC.via (m := [(0, i6 n_1), (1, v_4), (2, v_7), (3, v_10), (11, i6 f_37), (13, (pq b_69)), (75, .bool (decide ((((!r_74) = true) ∨ ((!r_76) = true)) ∨ ((!r_78) = true))))]) ?_ ?_
 refine WC.region ?_
 iterate 3 refine R hS ?_
 rcases bft (!r_74) with hg_80 | hg_80
 iterate 3 refine R hS ?_
 refine WL.up (s := 71) rfl (or_t ((dec_true _).symm.trans hg_80) : true = decide (((!r_74) = true) ∨ ((!r_76) = true))) ?_
 refine R hS ?_
 refine WL.skip_g rfl rfl rfl (or_t ((dec_true _).symm.trans hg_80)).symm rfl rfl ?_
 refine WL.skip_g rfl rfl rfl (or_t ((dec_true _).symm.trans hg_80)).symm rfl rfl ?_
 refine Rn hS (ex_pick_t rfl (or_t ((dec_true _).symm.trans hg_80)).symm rfl) ?_
 refine WL.up (s := 75) rfl (or_t (or_t ((dec_true _).symm.trans hg_80)).symm : true = decide ((((!r_74) = true) ∨ ((!r_76) = true)) ∨ ((!r_78) = true))) ?_
 exact WL.nil At.os
 iterate 3 refine R hS ?_
 refine WL.up (s := 71) rfl ((dec_true _).trans (or_f ((dec_true _).symm.trans hg_80) : decide ((!r_76) = true) = decide (((!r_74) = true) ∨ ((!r_76) = true)))) ?_
 refine R hS ?_
 rcases bft (decide (((!r_74) = true) ∨ ((!r_76) = true))) with hg_81 | hg_81
 iterate 3 refine R hS ?_
 refine WL.up (s := 75) rfl (or_t hg_81 : true = decide ((((!r_74) = true) ∨ ((!r_76) = true)) ∨ ((!r_78) = true))) ?_
 exact WL.nil At.os
 iterate 3 refine R hS ?_
 refine WL.up (s := 75) rfl ((dec_true _).trans (or_f hg_81 : decide ((!r_78) = true) = decide ((((!r_74) = true) ∨ ((!r_76) = true)) ∨ ((!r_78) = true)))) ?_
 exact WL.nil At.os
 refine WQ.next ?_
 refine Cd ?_ ?_
 intro hc_1565
 replace hV := hV.1 (od hc_1565)
 refine WC.sr ?_
 refine R hS ?_
 refine WL.nx ?_
 refine Sb [(8, .bool false)] ?_
 replace hS := hS.drop
 refine WC.ret ?_
 refine Wp ?_
 exact leave1 rfl rfl (⟨false, hV, rfl, (hS.weaken (((((View.le.refl _).trans le_18).trans le_51).trans le_54).trans le_68))⟩)
 intro hc_1565
 replace hV := hV.2 (ov hc_1565)
 refine WC.skip ?_
 refine WQ.next ?_
 refine WC.seq ?_
 refine WC.sr ?_
 iterate 2 refine R hS ?_
 refine WL.nx ?_
 refine Sb [(0, i6 n_1), (1, v_4), (2, v_7), (3, v_10), (13, (pq b_69)), (77, .bool (decide (f_37 ≠ 0)))] ?_
 refine Cd ?_ ?_
 intro hc_1564
 replace hV := hV.1 (od hc_1564)
 obtain ⟨J_93, hJ_94, hV⟩ := hV
 refine WC.meet (fun a w => ∃ (x_92 : Bool), J_93 x_92 ∧ St w0 H_67 (L) w ∧ Fr 228 [(8, .bool x_92)] a) ?_ ?_
 rintro a w ⟨x_92, hI, hS, ha⟩
 refine in_frame ha ?_
 clear ha hV
 have hV := hJ_94 _ hI
 clear hI hJ_94
 refine WC.ret ?_
 refine Wp ?_
 exact leave1 rfl rfl (⟨x_92, hV, rfl, (hS.weaken (((((View.le.refl _).trans le_18).trans le_51).trans le_54).trans le_68))⟩)
 clear hJ_94
 refine WC.region ?_
 iterate 4 refine R hS ?_
 rcases bft (!r_56) with hg_95 | hg_95
 replace hV := hV.1 hg_95
 iterate 2 refine R hS ?_
 refine Ug hg_95 ?_
 have hl_96 : Len r_57 := h_59.bound
 replace hV := hV hl_96
 refine Rn hS (ex_len_sl underlying24 rfl h_59) ?_
 iterate 3 refine R hS ?_
 rcases bft (decide ((r_57.length : Int) = 0)) with hg_98 | hg_98
 replace hV := hV.1 (od hg_98)
 iterate 2 refine R hS ?_
 refine Ug hg_98 ?_
 have hl_99 : Len r_60 := h_62.bound
 replace hV := hV hl_99
 refine Rn hS (ex_len_sl underlying23 rfl h_62) ?_
 iterate 3 refine R hS ?_
 rcases bft (decide ((r_60.length : Int) = 0)) with hg_101 | hg_101
 replace hV := hV.1 (od hg_101)
 iterate 2 refine R hS ?_
 refine Ug hg_101 ?_
 have hl_102 : Len r_63 := h_65.bound
 replace hV := hV hl_102
 refine Rn hS (ex_len_sl underlying28 rfl h_65) ?_
 iterate 3 refine R hS ?_
 refine WL.nil ?_
 replace hS := hS.drop
 exact Wt fun a ha => ⟨decide ((r_63.length : Int) = 0), hV, hS, ha.os⟩
 replace hV := hV.2 (ov hg_101)
 iterate 6 refine R hS ?_
 refine WL.nil ?_
 replace hS := hS.drop
 exact Wt fun a ha => ⟨false, hV, hS, ha.os⟩
 replace hV := hV.2 (ov hg_98)
 iterate 12 refine R hS ?_
 refine WL.nil ?_
 replace hS := hS.drop
 exact Wt fun a ha => ⟨false, hV, hS, ha.os⟩
 replace hV := hV.2 hg_95
 iterate 18 refine R hS ?_
 refine WL.nil ?_
 replace hS := hS.drop
 exact Wt fun a ha => ⟨false, hV, hS, ha.os⟩
 intro hc_1564
 replace hV := hV.2 (ov hc_1564)
 refine WC.skip ?_
 refine WQ.next ?_
 refine WC.sr ?_
 refine R hS ?_
 refine Rc (enters0 (vs := [v_4]) call4 ⟨rfl, trivial⟩) (S_copied  ((((h_5.mono le_18).mono le_51).mono le_54).mono le_68) hS hV) ?_
 clear hV hS
 rintro _ w ⟨r_104, v_105, fp_106, H_109, hV, rfl, le_110, h_107, hS⟩
 refine ⟨_, rfl, ?_⟩
 refine R hS ?_
 refine WL.nx ?_
 refine WC.seq ?_
 refine WC.sr ?_
 refine R hS ?_
 replace hS := hS.f2
 refine R hS ?_
 refine WL.nx ?_
 refine Cd ?_ ?_
 intro hc_1563
 replace hV := hV.1 hc_1563
 refine WC.seq ?_
 refine WC.sr ?_
 refine R hS ?_
 refine WL.nx ?_
 refine WC.block ?_
 replace hS := hS.f2.f2
 obtain ⟨I_209, mu_210, hI_267, hV⟩ := hV
 refine WC.loop (σ := (List LI) × Int) (fun s a w => ∃ (units_174 : List LI) (i_178 : Int) (H_171 : View) (v_175 : Value) (fp_176 : Seg), s = (units_174, i_178) ∧ I_209 (units_174, i_178) ∧ View.le H_109 H_171 ∧ OwnSl H_171 (cSl (cInt .i64)) 23 v_175 units_174 fp_176 ∧ I64 i_178 ∧ St w0 H_171 ([(b_69, oc #[.bool r_56, v_58, v_61, v_64] 30)] ++ (fp_176 ++ L)) w ∧ Fr 228 [(0, i6 n_1), (2, v_7), (13, (pq b_69)), (18, v_175), (19, i6 i_178)] a) mu_210 (r_104, 0) ?_ ?_
 exact fun a ha => ⟨r_104, 0, H_109, v_105, fp_106, rfl, hI_267, (View.le.refl _), h_107, (by unfold I64; omega), hS, ha.os⟩
 clear hS hI_267
 rintro _ a w ⟨units_174, i_178, H_171, v_175, fp_176, rfl, hI, le_172, h_177, hr_179, hS, ha⟩
 refine in_frame ha ?_
 clear ha
 replace hV := hV _ hI
 clear hI
 refine WC.seq ?_
 refine WC.sr ?_
 iterate 2 refine R hS ?_
 have hl_212 : Len suppose_6 := ((((((h_8.mono le_18).mono le_51).mono le_54).mono le_68).mono le_110).mono le_172).bound
 replace hV := hV hl_212
 refine Rn hS (ex_len_sl underlying23 rfl ((((((h_8.mono le_18).mono le_51).mono le_54).mono le_68).mono le_110).mono le_172)) ?_
 refine R hS ?_
 refine WL.nx ?_
 refine Cd ?_ ?_
 intro hc_266
 replace hV := hV.1 (od hc_266)
 refine WC.skip ?_
 refine WQ.next ?_
 refine WC.seq ?_
 refine WC.block ?_
 refine WC.region ?_
 iterate 3 refine R hS ?_
 obtain ⟨hin_214, hV⟩ := hV
 refine Rx hS (ex_index underlying23 sizeOf3 rfl rfl ((((((h_8.mono le_18).mono le_51).mono le_54).mono le_68).mono le_110).mono le_172) hin_214) ?_
 intro p_215 hp_216
 refine Rx hS (ex_load isAgg3 rfl rfl hp_216) ?_
 intro u_219 hu_220
 obtain ⟨rfl, hr_221⟩ := cInt_rep hu_220
 replace hr_221 := has_I64 hr_221
 replace hV := hV hr_221
 refine WL.build1 (c := (cInt .i64)) rfl underlying23 info3 rfl rfl (cInt_mk (I64.has hr_221)) hS ?_
 clear hS
 intro v_223 w fp_224 h_225 hS
 obtain ⟨H_230, le_231, h_232, hS⟩ : ∃ K, View.le H_171 K ∧ IsSl K (cInt .i64) v_223 ([(ix suppose_6 i_178)]) ∧ St w0 K ([(b_69, oc #[.bool r_56, v_58, v_61, v_64] 30)] ++ (fp_176 ++ L)) w := ⟨_, hS.put_le, h_225.share hS.put_le, hS.freeze⟩
 refine WL.build1 (c := (cSl (cInt .i64))) rfl underlying22 info23 rfl rfl (cSl_mk h_232) hS ?_
 clear hS
 intro v_227 w fp_228 h_229 hS
 obtain ⟨hr_233, hV⟩ := hV
 replace hS := hS.f3
 refine WL.append (c := (cSl (cInt .i64))) (xs := units_174) (ys := ([[(ix suppose_6 i_178)]])) rfl underlying22 info23 rfl rfl rfl hS (h_177.mono le_231) (h_229.src hS.f2) hr_233.1 hr_233.2 ?_
 clear hS
 intro v_234 w fp_235 h_236 hS
 refine R hS ?_
 refine WL.nil ?_
 refine WQ.out nofun ?_
 refine WQ.next ?_
 refine Sb [(0, i6 n_1), (2, v_7), (13, (pq b_69)), (18, v_234), (19, i6 i_178)] ?_
 replace hS := hS.f2.drop
 refine WC.region ?_
 refine R hS ?_
 obtain ⟨hi_239, hV⟩ := hV
 iterate 2 refine R hS ?_
 refine WL.nil ?_
 replace hS := hS.f2
 exact Wt fun a ha => ⟨((units_174 ++ ([[(ix suppose_6 i_178)]])), (i_178 + 1)), ⟨(units_174 ++ ([[(ix suppose_6 i_178)]])), (i_178 + 1), H_230, v_234, fp_235, rfl, hV.1, (((View.le.refl _).trans le_172).trans le_231), h_236, hi_239, hS, ha.os⟩, hV.2⟩
 intro hc_266
 replace hV := hV.2 (ov hc_266)
 refine WC.exit ?_
 refine Wp ?_
 refine Wp ?_
 refine WQ.hit ?_
 refine WQ.next ?_
 refine WC.sr ?_
 iterate 3 refine R hS ?_
 replace hS := hS.f2
 have hL_240 := hS.freeze
 refine Rc (enters0 (vs := [v_175, v_58]) call11 ⟨rfl, rfl, trivial⟩) (S_Models  (h_177.share hS.put_le) (((h_59.mono le_110).mono le_172).mono hS.put_le) hL_240 hV) ?_
 clear hV
 rintro _ w ⟨r_241, hV, rfl, hL_242⟩
 refine ⟨_, rfl, ?_⟩
 have hB_244 := hS.back hL_242
 replace hS := hB_244
 clear hL_242 hL_240 hB_244
 refine R hS ?_
 refine WL.nx ?_
 refine Sb [(0, i6 n_1), (13, (pq b_69)), (20, .bool r_241)] ?_
 replace hS := hS.drop
 obtain ⟨J_255, hJ_256, hV⟩ := hV
 refine WC.meet (fun a w => ∃ (x_254 : Bool), J_255 x_254 ∧ St w0 H_171 (L) w ∧ Fr 228 [(8, .bool x_254)] a) ?_ ?_
 rintro a w ⟨x_254, hI, hS, ha⟩
 refine in_frame ha ?_
 clear ha hV
 have hV := hJ_256 _ hI
 clear hI hJ_256
 refine WC.ret ?_
 refine Wp ?_
 exact leave1 rfl rfl (⟨x_254, hV, rfl, (hS.weaken (((((((View.le.refl _).trans le_18).trans le_51).trans le_54).trans le_68).trans le_110).trans le_172))⟩)
 clear hJ_256
 refine WC.region ?_
 iterate 2 refine R hS ?_
 rcases bft r_241 with hg_257 | hg_257
 replace hV := hV.1 hg_257
 iterate 2 refine R hS ?_
 refine Ug hg_257 ?_
 have hl_258 : Len r_57 := ((h_59.mono le_110).mono le_172).bound
 replace hV := hV hl_258
 refine Rn hS (ex_len_sl underlying24 rfl ((h_59.mono le_110).mono le_172)) ?_
 iterate 4 refine R hS ?_
 rcases bft (decide ((r_57.length : Int) = n_1)) with hg_260 | hg_260
 replace hV := hV.1 (od hg_260)
 iterate 2 refine R hS ?_
 refine Ug hg_260 ?_
 have hl_261 : Len r_60 := ((h_62.mono le_110).mono le_172).bound
 replace hV := hV hl_261
 refine Rn hS (ex_len_sl underlying23 rfl ((h_62.mono le_110).mono le_172)) ?_
 iterate 3 refine R hS ?_
 rcases bft (decide ((r_60.length : Int) = 0)) with hg_263 | hg_263
 replace hV := hV.1 (od hg_263)
 iterate 2 refine R hS ?_
 refine Ug hg_263 ?_
 have hl_264 : Len r_63 := ((h_65.mono le_110).mono le_172).bound
 replace hV := hV hl_264
 refine Rn hS (ex_len_sl underlying28 rfl ((h_65.mono le_110).mono le_172)) ?_
 iterate 3 refine R hS ?_
 refine WL.nil ?_
 replace hS := hS.drop
 exact Wt fun a ha => ⟨decide ((r_63.length : Int) = 0), hV, hS, ha.os⟩
 replace hV := hV.2 (ov hg_263)
 iterate 6 refine R hS ?_
 refine WL.nil ?_
 replace hS := hS.drop
 exact Wt fun a ha => ⟨false, hV, hS, ha.os⟩
 replace hV := hV.2 (ov hg_260)
 iterate 12 refine R hS ?_
 refine WL.nil ?_
 replace hS := hS.drop
 exact Wt fun a ha => ⟨false, hV, hS, ha.os⟩
 replace hV := hV.2 hg_257
 iterate 19 refine R hS ?_
 refine WL.nil ?_
 replace hS := hS.drop
 exact Wt fun a ha => ⟨false, hV, hS, ha.os⟩
 intro hc_1563
 replace hV := hV.2 hc_1563
 refine WC.skip ?_
 refine WQ.next ?_
 refine WC.sr ?_
 refine R hS ?_
 refine WL.nx ?_
 refine WC.seq ?_
 refine WC.sr ?_
 refine R hS ?_
 refine WL.nx ?_
 refine WC.block ?_
 replace hS := hS.f2.f2
 obtain ⟨I_1211, mu_1212, hI_1562, hV⟩ := hV
 refine WC.loop (σ := (List LI) × Int × Int) (fun s a w => ∃ (units_893 : List LI) (xat_897 : Int) (i_899 : Int) (H_890 : View) (v_894 : Value) (fp_895 : Seg), s = (units_893, xat_897, i_899) ∧ I_1211 (units_893, xat_897, i_899) ∧ View.le H_109 H_890 ∧ OwnSl H_890 (cSl (cInt .i64)) 23 v_894 units_893 fp_895 ∧ I64 xat_897 ∧ I64 i_899 ∧ St w0 H_890 ([(b_69, oc #[.bool r_56, v_58, v_61, v_64] 30)] ++ (fp_895 ++ L)) w ∧ Fr 228 [(0, i6 n_1), (2, v_7), (3, v_10), (13, (pq b_69)), (18, v_894), (21, i6 xat_897), (22, i6 i_899)] a) mu_1212 (r_104, 0, 0) ?_ ?_
 exact fun a ha => ⟨r_104, 0, 0, H_109, v_105, fp_106, rfl, hI_1562, (View.le.refl _), h_107, (by unfold I64; omega), (by unfold I64; omega), hS, ha.os⟩
 clear hS hI_1562
 rintro _ a w ⟨units_893, xat_897, i_899, H_890, v_894, fp_895, rfl, hI, le_891, h_896, hr_898, hr_900, hS, ha⟩
 refine in_frame ha ?_
 clear ha
 replace hV := hV _ hI
 clear hI
 refine WC.seq ?_
 refine WC.sr ?_
 iterate 3 refine R hS ?_
 have hl_1214 : Len r_60 := ((h_62.mono le_110).mono le_891).bound
 replace hV := hV hl_1214
 refine Rn hS (ex_len_sl underlying23 rfl ((h_62.mono le_110).mono le_891)) ?_
 refine R hS ?_
 refine WL.nx ?_
 refine Cd ?_ ?_
 intro hc_1561
 replace hV := hV.1 (od hc_1561)
 refine WC.skip ?_
 refine WQ.next ?_
 refine WC.seq ?_
 refine WC.block ?_
 refine WC.sr ?_
 refine R hS ?_
 refine WL.nx ?_
 refine WC.seq ?_
 refine WC.sr ?_
 refine R hS ?_
 refine WL.nx ?_
 refine WC.block ?_
 replace hS := hS.f2.f2
 obtain ⟨I_1300, mu_1301, hI_1522, hV⟩ := hV
 refine WC.loop (σ := Bool × Int) (fun s a w => ∃ (once_1254 : Bool) (k_1255 : Int), s = (once_1254, k_1255) ∧ I_1300 (once_1254, k_1255) ∧ I64 k_1255 ∧ St w0 H_890 ([(b_69, oc #[.bool r_56, v_58, v_61, v_64] 30)] ++ (fp_895 ++ L)) w ∧ Fr 228 [(0, i6 n_1), (2, v_7), (3, v_10), (13, (pq b_69)), (18, v_894), (21, i6 xat_897), (22, i6 i_899), (23, .bool once_1254), (24, i6 k_1255)] a) mu_1301 (true, 0) ?_ ?_
 exact fun a ha => ⟨true, 0, rfl, hI_1522, (by unfold I64; omega), hS, ha.os⟩
 clear hS hI_1522
 rintro _ a w ⟨once_1254, k_1255, rfl, hI, hr_1256, hS, ha⟩
 refine in_frame ha ?_
 clear ha
 replace hV := hV _ hI
 clear hI
 refine WC.seq ?_
 refine WC.sr ?_
 iterate 3 refine R hS ?_
 refine WL.nx ?_
 refine Cd ?_ ?_
 intro hc_1521
 replace hV := hV.1 (od hc_1521)
 refine WC.skip ?_
 refine WQ.next ?_
 obtain ⟨J_1323, hJ_1324, hV⟩ := hV
 refine WC.meet (fun a w => ∃ (once_1322 : Bool), J_1323 once_1322 ∧ St w0 H_890 ([(b_69, oc #[.bool r_56, v_58, v_61, v_64] 30)] ++ (fp_895 ++ L)) w ∧ Fr 228 [(0, i6 n_1), (2, v_7), (3, v_10), (13, (pq b_69)), (18, v_894), (21, i6 xat_897), (22, i6 i_899), (23, .bool once_1322), (24, i6 k_1255)] a) ?_ ?_
 rintro a w ⟨once_1322, hI, hS, ha⟩
 refine in_frame ha ?_
 clear ha hV
 have hV := hJ_1324 _ hI
 clear hI hJ_1324
 refine WC.region ?_
 refine R hS ?_
 obtain ⟨hi_1344, hV⟩ := hV
 iterate 2 refine R hS ?_
 refine WL.nil ?_
 replace hS := hS.f2.f2
 exact Wt fun a ha => ⟨(once_1322, (k_1255 + 1)), ⟨once_1322, (k_1255 + 1), rfl, hV.1, hi_1344, hS, ha.os⟩, hV.2⟩
 clear hJ_1324
 refine WC.block ?_
 refine WC.quiet (C := St w0 H_890 ([(b_69, oc #[.bool r_56, v_58, v_61, v_64] 30)] ++ (fp_895 ++ L))) mixed (by kernel_rfl) (hS.drawn _) ?_
 clear hS w
 iterate 2 refine Rq ?_
 rcases bft once_1254 with hg_1325 | hg_1325
 replace hV := hV.1 hg_1325
 iterate 3 refine Rq ?_
 refine Uq hg_1325 ?_
 obtain ⟨hin_1326, hV⟩ := hV
 refine Wq.runx rfl rfl rfl (ex_index underlying23 sizeOf3 rfl rfl ((h_62.mono le_110).mono le_891) hin_1326) ?_
 intro p_1327 hp_1328
 refine Uq hg_1325 ?_
 refine Wq.runx rfl rfl rfl (ex_load isAgg3 rfl rfl hp_1328) ?_
 intro u_1331 hu_1332
 obtain ⟨rfl, hr_1333⟩ := cInt_rep hu_1332
 replace hr_1333 := has_I64 hr_1333
 replace hV := hV hr_1333
 iterate 3 refine Rq ?_
 refine Uq hg_1325 ?_
 obtain ⟨hin_1334, hV⟩ := hV
 refine Wq.runx rfl rfl rfl (ex_index underlying23 sizeOf3 rfl rfl ((h_62.mono le_110).mono le_891) hin_1334) ?_
 intro p_1335 hp_1336
 refine Uq hg_1325 ?_
 refine Wq.runx rfl rfl rfl (ex_load isAgg3 rfl rfl hp_1336) ?_
 intro u_1339 hu_1340
 obtain ⟨rfl, hr_1341⟩ := cInt_rep hu_1340
 replace hr_1341 := has_I64 hr_1341
 replace hV := hV hr_1341
 iterate 3 refine Rq ?_
 refine Wq.nil fun w hS => ?_
 refine WQ.out nofun ?_
 replace hS := hS.f2.f2
 exact Wt fun a ha => ⟨decide ((ix r_60 k_1255) ≠ (ix r_60 i_899)), hV, hS, ha.os⟩
 replace hV := hV.2 hg_1325
 iterate 13 refine Rq ?_
 refine Wq.nil fun w hS => ?_
 refine WQ.out nofun ?_
 replace hS := hS.f2.f2
 exact Wt fun a ha => ⟨false, hV, hS, ha.os⟩
 intro hc_1521
 replace hV := hV.2 (ov hc_1521)
 refine WC.exit ?_
 refine Wp ?_
 refine Wp ?_
 refine WQ.hit ?_
 refine WQ.next ?_
 refine WC.seq ?_
 refine WC.block ?_
 replace hS := hS.f2.f2
 obtain ⟨I_1439, mu_1440, hI_1520, hV⟩ := hV
 refine WC.loop (σ := Int) (fun s a w => ∃ (xat_1391 : Int), s = xat_1391 ∧ I_1439 xat_1391 ∧ I64 xat_1391 ∧ St w0 H_890 ([(b_69, oc #[.bool r_56, v_58, v_61, v_64] 30)] ++ (fp_895 ++ L)) w ∧ Fr 228 [(0, i6 n_1), (2, v_7), (3, v_10), (13, (pq b_69)), (18, v_894), (21, i6 xat_1391), (22, i6 i_899), (23, .bool once_1254)] a) mu_1440 xat_897 ?_ ?_
 exact fun a ha => ⟨xat_897, rfl, hI_1520, hr_898, hS, ha.os⟩
 clear hS hI_1520
 rintro xat_1391 a w ⟨_, rfl, hI, hr_1392, hS, ha⟩
 refine in_frame ha ?_
 clear ha
 replace hV := hV _ hI
 clear hI
 refine WC.seq ?_
 obtain ⟨J_1463, hJ_1464, hV⟩ := hV
 refine WC.meet (fun a w => ∃ (x_1462 : Bool), J_1463 x_1462 ∧ St w0 H_890 ([(b_69, oc #[.bool r_56, v_58, v_61, v_64] 30)] ++ (fp_895 ++ L)) w ∧ Fr 228 [(0, i6 n_1), (2, v_7), (3, v_10), (13, (pq b_69)), (18, v_894), (21, i6 xat_1391), (22, i6 i_899), (23, .bool once_1254), (182, .bool x_1462)] a) ?_ ?_
 rintro a w ⟨x_1462, hI, hS, ha⟩
 refine in_frame ha ?_
 clear ha hV
 have hV := hJ_1464 _ hI
 clear hI hJ_1464
 refine Cd ?_ ?_
 intro hc_1519
 replace hV := hV.1 hc_1519
 refine WC.skip ?_
 refine WQ.next ?_
 refine WC.block ?_
 refine WC.region ?_
 refine R hS ?_
 obtain ⟨hi_1486, hV⟩ := hV
 iterate 2 refine R hS ?_
 refine WL.nil ?_
 refine WQ.out nofun ?_
 replace hS := hS.f2.f2
 exact Wt fun a ha => ⟨(xat_1391 + 1), ⟨(xat_1391 + 1), rfl, hV.1, hi_1486, hS, ha.os⟩, hV.2⟩
 intro hc_1519
 replace hV := hV.2 hc_1519
 refine WC.exit ?_
 refine Wp ?_
 refine Wp ?_
 refine WQ.hit ?_
 refine WQ.next ?_
 refine WC.seq ?_
 refine WC.seq ?_
 have hl_1487 : Len suppose_6 := ((((((h_8.mono le_18).mono le_51).mono le_54).mono le_68).mono le_110).mono le_891).bound
 replace hV := hV hl_1487
 refine WC.via (m := [(0, i6 n_1), (2, v_7), (3, v_10), (13, (pq b_69)), (18, v_894), (21, i6 xat_1391), (22, i6 i_899), (192, .bool (decide ((xat_1391 = (suppose_6.length : Int)) ∨ ((!once_1254) = true))))]) ?_ ?_
 refine WC.region ?_
 iterate 2 refine R hS ?_
 refine Rn hS (ex_len_sl underlying23 rfl ((((((h_8.mono le_18).mono le_51).mono le_54).mono le_68).mono le_110).mono le_891)) ?_
 iterate 2 refine R hS ?_
 rcases bft (decide (xat_1391 = (suppose_6.length : Int))) with hg_1491 | hg_1491
 iterate 3 refine R hS ?_
 refine WL.up (s := 192) rfl (or_t hg_1491 : true = decide ((xat_1391 = (suppose_6.length : Int)) ∨ ((!once_1254) = true))) ?_
 exact WL.nil At.os
 iterate 3 refine R hS ?_
 refine WL.up (s := 192) rfl ((dec_true _).trans (or_f hg_1491 : decide ((!once_1254) = true) = decide ((xat_1391 = (suppose_6.length : Int)) ∨ ((!once_1254) = true)))) ?_
 exact WL.nil At.os
 refine WQ.next ?_
 refine Cd ?_ ?_
 intro hc_1518
 replace hV := hV.1 (od hc_1518)
 refine WC.sr ?_
 refine R hS ?_
 refine WL.nx ?_
 replace hS := hS.drop
 replace hS := hS.drop
 refine WC.ret ?_
 refine Wp ?_
 refine WQ.out nofun ?_
 refine Wp ?_
 refine Wp ?_
 refine WQ.out nofun ?_
 refine Wp ?_
 exact leave1 rfl rfl (⟨false, hV, rfl, (hS.weaken (((((((View.le.refl _).trans le_18).trans le_51).trans le_54).trans le_68).trans le_110).trans le_891))⟩)
 intro hc_1518
 replace hV := hV.2 (ov hc_1518)
 refine WC.skip ?_
 refine WQ.next ?_
 refine WC.region ?_
 iterate 4 refine R hS ?_
 obtain ⟨hin_1492, hV⟩ := hV
 refine Rx hS (ex_index underlying23 sizeOf3 rfl rfl ((h_62.mono le_110).mono le_891) hin_1492) ?_
 intro p_1493 hp_1494
 refine Rx hS (ex_load isAgg3 rfl rfl hp_1494) ?_
 intro u_1497 hu_1498
 obtain ⟨rfl, hr_1499⟩ := cInt_rep hu_1498
 replace hr_1499 := has_I64 hr_1499
 replace hV := hV hr_1499
 refine WL.build1 (c := (cInt .i64)) rfl underlying23 info3 rfl rfl (cInt_mk (I64.has hr_1499)) hS ?_
 clear hS
 intro v_1501 w fp_1502 h_1503 hS
 obtain ⟨H_1508, le_1509, h_1510, hS⟩ : ∃ K, View.le H_890 K ∧ IsSl K (cInt .i64) v_1501 ([(ix r_60 i_899)]) ∧ St w0 K ([(b_69, oc #[.bool r_56, v_58, v_61, v_64] 30)] ++ (fp_895 ++ L)) w := ⟨_, hS.put_le, h_1503.share hS.put_le, hS.freeze⟩
 refine WL.build1 (c := (cSl (cInt .i64))) rfl underlying22 info23 rfl rfl (cSl_mk h_1510) hS ?_
 clear hS
 intro v_1505 w fp_1506 h_1507 hS
 obtain ⟨hr_1511, hV⟩ := hV
 replace hS := hS.f3
 refine WL.append (c := (cSl (cInt .i64))) (xs := units_893) (ys := ([[(ix r_60 i_899)]])) rfl underlying22 info23 rfl rfl rfl hS (h_896.mono le_1509) (h_1507.src hS.f2) hr_1511.1 hr_1511.2 ?_
 clear hS
 intro v_1512 w fp_1513 h_1514 hS
 refine R hS ?_
 refine WL.nil ?_
 refine WQ.out nofun ?_
 refine WQ.next ?_
 refine Sb [(0, i6 n_1), (2, v_7), (3, v_10), (13, (pq b_69)), (18, v_1512), (21, i6 xat_1391), (22, i6 i_899)] ?_
 replace hS := hS.f2.drop
 refine WC.region ?_
 refine R hS ?_
 obtain ⟨hi_1517, hV⟩ := hV
 iterate 2 refine R hS ?_
 refine WL.nil ?_
 replace hS := hS.f2
 exact Wt fun a ha => ⟨((units_893 ++ ([[(ix r_60 i_899)]])), xat_1391, (i_899 + 1)), ⟨(units_893 ++ ([[(ix r_60 i_899)]])), xat_1391, (i_899 + 1), H_1508, v_1512, fp_1513, rfl, hV.1, (((View.le.refl _).trans le_891).trans le_1509), h_1514, hr_1392, hi_1517, hS, ha.os⟩, hV.2⟩
 clear hJ_1464
 refine WC.quiet (C := St w0 H_890 ([(b_69, oc #[.bool r_56, v_58, v_61, v_64] 30)] ++ (fp_895 ++ L))) mixed (by kernel_rfl) (hS.drawn _) ?_
 clear hS w
 iterate 2 refine Rq ?_
 have hl_1465 : Len suppose_6 := ((((((h_8.mono le_18).mono le_51).mono le_54).mono le_68).mono le_110).mono le_891).bound
 replace hV := hV hl_1465
 refine Rm (ex_len_sl underlying23 rfl ((((((h_8.mono le_18).mono le_51).mono le_54).mono le_68).mono le_110).mono le_891)) ?_
 iterate 2 refine Rq ?_
 rcases bft (decide (xat_1391 < (suppose_6.length : Int))) with hg_1467 | hg_1467
 replace hV := hV.1 (od hg_1467)
 iterate 2 refine Rq ?_
 refine Uq hg_1467 ?_
 obtain ⟨hin_1468, hV⟩ := hV
 refine Wq.runx rfl rfl rfl (ex_index underlying23 sizeOf3 rfl rfl ((((((h_8.mono le_18).mono le_51).mono le_54).mono le_68).mono le_110).mono le_891) hin_1468) ?_
 intro p_1469 hp_1470
 refine Uq hg_1467 ?_
 refine Wq.runx rfl rfl rfl (ex_load isAgg3 rfl rfl hp_1470) ?_
 intro u_1473 hu_1474
 obtain ⟨rfl, hr_1475⟩ := cInt_rep hu_1474
 replace hr_1475 := has_I64 hr_1475
 replace hV := hV hr_1475
 iterate 3 refine Rq ?_
 refine Uq hg_1467 ?_
 obtain ⟨hin_1476, hV⟩ := hV
 refine Wq.runx rfl rfl rfl (ex_index underlying23 sizeOf3 rfl rfl ((h_62.mono le_110).mono le_891) hin_1476) ?_
 intro p_1477 hp_1478
 refine Uq hg_1467 ?_
 refine Wq.runx rfl rfl rfl (ex_load isAgg3 rfl rfl hp_1478) ?_
 intro u_1481 hu_1482
 obtain ⟨rfl, hr_1483⟩ := cInt_rep hu_1482
 replace hr_1483 := has_I64 hr_1483
 replace hV := hV hr_1483
 iterate 2 refine Rq ?_
 refine Wq.nil fun w hS => ?_
 replace hS := hS.f2.f2
 exact Wt fun a ha => ⟨decide ((ix suppose_6 xat_1391) ≠ (ix r_60 i_899)), hV, hS, ha.os⟩
 replace hV := hV.2 (ov hg_1467)
 iterate 11 refine Rq ?_
 refine Wq.nil fun w hS => ?_
 replace hS := hS.f2.f2
 exact Wt fun a ha => ⟨false, hV, hS, ha.os⟩
 intro hc_1561
 replace hV := hV.2 (ov hc_1561)
 refine WC.exit ?_
 refine Wp ?_
 refine Wp ?_
 refine WQ.hit ?_
 refine WQ.next ?_
 refine WC.seq ?_
 refine WC.sr ?_
 refine R hS ?_
 have hl_1523 : Len units_893 := h_896.bound
 replace hV := hV hl_1523
 refine Rn hS (ex_len_own underlying22 rfl h_896) ?_
 refine R hS ?_
 refine WL.nx ?_
 refine Sb [(0, i6 n_1), (3, v_10), (13, (pq b_69)), (18, v_894), (204, .bool (decide (33554432 < (units_893.length : Int))))] ?_
 refine Cd ?_ ?_
 intro hc_1560
 replace hV := hV.1 (od hc_1560)
 refine WC.sr ?_
 refine R hS ?_
 refine WL.nx ?_
 replace hS := hS.drop
 replace hS := hS.drop
 refine WC.ret ?_
 refine Wp ?_
 exact leave1 rfl rfl (⟨true, hV, rfl, (hS.weaken (((((((View.le.refl _).trans le_18).trans le_51).trans le_54).trans le_68).trans le_110).trans le_891))⟩)
 intro hc_1560
 replace hV := hV.2 (ov hc_1560)
 refine WC.skip ?_
 refine WQ.next ?_
 refine WC.sr ?_
 iterate 4 refine R hS ?_
 replace hS := hS.f2
 have hL_1525 := hS.freeze
 refine Rc (enters0 (vs := [i6 n_1, v_894, v_64]) call12 ⟨rfl, rfl, rfl, trivial⟩) (S_refChecked  hr_2 (h_896.share hS.put_le) (((h_65.mono le_110).mono le_891).mono hS.put_le) hL_1525 hV) ?_
 clear hV
 rintro _ w ⟨r_1526, hV, rfl, hL_1527⟩
 refine ⟨_, rfl, ?_⟩
 have hB_1529 := hS.back hL_1527
 replace hS := hB_1529
 clear hL_1527 hL_1525 hB_1529
 refine R hS ?_
 refine WL.nx ?_
 refine WC.sr ?_
 refine R hS ?_
 refine WL.nx ?_
 obtain ⟨J_1539, hJ_1540, hV⟩ := hV
 refine WC.meet (fun a w => ∃ (other_1538 : Bool), J_1539 other_1538 ∧ St w0 H_890 ([(b_69, oc #[.bool r_56, v_58, v_61, v_64] 30)] ++ L) w ∧ Fr 228 [(13, (pq b_69)), (25, .bool r_1526), (26, .bool other_1538)] a) ?_ ?_
 rintro a w ⟨other_1538, hI, hS, ha⟩
 refine in_frame ha ?_
 clear ha hV
 have hV := hJ_1540 _ hI
 clear hI hJ_1540
 obtain ⟨J_1554, hJ_1555, hV⟩ := hV
 refine WC.meet (fun a w => ∃ (x_1553 : Bool), J_1554 x_1553 ∧ St w0 H_890 (L) w ∧ Fr 228 [(8, .bool x_1553)] a) ?_ ?_
 rintro a w ⟨x_1553, hI, hS, ha⟩
 refine in_frame ha ?_
 clear ha hV
 have hV := hJ_1555 _ hI
 clear hI hJ_1555
 refine WC.ret ?_
 exact leave1 rfl rfl (⟨x_1553, hV, rfl, (hS.weaken (((((((View.le.refl _).trans le_18).trans le_51).trans le_54).trans le_68).trans le_110).trans le_891))⟩)
 clear hJ_1555
 refine WC.region ?_
 iterate 2 refine R hS ?_
 rcases bft r_1526 with hg_1556 | hg_1556
 replace hV := hV.1 hg_1556
 iterate 4 refine R hS ?_
 rcases bft (!other_1538) with hg_1557 | hg_1557
 replace hV := hV.1 hg_1557
 iterate 2 refine R hS ?_
 refine Ug hg_1557 ?_
 have hl_1558 : Len r_57 := ((h_59.mono le_110).mono le_891).bound
 replace hV := hV hl_1558
 refine Rn hS (ex_len_sl underlying24 rfl ((h_59.mono le_110).mono le_891)) ?_
 iterate 3 refine R hS ?_
 refine WL.nil ?_
 replace hS := hS.drop
 exact Wt fun a ha => ⟨decide ((r_57.length : Int) = 0), hV, hS, ha.os⟩
 replace hV := hV.2 hg_1557
 iterate 6 refine R hS ?_
 refine WL.nil ?_
 replace hS := hS.drop
 exact Wt fun a ha => ⟨false, hV, hS, ha.os⟩
 replace hV := hV.2 hg_1556
 iterate 10 refine R hS ?_
 refine WL.nil ?_
 replace hS := hS.drop
 exact Wt fun a ha => ⟨false, hV, hS, ha.os⟩
 clear hJ_1540
 refine WC.sr ?_
 refine R hS ?_
 have hl_1541 : Len model_9 := ((((((h_11.mono le_18).mono le_51).mono le_54).mono le_68).mono le_110).mono le_891).bound
 replace hV := hV hl_1541
 refine Rn hS (ex_len_sl underlying24 rfl ((((((h_11.mono le_18).mono le_51).mono le_54).mono le_68).mono le_110).mono le_891)) ?_
 iterate 2 refine R hS ?_
 refine WL.nx ?_
 refine Sb [(3, v_10), (13, (pq b_69)), (18, v_894), (25, .bool r_1526), (26, .bool false), (213, .bool (decide ((model_9.length : Int) = n_1)))] ?_
 refine Cd ?_ ?_
 intro hc_1548
 replace hV := hV.1 (od hc_1548)
 refine WC.region ?_
 iterate 2 refine R hS ?_
 have hL_1543 := hS.freeze
 refine Rc (enters0 (vs := [v_894, v_10]) call11 ⟨rfl, rfl, trivial⟩) (S_Models  (h_896.share hS.put_le) (((((((h_11.mono le_18).mono le_51).mono le_54).mono le_68).mono le_110).mono le_891).mono hS.put_le) hL_1543 hV) ?_
 clear hV
 rintro _ w ⟨r_1544, hV, rfl, hL_1545⟩
 refine ⟨_, rfl, ?_⟩
 have hB_1547 := hS.back hL_1545
 replace hS := hB_1547
 clear hL_1545 hL_1543 hB_1547
 refine R hS ?_
 refine WL.nil ?_
 replace hS := hS.drop
 exact Wt fun a ha => ⟨r_1544, hV, hS, ha.os⟩
 intro hc_1548
 replace hV := hV.2 (ov hc_1548)
 refine WC.skip ?_
 replace hS := hS.drop
 exact Wt fun a ha => ⟨false, hV, hS, ha.os⟩
 clear hJ_40
 refine WC.seq ?_
 refine WC.via (m := [(0, i6 n_1), (1, v_4), (2, v_7), (3, v_10), (9, v_13), (10, v_24), (11, i6 r_28), (43, .bool (decide ((r_28 = 0) ∧ ((!r_31) = true))))]) ?_ ?_
 refine WC.region ?_
 iterate 3 refine R hS ?_
 rcases bft (decide (r_28 = 0)) with hg_43 | hg_43
 iterate 3 refine R hS ?_
 refine WL.up (s := 43) rfl ((dec_true _).trans (and_t hg_43 : decide ((!r_31) = true) = decide ((r_28 = 0) ∧ ((!r_31) = true)))) ?_
 exact WL.nil At.os
 iterate 3 refine R hS ?_
 refine WL.up (s := 43) rfl (and_f hg_43 : false = decide ((r_28 = 0) ∧ ((!r_31) = true))) ?_
 exact WL.nil At.os
 refine WQ.next ?_
 refine Cd ?_ ?_
 intro hc_44
 replace hV := hV.1 (od hc_44)
 refine WC.region ?_
 refine R hS ?_
 refine WL.nil ?_
 replace hS := hS.f2
 exact Wt fun a ha => ⟨5, hV, (by unfold I64; omega), hS, ha.os⟩
 intro hc_44
 replace hV := hV.2 (ov hc_44)
 refine WC.skip ?_
 replace hS := hS.f2
 exact Wt fun a ha => ⟨r_28, hV, hr_29, hS, ha.os⟩

end Go.Proofs.YtmdoicffgeihcaaGreatDoor
