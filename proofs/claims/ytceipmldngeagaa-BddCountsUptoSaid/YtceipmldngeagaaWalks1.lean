/- For each function: called, it does its work where its condition is so. Printed by program. -/
import Derived.Test.YtceipmldngeagaaFacts
import Derived.Test.YtceipmldngeagaaConds
import Derived.Test.YtceipmldngeagaaManB
set_option linter.unusedVariables false
set_option linter.unusedSimpArgs false
set_option maxRecDepth 100000
namespace Go.Proofs.Ytceipmldngeagaa
open Go.Vc
theorem S_New {w0 : World} {H : View} {L : Seg} {w : World} {n_1 : Int} {Q : (Option (N3 × LI × M3 × LI × LI × M3)) → (Option Int) → Prop} (hr_2 : I64 n_1) (hS : St w0 H (L) w) (hV : V_New n_1 Q) :
 Calls Try.prog 13 #[i6 n_1] w fun e w' => ∃ (r1 : Option (N3 × LI × M3 × LI × LI × M3)) (r2 : Option Int) (v1 : Value) (fp1 : Seg), Q r1 r2 ∧ e = .returned (.tuple #[v1, errV 74 r2]) ∧ ((r1 = none ∧ v1 = .pointer none ∧ fp1 = ([] : Seg)) ∨ (∃ (x1_b : Nat) (x1_0 : N3) (x1_1 : LI) (x1_2 : M3) (x1_3 : LI) (x1_4 : LI) (x1_5 : M3) (x1_0v : Value) (x1_0f : Seg) (x1_1v : Value) (x1_1f : Seg) (x1_2v : Value) (x1_2f : Seg) (x1_3v : Value) (x1_3f : Seg) (x1_4v : Value) (x1_4f : Seg) (x1_5v : Value) (x1_5f : Seg), r1 = some (x1_0, x1_1, x1_2, x1_3, x1_4, x1_5) ∧ v1 = (pq x1_b) ∧ fp1 = ([(x1_b, oc #[x1_0v, x1_1v, x1_2v, x1_3v, x1_4v, x1_5v] 79)] ++ (x1_0f ++ (x1_1f ++ (x1_2f ++ (x1_3f ++ (x1_4f ++ x1_5f)))))) ∧ OwnSl H (cPair (cInt .i64) (cPair (cInt .i64) (cInt .i64))) 81 x1_0v x1_0 x1_0f ∧ OwnSl H (cInt .i64) 32 x1_1v x1_1 x1_1f ∧ OwnMp H kTri (cInt .i64) x1_2v x1_2 x1_2f ∧ OwnSl H (cInt .i64) 3 x1_3v x1_3 x1_3f ∧ OwnSl H (cInt .i64) 3 x1_4v x1_4 x1_4f ∧ OwnMp H kTri (cInt .i64) x1_5v x1_5 x1_5f)) ∧ St w0 H (fp1 ++ L) w' := by
 unfold V_New at hV
 refine enter Try.func13 rfl Try.ntmps13 rfl (lk_args_cons (d := 0) (v := i6 n_1) rfl (lk_args_nil _)) ?_
 refine WC.sr ?_
 refine WL.ma rfl rfl ?_
 refine WL.ma rfl rfl ?_
 refine WL.nx ?_
 refine WC.seq ?_
 refine WC.seq ?_
 refine WC.via (m := [(0, i6 n_1), (11, .bool (decide ((n_1 < 0) ∨ (24 < n_1))))]) ?_ ?_
 refine WC.region ?_
 refine WL.mv rfl rfl ?_
 refine WL.run hS rfl rfl rfl (ex_lss rfl rfl) ?_
 refine WL.mv rfl rfl ?_
 rcases Bool.eq_false_or_eq_true (decide (n_1 < 0)) with hg_6 | hg_6
 refine WL.skip_g rfl rfl rfl hg_6 rfl rfl ?_
 refine WL.skip_g rfl rfl rfl hg_6 rfl rfl ?_
 refine WL.run hS rfl rfl rfl (ex_pick_t rfl hg_6 rfl) ?_
 refine WL.sub (m := [(0, i6 n_1), (6, i6 n_1), (7, .bool (decide (n_1 < 0))), (8, .bool (decide (n_1 < 0))), (9, undef), (10, undef), (11, .bool (decide ((n_1 < 0) ∨ (24 < n_1))))]) ⟨rfl, rfl, rfl, rfl, rfl, rfl, congrArg (fun b => some (Value.bool b)) (or_t hg_6 : true = decide ((n_1 < 0) ∨ (24 < n_1))), trivial⟩ ?_
 exact WL.nil (At.of ⟨rfl, rfl, trivial⟩)
 refine WL.unguard rfl rfl hg_6 ?_
 refine WL.mv rfl rfl ?_
 refine WL.unguard rfl rfl hg_6 ?_
 refine WL.run hS rfl rfl rfl (ex_gtr rfl rfl) ?_
 refine WL.run hS rfl rfl rfl (ex_pick_f rfl hg_6 rfl) ?_
 refine WL.sub (m := [(0, i6 n_1), (6, i6 n_1), (7, .bool (decide (n_1 < 0))), (8, .bool (decide (n_1 < 0))), (9, i6 n_1), (10, .bool (decide (24 < n_1))), (11, .bool (decide ((n_1 < 0) ∨ (24 < n_1))))]) ⟨rfl, rfl, rfl, rfl, rfl, rfl, congrArg (fun b => some (Value.bool b)) (or_f hg_6 : decide (24 < n_1) = decide ((n_1 < 0) ∨ (24 < n_1))), trivial⟩ ?_
 exact WL.nil (At.of ⟨rfl, rfl, trivial⟩)
 refine WQ.next ?_
 refine WC.cond rfl ?_ ?_
 intro hc_1033
 replace hV := hV.1 (of_decide_eq_true hc_1033)
 refine WC.sr ?_
 refine WL.run hS rfl rfl rfl (ex_makeIface Try.concrete74 rfl) ?_
 refine WL.ma rfl rfl ?_
 refine WL.ma rfl rfl ?_
 refine WL.nx ?_
 refine WC.ret ?_
 refine WQ.pass nofun ?_
 exact leave2 rfl rfl rfl ⟨none, (some 5), (.pointer none), ([] : Seg), hV, rfl, (.inl ⟨rfl, rfl, rfl⟩), hS⟩
 intro hc_1033
 replace hV := hV.2 (of_decide_eq_false hc_1033)
 refine WC.skip ?_
 refine WQ.next ?_
 refine WC.sr ?_
 obtain ⟨hm_12, hV⟩ := hV
 refine WL.makes (c := (cPair (cInt .i64) (cPair (cInt .i64) (cInt .i64)))) (z0 := ((0 : Int), (0 : Int), (0 : Int))) rfl Try.underlying75 Try.info81 ⟨[i6 0], _, rfl, ⟨rfl, I64.has (show I64 0 from ⟨by omega, by omega⟩)⟩, ⟨[i6 0], _, rfl, ⟨rfl, I64.has (show I64 0 from ⟨by omega, by omega⟩)⟩, ⟨rfl, I64.has (show I64 0 from ⟨by omega, by omega⟩)⟩⟩⟩ rfl rfl hm_12.1 hm_12.2.1 hm_12.2.2 hS ?_
 clear hS
 intro v_9 w fp_10 h_11 hS
 refine WL.makeMap (κ := (Int × Int × Int)) (ν := Int) (kc := kTri) (c := (cInt .i64)) rfl hS ?_
 clear hS
 intro v_13 w fp_14 h_15 hS
 refine WL.makeMap (κ := (Int × Int × Int)) (ν := Int) (kc := kTri) (c := (cInt .i64)) rfl hS ?_
 clear hS
 intro v_17 w fp_18 h_19 hS
 refine WL.run hS rfl rfl rfl (ex_build (vs := [v_9, v_13, v_17]) (zc := #[(.slice none 0 0), (.slice none 0 0), .map none, (.slice none 0 0), (.slice none 0 0), .map none]) (cs := #[v_9, (.slice none 0 0), v_13, (.slice none 0 0), (.slice none 0 0), v_17]) (places := #[(0, 1), (1, 1), (2, 1), (3, 1), (4, 1), (5, 1)]) Try.underlying79 Try.zeroValue79 (fun w => by simp [Try.sizeOf27, Try.sizeOf35, Try.sizeOf75, Try.sizeOf76, Try.sizeOf77]) rfl ⟨rfl, rfl, rfl, trivial⟩ rfl (by simp [Instr.fill, cells_int, cells_bool, cells_one (OwnSl.one h_11), cells_one (OwnMp.one h_15), cells_one (OwnMp.one h_19)])) ?_
 refine WL.box (arr := #[v_9, (.slice none 0 0), v_13, (.slice none 0 0), (.slice none 0 0), v_17]) rfl rfl rfl hS ?_
 clear hS
 intro b_25 w hS
 refine WL.ma rfl rfl ?_
 refine WL.nx ?_
 refine WC.seq ?_
 refine WC.sr ?_
 refine WL.mv rfl rfl ?_
 refine WL.mv rfl rfl ?_
 refine WL.nx ?_
 refine WC.block ?_
 replace hS := hS.nilseg
 replace hS := hS.nilseg
 replace hS := hS.f4.f2.f3.f5.f6.f6
 obtain ⟨I_671, mu_672, hI_1032, hV⟩ := hV
 refine WC.loop (σ := LI × LI × Int) (fun s a w => ∃ (c_344 : LI) (c_349 : LI) (x_353 : Int) (v_345 : Value) (fp_346 : Seg) (v_350 : Value) (fp_351 : Seg), s = (c_344, c_349, x_353) ∧ I_671 (c_344, c_349, x_353) ∧ OwnSl H (cInt .i64) 3 v_345 c_344 fp_346 ∧ OwnSl H (cInt .i64) 3 v_350 c_349 fp_351 ∧ I64 x_353 ∧ St w0 H ([(b_25, oc #[v_9, (.slice none 0 0), v_13, v_345, v_350, v_17] 79)] ++ (fp_10 ++ (fp_14 ++ (fp_346 ++ (fp_351 ++ (fp_18 ++ L)))))) w ∧ Fr 58 [(0, i6 n_1), (4, (pq b_25)), (18, i6 n_1), (19, i6 x_353)] a) mu_672 (([] : LI), ([] : LI), 0) ?_ ?_
 exact fun a ha => ⟨([] : LI), ([] : LI), 0, (.slice none 0 0), ([] : Seg), (.slice none 0 0), ([] : Seg), rfl, hI_1032, OwnSl.nil, OwnSl.nil, (by unfold I64; omega), hS, ha.of_sub ⟨rfl, rfl, rfl, rfl, trivial⟩⟩
 clear hS hI_1032
 rintro _ a w ⟨c_344, c_349, x_353, v_345, fp_346, v_350, fp_351, rfl, hI, h_347, h_352, hr_354, hS, ha⟩
 refine in_frame ha ?_
 clear ha
 replace hV := hV _ hI
 clear hI
 refine WC.sr ?_
 refine WL.run hS rfl rfl rfl (ex_lss rfl rfl) ?_
 refine WL.nx ?_
 refine WC.seq ?_
 refine WC.cond rfl ?_ ?_
 intro hc_1031
 replace hV := hV.1 (of_decide_eq_true hc_1031)
 refine WC.skip ?_
 refine WQ.next ?_
 obtain ⟨J_835, hJ_836, hV⟩ := hV
 refine WC.meet (fun a w => ∃ (c_826 : LI) (c_831 : LI) (v_827 : Value) (fp_828 : Seg) (v_832 : Value) (fp_833 : Seg), J_835 (c_826, c_831) ∧ OwnSl H (cInt .i64) 3 v_827 c_826 fp_828 ∧ OwnSl H (cInt .i64) 3 v_832 c_831 fp_833 ∧ St w0 H ([(b_25, oc #[v_9, (.slice none 0 0), v_13, v_827, v_832, v_17] 79)] ++ (fp_10 ++ (fp_14 ++ (fp_828 ++ (fp_833 ++ (fp_18 ++ L)))))) w ∧ Fr 58 [(0, i6 n_1), (4, (pq b_25)), (18, i6 n_1), (19, i6 x_353)] a) ?_ ?_
 rintro a w ⟨c_826, c_831, v_827, fp_828, v_832, fp_833, hI, h_829, h_834, hS, ha⟩
 refine in_frame ha ?_
 clear ha hV
 have hV := hJ_836 _ hI
 clear hI hJ_836
 refine WC.region ?_
 obtain ⟨hi_988, hV⟩ := hV
 refine WL.run hS rfl rfl rfl (ex_add rfl rfl hi_988) ?_
 refine WL.mv rfl rfl ?_
 refine WL.nil ?_
 replace hS := hS.f6.f6.f6.f6.f6.f6
 exact WQ.there fun a ha => ⟨(c_826, c_831, (x_353 + 1)), ⟨c_826, c_831, (x_353 + 1), v_827, fp_828, v_832, fp_833, rfl, hV.1, h_829, h_834, hi_988, hS, ha.of_sub ⟨rfl, rfl, rfl, rfl, trivial⟩⟩, hV.2⟩
 clear hJ_836
 refine WC.block ?_
 refine WC.sr ?_
 refine WL.mv rfl rfl ?_
 refine WL.ma rfl rfl ?_
 refine WL.nx ?_
 refine WC.drawns (C := St w0 H ([(b_25, oc #[v_9, (.slice none 0 0), v_13, v_345, v_350, v_17] 79)] ++ (fp_10 ++ (fp_14 ++ (fp_346 ++ (fp_351 ++ (fp_18 ++ L))))))) [[], [], [], [2], [2, 3], [2, 3, 4], [], [6], [2, 3, 4, 5, 6, 7], [], [9], [9, 10], [9, 10, 11], [], [13], [2, 3, 4, 5, 6, 7, 8, 9, 10, 11, 12, 13, 14], [0, 2, 3, 4, 5, 6, 7, 8, 9, 10, 11, 12, 13, 14, 15], [0, 2, 3, 4, 5, 6, 7, 8, 9, 10, 11, 12, 13, 14, 15, 16], [0, 2, 3, 4, 5, 6, 7, 8, 9, 10, 11, 12, 13, 14, 15, 16, 17], [0, 1, 2, 3, 4, 5, 6, 7, 8, 9, 10, 11, 12, 13, 14, 15, 16, 17, 18], [0, 1, 2, 3, 4, 5, 6, 7, 8, 9, 10, 11, 12, 13, 14, 15, 16, 17, 18, 19], [0, 1, 2, 3, 4, 5, 6, 7, 8, 9, 10, 11, 12, 13, 14, 15, 16, 17, 18, 19, 20]] [7, 8, 14, 15, 18, 21] [[0, 1, 2, 3, 4, 5, 6, 9, 10, 11, 12, 13, 7, 8, 14, 15, 16, 17, 18, 19, 20, 21], [0, 1, 2, 3, 4, 5, 6, 9, 10, 11, 12, 13, 7, 14, 8, 15, 16, 17, 18, 19, 20, 21], [0, 1, 2, 3, 4, 5, 6, 9, 10, 11, 12, 13, 14, 7, 8, 15, 16, 17, 18, 19, 20, 21]] Try.mixed (by kernel_rfl) (hS.drawn _) ?_
 clear hS w
 refine ⟨?_, ?_, ?_, trivial⟩
 replace hV := hV.1
 refine Wd.run rfl rfl rfl rfl (fun _ => ex_move rfl) fun q_838 hq_837 => ?_
 refine Wd.run rfl rfl rfl rfl (fun _ => ex_move rfl) fun q_840 hq_839 => ?_
 refine Wd.run rfl rfl rfl rfl (fun _ => ex_move rfl) fun q_842 hq_841 => ?_
 refine Wd.run rfl rfl rfl rfl (fun _ => ex_nilCheck rfl) fun q_844 hq_843 => ?_
 refine Wd.run rfl rfl rfl rfl (fun _ => ex_fieldAddr (o' := 3) Try.underlying79 rfl Try.sizeOf27 rfl rfl) fun q_846 hq_845 => ?_
 refine Wd.runb (off := 3) rfl rfl rfl rfl (fun _ _ _ h => ex_load_box Try.isAgg27 rfl h) rfl (fun _ h => h) fun q_848 hq_847 => ?_
 refine Wd.run rfl rfl rfl rfl (fun _ => ex_move rfl) fun q_850 hq_849 => ?_
 refine Wd.run rfl rfl rfl rfl (fun _ => ex_move rfl) fun q_852 hq_851 => ?_
 refine Wd.run rfl rfl rfl rfl (fun _ => ex_nilCheck rfl) fun q_854 hq_853 => ?_
 refine Wd.run rfl rfl rfl rfl (fun _ => ex_fieldAddr (o' := 4) Try.underlying79 rfl Try.sizeOf27 rfl rfl) fun q_856 hq_855 => ?_
 refine Wd.runb (off := 4) rfl rfl rfl rfl (fun _ _ _ h => ex_load_box Try.isAgg27 rfl h) rfl (fun _ h => h) fun q_858 hq_857 => ?_
 refine Wd.run rfl rfl rfl rfl (fun _ => ex_move rfl) fun q_860 hq_859 => ?_
 refine Wd.turn rfl rfl rfl fun w hS => ?_
 refine WL.build1 (c := (cInt .i64)) rfl Try.underlying27 Try.info3 rfl rfl (cInt_mk (I64.has hr_354)) hS ?_
 clear hS
 intro v_862 w fp_863 h_864 hS
 refine WL.nil (DQ.mk2 (C' := St w0 H (fp_863 ++ ([(b_25, oc #[v_9, (.slice none 0 0), v_13, v_345, v_350, v_17] 79)] ++ (fp_10 ++ (fp_14 ++ (fp_346 ++ (fp_351 ++ (fp_18 ++ L)))))))) hS ⟨.inr (hq_859 _), .inr (hq_857 H (fp_863 ++ (fp_10 ++ (fp_14 ++ (fp_346 ++ (fp_351 ++ (fp_18 ++ L)))))) #[v_9, (.slice none 0 0), v_13, v_345, v_350, v_17] _ rfl (fun _ h => St.f2 h)), .inr (hq_855 _), .inr (hq_853 _), .inr (hq_851 _), il, .inr (hq_847 H (fp_863 ++ (fp_10 ++ (fp_14 ++ (fp_346 ++ (fp_351 ++ (fp_18 ++ L)))))) #[v_9, (.slice none 0 0), v_13, v_345, v_350, v_17] _ rfl (fun _ h => St.f2 h)), .inr (hq_845 _), .inr (hq_843 _), .inr (hq_841 _), .inr (hq_839 _), .inr (hq_837 _), trivial⟩ ?_)
 clear hS w
 refine Wd.turn rfl rfl rfl fun w hS => ?_
 obtain ⟨hr_865, hV⟩ := hV
 replace hS := hS.f5
 refine WL.append (c := (cInt .i64)) (xs := c_344) (ys := ([x_353])) rfl Try.underlying27 Try.info3 rfl rfl rfl hS h_347 (h_864.src hS.f2) hr_865.1 hr_865.2 ?_
 clear hS
 intro v_866 w fp_867 h_868 hS
 refine WL.nil (DQ.mk2 (C' := St w0 H (fp_867 ++ (fp_863 ++ ([(b_25, oc #[v_9, (.slice none 0 0), v_13, v_345, v_350, v_17] 79)] ++ (fp_10 ++ (fp_14 ++ (fp_351 ++ (fp_18 ++ L)))))))) hS ⟨.inr (hq_859 _), .inr (hq_857 H (fp_867 ++ (fp_863 ++ (fp_10 ++ (fp_14 ++ (fp_351 ++ (fp_18 ++ L)))))) #[v_9, (.slice none 0 0), v_13, v_345, v_350, v_17] _ rfl (fun _ h => St.f3 h)), .inr (hq_855 _), .inr (hq_853 _), .inr (hq_851 _), il, il, il, il, il, .inr (hq_839 _), .inr (hq_837 _), trivial⟩ ?_)
 clear hS w
 refine Wd.turn rfl rfl rfl fun w hS => ?_
 refine WL.build1 (c := (cInt .i64)) rfl Try.underlying27 Try.info3 rfl rfl (cInt_mk (I64.has hr_354)) hS ?_
 clear hS
 intro v_871 w fp_872 h_873 hS
 refine WL.nil (DQ.mk2 (C' := St w0 H (fp_872 ++ (fp_867 ++ (fp_863 ++ ([(b_25, oc #[v_9, (.slice none 0 0), v_13, v_345, v_350, v_17] 79)] ++ (fp_10 ++ (fp_14 ++ (fp_351 ++ (fp_18 ++ L))))))))) hS ⟨il, .inr (hq_857 H (fp_872 ++ (fp_867 ++ (fp_863 ++ (fp_10 ++ (fp_14 ++ (fp_351 ++ (fp_18 ++ L))))))) #[v_9, (.slice none 0 0), v_13, v_345, v_350, v_17] _ rfl (fun _ h => St.f4 h)), .inr (hq_855 _), .inr (hq_853 _), .inr (hq_851 _), .inr (hq_849 _), .inr (hq_847 H (fp_872 ++ (fp_867 ++ (fp_863 ++ (fp_10 ++ (fp_14 ++ (fp_351 ++ (fp_18 ++ L))))))) #[v_9, (.slice none 0 0), v_13, v_345, v_350, v_17] _ rfl (fun _ h => St.f4 h)), .inr (hq_845 _), .inr (hq_843 _), .inr (hq_841 _), .inr (hq_839 _), .inr (hq_837 _), trivial⟩ ?_)
 clear hS w
 refine Wd.turn rfl rfl rfl fun w hS => ?_
 obtain ⟨hr_874, hV⟩ := hV
 replace hS := hS.f7
 refine WL.append (c := (cInt .i64)) (xs := c_349) (ys := ([x_353])) rfl Try.underlying27 Try.info3 rfl rfl rfl hS h_352 (h_873.src hS.f2) hr_874.1 hr_874.2 ?_
 clear hS
 intro v_875 w fp_876 h_877 hS
 refine WL.nil (DQ.mk2 (C' := St w0 H (fp_876 ++ (fp_872 ++ (fp_867 ++ (fp_863 ++ ([(b_25, oc #[v_9, (.slice none 0 0), v_13, v_345, v_350, v_17] 79)] ++ (fp_10 ++ (fp_14 ++ (fp_18 ++ L))))))))) hS ⟨il, il, il, il, il, il, il, il, il, il, .inr (hq_839 _), .inr (hq_837 _), trivial⟩ ?_)
 clear hS w
 refine Wd.run rfl rfl rfl rfl (fun _ => ex_nilCheck rfl) fun q_880 hq_879 => ?_
 refine Wd.run rfl rfl rfl rfl (fun _ => ex_fieldAddr (o' := 3) Try.underlying79 rfl Try.sizeOf27 rfl rfl) fun q_882 hq_881 => ?_
 refine Wd.turn rfl rfl rfl fun w hS => ?_
 replace hS := hS.f5
 refine WL.store_box (pre := [v_9, (.slice none 0 0), v_13]) (old := [v_345]) (rst := [v_350, v_17]) (cs := [v_866]) (arr' := #[v_9, (.slice none 0 0), v_13, v_866, v_350, v_17]) Try.sizeOf27 rfl rfl (congrArg Array.toList (cells_one (OwnSl.one h_868))) ⟨(OwnSl.one h_868), trivial⟩ rfl rfl rfl rfl hS ?_
 clear hS
 intro w hS
 refine WL.nil (DQ.mk2 (C' := St w0 H ([(b_25, oc #[v_9, (.slice none 0 0), v_13, v_866, v_350, v_17] 79)] ++ (fp_876 ++ (fp_872 ++ (fp_867 ++ (fp_863 ++ (fp_10 ++ (fp_14 ++ (fp_18 ++ L))))))))) hS ⟨il, il, il, il, il, il, il, il, il, il, il, il, .inr (hq_839 _), il, trivial⟩ ?_)
 clear hS w
 refine Wd.run rfl rfl rfl rfl (fun _ => ex_nilCheck rfl) fun q_884 hq_883 => ?_
 refine Wd.run rfl rfl rfl rfl (fun _ => ex_fieldAddr (o' := 4) Try.underlying79 rfl Try.sizeOf27 rfl rfl) fun q_886 hq_885 => ?_
 refine Wd.turn rfl rfl rfl fun w hS => ?_
 refine WL.store_box (pre := [v_9, (.slice none 0 0), v_13, v_866]) (old := [v_350]) (rst := [v_17]) (cs := [v_875]) (arr' := #[v_9, (.slice none 0 0), v_13, v_866, v_875, v_17]) Try.sizeOf27 rfl rfl (congrArg Array.toList (cells_one (OwnSl.one h_877))) ⟨(OwnSl.one h_877), trivial⟩ rfl rfl rfl rfl hS ?_
 clear hS
 intro w hS
 refine WL.nil (DQ.mk2 (C' := St w0 H ([(b_25, oc #[v_9, (.slice none 0 0), v_13, v_866, v_875, v_17] 79)] ++ (fp_876 ++ (fp_872 ++ (fp_867 ++ (fp_863 ++ (fp_10 ++ (fp_14 ++ (fp_18 ++ L))))))))) hS ⟨il, il, il, il, il, il, il, il, il, il, il, il, il, il, il, il, trivial⟩ ?_)
 clear hS w
 refine Wd.nil fun w hS => ?_
 refine WQ.out nofun ?_
 replace hS := hS.f3.drop
 replace hS := hS.f4.drop
 replace hS := hS.f6.f3.f4.f6.f6.f6
 exact WQ.there fun a ha => ⟨(c_344 ++ ([x_353])), (c_349 ++ ([x_353])), v_866, fp_867, v_875, fp_876, hV, h_868, h_877, hS, ha.of_sub ⟨rfl, rfl, rfl, rfl, trivial⟩⟩
 replace hV := hV.2.1
 refine Wd.run rfl rfl rfl rfl (fun _ => ex_move rfl) fun q_888 hq_887 => ?_
 refine Wd.run rfl rfl rfl rfl (fun _ => ex_move rfl) fun q_890 hq_889 => ?_
 refine Wd.run rfl rfl rfl rfl (fun _ => ex_move rfl) fun q_892 hq_891 => ?_
 refine Wd.run rfl rfl rfl rfl (fun _ => ex_nilCheck rfl) fun q_894 hq_893 => ?_
 refine Wd.run rfl rfl rfl rfl (fun _ => ex_fieldAddr (o' := 3) Try.underlying79 rfl Try.sizeOf27 rfl rfl) fun q_896 hq_895 => ?_
 refine Wd.runb (off := 3) rfl rfl rfl rfl (fun _ _ _ h => ex_load_box Try.isAgg27 rfl h) rfl (fun _ h => h) fun q_898 hq_897 => ?_
 refine Wd.run rfl rfl rfl rfl (fun _ => ex_move rfl) fun q_900 hq_899 => ?_
 refine Wd.run rfl rfl rfl rfl (fun _ => ex_move rfl) fun q_902 hq_901 => ?_
 refine Wd.run rfl rfl rfl rfl (fun _ => ex_nilCheck rfl) fun q_904 hq_903 => ?_
 refine Wd.run rfl rfl rfl rfl (fun _ => ex_fieldAddr (o' := 4) Try.underlying79 rfl Try.sizeOf27 rfl rfl) fun q_906 hq_905 => ?_
 refine Wd.runb (off := 4) rfl rfl rfl rfl (fun _ _ _ h => ex_load_box Try.isAgg27 rfl h) rfl (fun _ h => h) fun q_908 hq_907 => ?_
 refine Wd.run rfl rfl rfl rfl (fun _ => ex_move rfl) fun q_910 hq_909 => ?_
 refine Wd.turn rfl rfl rfl fun w hS => ?_
 refine WL.build1 (c := (cInt .i64)) rfl Try.underlying27 Try.info3 rfl rfl (cInt_mk (I64.has hr_354)) hS ?_
 clear hS
 intro v_912 w fp_913 h_914 hS
 refine WL.nil (DQ.mk2 (C' := St w0 H (fp_913 ++ ([(b_25, oc #[v_9, (.slice none 0 0), v_13, v_345, v_350, v_17] 79)] ++ (fp_10 ++ (fp_14 ++ (fp_346 ++ (fp_351 ++ (fp_18 ++ L)))))))) hS ⟨.inr (hq_909 _), .inr (hq_907 H (fp_913 ++ (fp_10 ++ (fp_14 ++ (fp_346 ++ (fp_351 ++ (fp_18 ++ L)))))) #[v_9, (.slice none 0 0), v_13, v_345, v_350, v_17] _ rfl (fun _ h => St.f2 h)), .inr (hq_905 _), .inr (hq_903 _), .inr (hq_901 _), il, .inr (hq_897 H (fp_913 ++ (fp_10 ++ (fp_14 ++ (fp_346 ++ (fp_351 ++ (fp_18 ++ L)))))) #[v_9, (.slice none 0 0), v_13, v_345, v_350, v_17] _ rfl (fun _ h => St.f2 h)), .inr (hq_895 _), .inr (hq_893 _), .inr (hq_891 _), .inr (hq_889 _), .inr (hq_887 _), trivial⟩ ?_)
 clear hS w
 refine Wd.turn rfl rfl rfl fun w hS => ?_
 refine WL.build1 (c := (cInt .i64)) rfl Try.underlying27 Try.info3 rfl rfl (cInt_mk (I64.has hr_354)) hS ?_
 clear hS
 intro v_916 w fp_917 h_918 hS
 refine WL.nil (DQ.mk2 (C' := St w0 H (fp_917 ++ (fp_913 ++ ([(b_25, oc #[v_9, (.slice none 0 0), v_13, v_345, v_350, v_17] 79)] ++ (fp_10 ++ (fp_14 ++ (fp_346 ++ (fp_351 ++ (fp_18 ++ L))))))))) hS ⟨il, .inr (hq_907 H (fp_917 ++ (fp_913 ++ (fp_10 ++ (fp_14 ++ (fp_346 ++ (fp_351 ++ (fp_18 ++ L))))))) #[v_9, (.slice none 0 0), v_13, v_345, v_350, v_17] _ rfl (fun _ h => St.f3 h)), .inr (hq_905 _), .inr (hq_903 _), .inr (hq_901 _), .inr (hq_899 _), .inr (hq_897 H (fp_917 ++ (fp_913 ++ (fp_10 ++ (fp_14 ++ (fp_346 ++ (fp_351 ++ (fp_18 ++ L))))))) #[v_9, (.slice none 0 0), v_13, v_345, v_350, v_17] _ rfl (fun _ h => St.f3 h)), .inr (hq_895 _), .inr (hq_893 _), .inr (hq_891 _), .inr (hq_889 _), .inr (hq_887 _), trivial⟩ ?_)
 clear hS w
 refine Wd.turn rfl rfl rfl fun w hS => ?_
 obtain ⟨hr_919, hV⟩ := hV
 replace hS := hS.f2.f6
 refine WL.append (c := (cInt .i64)) (xs := c_344) (ys := ([x_353])) rfl Try.underlying27 Try.info3 rfl rfl rfl hS h_347 (h_914.src hS.f2) hr_919.1 hr_919.2 ?_
 clear hS
 intro v_920 w fp_921 h_922 hS
 refine WL.nil (DQ.mk2 (C' := St w0 H (fp_921 ++ (fp_913 ++ (fp_917 ++ ([(b_25, oc #[v_9, (.slice none 0 0), v_13, v_345, v_350, v_17] 79)] ++ (fp_10 ++ (fp_14 ++ (fp_351 ++ (fp_18 ++ L))))))))) hS ⟨.inr (hq_909 _), .inr (hq_907 H (fp_921 ++ (fp_913 ++ (fp_917 ++ (fp_10 ++ (fp_14 ++ (fp_351 ++ (fp_18 ++ L))))))) #[v_9, (.slice none 0 0), v_13, v_345, v_350, v_17] _ rfl (fun _ h => St.f4 h)), .inr (hq_905 _), .inr (hq_903 _), .inr (hq_901 _), il, il, il, il, il, .inr (hq_889 _), .inr (hq_887 _), trivial⟩ ?_)
 clear hS w
 refine Wd.turn rfl rfl rfl fun w hS => ?_
 obtain ⟨hr_924, hV⟩ := hV
 replace hS := hS.f3.f7
 refine WL.append (c := (cInt .i64)) (xs := c_349) (ys := ([x_353])) rfl Try.underlying27 Try.info3 rfl rfl rfl hS h_352 (h_918.src hS.f2) hr_924.1 hr_924.2 ?_
 clear hS
 intro v_925 w fp_926 h_927 hS
 refine WL.nil (DQ.mk2 (C' := St w0 H (fp_926 ++ (fp_917 ++ (fp_921 ++ (fp_913 ++ ([(b_25, oc #[v_9, (.slice none 0 0), v_13, v_345, v_350, v_17] 79)] ++ (fp_10 ++ (fp_14 ++ (fp_18 ++ L))))))))) hS ⟨il, il, il, il, il, il, il, il, il, il, .inr (hq_889 _), .inr (hq_887 _), trivial⟩ ?_)
 clear hS w
 refine Wd.run rfl rfl rfl rfl (fun _ => ex_nilCheck rfl) fun q_930 hq_929 => ?_
 refine Wd.run rfl rfl rfl rfl (fun _ => ex_fieldAddr (o' := 3) Try.underlying79 rfl Try.sizeOf27 rfl rfl) fun q_932 hq_931 => ?_
 refine Wd.turn rfl rfl rfl fun w hS => ?_
 replace hS := hS.f5
 refine WL.store_box (pre := [v_9, (.slice none 0 0), v_13]) (old := [v_345]) (rst := [v_350, v_17]) (cs := [v_920]) (arr' := #[v_9, (.slice none 0 0), v_13, v_920, v_350, v_17]) Try.sizeOf27 rfl rfl (congrArg Array.toList (cells_one (OwnSl.one h_922))) ⟨(OwnSl.one h_922), trivial⟩ rfl rfl rfl rfl hS ?_
 clear hS
 intro w hS
 refine WL.nil (DQ.mk2 (C' := St w0 H ([(b_25, oc #[v_9, (.slice none 0 0), v_13, v_920, v_350, v_17] 79)] ++ (fp_926 ++ (fp_917 ++ (fp_921 ++ (fp_913 ++ (fp_10 ++ (fp_14 ++ (fp_18 ++ L))))))))) hS ⟨il, il, il, il, il, il, il, il, il, il, il, il, .inr (hq_889 _), il, trivial⟩ ?_)
 clear hS w
 refine Wd.run rfl rfl rfl rfl (fun _ => ex_nilCheck rfl) fun q_934 hq_933 => ?_
 refine Wd.run rfl rfl rfl rfl (fun _ => ex_fieldAddr (o' := 4) Try.underlying79 rfl Try.sizeOf27 rfl rfl) fun q_936 hq_935 => ?_
 refine Wd.turn rfl rfl rfl fun w hS => ?_
 refine WL.store_box (pre := [v_9, (.slice none 0 0), v_13, v_920]) (old := [v_350]) (rst := [v_17]) (cs := [v_925]) (arr' := #[v_9, (.slice none 0 0), v_13, v_920, v_925, v_17]) Try.sizeOf27 rfl rfl (congrArg Array.toList (cells_one (OwnSl.one h_927))) ⟨(OwnSl.one h_927), trivial⟩ rfl rfl rfl rfl hS ?_
 clear hS
 intro w hS
 refine WL.nil (DQ.mk2 (C' := St w0 H ([(b_25, oc #[v_9, (.slice none 0 0), v_13, v_920, v_925, v_17] 79)] ++ (fp_926 ++ (fp_917 ++ (fp_921 ++ (fp_913 ++ (fp_10 ++ (fp_14 ++ (fp_18 ++ L))))))))) hS ⟨il, il, il, il, il, il, il, il, il, il, il, il, il, il, il, il, trivial⟩ ?_)
 clear hS w
 refine Wd.nil fun w hS => ?_
 refine WQ.out nofun ?_
 replace hS := hS.f3.drop
 replace hS := hS.f4.drop
 replace hS := hS.f6.f3.f4.f6.f6.f6
 exact WQ.there fun a ha => ⟨(c_344 ++ ([x_353])), (c_349 ++ ([x_353])), v_920, fp_921, v_925, fp_926, hV, h_922, h_927, hS, ha.of_sub ⟨rfl, rfl, rfl, rfl, trivial⟩⟩
 replace hV := hV.2.2
 refine Wd.run rfl rfl rfl rfl (fun _ => ex_move rfl) fun q_938 hq_937 => ?_
 refine Wd.run rfl rfl rfl rfl (fun _ => ex_move rfl) fun q_940 hq_939 => ?_
 refine Wd.run rfl rfl rfl rfl (fun _ => ex_move rfl) fun q_942 hq_941 => ?_
 refine Wd.run rfl rfl rfl rfl (fun _ => ex_nilCheck rfl) fun q_944 hq_943 => ?_
 refine Wd.run rfl rfl rfl rfl (fun _ => ex_fieldAddr (o' := 3) Try.underlying79 rfl Try.sizeOf27 rfl rfl) fun q_946 hq_945 => ?_
 refine Wd.runb (off := 3) rfl rfl rfl rfl (fun _ _ _ h => ex_load_box Try.isAgg27 rfl h) rfl (fun _ h => h) fun q_948 hq_947 => ?_
 refine Wd.run rfl rfl rfl rfl (fun _ => ex_move rfl) fun q_950 hq_949 => ?_
 refine Wd.run rfl rfl rfl rfl (fun _ => ex_move rfl) fun q_952 hq_951 => ?_
 refine Wd.run rfl rfl rfl rfl (fun _ => ex_nilCheck rfl) fun q_954 hq_953 => ?_
 refine Wd.run rfl rfl rfl rfl (fun _ => ex_fieldAddr (o' := 4) Try.underlying79 rfl Try.sizeOf27 rfl rfl) fun q_956 hq_955 => ?_
 refine Wd.runb (off := 4) rfl rfl rfl rfl (fun _ _ _ h => ex_load_box Try.isAgg27 rfl h) rfl (fun _ h => h) fun q_958 hq_957 => ?_
 refine Wd.run rfl rfl rfl rfl (fun _ => ex_move rfl) fun q_960 hq_959 => ?_
 refine Wd.turn rfl rfl rfl fun w hS => ?_
 refine WL.build1 (c := (cInt .i64)) rfl Try.underlying27 Try.info3 rfl rfl (cInt_mk (I64.has hr_354)) hS ?_
 clear hS
 intro v_962 w fp_963 h_964 hS
 refine WL.nil (DQ.mk2 (C' := St w0 H (fp_963 ++ ([(b_25, oc #[v_9, (.slice none 0 0), v_13, v_345, v_350, v_17] 79)] ++ (fp_10 ++ (fp_14 ++ (fp_346 ++ (fp_351 ++ (fp_18 ++ L)))))))) hS ⟨il, .inr (hq_957 H (fp_963 ++ (fp_10 ++ (fp_14 ++ (fp_346 ++ (fp_351 ++ (fp_18 ++ L)))))) #[v_9, (.slice none 0 0), v_13, v_345, v_350, v_17] _ rfl (fun _ h => St.f2 h)), .inr (hq_955 _), .inr (hq_953 _), .inr (hq_951 _), .inr (hq_949 _), .inr (hq_947 H (fp_963 ++ (fp_10 ++ (fp_14 ++ (fp_346 ++ (fp_351 ++ (fp_18 ++ L)))))) #[v_9, (.slice none 0 0), v_13, v_345, v_350, v_17] _ rfl (fun _ h => St.f2 h)), .inr (hq_945 _), .inr (hq_943 _), .inr (hq_941 _), .inr (hq_939 _), .inr (hq_937 _), trivial⟩ ?_)
 clear hS w
 refine Wd.turn rfl rfl rfl fun w hS => ?_
 refine WL.build1 (c := (cInt .i64)) rfl Try.underlying27 Try.info3 rfl rfl (cInt_mk (I64.has hr_354)) hS ?_
 clear hS
 intro v_966 w fp_967 h_968 hS
 refine WL.nil (DQ.mk2 (C' := St w0 H (fp_967 ++ (fp_963 ++ ([(b_25, oc #[v_9, (.slice none 0 0), v_13, v_345, v_350, v_17] 79)] ++ (fp_10 ++ (fp_14 ++ (fp_346 ++ (fp_351 ++ (fp_18 ++ L))))))))) hS ⟨.inr (hq_959 _), .inr (hq_957 H (fp_967 ++ (fp_963 ++ (fp_10 ++ (fp_14 ++ (fp_346 ++ (fp_351 ++ (fp_18 ++ L))))))) #[v_9, (.slice none 0 0), v_13, v_345, v_350, v_17] _ rfl (fun _ h => St.f3 h)), .inr (hq_955 _), .inr (hq_953 _), .inr (hq_951 _), il, .inr (hq_947 H (fp_967 ++ (fp_963 ++ (fp_10 ++ (fp_14 ++ (fp_346 ++ (fp_351 ++ (fp_18 ++ L))))))) #[v_9, (.slice none 0 0), v_13, v_345, v_350, v_17] _ rfl (fun _ h => St.f3 h)), .inr (hq_945 _), .inr (hq_943 _), .inr (hq_941 _), .inr (hq_939 _), .inr (hq_937 _), trivial⟩ ?_)
 clear hS w
 refine Wd.turn rfl rfl rfl fun w hS => ?_
 obtain ⟨hr_969, hV⟩ := hV
 replace hS := hS.f6
 refine WL.append (c := (cInt .i64)) (xs := c_344) (ys := ([x_353])) rfl Try.underlying27 Try.info3 rfl rfl rfl hS h_347 (h_968.src hS.f2) hr_969.1 hr_969.2 ?_
 clear hS
 intro v_970 w fp_971 h_972 hS
 refine WL.nil (DQ.mk2 (C' := St w0 H (fp_971 ++ (fp_967 ++ (fp_963 ++ ([(b_25, oc #[v_9, (.slice none 0 0), v_13, v_345, v_350, v_17] 79)] ++ (fp_10 ++ (fp_14 ++ (fp_351 ++ (fp_18 ++ L))))))))) hS ⟨.inr (hq_959 _), .inr (hq_957 H (fp_971 ++ (fp_967 ++ (fp_963 ++ (fp_10 ++ (fp_14 ++ (fp_351 ++ (fp_18 ++ L))))))) #[v_9, (.slice none 0 0), v_13, v_345, v_350, v_17] _ rfl (fun _ h => St.f4 h)), .inr (hq_955 _), .inr (hq_953 _), .inr (hq_951 _), il, il, il, il, il, .inr (hq_939 _), .inr (hq_937 _), trivial⟩ ?_)
 clear hS w
 refine Wd.turn rfl rfl rfl fun w hS => ?_
 obtain ⟨hr_974, hV⟩ := hV
 replace hS := hS.f3.f7
 refine WL.append (c := (cInt .i64)) (xs := c_349) (ys := ([x_353])) rfl Try.underlying27 Try.info3 rfl rfl rfl hS h_352 (h_964.src hS.f2) hr_974.1 hr_974.2 ?_
 clear hS
 intro v_975 w fp_976 h_977 hS
 refine WL.nil (DQ.mk2 (C' := St w0 H (fp_976 ++ (fp_963 ++ (fp_971 ++ (fp_967 ++ ([(b_25, oc #[v_9, (.slice none 0 0), v_13, v_345, v_350, v_17] 79)] ++ (fp_10 ++ (fp_14 ++ (fp_18 ++ L))))))))) hS ⟨il, il, il, il, il, il, il, il, il, il, .inr (hq_939 _), .inr (hq_937 _), trivial⟩ ?_)
 clear hS w
 refine Wd.run rfl rfl rfl rfl (fun _ => ex_nilCheck rfl) fun q_980 hq_979 => ?_
 refine Wd.run rfl rfl rfl rfl (fun _ => ex_fieldAddr (o' := 3) Try.underlying79 rfl Try.sizeOf27 rfl rfl) fun q_982 hq_981 => ?_
 refine Wd.turn rfl rfl rfl fun w hS => ?_
 replace hS := hS.f5
 refine WL.store_box (pre := [v_9, (.slice none 0 0), v_13]) (old := [v_345]) (rst := [v_350, v_17]) (cs := [v_970]) (arr' := #[v_9, (.slice none 0 0), v_13, v_970, v_350, v_17]) Try.sizeOf27 rfl rfl (congrArg Array.toList (cells_one (OwnSl.one h_972))) ⟨(OwnSl.one h_972), trivial⟩ rfl rfl rfl rfl hS ?_
 clear hS
 intro w hS
 refine WL.nil (DQ.mk2 (C' := St w0 H ([(b_25, oc #[v_9, (.slice none 0 0), v_13, v_970, v_350, v_17] 79)] ++ (fp_976 ++ (fp_963 ++ (fp_971 ++ (fp_967 ++ (fp_10 ++ (fp_14 ++ (fp_18 ++ L))))))))) hS ⟨il, il, il, il, il, il, il, il, il, il, il, il, .inr (hq_939 _), il, trivial⟩ ?_)
 clear hS w
 refine Wd.run rfl rfl rfl rfl (fun _ => ex_nilCheck rfl) fun q_984 hq_983 => ?_
 refine Wd.run rfl rfl rfl rfl (fun _ => ex_fieldAddr (o' := 4) Try.underlying79 rfl Try.sizeOf27 rfl rfl) fun q_986 hq_985 => ?_
 refine Wd.turn rfl rfl rfl fun w hS => ?_
 refine WL.store_box (pre := [v_9, (.slice none 0 0), v_13, v_970]) (old := [v_350]) (rst := [v_17]) (cs := [v_975]) (arr' := #[v_9, (.slice none 0 0), v_13, v_970, v_975, v_17]) Try.sizeOf27 rfl rfl (congrArg Array.toList (cells_one (OwnSl.one h_977))) ⟨(OwnSl.one h_977), trivial⟩ rfl rfl rfl rfl hS ?_
 clear hS
 intro w hS
 refine WL.nil (DQ.mk2 (C' := St w0 H ([(b_25, oc #[v_9, (.slice none 0 0), v_13, v_970, v_975, v_17] 79)] ++ (fp_976 ++ (fp_963 ++ (fp_971 ++ (fp_967 ++ (fp_10 ++ (fp_14 ++ (fp_18 ++ L))))))))) hS ⟨il, il, il, il, il, il, il, il, il, il, il, il, il, il, il, il, trivial⟩ ?_)
 clear hS w
 refine Wd.nil fun w hS => ?_
 refine WQ.out nofun ?_
 replace hS := hS.f3.drop
 replace hS := hS.f4.drop
 replace hS := hS.f6.f3.f4.f6.f6.f6
 exact WQ.there fun a ha => ⟨(c_344 ++ ([x_353])), (c_349 ++ ([x_353])), v_970, fp_971, v_975, fp_976, hV, h_972, h_977, hS, ha.of_sub ⟨rfl, rfl, rfl, rfl, trivial⟩⟩
 intro hc_1031
 replace hV := hV.2 (of_decide_eq_false hc_1031)
 refine WC.exit ?_
 refine WQ.pass nofun ?_
 refine WQ.pass nofun ?_
 refine WQ.hit ?_
 refine WQ.next ?_
 refine WC.seq ?_
 refine WC.drawn (σ := [0, 1, 2, 3, 4, 5, 6, 7, 8, 9, 10, 11, 12, 13, 14, 15]) (C := St w0 H ([(b_25, oc #[v_9, (.slice none 0 0), v_13, v_345, v_350, v_17] 79)] ++ (fp_10 ++ (fp_14 ++ (fp_346 ++ (fp_351 ++ (fp_18 ++ L))))))) [[], [0], [0, 1], [0, 1, 2], [], [4], [4, 5], [4, 5, 6], [], [], [0, 1, 2, 3, 4, 5, 6, 7, 8], [0, 1, 2, 3, 4, 5, 6, 7, 8, 10], [0, 1, 2, 3, 4, 5, 6, 7, 8, 10, 11], [0, 1, 2, 3, 4, 5, 6, 7, 8, 9, 10, 11, 12], [0, 1, 2, 3, 4, 5, 6, 7, 8, 9, 10, 11, 12, 13], [0, 1, 2, 3, 4, 5, 6, 7, 8, 9, 10, 11, 12, 13, 14]] [12, 15] Try.mixed (by kernel_rfl) (hS.drawn _) ?_
 clear hS w
 refine Wd.run rfl rfl rfl rfl (fun _ => ex_move rfl) fun q_990 hq_989 => ?_
 refine Wd.run rfl rfl rfl rfl (fun _ => ex_nilCheck rfl) fun q_992 hq_991 => ?_
 refine Wd.run rfl rfl rfl rfl (fun _ => ex_fieldAddr (o' := 0) Try.underlying79 rfl Try.sizeOf75 rfl rfl) fun q_994 hq_993 => ?_
 refine Wd.runb (off := 0) rfl rfl rfl rfl (fun _ _ _ h => ex_load_box Try.isAgg75 rfl h) rfl (fun _ h => h) fun q_996 hq_995 => ?_
 refine Wd.run rfl rfl rfl rfl (fun _ => ex_move rfl) fun q_998 hq_997 => ?_
 refine Wd.run rfl rfl rfl rfl (fun _ => ex_nilCheck rfl) fun q_1000 hq_999 => ?_
 refine Wd.run rfl rfl rfl rfl (fun _ => ex_fieldAddr (o' := 0) Try.underlying79 rfl Try.sizeOf75 rfl rfl) fun q_1002 hq_1001 => ?_
 refine Wd.runb (off := 0) rfl rfl rfl rfl (fun _ _ _ h => ex_load_box Try.isAgg75 rfl h) rfl (fun _ h => h) fun q_1004 hq_1003 => ?_
 refine Wd.run rfl rfl rfl rfl (fun _ => ex_move rfl) fun q_1006 hq_1005 => ?_
 refine Wd.run rfl rfl rfl rfl (fun _ => ex_move rfl) fun q_1008 hq_1007 => ?_
 obtain ⟨hin_1011, hV⟩ := hV
 refine Wd.runx rfl rfl rfl rfl (exAll (ex_index_own Try.underlying75 Try.sizeOf81 rfl rfl h_11 hin_1011)) ?_
 intro p_1012 hp_1013
 intro q_1010 hq_1009
 refine Wd.runx rfl rfl rfl rfl (exAll (ex_fieldAddr_own Try.underlying81 rfl Try.sizeOf3 rfl hp_1013)) ?_
 intro p_1017 hp_1016
 intro q_1015 hq_1014
 refine Wd.turn rfl rfl rfl fun w hS => ?_
 replace hS := hS.f2
 refine WL.store_ownpart (d := (cInt .i64)) Try.sizeOf3 rfl rfl rfl (cInt_mk (I64.has hr_2)) (by decide) PartSet.fst hS h_11 hp_1016 hin_1011 ?_
 clear hS
 intro w fp_1019 h_1018 hS
 refine WL.nil (DQ.mk2 (C' := St w0 H (fp_1019 ++ ([(b_25, oc #[v_9, (.slice none 0 0), v_13, v_345, v_350, v_17] 79)] ++ (fp_14 ++ (fp_346 ++ (fp_351 ++ (fp_18 ++ L))))))) hS ⟨il, il, .inr (hq_1007 _), il, il, il, il, il, il, il, il, il, trivial⟩ ?_)
 clear hS w
 obtain ⟨hin_1022, hV⟩ := hV
 refine Wd.runx rfl rfl rfl rfl (exAll (ex_index_own Try.underlying75 Try.sizeOf81 rfl rfl h_1018 hin_1022)) ?_
 intro p_1023 hp_1024
 intro q_1021 hq_1020
 refine Wd.runx rfl rfl rfl rfl (exAll (ex_fieldAddr_own Try.underlying81 rfl Try.sizeOf3 rfl hp_1024)) ?_
 intro p_1028 hp_1027
 intro q_1026 hq_1025
 refine Wd.turn rfl rfl rfl fun w hS => ?_
 refine WL.store_ownpart (d := (cInt .i64)) Try.sizeOf3 rfl rfl rfl (cInt_mk (I64.has hr_2)) (by decide) PartSet.fst hS h_1018 hp_1027 hin_1022 ?_
 clear hS
 intro w fp_1030 h_1029 hS
 refine WL.nil (DQ.mk2 (C' := St w0 H (fp_1030 ++ ([(b_25, oc #[v_9, (.slice none 0 0), v_13, v_345, v_350, v_17] 79)] ++ (fp_14 ++ (fp_346 ++ (fp_351 ++ (fp_18 ++ L))))))) hS ⟨il, il, il, il, il, il, il, il, il, il, il, il, il, il, trivial⟩ ?_)
 clear hS w
 refine Wd.nil fun w hS => ?_
 refine WQ.next ?_
 refine WC.sub (m := [(4, (pq b_25))]) ⟨rfl, trivial⟩ ?_
 refine WC.sr ?_
 refine WL.mv rfl rfl ?_
 refine WL.ma rfl rfl ?_
 refine WL.ma rfl rfl ?_
 refine WL.nx ?_
 refine WC.ret ?_
 replace hS := hS.nilseg
 replace hS := hS.f7.f7.f7.f7.f5.f6.f7
 replace hS : St w0 H (([(b_25, oc #[v_9, (.slice none 0 0), v_13, v_345, v_350, v_17] 79)] ++ (fp_1030 ++ (([] : Seg) ++ (fp_14 ++ (fp_346 ++ (fp_351 ++ fp_18)))))) ++ L) w := by simpa only [List.append_assoc] using hS
 exact leave2 rfl rfl rfl ⟨(some ((((List.replicate (2 : Int).toNat ((0 : Int), (0 : Int), (0 : Int))).set (0 : Int).toNat (n_1, (ix (List.replicate (2 : Int).toNat ((0 : Int), (0 : Int), (0 : Int))) 0).2.1, (ix (List.replicate (2 : Int).toNat ((0 : Int), (0 : Int), (0 : Int))) 0).2.2)).set (1 : Int).toNat (n_1, (ix ((List.replicate (2 : Int).toNat ((0 : Int), (0 : Int), (0 : Int))).set (0 : Int).toNat (n_1, (ix (List.replicate (2 : Int).toNat ((0 : Int), (0 : Int), (0 : Int))) 0).2.1, (ix (List.replicate (2 : Int).toNat ((0 : Int), (0 : Int), (0 : Int))) 0).2.2)) 1).2.1, (ix ((List.replicate (2 : Int).toNat ((0 : Int), (0 : Int), (0 : Int))).set (0 : Int).toNat (n_1, (ix (List.replicate (2 : Int).toNat ((0 : Int), (0 : Int), (0 : Int))) 0).2.1, (ix (List.replicate (2 : Int).toNat ((0 : Int), (0 : Int), (0 : Int))) 0).2.2)) 1).2.2)), ([] : LI), ([] : M3), c_344, c_349, ([] : M3))), none, ((pq b_25)), ([(b_25, oc #[v_9, (.slice none 0 0), v_13, v_345, v_350, v_17] 79)] ++ (fp_1030 ++ (([] : Seg) ++ (fp_14 ++ (fp_346 ++ (fp_351 ++ fp_18)))))), hV, rfl, (.inr ⟨b_25, (((List.replicate (2 : Int).toNat ((0 : Int), (0 : Int), (0 : Int))).set (0 : Int).toNat (n_1, (ix (List.replicate (2 : Int).toNat ((0 : Int), (0 : Int), (0 : Int))) 0).2.1, (ix (List.replicate (2 : Int).toNat ((0 : Int), (0 : Int), (0 : Int))) 0).2.2)).set (1 : Int).toNat (n_1, (ix ((List.replicate (2 : Int).toNat ((0 : Int), (0 : Int), (0 : Int))).set (0 : Int).toNat (n_1, (ix (List.replicate (2 : Int).toNat ((0 : Int), (0 : Int), (0 : Int))) 0).2.1, (ix (List.replicate (2 : Int).toNat ((0 : Int), (0 : Int), (0 : Int))) 0).2.2)) 1).2.1, (ix ((List.replicate (2 : Int).toNat ((0 : Int), (0 : Int), (0 : Int))).set (0 : Int).toNat (n_1, (ix (List.replicate (2 : Int).toNat ((0 : Int), (0 : Int), (0 : Int))) 0).2.1, (ix (List.replicate (2 : Int).toNat ((0 : Int), (0 : Int), (0 : Int))) 0).2.2)) 1).2.2)), ([] : LI), ([] : M3), c_344, c_349, ([] : M3), v_9, fp_1030, (.slice none 0 0), ([] : Seg), v_13, fp_14, v_345, fp_346, v_350, fp_351, v_17, fp_18, rfl, rfl, rfl, h_1029, OwnSl.nil, h_15, h_347, h_352, h_19⟩), hS⟩

theorem S_False_ {w0 : World} {H : View} {L : Seg} {w : World} {b_2 : Nat} {v_5 : Value} {nodes_4 : N3} {fp_7 : Seg} {v_10 : Value} {free_9 : LI} {fp_12 : Seg} {v_15 : Value} {xby_14 : M3} {fp_17 : Seg} {v_20 : Value} {order_19 : LI} {fp_22 : Seg} {v_25 : Value} {level_24 : LI} {fp_27 : Seg} {v_30 : Value} {memo_29 : M3} {fp_32 : Seg} {Q : Int → Prop} (h_6 : OwnSl H (cPair (cInt .i64) (cPair (cInt .i64) (cInt .i64))) 81 v_5 nodes_4 fp_7) (h_11 : OwnSl H (cInt .i64) 32 v_10 free_9 fp_12) (h_16 : OwnMp H kTri (cInt .i64) v_15 xby_14 fp_17) (h_21 : OwnSl H (cInt .i64) 3 v_20 order_19 fp_22) (h_26 : OwnSl H (cInt .i64) 3 v_25 level_24 fp_27) (h_31 : OwnMp H kTri (cInt .i64) v_30 memo_29 fp_32) (hS : St w0 H ([(b_2, oc #[v_5, v_10, v_15, v_20, v_25, v_30] 79)] ++ (fp_7 ++ (fp_12 ++ (fp_17 ++ (fp_22 ++ (fp_27 ++ (fp_32 ++ L))))))) w) (hV : V_False_ nodes_4 free_9 xby_14 order_19 level_24 memo_29 Q) :
 Calls Try.prog 14 #[(pq b_2)] w fun e w' => ∃ (r1 : Int), Q r1 ∧ e = .returned (i6 r1) ∧ I64 r1 ∧ St w0 H ([(b_2, oc #[v_5, v_10, v_15, v_20, v_25, v_30] 79)] ++ (fp_7 ++ (fp_12 ++ (fp_17 ++ (fp_22 ++ (fp_27 ++ (fp_32 ++ L))))))) w' := by
 unfold V_False_ at hV
 refine enter Try.func14 rfl Try.ntmps14 rfl (lk_args_cons (d := 0) (v := (pq b_2)) rfl (lk_args_nil _)) ?_
 refine WC.sr ?_
 refine WL.ma rfl rfl ?_
 refine WL.nx ?_
 refine WC.sr ?_
 refine WL.ma rfl rfl ?_
 refine WL.nx ?_
 refine WC.ret ?_
 replace hS := hS.f7.f7.f7.f7.f7.f7.f7
 exact leave1 rfl rfl ⟨0, hV, rfl, (by unfold I64; omega), hS⟩

theorem S_True_ {w0 : World} {H : View} {L : Seg} {w : World} {b_2 : Nat} {v_5 : Value} {nodes_4 : N3} {fp_7 : Seg} {v_10 : Value} {free_9 : LI} {fp_12 : Seg} {v_15 : Value} {xby_14 : M3} {fp_17 : Seg} {v_20 : Value} {order_19 : LI} {fp_22 : Seg} {v_25 : Value} {level_24 : LI} {fp_27 : Seg} {v_30 : Value} {memo_29 : M3} {fp_32 : Seg} {Q : Int → Prop} (h_6 : OwnSl H (cPair (cInt .i64) (cPair (cInt .i64) (cInt .i64))) 81 v_5 nodes_4 fp_7) (h_11 : OwnSl H (cInt .i64) 32 v_10 free_9 fp_12) (h_16 : OwnMp H kTri (cInt .i64) v_15 xby_14 fp_17) (h_21 : OwnSl H (cInt .i64) 3 v_20 order_19 fp_22) (h_26 : OwnSl H (cInt .i64) 3 v_25 level_24 fp_27) (h_31 : OwnMp H kTri (cInt .i64) v_30 memo_29 fp_32) (hS : St w0 H ([(b_2, oc #[v_5, v_10, v_15, v_20, v_25, v_30] 79)] ++ (fp_7 ++ (fp_12 ++ (fp_17 ++ (fp_22 ++ (fp_27 ++ (fp_32 ++ L))))))) w) (hV : V_True_ nodes_4 free_9 xby_14 order_19 level_24 memo_29 Q) :
 Calls Try.prog 15 #[(pq b_2)] w fun e w' => ∃ (r1 : Int), Q r1 ∧ e = .returned (i6 r1) ∧ I64 r1 ∧ St w0 H ([(b_2, oc #[v_5, v_10, v_15, v_20, v_25, v_30] 79)] ++ (fp_7 ++ (fp_12 ++ (fp_17 ++ (fp_22 ++ (fp_27 ++ (fp_32 ++ L))))))) w' := by
 unfold V_True_ at hV
 refine enter Try.func15 rfl Try.ntmps15 rfl (lk_args_cons (d := 0) (v := (pq b_2)) rfl (lk_args_nil _)) ?_
 refine WC.sr ?_
 refine WL.ma rfl rfl ?_
 refine WL.nx ?_
 refine WC.sr ?_
 refine WL.ma rfl rfl ?_
 refine WL.nx ?_
 refine WC.ret ?_
 replace hS := hS.f7.f7.f7.f7.f7.f7.f7
 exact leave1 rfl rfl ⟨1, hV, rfl, (by unfold I64; omega), hS⟩

theorem S_Is {w0 : World} {H : View} {L : Seg} {w : World} {b_2 : Nat} {v_5 : Value} {nodes_4 : N3} {fp_7 : Seg} {v_10 : Value} {free_9 : LI} {fp_12 : Seg} {v_15 : Value} {xby_14 : M3} {fp_17 : Seg} {v_20 : Value} {order_19 : LI} {fp_22 : Seg} {v_25 : Value} {level_24 : LI} {fp_27 : Seg} {v_30 : Value} {memo_29 : M3} {fp_32 : Seg} {i_34 : Int} {Q : Bool → Prop} (h_6 : OwnSl H (cPair (cInt .i64) (cPair (cInt .i64) (cInt .i64))) 81 v_5 nodes_4 fp_7) (h_11 : OwnSl H (cInt .i64) 32 v_10 free_9 fp_12) (h_16 : OwnMp H kTri (cInt .i64) v_15 xby_14 fp_17) (h_21 : OwnSl H (cInt .i64) 3 v_20 order_19 fp_22) (h_26 : OwnSl H (cInt .i64) 3 v_25 level_24 fp_27) (h_31 : OwnMp H kTri (cInt .i64) v_30 memo_29 fp_32) (hr_35 : I64 i_34) (hS : St w0 H ([(b_2, oc #[v_5, v_10, v_15, v_20, v_25, v_30] 79)] ++ (fp_7 ++ (fp_12 ++ (fp_17 ++ (fp_22 ++ (fp_27 ++ (fp_32 ++ L))))))) w) (hV : V_Is nodes_4 free_9 xby_14 order_19 level_24 memo_29 i_34 Q) :
 Calls Try.prog 64 #[(pq b_2), i6 i_34] w fun e w' => ∃ (r1 : Bool), Q r1 ∧ e = .returned (.bool r1) ∧ St w0 H ([(b_2, oc #[v_5, v_10, v_15, v_20, v_25, v_30] 79)] ++ (fp_7 ++ (fp_12 ++ (fp_17 ++ (fp_22 ++ (fp_27 ++ (fp_32 ++ L))))))) w' := by
 unfold V_Is at hV
 refine enter Try.func64 rfl Try.ntmps64 rfl (lk_args_cons (d := 0) (v := (pq b_2)) rfl (lk_args_cons (d := 1) (v := i6 i_34) rfl (lk_args_nil _))) ?_
 refine WC.sr ?_
 refine WL.ma rfl rfl ?_
 refine WL.nx ?_
 obtain ⟨J_41, hJ_42, hV⟩ := hV
 refine WC.meet (fun a w => ∃ (x_40 : Bool), J_41 x_40 ∧ St w0 H ([(b_2, oc #[v_5, v_10, v_15, v_20, v_25, v_30] 79)] ++ (fp_7 ++ (fp_12 ++ (fp_17 ++ (fp_22 ++ (fp_27 ++ (fp_32 ++ L))))))) w ∧ Fr 16 [(4, .bool x_40)] a) ?_ ?_
 rintro a w ⟨x_40, hI, hS, ha⟩
 refine in_frame ha ?_
 clear ha hV
 have hV := hJ_42 _ hI
 clear hI hJ_42
 refine WC.ret ?_
 replace hS := hS.f7.f7.f7.f7.f7.f7.f7
 exact leave1 rfl rfl ⟨x_40, hV, rfl, hS⟩
 clear hJ_42
 refine WC.region ?_
 refine WL.mv rfl rfl ?_
 refine WL.run hS rfl rfl rfl (ex_geq rfl rfl) ?_
 refine WL.mv rfl rfl ?_
 rcases Bool.eq_false_or_eq_true (decide (0 ≤ i_34)) with hg_44 | hg_44
 replace hV := hV.1 (of_decide_eq_true hg_44)
 refine WL.unguard rfl rfl hg_44 ?_
 refine WL.mv rfl rfl ?_
 refine WL.unguard rfl rfl hg_44 ?_
 refine WL.mv rfl rfl ?_
 refine WL.unguard rfl rfl hg_44 ?_
 refine WL.run hS rfl rfl rfl (ex_nilCheck rfl) ?_
 refine WL.unguard rfl rfl hg_44 ?_
 refine WL.run hS rfl rfl rfl (ex_fieldAddr (o' := 3) Try.underlying79 rfl Try.sizeOf27 rfl rfl) ?_
 refine WL.unguard rfl rfl hg_44 ?_
 refine WL.run hS rfl rfl rfl (ex_load_box Try.isAgg27 rfl rfl) ?_
 refine WL.unguard rfl rfl hg_44 ?_
 have hl_45 : Len order_19 := h_21.bound
 replace hV := hV hl_45
 refine WL.run hS rfl rfl rfl (ex_len_own Try.underlying27 rfl h_21) ?_
 refine WL.unguard rfl rfl hg_44 ?_
 refine WL.run hS rfl rfl rfl (ex_lss rfl rfl) ?_
 refine WL.run hS rfl rfl rfl (ex_pick_t rfl hg_44 rfl) ?_
 refine WL.ma rfl rfl ?_
 refine WL.nil ?_
 replace hS := hS.f7.f7.f7.f7.f7.f7.f7
 exact WQ.there fun a ha => ⟨decide (i_34 < (order_19.length : Int)), hV, hS, ha.of_sub ⟨rfl, trivial⟩⟩
 replace hV := hV.2 (of_decide_eq_false hg_44)
 refine WL.skip_g rfl rfl rfl hg_44 rfl rfl ?_
 refine WL.skip_g rfl rfl rfl hg_44 rfl rfl ?_
 refine WL.skip_g rfl rfl rfl hg_44 rfl rfl ?_
 refine WL.skip_g rfl rfl rfl hg_44 rfl rfl ?_
 refine WL.skip_g rfl rfl rfl hg_44 rfl rfl ?_
 refine WL.skip_g rfl rfl rfl hg_44 rfl rfl ?_
 refine WL.skip_g rfl rfl rfl hg_44 rfl rfl ?_
 refine WL.run hS rfl rfl rfl (ex_pick_f rfl hg_44 rfl) ?_
 refine WL.ma rfl rfl ?_
 refine WL.nil ?_
 replace hS := hS.f7.f7.f7.f7.f7.f7.f7
 exact WQ.there fun a ha => ⟨false, hV, hS, ha.of_sub ⟨rfl, trivial⟩⟩

theorem S_make {w0 : World} {H : View} {L : Seg} {w : World} {b_2 : Nat} {v_5 : Value} {nodes_4 : N3} {fp_7 : Seg} {v_10 : Value} {free_9 : LI} {fp_12 : Seg} {v_15 : Value} {xby_14 : M3} {fp_17 : Seg} {v_20 : Value} {order_19 : LI} {fp_22 : Seg} {v_25 : Value} {level_24 : LI} {fp_27 : Seg} {v_30 : Value} {memo_29 : M3} {fp_32 : Seg} {xat_34 : Int} {low_36 : Int} {up_38 : Int} {Q : Int → N3 → LI → M3 → Prop} (h_6 : OwnSl H (cPair (cInt .i64) (cPair (cInt .i64) (cInt .i64))) 81 v_5 nodes_4 fp_7) (h_11 : OwnSl H (cInt .i64) 32 v_10 free_9 fp_12) (h_16 : OwnMp H kTri (cInt .i64) v_15 xby_14 fp_17) (h_21 : OwnSl H (cInt .i64) 3 v_20 order_19 fp_22) (h_26 : OwnSl H (cInt .i64) 3 v_25 level_24 fp_27) (h_31 : OwnMp H kTri (cInt .i64) v_30 memo_29 fp_32) (hr_35 : I64 xat_34) (hr_37 : I64 low_36) (hr_39 : I64 up_38) (hS : St w0 H ([(b_2, oc #[v_5, v_10, v_15, v_20, v_25, v_30] 79)] ++ (fp_7 ++ (fp_12 ++ (fp_17 ++ (fp_22 ++ (fp_27 ++ (fp_32 ++ L))))))) w) (hV : V_make nodes_4 free_9 xby_14 order_19 level_24 memo_29 xat_34 low_36 up_38 Q) :
 Calls Try.prog 51 #[(pq b_2), i6 xat_34, i6 low_36, i6 up_38] w fun e w' => ∃ (r1 : Int) (r2 : N3) (r3 : LI) (r4 : M3) (v2 : Value) (fp2 : Seg) (v3 : Value) (fp3 : Seg) (fp4 : Seg), Q r1 r2 r3 r4 ∧ e = .returned (i6 r1) ∧ I64 r1 ∧ OwnSl H (cPair (cInt .i64) (cPair (cInt .i64) (cInt .i64))) 81 v2 r2 fp2 ∧ OwnSl H (cInt .i64) 32 v3 r3 fp3 ∧ OwnMp H kTri (cInt .i64) v_15 r4 fp4 ∧ St w0 H ([(b_2, oc #[v2, v3, v_15, v_20, v_25, v_30] 79)] ++ (fp2 ++ (fp3 ++ (fp4 ++ (fp_22 ++ (fp_27 ++ (fp_32 ++ L))))))) w' := by
 unfold V_make at hV
 refine enter Try.func51 rfl Try.ntmps51 rfl (lk_args_cons (d := 0) (v := (pq b_2)) rfl (lk_args_cons (d := 1) (v := i6 xat_34) rfl (lk_args_cons (d := 2) (v := i6 low_36) rfl (lk_args_cons (d := 3) (v := i6 up_38) rfl (lk_args_nil _))))) ?_
 refine WC.sr ?_
 refine WL.ma rfl rfl ?_
 refine WL.nx ?_
 refine WC.seq ?_
 refine WC.sr ?_
 refine WL.mv rfl rfl ?_
 refine WL.mv rfl rfl ?_
 refine WL.run hS rfl rfl rfl (ex_eql rfl rfl) ?_
 refine WL.nx ?_
 refine WC.cond rfl ?_ ?_
 intro hc_197
 replace hV := hV.1 (of_decide_eq_true hc_197)
 refine WC.sr ?_
 refine WL.mv rfl rfl ?_
 refine WL.ma rfl rfl ?_
 refine WL.nx ?_
 refine WC.ret ?_
 refine WQ.pass nofun ?_
 replace hS := hS.f7.f7.f7.f7.f7.f7.f7
 exact leave1 rfl rfl ⟨low_36, nodes_4, free_9, xby_14, v_5, fp_7, v_10, fp_12, fp_17, hV, rfl, hr_37, h_6, h_11, h_16, hS⟩
 intro hc_197
 replace hV := hV.2 (of_decide_eq_false hc_197)
 refine WC.skip ?_
 refine WQ.next ?_
 refine WC.sr ?_
 refine WL.mv rfl rfl ?_
 refine WL.mv rfl rfl ?_
 refine WL.mv rfl rfl ?_
 refine WL.run hS rfl rfl rfl (ex_build (vs := [i6 xat_34, i6 low_36, i6 up_38]) (zc := #[i6 0, i6 0, i6 0]) (cs := #[i6 xat_34, i6 low_36, i6 up_38]) (places := #[(0, 1), (1, 1), (2, 1)]) Try.underlying81 Try.zeroValue81 (fun w => by simp [Try.sizeOf3, Try.sizeOf32]) rfl ⟨rfl, rfl, rfl, trivial⟩ rfl (by simp [Instr.fill, cells_int, cells_bool])) ?_
 refine WL.alloc (arr := #[i6 0, i6 0, i6 0]) rfl Try.zeroValue81 rfl hS ?_
 clear hS
 intro b_41 w hS
 refine WL.store_box (pre := []) (old := [i6 0, i6 0, i6 0]) (rst := []) (cs := [i6 xat_34, i6 low_36, i6 up_38]) (arr' := #[i6 xat_34, i6 low_36, i6 up_38]) Try.sizeOf81 rfl rfl rfl ⟨rfl, rfl, rfl, trivial⟩ rfl rfl rfl rfl hS ?_
 clear hS
 intro w hS
 refine WL.nx ?_
 refine WC.sub (m := [(0, (pq b_2)), (9, (pq b_41))]) ⟨rfl, rfl, trivial⟩ ?_
 refine WC.seq ?_
 refine WC.seq ?_
 refine WC.quiet (C := St w0 H ([(b_41, oc #[i6 xat_34, i6 low_36, i6 up_38] 81)] ++ ([(b_2, oc #[v_5, v_10, v_15, v_20, v_25, v_30] 79)] ++ (fp_7 ++ (fp_12 ++ (fp_17 ++ (fp_22 ++ (fp_27 ++ (fp_32 ++ L))))))))) Try.mixed (by kernel_rfl) (hS.drawn _) ?_
 clear hS w
 refine Wq.run rfl rfl rfl (ex_move rfl) ?_
 refine Wq.run rfl rfl rfl (ex_nilCheck rfl) ?_
 refine Wq.run rfl rfl rfl (ex_fieldAddr (o' := 2) Try.underlying79 rfl Try.sizeOf76 rfl rfl) ?_
 refine Wq.run rfl rfl rfl ((ex_load_box Try.isAgg76 rfl rfl).of (fun _ h => St.f2 h)) ?_
 refine Wq.run rfl rfl rfl (ex_load_box_agg (cs := [i6 xat_34, i6 low_36, i6 up_38]) Try.isAgg81 Try.sizeOf81 rfl rfl rfl) ?_
 refine Wq.runx rfl rfl rfl (exQ (ex_lookup_ok (c := (cInt .i64)) (k := (xat_34, low_36, up_38)) (d := 0) Try.underlying76 Try.key81 Try.zeroValue32 ⟨rfl, I64.has (by unfold I64; omega)⟩ rfl rfl h_16) _ (fun _ h => St.f5 h)) ?_
 rintro _ ⟨u_43, rfl, hu_44⟩
 obtain ⟨rfl, hr_45⟩ := cInt_rep hu_44
 replace hr_45 := has_I64 hr_45
 replace hV := hV hr_45
 refine Wq.run rfl rfl rfl (ex_move rfl) ?_
 refine Wq.run rfl rfl rfl (ex_extract rfl rfl) ?_
 refine Wq.run rfl rfl rfl (ex_extract rfl rfl) ?_
 refine Wq.run rfl rfl rfl (ex_assign rfl) ?_
 refine Wq.run rfl rfl rfl (ex_assign rfl) ?_
 refine Wq.nil fun w hS => ?_
 refine WQ.next ?_
 refine WC.sr ?_
 refine WL.mv rfl rfl ?_
 refine WL.nx ?_
 refine WC.sub (m := [(0, (pq b_2)), (9, (pq b_41)), (10, i6 (mgetD xby_14 (xat_34, low_36, up_38) 0)), (31, .bool (mhas xby_14 (xat_34, low_36, up_38)))]) ⟨rfl, rfl, rfl, rfl, trivial⟩ ?_
 refine WC.cond rfl ?_ ?_
 intro hc_196
 replace hV := hV.1 hc_196
 refine WC.sr ?_
 refine WL.mv rfl rfl ?_
 refine WL.ma rfl rfl ?_
 refine WL.nx ?_
 replace hS := hS.drop
 refine WC.ret ?_
 refine WQ.pass nofun ?_
 replace hS := hS.f7.f7.f7.f7.f7.f7.f7
 exact leave1 rfl rfl ⟨(mgetD xby_14 (xat_34, low_36, up_38) 0), nodes_4, free_9, xby_14, v_5, fp_7, v_10, fp_12, fp_17, hV, rfl, hr_45, h_6, h_11, h_16, hS⟩
 intro hc_196
 replace hV := hV.2 hc_196
 refine WC.skip ?_
 refine WQ.next ?_
 refine WC.sr ?_
 refine WL.ma rfl rfl ?_
 refine WL.nx ?_
 obtain ⟨J_119, hJ_120, hV⟩ := hV
 refine WC.meet (fun a w => ∃ (c_108 : N3) (c_113 : LI) (n_117 : Int) (v_109 : Value) (fp_110 : Seg) (v_114 : Value) (fp_115 : Seg), J_119 (c_108, c_113, n_117) ∧ OwnSl H (cPair (cInt .i64) (cPair (cInt .i64) (cInt .i64))) 81 v_109 c_108 fp_110 ∧ OwnSl H (cInt .i64) 32 v_114 c_113 fp_115 ∧ I64 n_117 ∧ St w0 H ([(b_2, oc #[v_109, v_114, v_15, v_20, v_25, v_30] 79)] ++ (fp_110 ++ (fp_115 ++ (fp_17 ++ (fp_22 ++ (fp_27 ++ (fp_32 ++ ([(b_41, oc #[i6 xat_34, i6 low_36, i6 up_38] 81)] ++ L)))))))) w ∧ Fr 86 [(0, (pq b_2)), (9, (pq b_41)), (12, i6 n_117)] a) ?_ ?_
 rintro a w ⟨c_108, c_113, n_117, v_109, fp_110, v_114, fp_115, hI, h_111, h_116, hr_118, hS, ha⟩
 refine in_frame ha ?_
 clear ha hV
 have hV := hJ_120 _ hI
 clear hI hJ_120
 refine WC.seq ?_
 refine WC.drawn (σ := [0, 1, 2, 3, 4, 5, 6]) (C := St w0 H ([(b_2, oc #[v_109, v_114, v_15, v_20, v_25, v_30] 79)] ++ (fp_110 ++ (fp_115 ++ (fp_17 ++ (fp_22 ++ (fp_27 ++ (fp_32 ++ ([(b_41, oc #[i6 xat_34, i6 low_36, i6 up_38] 81)] ++ L))))))))) [[], [0], [0, 1], [0, 1, 2], [], [], [0, 1, 2, 3, 4, 5]] [6] Try.mixed (by kernel_rfl) (hS.drawn _) ?_
 clear hS w
 refine Wd.run rfl rfl rfl rfl (fun _ => ex_move rfl) fun q_183 hq_182 => ?_
 refine Wd.run rfl rfl rfl rfl (fun _ => ex_nilCheck rfl) fun q_185 hq_184 => ?_
 refine Wd.run rfl rfl rfl rfl (fun _ => ex_fieldAddr (o' := 2) Try.underlying79 rfl Try.sizeOf76 rfl rfl) fun q_187 hq_186 => ?_
 refine Wd.runb (off := 2) rfl rfl rfl rfl (fun _ _ _ h => ex_load_box Try.isAgg76 rfl h) rfl (fun _ h => h) fun q_189 hq_188 => ?_
 refine Wd.runbs (off := 0) (k := 3) (cs := [i6 xat_34, i6 low_36, i6 up_38]) rfl rfl rfl rfl (fun _ _ _ h => ex_load_box_agg Try.isAgg81 Try.sizeOf81 rfl h rfl) rfl (fun _ h => St.f8 h) fun q_191 hq_190 => ?_
 refine Wd.run rfl rfl rfl rfl (fun _ => ex_move rfl) fun q_193 hq_192 => ?_
 refine Wd.turn rfl rfl rfl fun w hS => ?_
 replace hS := hS.f4
 refine WL.mapUpdate (k := (xat_34, low_36, up_38)) (e := n_117) Try.underlying76 Try.key81 ⟨hr_35, hr_37, hr_39⟩ (cInt_mk (I64.has hr_118)) rfl rfl rfl hS h_16 ?_
 clear hS
 intro w fp_194 h_195 hS
 refine WL.nil (DQ.mk2 (C' := St w0 H (fp_194 ++ ([(b_2, oc #[v_109, v_114, v_15, v_20, v_25, v_30] 79)] ++ (fp_110 ++ (fp_115 ++ (fp_22 ++ (fp_27 ++ (fp_32 ++ ([(b_41, oc #[i6 xat_34, i6 low_36, i6 up_38] 81)] ++ L))))))))) hS ⟨il, il, il, il, il, il, trivial⟩ ?_)
 clear hS w
 refine Wd.nil fun w hS => ?_
 refine WQ.next ?_
 replace hS := hS.f8.drop
 refine WC.sr ?_
 refine WL.mv rfl rfl ?_
 refine WL.ma rfl rfl ?_
 refine WL.nx ?_
 refine WC.sub (m := [(8, i6 n_117)]) ⟨rfl, trivial⟩ ?_
 refine WC.ret ?_
 replace hS := hS.f7.f7.f7.f4.f7.f7.f7
 exact leave1 rfl rfl ⟨n_117, c_108, c_113, (mset xby_14 (xat_34, low_36, up_38) n_117), v_109, fp_110, v_114, fp_115, fp_194, hV, rfl, hr_118, h_111, h_116, h_195, hS⟩
 clear hJ_120
 refine WC.sr ?_
 refine WL.mv rfl rfl ?_
 refine WL.run hS rfl rfl rfl (ex_nilCheck rfl) ?_
 refine WL.run hS rfl rfl rfl (ex_fieldAddr (o' := 1) Try.underlying79 rfl Try.sizeOf35 rfl rfl) ?_
 replace hS := hS.f2
 refine WL.run hS rfl rfl rfl (ex_load_box Try.isAgg35 rfl rfl) ?_
 have hl_121 : Len free_9 := h_11.bound
 replace hV := hV hl_121
 refine WL.run hS rfl rfl rfl (ex_len_own Try.underlying35 rfl h_11) ?_
 obtain ⟨hi_123, hV⟩ := hV
 refine WL.run hS rfl rfl rfl (ex_sub rfl rfl hi_123) ?_
 refine WL.ma rfl rfl ?_
 refine WL.nx ?_
 refine WC.sr ?_
 refine WL.mv rfl rfl ?_
 refine WL.run hS rfl rfl rfl (ex_geq rfl rfl) ?_
 refine WL.nx ?_
 refine WC.sub (m := [(0, (pq b_2)), (9, (pq b_41)), (13, i6 ((free_9.length : Int) - 1)), (40, .bool (decide (0 ≤ ((free_9.length : Int) - 1))))]) ⟨rfl, rfl, rfl, rfl, trivial⟩ ?_
 refine WC.cond rfl ?_ ?_
 intro hc_181
 replace hV := hV.1 (of_decide_eq_true hc_181)
 refine WC.sr ?_
 refine WL.mv rfl rfl ?_
 refine WL.run hS rfl rfl rfl (ex_nilCheck rfl) ?_
 refine WL.run hS rfl rfl rfl (ex_fieldAddr (o' := 1) Try.underlying79 rfl Try.sizeOf35 rfl rfl) ?_
 refine WL.run hS rfl rfl rfl (ex_load_box Try.isAgg35 rfl rfl) ?_
 refine WL.mv rfl rfl ?_
 obtain ⟨hin_125, hV⟩ := hV
 refine WL.runx hS rfl rfl rfl (ex_index_own Try.underlying35 Try.sizeOf32 rfl rfl h_11 hin_125) ?_
 intro p_126 hp_127
 replace hS := hS.f4
 refine WL.runx hS rfl rfl rfl (exNow (H := H) (L := [(b_2, oc #[v_5, v_10, v_15, v_20, v_25, v_30] 79)] ++ ([(b_41, oc #[i6 xat_34, i6 low_36, i6 up_38] 81)] ++ (fp_7 ++ (fp_17 ++ (fp_22 ++ (fp_27 ++ (fp_32 ++ L))))))) (ex_load_own_s Try.isAgg32 rfl rfl h_11 hp_127 hin_125)) ?_
 intro u_128 hu_129
 obtain ⟨rfl, hr_130⟩ := cInt_rep hu_129
 replace hr_130 := has_I64 hr_130
 replace hV := hV hr_130
 refine WL.ma rfl rfl ?_
 refine WL.nx ?_
 refine WC.sr ?_
 refine WL.mv rfl rfl ?_
 refine WL.mv rfl rfl ?_
 refine WL.run hS rfl rfl rfl (ex_nilCheck rfl) ?_
 refine WL.run hS rfl rfl rfl (ex_fieldAddr (o' := 1) Try.underlying79 rfl Try.sizeOf35 rfl rfl) ?_
 replace hS := hS.f2
 refine WL.run hS rfl rfl rfl (ex_load_box Try.isAgg35 rfl rfl) ?_
 refine WL.mv rfl rfl ?_
 obtain ⟨hb_131, hV⟩ := hV
 refine WL.runx hS rfl rfl rfl (ex_slice_hi_own2 Try.underlying35 Try.sizeOf32 rfl rfl h_11 hb_131) ?_
 rintro v_132 ⟨h_133, ht_134⟩
 refine WL.run hS rfl rfl rfl (ex_nilCheck rfl) ?_
 refine WL.run hS rfl rfl rfl (ex_fieldAddr (o' := 1) Try.underlying79 rfl Try.sizeOf35 rfl rfl) ?_
 refine WL.store_box (pre := [v_5]) (old := [v_10]) (rst := [v_15, v_20, v_25, v_30]) (cs := [v_132]) (arr' := #[v_5, v_132, v_15, v_20, v_25, v_30]) Try.sizeOf35 rfl rfl (congrArg Array.toList (cells_one (OwnSl.one ht_134))) ⟨(OwnSl.one ht_134), trivial⟩ rfl rfl rfl rfl hS ?_
 clear hS
 intro w hS
 refine WL.nx ?_
 refine WC.sub (m := [(0, (pq b_2)), (9, (pq b_41)), (12, i6 (ix free_9 ((free_9.length : Int) - 1)))]) ⟨rfl, rfl, rfl, trivial⟩ ?_
 refine WC.drawn (σ := [0, 1, 2, 3, 4, 5, 6, 7]) (C := St w0 H ([(b_2, oc #[v_5, v_132, v_15, v_20, v_25, v_30] 79)] ++ (fp_12 ++ ([(b_41, oc #[i6 xat_34, i6 low_36, i6 up_38] 81)] ++ (fp_7 ++ (fp_17 ++ (fp_22 ++ (fp_27 ++ (fp_32 ++ L))))))))) [[], [0], [0, 1], [0, 1, 2], [], [], [0, 1, 2, 3, 4, 5], [0, 1, 2, 3, 4, 5, 6]] [7] Try.mixed (by kernel_rfl) (hS.drawn _) ?_
 clear hS w
 refine Wd.run rfl rfl rfl rfl (fun _ => ex_move rfl) fun q_137 hq_136 => ?_
 refine Wd.run rfl rfl rfl rfl (fun _ => ex_nilCheck rfl) fun q_139 hq_138 => ?_
 refine Wd.run rfl rfl rfl rfl (fun _ => ex_fieldAddr (o' := 0) Try.underlying79 rfl Try.sizeOf75 rfl rfl) fun q_141 hq_140 => ?_
 refine Wd.runb (off := 0) rfl rfl rfl rfl (fun _ _ _ h => ex_load_box Try.isAgg75 rfl h) rfl (fun _ h => h) fun q_143 hq_142 => ?_
 refine Wd.run rfl rfl rfl rfl (fun _ => ex_move rfl) fun q_145 hq_144 => ?_
 refine Wd.runbs (off := 0) (k := 3) (cs := [i6 xat_34, i6 low_36, i6 up_38]) rfl rfl rfl rfl (fun _ _ _ h => ex_load_box_agg Try.isAgg81 Try.sizeOf81 rfl h rfl) rfl (fun _ h => St.f3 h) fun q_147 hq_146 => ?_
 obtain ⟨hin_150, hV⟩ := hV
 refine Wd.runx rfl rfl rfl rfl (exAll (ex_index_own Try.underlying75 Try.sizeOf81 rfl rfl h_6 hin_150)) ?_
 intro p_151 hp_152
 intro q_149 hq_148
 refine Wd.turn rfl rfl rfl fun w hS => ?_
 replace hS := hS.f4
 refine WL.store_own_agg (c := (cPair (cInt .i64) (cPair (cInt .i64) (cInt .i64)))) (z := (xat_34, low_36, up_38)) (m' := [i6 xat_34, i6 low_36, i6 up_38]) Try.sizeOf81 rfl rfl rfl ⟨rfl, rfl, rfl, trivial⟩ ⟨[i6 xat_34], _, rfl, (cInt_mk (I64.has hr_35)), ⟨[i6 low_36], _, rfl, (cInt_mk (I64.has hr_37)), (cInt_mk (I64.has hr_39))⟩⟩ hS h_6 hp_152 hin_150 ?_
 clear hS
 intro w fp_154 h_153 hS
 refine WL.nil (DQ.mk2 (C' := St w0 H (fp_154 ++ ([(b_2, oc #[v_5, v_132, v_15, v_20, v_25, v_30] 79)] ++ (fp_12 ++ ([(b_41, oc #[i6 xat_34, i6 low_36, i6 up_38] 81)] ++ (fp_17 ++ (fp_22 ++ (fp_27 ++ (fp_32 ++ L))))))))) hS ⟨il, il, il, il, il, il, il, trivial⟩ ?_)
 clear hS w
 refine Wd.nil fun w hS => ?_
 replace hS := hS.f4.f8.f8.f8.f8.f8.f7.f8
 exact WQ.there fun a ha => ⟨(nodes_4.set (ix free_9 ((free_9.length : Int) - 1)).toNat (xat_34, low_36, up_38)), (free_9.take ((free_9.length : Int) - 1).toNat), (ix free_9 ((free_9.length : Int) - 1)), v_5, fp_154, v_132, fp_12, hV, h_153, ht_134, hr_130, hS, ha.of_sub ⟨rfl, rfl, rfl, trivial⟩⟩
 intro hc_181
 replace hV := hV.2 (of_decide_eq_false hc_181)
 refine WC.sr ?_
 refine WL.mv rfl rfl ?_
 refine WL.run hS rfl rfl rfl (ex_nilCheck rfl) ?_
 refine WL.run hS rfl rfl rfl (ex_fieldAddr (o' := 0) Try.underlying79 rfl Try.sizeOf75 rfl rfl) ?_
 refine WL.run hS rfl rfl rfl (ex_load_box Try.isAgg75 rfl rfl) ?_
 have hl_155 : Len nodes_4 := h_6.bound
 replace hV := hV hl_155
 refine WL.run hS rfl rfl rfl (ex_len_own Try.underlying75 rfl h_6) ?_
 refine WL.ma rfl rfl ?_
 refine WL.nx ?_
 refine WC.drawn (σ := [0, 1, 2, 3, 4, 5, 6, 7, 8, 9, 10]) (C := St w0 H ([(b_2, oc #[v_5, v_10, v_15, v_20, v_25, v_30] 79)] ++ ([(b_41, oc #[i6 xat_34, i6 low_36, i6 up_38] 81)] ++ (fp_7 ++ (fp_12 ++ (fp_17 ++ (fp_22 ++ (fp_27 ++ (fp_32 ++ L))))))))) [[], [], [1], [1, 2], [1, 2, 3], [], [5], [1, 2, 3, 4, 5, 6], [0, 1, 2, 3, 4, 5, 6, 7], [0, 1, 2, 3, 4, 5, 6, 7, 8], [0, 1, 2, 3, 4, 5, 6, 7, 8, 9]] [6, 7, 10] Try.mixed (by kernel_rfl) (hS.drawn _) ?_
 clear hS w
 refine Wd.run rfl rfl rfl rfl (fun _ => ex_move rfl) fun q_157 hq_156 => ?_
 refine Wd.run rfl rfl rfl rfl (fun _ => ex_move rfl) fun q_159 hq_158 => ?_
 refine Wd.run rfl rfl rfl rfl (fun _ => ex_nilCheck rfl) fun q_161 hq_160 => ?_
 refine Wd.run rfl rfl rfl rfl (fun _ => ex_fieldAddr (o' := 0) Try.underlying79 rfl Try.sizeOf75 rfl rfl) fun q_163 hq_162 => ?_
 refine Wd.runb (off := 0) rfl rfl rfl rfl (fun _ _ _ h => ex_load_box Try.isAgg75 rfl h) rfl (fun _ h => h) fun q_165 hq_164 => ?_
 refine Wd.runbs (off := 0) (k := 3) (cs := [i6 xat_34, i6 low_36, i6 up_38]) rfl rfl rfl rfl (fun _ _ _ h => ex_load_box_agg Try.isAgg81 Try.sizeOf81 rfl h rfl) rfl (fun _ h => St.f2 h) fun q_167 hq_166 => ?_
 refine Wd.turn rfl rfl rfl fun w hS => ?_
 refine WL.builds (c := (cPair (cInt .i64) (cPair (cInt .i64) (cInt .i64)))) (xs := [(xat_34, low_36, up_38)]) (vs := [.agg #[i6 xat_34, i6 low_36, i6 up_38]]) (css := [[i6 xat_34, i6 low_36, i6 up_38]]) rfl Try.underlying75 Try.info81 rfl ⟨rfl, trivial⟩ rfl (by decide) rfl (by simp; rfl) ⟨[i6 xat_34, i6 low_36, i6 up_38], _, rfl, ⟨[i6 xat_34], _, rfl, (cInt_mk (I64.has hr_35)), ⟨[i6 low_36], _, rfl, (cInt_mk (I64.has hr_37)), (cInt_mk (I64.has hr_39))⟩⟩, rfl⟩ hS rfl (by decide) ?_
 clear hS
 intro v_169 w fp_170 h_171 hS
 refine WL.nil (DQ.mk2 (C' := St w0 H (fp_170 ++ ([(b_2, oc #[v_5, v_10, v_15, v_20, v_25, v_30] 79)] ++ ([(b_41, oc #[i6 xat_34, i6 low_36, i6 up_38] 81)] ++ (fp_7 ++ (fp_12 ++ (fp_17 ++ (fp_22 ++ (fp_27 ++ (fp_32 ++ L)))))))))) hS ⟨il, .inr (hq_164 H (fp_170 ++ ([(b_41, oc #[i6 xat_34, i6 low_36, i6 up_38] 81)] ++ (fp_7 ++ (fp_12 ++ (fp_17 ++ (fp_22 ++ (fp_27 ++ (fp_32 ++ L)))))))) #[v_5, v_10, v_15, v_20, v_25, v_30] _ rfl (fun _ h => St.f2 h)), .inr (hq_162 _), .inr (hq_160 _), .inr (hq_158 _), .inr (hq_156 _), trivial⟩ ?_)
 clear hS w
 refine Wd.turn rfl rfl rfl fun w hS => ?_
 obtain ⟨hr_172, hV⟩ := hV
 replace hS := hS.f4
 refine WL.append (c := (cPair (cInt .i64) (cPair (cInt .i64) (cInt .i64)))) (xs := nodes_4) (ys := ([(xat_34, low_36, up_38)])) rfl Try.underlying75 Try.info81 rfl rfl rfl hS h_6 (h_171.src hS.f2) hr_172.1 hr_172.2 ?_
 clear hS
 intro v_173 w fp_174 h_175 hS
 refine WL.nil (DQ.mk2 (C' := St w0 H (fp_174 ++ (fp_170 ++ ([(b_2, oc #[v_5, v_10, v_15, v_20, v_25, v_30] 79)] ++ ([(b_41, oc #[i6 xat_34, i6 low_36, i6 up_38] 81)] ++ (fp_12 ++ (fp_17 ++ (fp_22 ++ (fp_27 ++ (fp_32 ++ L)))))))))) hS ⟨il, il, il, il, il, .inr (hq_156 _), trivial⟩ ?_)
 clear hS w
 refine Wd.run rfl rfl rfl rfl (fun _ => ex_nilCheck rfl) fun q_178 hq_177 => ?_
 refine Wd.run rfl rfl rfl rfl (fun _ => ex_fieldAddr (o' := 0) Try.underlying79 rfl Try.sizeOf75 rfl rfl) fun q_180 hq_179 => ?_
 refine Wd.turn rfl rfl rfl fun w hS => ?_
 replace hS := hS.f3
 refine WL.store_box (pre := []) (old := [v_5]) (rst := [v_10, v_15, v_20, v_25, v_30]) (cs := [v_173]) (arr' := #[v_173, v_10, v_15, v_20, v_25, v_30]) Try.sizeOf75 rfl rfl (congrArg Array.toList (cells_one (OwnSl.one h_175))) ⟨(OwnSl.one h_175), trivial⟩ rfl rfl rfl rfl hS ?_
 clear hS
 intro w hS
 refine WL.nil (DQ.mk2 (C' := St w0 H ([(b_2, oc #[v_173, v_10, v_15, v_20, v_25, v_30] 79)] ++ (fp_174 ++ (fp_170 ++ ([(b_41, oc #[i6 xat_34, i6 low_36, i6 up_38] 81)] ++ (fp_12 ++ (fp_17 ++ (fp_22 ++ (fp_27 ++ (fp_32 ++ L)))))))))) hS ⟨il, il, il, il, il, il, il, il, trivial⟩ ?_)
 clear hS w
 refine Wd.nil fun w hS => ?_
 replace hS := hS.f3.drop
 replace hS := hS.f3.f8.f8.f8.f8.f8.f8.f8
 exact WQ.there fun a ha => ⟨(nodes_4 ++ ([(xat_34, low_36, up_38)])), free_9, (nodes_4.length : Int), v_173, fp_174, v_10, fp_12, hV, h_175, h_11, (Len.i64 hl_155), hS, ha.of_sub ⟨rfl, rfl, rfl, trivial⟩⟩

theorem S_Var {w0 : World} {H : View} {L : Seg} {w : World} {b_2 : Nat} {v_5 : Value} {nodes_4 : N3} {fp_7 : Seg} {v_10 : Value} {free_9 : LI} {fp_12 : Seg} {v_15 : Value} {xby_14 : M3} {fp_17 : Seg} {v_20 : Value} {order_19 : LI} {fp_22 : Seg} {v_25 : Value} {level_24 : LI} {fp_27 : Seg} {v_30 : Value} {memo_29 : M3} {fp_32 : Seg} {i_34 : Int} {Q : Int → N3 → LI → M3 → Prop} (h_6 : OwnSl H (cPair (cInt .i64) (cPair (cInt .i64) (cInt .i64))) 81 v_5 nodes_4 fp_7) (h_11 : OwnSl H (cInt .i64) 32 v_10 free_9 fp_12) (h_16 : OwnMp H kTri (cInt .i64) v_15 xby_14 fp_17) (h_21 : OwnSl H (cInt .i64) 3 v_20 order_19 fp_22) (h_26 : OwnSl H (cInt .i64) 3 v_25 level_24 fp_27) (h_31 : OwnMp H kTri (cInt .i64) v_30 memo_29 fp_32) (hr_35 : I64 i_34) (hS : St w0 H ([(b_2, oc #[v_5, v_10, v_15, v_20, v_25, v_30] 79)] ++ (fp_7 ++ (fp_12 ++ (fp_17 ++ (fp_22 ++ (fp_27 ++ (fp_32 ++ L))))))) w) (hV : V_Var nodes_4 free_9 xby_14 order_19 level_24 memo_29 i_34 Q) :
 Calls Try.prog 27 #[(pq b_2), i6 i_34] w fun e w' => ∃ (r1 : Int) (r2 : N3) (r3 : LI) (r4 : M3) (v2 : Value) (fp2 : Seg) (v3 : Value) (fp3 : Seg) (fp4 : Seg), Q r1 r2 r3 r4 ∧ e = .returned (i6 r1) ∧ I64 r1 ∧ OwnSl H (cPair (cInt .i64) (cPair (cInt .i64) (cInt .i64))) 81 v2 r2 fp2 ∧ OwnSl H (cInt .i64) 32 v3 r3 fp3 ∧ OwnMp H kTri (cInt .i64) v_15 r4 fp4 ∧ St w0 H ([(b_2, oc #[v2, v3, v_15, v_20, v_25, v_30] 79)] ++ (fp2 ++ (fp3 ++ (fp4 ++ (fp_22 ++ (fp_27 ++ (fp_32 ++ L))))))) w' := by
 unfold V_Var at hV
 refine enter Try.func27 rfl Try.ntmps27 rfl (lk_args_cons (d := 0) (v := (pq b_2)) rfl (lk_args_cons (d := 1) (v := i6 i_34) rfl (lk_args_nil _))) ?_
 refine WC.sr ?_
 refine WL.ma rfl rfl ?_
 refine WL.nx ?_
 refine WC.seq ?_
 refine WC.sr ?_
 refine WL.mv rfl rfl ?_
 refine WL.mv rfl rfl ?_
 replace hS := hS.f7.f7.f7.f7.f7.f7.f7
 refine WL.call rfl rfl rfl (enters0 (vs := [(pq b_2), i6 i_34]) Try.call64 ⟨rfl, rfl, trivial⟩) (S_Is  h_6 h_11 h_16 h_21 h_26 h_31 hr_35 hS hV) ?_
 clear hV hS
 rintro _ w ⟨r_36, hV, rfl, hS⟩
 refine ⟨_, rfl, ?_⟩
 refine WL.run hS rfl rfl rfl (ex_not rfl) ?_
 refine WL.nx ?_
 refine WC.cond rfl ?_ ?_
 intro hc_54
 replace hV := hV.1 hc_54
 refine WC.sr ?_
 refine WL.ma rfl rfl ?_
 refine WL.nx ?_
 refine WC.ret ?_
 refine WQ.pass nofun ?_
 replace hS := hS.f7.f7.f7.f7.f7.f7.f7
 exact leave1 rfl rfl ⟨0, nodes_4, free_9, xby_14, v_5, fp_7, v_10, fp_12, fp_17, hV, rfl, (by unfold I64; omega), h_6, h_11, h_16, hS⟩
 intro hc_54
 replace hV := hV.2 hc_54
 refine WC.skip ?_
 refine WQ.next ?_
 refine WC.sr ?_
 refine WL.mv rfl rfl ?_
 refine WL.mv rfl rfl ?_
 replace hS := hS.f7.f7.f7.f7.f7.f7.f7
 refine WL.call rfl rfl rfl (enters0 (vs := [(pq b_2), i6 i_34, i6 0, i6 1]) Try.call51 ⟨rfl, rfl, rfl, rfl, trivial⟩) (S_make  h_6 h_11 h_16 h_21 h_26 h_31 hr_35 (by unfold I64; omega) (by unfold I64; omega) hS hV) ?_
 clear hV hS
 rintro _ w ⟨r_38, c_40, c_44, m_48, v_41, fp_42, v_45, fp_46, fp_49, hV, rfl, hr_39, h_43, h_47, h_50, hS⟩
 refine ⟨_, rfl, ?_⟩
 refine WL.ma rfl rfl ?_
 refine WL.nx ?_
 refine WC.sub (m := [(4, i6 r_38)]) ⟨rfl, trivial⟩ ?_
 refine WC.ret ?_
 replace hS := hS.f7.f7.f7.f7.f7.f7.f7
 exact leave1 rfl rfl ⟨r_38, c_40, c_44, m_48, v_41, fp_42, v_45, fp_46, fp_49, hV, rfl, hr_39, h_43, h_47, h_50, hS⟩

theorem S_depth {w0 : World} {H : View} {L : Seg} {w : World} {b_2 : Nat} {v_5 : Value} {nodes_4 : N3} {fp_7 : Seg} {v_10 : Value} {free_9 : LI} {fp_12 : Seg} {v_15 : Value} {xby_14 : M3} {fp_17 : Seg} {v_20 : Value} {order_19 : LI} {fp_22 : Seg} {v_25 : Value} {level_24 : LI} {fp_27 : Seg} {v_30 : Value} {memo_29 : M3} {fp_32 : Seg} {f_34 : Int} {Q : Int → Prop} (h_6 : OwnSl H (cPair (cInt .i64) (cPair (cInt .i64) (cInt .i64))) 81 v_5 nodes_4 fp_7) (h_11 : OwnSl H (cInt .i64) 32 v_10 free_9 fp_12) (h_16 : OwnMp H kTri (cInt .i64) v_15 xby_14 fp_17) (h_21 : OwnSl H (cInt .i64) 3 v_20 order_19 fp_22) (h_26 : OwnSl H (cInt .i64) 3 v_25 level_24 fp_27) (h_31 : OwnMp H kTri (cInt .i64) v_30 memo_29 fp_32) (hr_35 : I64 f_34) (hS : St w0 H ([(b_2, oc #[v_5, v_10, v_15, v_20, v_25, v_30] 79)] ++ (fp_7 ++ (fp_12 ++ (fp_17 ++ (fp_22 ++ (fp_27 ++ (fp_32 ++ L))))))) w) (hV : V_depth nodes_4 free_9 xby_14 order_19 level_24 memo_29 f_34 Q) :
 Calls Try.prog 65 #[(pq b_2), i6 f_34] w fun e w' => ∃ (r1 : Int), Q r1 ∧ e = .returned (i6 r1) ∧ I64 r1 ∧ St w0 H ([(b_2, oc #[v_5, v_10, v_15, v_20, v_25, v_30] 79)] ++ (fp_7 ++ (fp_12 ++ (fp_17 ++ (fp_22 ++ (fp_27 ++ (fp_32 ++ L))))))) w' := by
 unfold V_depth at hV
 refine enter Try.func65 rfl Try.ntmps65 rfl (lk_args_cons (d := 0) (v := (pq b_2)) rfl (lk_args_cons (d := 1) (v := i6 f_34) rfl (lk_args_nil _))) ?_
 refine WC.sr ?_
 refine WL.ma rfl rfl ?_
 refine WL.nx ?_
 refine WC.seq ?_
 refine WC.sr ?_
 refine WL.mv rfl rfl ?_
 refine WL.run hS rfl rfl rfl (ex_leq rfl rfl) ?_
 refine WL.nx ?_
 refine WC.cond rfl ?_ ?_
 intro hc_52
 replace hV := hV.1 (of_decide_eq_true hc_52)
 refine WC.sr ?_
 refine WL.mv rfl rfl ?_
 refine WL.run hS rfl rfl rfl (ex_nilCheck rfl) ?_
 refine WL.run hS rfl rfl rfl (ex_fieldAddr (o' := 3) Try.underlying79 rfl Try.sizeOf27 rfl rfl) ?_
 refine WL.run hS rfl rfl rfl (ex_load_box Try.isAgg27 rfl rfl) ?_
 have hl_37 : Len order_19 := h_21.bound
 replace hV := hV hl_37
 refine WL.run hS rfl rfl rfl (ex_len_own Try.underlying27 rfl h_21) ?_
 refine WL.ma rfl rfl ?_
 refine WL.nx ?_
 refine WC.sub (m := [(4, i6 (order_19.length : Int))]) ⟨rfl, trivial⟩ ?_
 refine WC.ret ?_
 refine WQ.pass nofun ?_
 replace hS := hS.f7.f7.f7.f7.f7.f7.f7
 exact leave1 rfl rfl ⟨(order_19.length : Int), hV, rfl, (Len.i64 hl_37), hS⟩
 intro hc_52
 replace hV := hV.2 (of_decide_eq_false hc_52)
 refine WC.skip ?_
 refine WQ.next ?_
 refine WC.seq ?_
 refine WC.quiet (C := St w0 H ([(b_2, oc #[v_5, v_10, v_15, v_20, v_25, v_30] 79)] ++ (fp_7 ++ (fp_12 ++ (fp_17 ++ (fp_22 ++ (fp_27 ++ (fp_32 ++ L)))))))) Try.mixed (by kernel_rfl) (hS.drawn _) ?_
 clear hS w
 refine Wq.run rfl rfl rfl (ex_move rfl) ?_
 refine Wq.run rfl rfl rfl (ex_nilCheck rfl) ?_
 refine Wq.run rfl rfl rfl (ex_fieldAddr (o' := 4) Try.underlying79 rfl Try.sizeOf27 rfl rfl) ?_
 refine Wq.run rfl rfl rfl (ex_load_box Try.isAgg27 rfl rfl) ?_
 refine Wq.run rfl rfl rfl (ex_move rfl) ?_
 refine Wq.run rfl rfl rfl (ex_nilCheck rfl) ?_
 refine Wq.run rfl rfl rfl (ex_fieldAddr (o' := 0) Try.underlying79 rfl Try.sizeOf75 rfl rfl) ?_
 refine Wq.run rfl rfl rfl (ex_load_box Try.isAgg75 rfl rfl) ?_
 refine Wq.run rfl rfl rfl (ex_move rfl) ?_
 obtain ⟨hin_38, hV⟩ := hV
 refine Wq.runx rfl rfl rfl (ex_index_own Try.underlying75 Try.sizeOf81 rfl rfl h_6 hin_38) ?_
 intro p_39 hp_40
 refine Wq.runx rfl rfl rfl (ex_fieldAddr_own Try.underlying81 rfl Try.sizeOf3 rfl hp_40) ?_
 intro p_42 hp_41
 refine Wq.runx rfl rfl rfl (exQ (ex_load_ownpart (d := (cInt .i64)) Try.isAgg3 rfl rfl h_6 hp_41 hin_38 Part.fst) _ (fun _ h => St.f2 h)) ?_
 intro u_43 hu_44
 obtain ⟨rfl, hr_45⟩ := cInt_rep hu_44
 replace hr_45 := has_I64 hr_45
 replace hV := hV hr_45
 obtain ⟨hin_46, hV⟩ := hV
 refine Wq.runx rfl rfl rfl (ex_index_own Try.underlying27 Try.sizeOf3 rfl rfl h_26 hin_46) ?_
 intro p_47 hp_48
 refine Wq.runx rfl rfl rfl (exQ (ex_load_own_s Try.isAgg3 rfl rfl h_26 hp_48 hin_46) _ (fun _ h => St.f6 h)) ?_
 intro u_49 hu_50
 obtain ⟨rfl, hr_51⟩ := cInt_rep hu_50
 replace hr_51 := has_I64 hr_51
 replace hV := hV hr_51
 refine Wq.run rfl rfl rfl (ex_assign rfl) ?_
 refine Wq.nil fun w hS => ?_
 refine WQ.next ?_
 refine WC.sub (m := [(4, i6 (ix level_24 ((ix nodes_4 f_34).1)))]) ⟨rfl, trivial⟩ ?_
 refine WC.ret ?_
 replace hS := hS.f7.f7.f7.f7.f7.f7.f7
 exact leave1 rfl rfl ⟨(ix level_24 ((ix nodes_4 f_34).1)), hV, rfl, hr_51, hS⟩

theorem S_split {w0 : World} {H : View} {L : Seg} {w : World} {b_2 : Nat} {v_5 : Value} {nodes_4 : N3} {fp_7 : Seg} {v_10 : Value} {free_9 : LI} {fp_12 : Seg} {v_15 : Value} {xby_14 : M3} {fp_17 : Seg} {v_20 : Value} {order_19 : LI} {fp_22 : Seg} {v_25 : Value} {level_24 : LI} {fp_27 : Seg} {v_30 : Value} {memo_29 : M3} {fp_32 : Seg} {f_34 : Int} {level_36 : Int} {Q : Int → Int → Prop} (h_6 : OwnSl H (cPair (cInt .i64) (cPair (cInt .i64) (cInt .i64))) 81 v_5 nodes_4 fp_7) (h_11 : OwnSl H (cInt .i64) 32 v_10 free_9 fp_12) (h_16 : OwnMp H kTri (cInt .i64) v_15 xby_14 fp_17) (h_21 : OwnSl H (cInt .i64) 3 v_20 order_19 fp_22) (h_26 : OwnSl H (cInt .i64) 3 v_25 level_24 fp_27) (h_31 : OwnMp H kTri (cInt .i64) v_30 memo_29 fp_32) (hr_35 : I64 f_34) (hr_37 : I64 level_36) (hS : St w0 H ([(b_2, oc #[v_5, v_10, v_15, v_20, v_25, v_30] 79)] ++ (fp_7 ++ (fp_12 ++ (fp_17 ++ (fp_22 ++ (fp_27 ++ (fp_32 ++ L))))))) w) (hV : V_split nodes_4 free_9 xby_14 order_19 level_24 memo_29 f_34 level_36 Q) :
 Calls Try.prog 66 #[(pq b_2), i6 f_34, i6 level_36] w fun e w' => ∃ (r1 : Int) (r2 : Int), Q r1 r2 ∧ e = .returned (.tuple #[i6 r1, i6 r2]) ∧ I64 r1 ∧ I64 r2 ∧ St w0 H ([(b_2, oc #[v_5, v_10, v_15, v_20, v_25, v_30] 79)] ++ (fp_7 ++ (fp_12 ++ (fp_17 ++ (fp_22 ++ (fp_27 ++ (fp_32 ++ L))))))) w' := by
 unfold V_split at hV
 refine enter Try.func66 rfl Try.ntmps66 rfl (lk_args_cons (d := 0) (v := (pq b_2)) rfl (lk_args_cons (d := 1) (v := i6 f_34) rfl (lk_args_cons (d := 2) (v := i6 level_36) rfl (lk_args_nil _)))) ?_
 refine WC.sr ?_
 refine WL.ma rfl rfl ?_
 refine WL.ma rfl rfl ?_
 refine WL.nx ?_
 refine WC.seq ?_
 refine WC.sr ?_
 refine WL.mv rfl rfl ?_
 refine WL.mv rfl rfl ?_
 replace hS := hS.f7.f7.f7.f7.f7.f7.f7
 refine WL.call rfl rfl rfl (enters0 (vs := [(pq b_2), i6 f_34]) Try.call65 ⟨rfl, rfl, trivial⟩) (S_depth  h_6 h_11 h_16 h_21 h_26 h_31 hr_35 hS hV) ?_
 clear hV hS
 rintro _ w ⟨r_38, hV, rfl, hr_39, hS⟩
 refine ⟨_, rfl, ?_⟩
 refine WL.mv rfl rfl ?_
 refine WL.run hS rfl rfl rfl (ex_neq rfl rfl) ?_
 refine WL.nx ?_
 refine WC.cond rfl ?_ ?_
 intro hc_58
 replace hV := hV.1 (of_decide_eq_true hc_58)
 refine WC.sr ?_
 refine WL.mv rfl rfl ?_
 refine WL.mv rfl rfl ?_
 refine WL.ma rfl rfl ?_
 refine WL.ma rfl rfl ?_
 refine WL.nx ?_
 refine WC.sub (m := [(6, i6 f_34), (7, i6 f_34)]) ⟨rfl, rfl, trivial⟩ ?_
 refine WC.ret ?_
 refine WQ.pass nofun ?_
 replace hS := hS.f7.f7.f7.f7.f7.f7.f7
 exact leave2 rfl rfl rfl ⟨f_34, f_34, hV, rfl, hr_35, hr_35, hS⟩
 intro hc_58
 replace hV := hV.2 (of_decide_eq_false hc_58)
 refine WC.skip ?_
 refine WQ.next ?_
 refine WC.seq ?_
 refine WC.quiet (C := St w0 H ([(b_2, oc #[v_5, v_10, v_15, v_20, v_25, v_30] 79)] ++ (fp_7 ++ (fp_12 ++ (fp_17 ++ (fp_22 ++ (fp_27 ++ (fp_32 ++ L)))))))) Try.mixed (by kernel_rfl) (hS.drawn _) ?_
 clear hS w
 refine Wq.run rfl rfl rfl (ex_move rfl) ?_
 refine Wq.run rfl rfl rfl (ex_nilCheck rfl) ?_
 refine Wq.run rfl rfl rfl (ex_fieldAddr (o' := 0) Try.underlying79 rfl Try.sizeOf75 rfl rfl) ?_
 refine Wq.run rfl rfl rfl (ex_load_box Try.isAgg75 rfl rfl) ?_
 refine Wq.run rfl rfl rfl (ex_move rfl) ?_
 obtain ⟨hin_42, hV⟩ := hV
 refine Wq.runx rfl rfl rfl (ex_index_own Try.underlying75 Try.sizeOf81 rfl rfl h_6 hin_42) ?_
 intro p_43 hp_44
 refine Wq.runx rfl rfl rfl (ex_fieldAddr_own Try.underlying81 rfl Try.sizeOf32 rfl hp_44) ?_
 intro p_46 hp_45
 refine Wq.runx rfl rfl rfl (exQ (ex_load_ownpart (d := (cInt .i64)) Try.isAgg32 rfl rfl h_6 hp_45 hin_42 (Part.next Part.fst)) _ (fun _ h => St.f2 h)) ?_
 intro u_47 hu_48
 obtain ⟨rfl, hr_49⟩ := cInt_rep hu_48
 replace hr_49 := has_I64 hr_49
 replace hV := hV hr_49
 refine Wq.run rfl rfl rfl (ex_move rfl) ?_
 refine Wq.run rfl rfl rfl (ex_nilCheck rfl) ?_
 refine Wq.run rfl rfl rfl (ex_fieldAddr (o' := 0) Try.underlying79 rfl Try.sizeOf75 rfl rfl) ?_
 refine Wq.run rfl rfl rfl (ex_load_box Try.isAgg75 rfl rfl) ?_
 refine Wq.run rfl rfl rfl (ex_move rfl) ?_
 obtain ⟨hin_50, hV⟩ := hV
 refine Wq.runx rfl rfl rfl (ex_index_own Try.underlying75 Try.sizeOf81 rfl rfl h_6 hin_50) ?_
 intro p_51 hp_52
 refine Wq.runx rfl rfl rfl (ex_fieldAddr_own Try.underlying81 rfl Try.sizeOf32 rfl hp_52) ?_
 intro p_54 hp_53
 refine Wq.runx rfl rfl rfl (exQ (ex_load_ownpart (d := (cInt .i64)) Try.isAgg32 rfl rfl h_6 hp_53 hin_50 (Part.next Part.snd)) _ (fun _ h => St.f2 h)) ?_
 intro u_55 hu_56
 obtain ⟨rfl, hr_57⟩ := cInt_rep hu_56
 replace hr_57 := has_I64 hr_57
 replace hV := hV hr_57
 refine Wq.run rfl rfl rfl (ex_assign rfl) ?_
 refine Wq.run rfl rfl rfl (ex_assign rfl) ?_
 refine Wq.nil fun w hS => ?_
 refine WQ.next ?_
 refine WC.sub (m := [(6, i6 ((ix nodes_4 f_34).2.1)), (7, i6 ((ix nodes_4 f_34).2.2))]) ⟨rfl, rfl, trivial⟩ ?_
 refine WC.ret ?_
 replace hS := hS.f7.f7.f7.f7.f7.f7.f7
 exact leave2 rfl rfl rfl ⟨((ix nodes_4 f_34).2.1), ((ix nodes_4 f_34).2.2), hV, rfl, hr_49, hr_57, hS⟩

theorem S_Ite (m0 : Nat) : ∀ {w0 : World} {H : View} {L : Seg} {w : World} {b_2 : Nat} {v_5 : Value} {nodes_4 : N3} {fp_7 : Seg} {v_10 : Value} {free_9 : LI} {fp_12 : Seg} {v_15 : Value} {xby_14 : M3} {fp_17 : Seg} {v_20 : Value} {order_19 : LI} {fp_22 : Seg} {v_25 : Value} {level_24 : LI} {fp_27 : Seg} {v_30 : Value} {memo_29 : M3} {fp_32 : Seg} {f_34 : Int} {g_36 : Int} {h_38 : Int} {Q : Int → N3 → LI → M3 → M3 → Prop} (h_6 : OwnSl H (cPair (cInt .i64) (cPair (cInt .i64) (cInt .i64))) 81 v_5 nodes_4 fp_7) (h_11 : OwnSl H (cInt .i64) 32 v_10 free_9 fp_12) (h_16 : OwnMp H kTri (cInt .i64) v_15 xby_14 fp_17) (h_21 : OwnSl H (cInt .i64) 3 v_20 order_19 fp_22) (h_26 : OwnSl H (cInt .i64) 3 v_25 level_24 fp_27) (h_31 : OwnMp H kTri (cInt .i64) v_30 memo_29 fp_32) (hr_35 : I64 f_34) (hr_37 : I64 g_36) (hr_39 : I64 h_38) (hS : St w0 H ([(b_2, oc #[v_5, v_10, v_15, v_20, v_25, v_30] 79)] ++ (fp_7 ++ (fp_12 ++ (fp_17 ++ (fp_22 ++ (fp_27 ++ (fp_32 ++ L))))))) w) (hV : V_Ite m0 nodes_4 free_9 xby_14 order_19 level_24 memo_29 f_34 g_36 h_38 Q),
 Calls Try.prog 29 #[(pq b_2), i6 f_34, i6 g_36, i6 h_38] w fun e w' => ∃ (r1 : Int) (r2 : N3) (r3 : LI) (r4 : M3) (r5 : M3) (v2 : Value) (fp2 : Seg) (v3 : Value) (fp3 : Seg) (fp4 : Seg) (fp5 : Seg), Q r1 r2 r3 r4 r5 ∧ e = .returned (i6 r1) ∧ I64 r1 ∧ OwnSl H (cPair (cInt .i64) (cPair (cInt .i64) (cInt .i64))) 81 v2 r2 fp2 ∧ OwnSl H (cInt .i64) 32 v3 r3 fp3 ∧ OwnMp H kTri (cInt .i64) v_15 r4 fp4 ∧ OwnMp H kTri (cInt .i64) v_30 r5 fp5 ∧ St w0 H ([(b_2, oc #[v2, v3, v_15, v_20, v_25, v_30] 79)] ++ (fp2 ++ (fp3 ++ (fp4 ++ (fp_22 ++ (fp_27 ++ (fp5 ++ L))))))) w' := by
 induction m0 with
 | zero => intro w0 H L w b_2 v_5 nodes_4 fp_7 v_10 free_9 fp_12 v_15 xby_14 fp_17 v_20 order_19 fp_22 v_25 level_24 fp_27 v_30 memo_29 fp_32 f_34 g_36 h_38 Q h_6 h_11 h_16 h_21 h_26 h_31 hr_35 hr_37 hr_39 hS hV; exact hV.elim
 | succ m0 ih =>
  intro w0 H L w b_2 v_5 nodes_4 fp_7 v_10 free_9 fp_12 v_15 xby_14 fp_17 v_20 order_19 fp_22 v_25 level_24 fp_27 v_30 memo_29 fp_32 f_34 g_36 h_38 Q h_6 h_11 h_16 h_21 h_26 h_31 hr_35 hr_37 hr_39 hS hV
  unfold V_Ite at hV
  refine enter Try.func29 rfl Try.ntmps29 rfl (lk_args_cons (d := 0) (v := (pq b_2)) rfl (lk_args_cons (d := 1) (v := i6 f_34) rfl (lk_args_cons (d := 2) (v := i6 g_36) rfl (lk_args_cons (d := 3) (v := i6 h_38) rfl (lk_args_nil _))))) ?_
  refine WC.sr ?_
  refine WL.ma rfl rfl ?_
  refine WL.nx ?_
  refine WC.seq ?_
  refine WC.block ?_
  refine WC.seq ?_
  refine WC.via (m := [(0, (pq b_2)), (1, i6 f_34), (2, i6 g_36), (3, i6 h_38), (20, .bool (decide ((f_34 = 1) ∨ (g_36 = h_38))))]) ?_ ?_
  refine WC.region ?_
  refine WL.mv rfl rfl ?_
  refine WL.run hS rfl rfl rfl (ex_eql rfl rfl) ?_
  refine WL.mv rfl rfl ?_
  rcases Bool.eq_false_or_eq_true (decide (f_34 = 1)) with hg_43 | hg_43
  refine WL.skip_g rfl rfl rfl hg_43 rfl rfl ?_
  refine WL.skip_g rfl rfl rfl hg_43 rfl rfl ?_
  refine WL.skip_g rfl rfl rfl hg_43 rfl rfl ?_
  refine WL.run hS rfl rfl rfl (ex_pick_t rfl hg_43 rfl) ?_
  refine WL.sub (m := [(0, (pq b_2)), (1, i6 f_34), (2, i6 g_36), (3, i6 h_38), (21, i6 f_34), (22, .bool (decide (f_34 = 1))), (23, .bool (decide (f_34 = 1))), (24, undef), (25, undef), (26, undef), (27, .bool (decide ((f_34 = 1) ∨ (g_36 = h_38))))]) ⟨rfl, rfl, rfl, rfl, rfl, rfl, rfl, rfl, rfl, rfl, congrArg (fun b => some (Value.bool b)) (or_t hg_43 : true = decide ((f_34 = 1) ∨ (g_36 = h_38))), trivial⟩ ?_
  refine WL.ma rfl rfl ?_
  exact WL.nil (At.of ⟨rfl, rfl, rfl, rfl, rfl, trivial⟩)
  refine WL.unguard rfl rfl hg_43 ?_
  refine WL.mv rfl rfl ?_
  refine WL.unguard rfl rfl hg_43 ?_
  refine WL.mv rfl rfl ?_
  refine WL.unguard rfl rfl hg_43 ?_
  refine WL.run hS rfl rfl rfl (ex_eql rfl rfl) ?_
  refine WL.run hS rfl rfl rfl (ex_pick_f rfl hg_43 rfl) ?_
  refine WL.sub (m := [(0, (pq b_2)), (1, i6 f_34), (2, i6 g_36), (3, i6 h_38), (21, i6 f_34), (22, .bool (decide (f_34 = 1))), (23, .bool (decide (f_34 = 1))), (24, i6 g_36), (25, i6 h_38), (26, .bool (decide (g_36 = h_38))), (27, .bool (decide ((f_34 = 1) ∨ (g_36 = h_38))))]) ⟨rfl, rfl, rfl, rfl, rfl, rfl, rfl, rfl, rfl, rfl, congrArg (fun b => some (Value.bool b)) (or_f hg_43 : decide (g_36 = h_38) = decide ((f_34 = 1) ∨ (g_36 = h_38))), trivial⟩ ?_
  refine WL.ma rfl rfl ?_
  exact WL.nil (At.of ⟨rfl, rfl, rfl, rfl, rfl, trivial⟩)
  refine WQ.next ?_
  refine WC.cond rfl ?_ ?_
  intro hc_191
  replace hV := hV.1 (of_decide_eq_true hc_191)
  refine WC.sr ?_
  refine WL.mv rfl rfl ?_
  refine WL.ma rfl rfl ?_
  refine WL.nx ?_
  refine WC.ret ?_
  refine WQ.out nofun ?_
  refine WQ.pass nofun ?_
  replace hS := hS.f7.f7.f7.f7.f7.f7.f7
  exact leave1 rfl rfl ⟨g_36, nodes_4, free_9, xby_14, memo_29, v_5, fp_7, v_10, fp_12, fp_17, fp_32, hV, rfl, hr_37, h_6, h_11, h_16, h_31, hS⟩
  intro hc_191
  replace hV := hV.2 (of_decide_eq_false hc_191)
  refine WC.sr ?_
  refine WL.mv rfl rfl ?_
  refine WL.run hS rfl rfl rfl (ex_eql rfl rfl) ?_
  refine WL.ma rfl rfl ?_
  refine WL.nx ?_
  refine WC.cond rfl ?_ ?_
  intro hc_190
  replace hV := hV.1 (of_decide_eq_true hc_190)
  refine WC.sr ?_
  refine WL.mv rfl rfl ?_
  refine WL.ma rfl rfl ?_
  refine WL.nx ?_
  refine WC.sub (m := [(8, i6 h_38)]) ⟨rfl, trivial⟩ ?_
  refine WC.ret ?_
  refine WQ.out nofun ?_
  refine WQ.pass nofun ?_
  replace hS := hS.f7.f7.f7.f7.f7.f7.f7
  exact leave1 rfl rfl ⟨h_38, nodes_4, free_9, xby_14, memo_29, v_5, fp_7, v_10, fp_12, fp_17, fp_32, hV, rfl, hr_39, h_6, h_11, h_16, h_31, hS⟩
  intro hc_190
  replace hV := hV.2 (of_decide_eq_false hc_190)
  refine WC.seq ?_
  refine WC.via (m := [(0, (pq b_2)), (1, i6 f_34), (2, i6 g_36), (3, i6 h_38), (33, .bool (decide ((g_36 = 1) ∧ (h_38 = 0))))]) ?_ ?_
  refine WC.region ?_
  refine WL.mv rfl rfl ?_
  refine WL.run hS rfl rfl rfl (ex_eql rfl rfl) ?_
  refine WL.mv rfl rfl ?_
  rcases Bool.eq_false_or_eq_true (decide (g_36 = 1)) with hg_49 | hg_49
  refine WL.unguard rfl rfl hg_49 ?_
  refine WL.mv rfl rfl ?_
  refine WL.unguard rfl rfl hg_49 ?_
  refine WL.run hS rfl rfl rfl (ex_eql rfl rfl) ?_
  refine WL.run hS rfl rfl rfl (ex_pick_t rfl hg_49 rfl) ?_
  refine WL.sub (m := [(0, (pq b_2)), (1, i6 f_34), (2, i6 g_36), (3, i6 h_38), (29, .bool (decide (f_34 = 0))), (34, i6 g_36), (35, .bool (decide (g_36 = 1))), (36, .bool (decide (g_36 = 1))), (37, i6 h_38), (38, .bool (decide (h_38 = 0))), (39, .bool (decide ((g_36 = 1) ∧ (h_38 = 0))))]) ⟨rfl, rfl, rfl, rfl, rfl, rfl, rfl, rfl, rfl, rfl, congrArg (fun b => some (Value.bool b)) (and_t hg_49 : decide (h_38 = 0) = decide ((g_36 = 1) ∧ (h_38 = 0))), trivial⟩ ?_
  refine WL.ma rfl rfl ?_
  exact WL.nil (At.of ⟨rfl, rfl, rfl, rfl, rfl, trivial⟩)
  refine WL.skip_g rfl rfl rfl hg_49 rfl rfl ?_
  refine WL.skip_g rfl rfl rfl hg_49 rfl rfl ?_
  refine WL.run hS rfl rfl rfl (ex_pick_f rfl hg_49 rfl) ?_
  refine WL.sub (m := [(0, (pq b_2)), (1, i6 f_34), (2, i6 g_36), (3, i6 h_38), (29, .bool (decide (f_34 = 0))), (34, i6 g_36), (35, .bool (decide (g_36 = 1))), (36, .bool (decide (g_36 = 1))), (37, undef), (38, undef), (39, .bool (decide ((g_36 = 1) ∧ (h_38 = 0))))]) ⟨rfl, rfl, rfl, rfl, rfl, rfl, rfl, rfl, rfl, rfl, congrArg (fun b => some (Value.bool b)) (and_f hg_49 : false = decide ((g_36 = 1) ∧ (h_38 = 0))), trivial⟩ ?_
  refine WL.ma rfl rfl ?_
  exact WL.nil (At.of ⟨rfl, rfl, rfl, rfl, rfl, trivial⟩)
  refine WQ.next ?_
  refine WC.cond rfl ?_ ?_
  intro hc_189
  replace hV := hV.1 (of_decide_eq_true hc_189)
  refine WC.sr ?_
  refine WL.mv rfl rfl ?_
  refine WL.ma rfl rfl ?_
  refine WL.nx ?_
  refine WC.sub (m := [(8, i6 f_34)]) ⟨rfl, trivial⟩ ?_
  refine WC.ret ?_
  refine WQ.out nofun ?_
  refine WQ.pass nofun ?_
  replace hS := hS.f7.f7.f7.f7.f7.f7.f7
  exact leave1 rfl rfl ⟨f_34, nodes_4, free_9, xby_14, memo_29, v_5, fp_7, v_10, fp_12, fp_17, fp_32, hV, rfl, hr_35, h_6, h_11, h_16, h_31, hS⟩
  intro hc_189
  replace hV := hV.2 (of_decide_eq_false hc_189)
  refine WC.skip ?_
  refine WQ.out nofun ?_
  refine WQ.next ?_
  refine WC.sr ?_
  refine WL.mv rfl rfl ?_
  refine WL.mv rfl rfl ?_
  refine WL.mv rfl rfl ?_
  refine WL.run hS rfl rfl rfl (ex_build_arr (vs := [i6 f_34, i6 g_36, i6 h_38]) (zc := #[i6 0, i6 0, i6 0]) (cs := #[i6 f_34, i6 g_36, i6 h_38]) Try.underlying96 Try.sizeOf32 Try.zeroValue96 rfl ⟨rfl, rfl, rfl, trivial⟩ rfl (by simp [Instr.fill, cells_int, cells_bool])) ?_
  refine WL.alloc (arr := #[i6 0, i6 0, i6 0]) rfl Try.zeroValue96 rfl hS ?_
  clear hS
  intro b_51 w hS
  refine WL.store_box (pre := []) (old := [i6 0, i6 0, i6 0]) (rst := []) (cs := [i6 f_34, i6 g_36, i6 h_38]) (arr' := #[i6 f_34, i6 g_36, i6 h_38]) Try.sizeOf96 rfl rfl rfl ⟨rfl, rfl, rfl, trivial⟩ rfl rfl rfl rfl hS ?_
  clear hS
  intro w hS
  refine WL.nx ?_
  refine WC.seq ?_
  refine WC.seq ?_
  refine WC.quiet (C := St w0 H ([(b_51, oc #[i6 f_34, i6 g_36, i6 h_38] 96)] ++ ([(b_2, oc #[v_5, v_10, v_15, v_20, v_25, v_30] 79)] ++ (fp_7 ++ (fp_12 ++ (fp_17 ++ (fp_22 ++ (fp_27 ++ (fp_32 ++ L))))))))) Try.mixed (by kernel_rfl) (hS.drawn _) ?_
  clear hS w
  refine Wq.run rfl rfl rfl (ex_move rfl) ?_
  refine Wq.run rfl rfl rfl (ex_nilCheck rfl) ?_
  refine Wq.run rfl rfl rfl (ex_fieldAddr (o' := 5) Try.underlying79 rfl Try.sizeOf77 rfl rfl) ?_
  refine Wq.run rfl rfl rfl ((ex_load_box Try.isAgg77 rfl rfl).of (fun _ h => St.f2 h)) ?_
  refine Wq.run rfl rfl rfl (ex_load_box_agg (cs := [i6 f_34, i6 g_36, i6 h_38]) Try.isAgg96 Try.sizeOf96 rfl rfl rfl) ?_
  refine Wq.runx rfl rfl rfl (exQ (ex_lookup_ok (c := (cInt .i64)) (k := (f_34, g_36, h_38)) (d := 0) Try.underlying77 Try.key96 Try.zeroValue32 ⟨rfl, I64.has (by unfold I64; omega)⟩ rfl rfl h_31) _ (fun _ h => St.f8 h)) ?_
  rintro _ ⟨u_53, rfl, hu_54⟩
  obtain ⟨rfl, hr_55⟩ := cInt_rep hu_54
  replace hr_55 := has_I64 hr_55
  replace hV := hV hr_55
  refine Wq.run rfl rfl rfl (ex_move rfl) ?_
  refine Wq.run rfl rfl rfl (ex_extract rfl rfl) ?_
  refine Wq.run rfl rfl rfl (ex_extract rfl rfl) ?_
  refine Wq.run rfl rfl rfl (ex_assign rfl) ?_
  refine Wq.run rfl rfl rfl (ex_assign rfl) ?_
  refine Wq.nil fun w hS => ?_
  refine WQ.next ?_
  refine WC.sub (m := [(0, (pq b_2)), (1, i6 f_34), (2, i6 g_36), (3, i6 h_38), (9, (pq b_51)), (10, i6 (mgetD memo_29 (f_34, g_36, h_38) 0)), (11, .bool (mhas memo_29 (f_34, g_36, h_38)))]) ⟨rfl, rfl, rfl, rfl, rfl, rfl, rfl, trivial⟩ ?_
  refine WC.sr ?_
  refine WL.mv rfl rfl ?_
  refine WL.nx ?_
  refine WC.cond rfl ?_ ?_
  intro hc_188
  replace hV := hV.1 hc_188
  refine WC.sr ?_
  refine WL.mv rfl rfl ?_
  refine WL.ma rfl rfl ?_
  refine WL.nx ?_
  replace hS := hS.drop
  refine WC.ret ?_
  refine WQ.pass nofun ?_
  replace hS := hS.f7.f7.f7.f7.f7.f7.f7
  exact leave1 rfl rfl ⟨(mgetD memo_29 (f_34, g_36, h_38) 0), nodes_4, free_9, xby_14, memo_29, v_5, fp_7, v_10, fp_12, fp_17, fp_32, hV, rfl, hr_55, h_6, h_11, h_16, h_31, hS⟩
  intro hc_188
  replace hV := hV.2 hc_188
  refine WC.skip ?_
  refine WQ.next ?_
  refine WC.sr ?_
  refine WL.mv rfl rfl ?_
  refine WL.mv rfl rfl ?_
  replace hS := hS.f8.f8.f8.f8.f8.f8.f8
  refine WL.call rfl rfl rfl (enters0 (vs := [(pq b_2), i6 f_34]) Try.call65 ⟨rfl, rfl, trivial⟩) (S_depth  h_6 h_11 h_16 h_21 h_26 h_31 hr_35 hS hV) ?_
  clear hV hS
  rintro _ w ⟨r_56, hV, rfl, hr_57, hS⟩
  refine ⟨_, rfl, ?_⟩
  refine WL.mv rfl rfl ?_
  refine WL.mv rfl rfl ?_
  replace hS := hS.f7.f7.f7.f7.f7.f7.f7
  refine WL.call rfl rfl rfl (enters0 (vs := [(pq b_2), i6 g_36]) Try.call65 ⟨rfl, rfl, trivial⟩) (S_depth  h_6 h_11 h_16 h_21 h_26 h_31 hr_37 hS hV) ?_
  clear hV hS
  rintro _ w ⟨r_59, hV, rfl, hr_60, hS⟩
  refine ⟨_, rfl, ?_⟩
  refine WL.mv rfl rfl ?_
  refine WL.mv rfl rfl ?_
  replace hS := hS.f7.f7.f7.f7.f7.f7.f7
  refine WL.call rfl rfl rfl (enters0 (vs := [(pq b_2), i6 h_38]) Try.call65 ⟨rfl, rfl, trivial⟩) (S_depth  h_6 h_11 h_16 h_21 h_26 h_31 hr_39 hS hV) ?_
  clear hV hS
  rintro _ w ⟨r_62, hV, rfl, hr_63, hS⟩
  refine ⟨_, rfl, ?_⟩
  refine WL.run hS rfl rfl rfl (ex_min3 rfl rfl rfl) ?_
  refine WL.ma rfl rfl ?_
  refine WL.nx ?_
  refine WC.sub (m := [(0, (pq b_2)), (1, i6 f_34), (2, i6 g_36), (3, i6 h_38), (9, (pq b_51)), (12, i6 (min (min r_56 r_59) r_62))]) ⟨rfl, rfl, rfl, rfl, rfl, rfl, trivial⟩ ?_
  refine WC.sr ?_
  refine WL.mv rfl rfl ?_
  refine WL.mv rfl rfl ?_
  refine WL.mv rfl rfl ?_
  replace hS := hS.f7.f7.f7.f7.f7.f7.f7
  refine WL.call rfl rfl rfl (enters0 (vs := [(pq b_2), i6 f_34, i6 (min (min r_56 r_59) r_62)]) Try.call66 ⟨rfl, rfl, rfl, trivial⟩) (S_split  h_6 h_11 h_16 h_21 h_26 h_31 hr_35 (I64.min (I64.min hr_57 hr_60) hr_63) hS hV) ?_
  clear hV hS
  rintro _ w ⟨r_65, r_67, hV, rfl, hr_66, hr_68, hS⟩
  refine ⟨_, rfl, ?_⟩
  refine WL.mv rfl rfl ?_
  refine WL.run hS rfl rfl rfl (ex_extract rfl rfl) ?_
  refine WL.run hS rfl rfl rfl (ex_extract rfl rfl) ?_
  refine WL.ma rfl rfl ?_
  refine WL.ma rfl rfl ?_
  refine WL.nx ?_
  refine WC.sr ?_
  refine WL.mv rfl rfl ?_
  refine WL.mv rfl rfl ?_
  refine WL.mv rfl rfl ?_
  replace hS := hS.f7.f7.f7.f7.f7.f7.f7
  refine WL.call rfl rfl rfl (enters0 (vs := [(pq b_2), i6 g_36, i6 (min (min r_56 r_59) r_62)]) Try.call66 ⟨rfl, rfl, rfl, trivial⟩) (S_split  h_6 h_11 h_16 h_21 h_26 h_31 hr_37 (I64.min (I64.min hr_57 hr_60) hr_63) hS hV) ?_
  clear hV hS
  rintro _ w ⟨r_70, r_72, hV, rfl, hr_71, hr_73, hS⟩
  refine ⟨_, rfl, ?_⟩
  refine WL.mv rfl rfl ?_
  refine WL.run hS rfl rfl rfl (ex_extract rfl rfl) ?_
  refine WL.run hS rfl rfl rfl (ex_extract rfl rfl) ?_
  refine WL.ma rfl rfl ?_
  refine WL.ma rfl rfl ?_
  refine WL.nx ?_
  refine WC.sub (m := [(0, (pq b_2)), (3, i6 h_38), (9, (pq b_51)), (12, i6 (min (min r_56 r_59) r_62)), (13, i6 r_65), (14, i6 r_67), (15, i6 r_70), (16, i6 r_72)]) ⟨rfl, rfl, rfl, rfl, rfl, rfl, rfl, rfl, trivial⟩ ?_
  refine WC.sr ?_
  refine WL.mv rfl rfl ?_
  refine WL.mv rfl rfl ?_
  refine WL.mv rfl rfl ?_
  replace hS := hS.f7.f7.f7.f7.f7.f7.f7
  refine WL.call rfl rfl rfl (enters0 (vs := [(pq b_2), i6 h_38, i6 (min (min r_56 r_59) r_62)]) Try.call66 ⟨rfl, rfl, rfl, trivial⟩) (S_split  h_6 h_11 h_16 h_21 h_26 h_31 hr_39 (I64.min (I64.min hr_57 hr_60) hr_63) hS hV) ?_
  clear hV hS
  rintro _ w ⟨r_75, r_77, hV, rfl, hr_76, hr_78, hS⟩
  refine ⟨_, rfl, ?_⟩
  refine WL.mv rfl rfl ?_
  refine WL.run hS rfl rfl rfl (ex_extract rfl rfl) ?_
  refine WL.run hS rfl rfl rfl (ex_extract rfl rfl) ?_
  refine WL.ma rfl rfl ?_
  refine WL.ma rfl rfl ?_
  refine WL.nx ?_
  refine WC.seq ?_
  refine WC.drawn (σ := [0, 1, 2, 3, 4, 5, 6, 7, 8, 9, 10, 11, 13, 14, 15, 16, 12, 17, 18, 19]) (C := St w0 H ([(b_2, oc #[v_5, v_10, v_15, v_20, v_25, v_30] 79)] ++ (fp_7 ++ (fp_12 ++ (fp_17 ++ (fp_22 ++ (fp_27 ++ (fp_32 ++ ([(b_51, oc #[i6 f_34, i6 g_36, i6 h_38] 96)] ++ L))))))))) [[], [], [1], [1, 2], [1, 2, 3], [], [1, 2, 3, 4, 5], [1, 2, 3, 4, 5, 6], [], [], [], [], [8, 9, 10, 11], [], [], [], [], [8, 9, 10, 11, 12, 13, 14, 15, 16], [0, 1, 2, 3, 4, 5, 6, 7, 8, 9, 10, 11, 12, 13, 14, 15, 16, 17], [0, 1, 2, 3, 4, 5, 6, 7, 8, 9, 10, 11, 12, 13, 14, 15, 16, 17, 18]] [12, 17, 18] Try.mixed (by kernel_rfl) (hS.drawn _) ?_
  clear hS w
  refine Wd.run rfl rfl rfl rfl (fun _ => ex_move rfl) fun q_81 hq_80 => ?_
  refine Wd.run rfl rfl rfl rfl (fun _ => ex_move rfl) fun q_83 hq_82 => ?_
  refine Wd.run rfl rfl rfl rfl (fun _ => ex_nilCheck rfl) fun q_85 hq_84 => ?_
  refine Wd.run rfl rfl rfl rfl (fun _ => ex_fieldAddr (o' := 3) Try.underlying79 rfl Try.sizeOf27 rfl rfl) fun q_87 hq_86 => ?_
  refine Wd.runb (off := 3) rfl rfl rfl rfl (fun _ _ _ h => ex_load_box Try.isAgg27 rfl h) rfl (fun _ h => h) fun q_89 hq_88 => ?_
  refine Wd.run rfl rfl rfl rfl (fun _ => ex_move rfl) fun q_91 hq_90 => ?_
  obtain ⟨hin_94, hV⟩ := hV
  refine Wd.runx rfl rfl rfl rfl (exAll (ex_index_own Try.underlying27 Try.sizeOf3 rfl rfl h_21 hin_94)) ?_
  intro p_95 hp_96
  intro q_93 hq_92
  refine Wd.runs (fp := fp_22) rfl rfl rfl rfl (ex_load_own_s Try.isAgg3 rfl rfl h_21 hp_96 hin_94) (fun _ h => St.f5 h) ?_
  intro u_99 hu_100
  obtain ⟨rfl, hr_101⟩ := cInt_rep hu_100
  replace hr_101 := has_I64 hr_101
  replace hV := hV hr_101
  intro q_98 hq_97
  refine Wd.run rfl rfl rfl rfl (fun _ => ex_move rfl) fun q_103 hq_102 => ?_
  refine Wd.run rfl rfl rfl rfl (fun _ => ex_move rfl) fun q_105 hq_104 => ?_
  refine Wd.run rfl rfl rfl rfl (fun _ => ex_move rfl) fun q_107 hq_106 => ?_
  refine Wd.run rfl rfl rfl rfl (fun _ => ex_move rfl) fun q_109 hq_108 => ?_
  refine Wd.run rfl rfl rfl rfl (fun _ => ex_move rfl) fun q_111 hq_110 => ?_
  refine Wd.run rfl rfl rfl rfl (fun _ => ex_move rfl) fun q_113 hq_112 => ?_
  refine Wd.run rfl rfl rfl rfl (fun _ => ex_move rfl) fun q_115 hq_114 => ?_
  refine Wd.run rfl rfl rfl rfl (fun _ => ex_move rfl) fun q_117 hq_116 => ?_
  refine Wd.turn rfl rfl rfl fun w hS => ?_
  replace hS := hS.f7.f7.f7.f7.f7.f7.f7
  refine WL.call rfl rfl rfl (enters0 (vs := [(pq b_2), i6 r_65, i6 r_70, i6 r_75]) Try.call29 ⟨rfl, rfl, rfl, rfl, trivial⟩) (ih  h_6 h_11 h_16 h_21 h_26 h_31 hr_66 hr_71 hr_76 hS hV) ?_
  clear hV hS
  rintro _ w ⟨r_118, c_120, c_124, m_128, m_131, v_121, fp_122, v_125, fp_126, fp_129, fp_132, hV, rfl, hr_119, h_123, h_127, h_130, h_133, hS⟩
  refine ⟨_, rfl, ?_⟩
  refine WL.nil (DQ.mk2 (C' := St w0 H ([(b_2, oc #[v_121, v_125, v_15, v_20, v_25, v_30] 79)] ++ (fp_122 ++ (fp_126 ++ (fp_129 ++ (fp_22 ++ (fp_27 ++ (fp_132 ++ ([(b_51, oc #[i6 f_34, i6 g_36, i6 h_38] 96)] ++ L))))))))) hS ⟨.inr (hq_116 _), .inr (hq_114 _), .inr (hq_112 _), .inr (hq_110 _), il, il, il, il, .inr (hq_97 H ([(b_2, oc #[v_121, v_125, v_15, v_20, v_25, v_30] 79)] ++ (fp_122 ++ (fp_126 ++ (fp_129 ++ (fp_27 ++ (fp_132 ++ ([(b_51, oc #[i6 f_34, i6 g_36, i6 h_38] 96)] ++ L))))))) _ (View.le.refl _) (fun _ h => St.f5 h)), .inr (hq_92 _), .inr (hq_90 _), .inr (hq_88 H (fp_122 ++ (fp_126 ++ (fp_129 ++ (fp_22 ++ (fp_27 ++ (fp_132 ++ ([(b_51, oc #[i6 f_34, i6 g_36, i6 h_38] 96)] ++ L))))))) #[v_121, v_125, v_15, v_20, v_25, v_30] _ rfl (fun _ h => h)), .inr (hq_86 _), .inr (hq_84 _), .inr (hq_82 _), .inr (hq_80 _), trivial⟩ ?_)
  clear hS w
  refine Wd.turn rfl rfl rfl fun w hS => ?_
  replace hS := hS.f7.f7.f7.f7.f7.f7.f7
  refine WL.call rfl rfl rfl (enters0 (vs := [(pq b_2), i6 r_67, i6 r_72, i6 r_77]) Try.call29 ⟨rfl, rfl, rfl, rfl, trivial⟩) (ih  h_123 h_127 h_130 h_21 h_26 h_133 hr_68 hr_73 hr_78 hS hV) ?_
  clear hV hS
  rintro _ w ⟨r_137, c_139, c_143, m_147, m_150, v_140, fp_141, v_144, fp_145, fp_148, fp_151, hV, rfl, hr_138, h_142, h_146, h_149, h_152, hS⟩
  refine ⟨_, rfl, ?_⟩
  refine WL.nil (DQ.mk2 (C' := St w0 H ([(b_2, oc #[v_140, v_144, v_15, v_20, v_25, v_30] 79)] ++ (fp_141 ++ (fp_145 ++ (fp_148 ++ (fp_22 ++ (fp_27 ++ (fp_151 ++ ([(b_51, oc #[i6 f_34, i6 g_36, i6 h_38] 96)] ++ L))))))))) hS ⟨il, il, il, il, il, il, il, il, .inr (hq_97 H ([(b_2, oc #[v_140, v_144, v_15, v_20, v_25, v_30] 79)] ++ (fp_141 ++ (fp_145 ++ (fp_148 ++ (fp_27 ++ (fp_151 ++ ([(b_51, oc #[i6 f_34, i6 g_36, i6 h_38] 96)] ++ L))))))) _ (View.le.refl _) (fun _ h => St.f5 h)), .inr (hq_92 _), .inr (hq_90 _), .inr (hq_88 H (fp_141 ++ (fp_145 ++ (fp_148 ++ (fp_22 ++ (fp_27 ++ (fp_151 ++ ([(b_51, oc #[i6 f_34, i6 g_36, i6 h_38] 96)] ++ L))))))) #[v_140, v_144, v_15, v_20, v_25, v_30] _ rfl (fun _ h => h)), .inr (hq_86 _), .inr (hq_84 _), .inr (hq_82 _), .inr (hq_80 _), trivial⟩ ?_)
  clear hS w
  refine Wd.turn rfl rfl rfl fun w hS => ?_
  replace hS := hS.f7.f7.f7.f7.f7.f7.f7
  refine WL.call rfl rfl rfl (enters0 (vs := [(pq b_2), i6 (ix order_19 (min (min r_56 r_59) r_62)), i6 r_118, i6 r_137]) Try.call51 ⟨rfl, rfl, rfl, rfl, trivial⟩) (S_make  h_142 h_146 h_149 h_21 h_26 h_152 hr_101 hr_119 hr_138 hS hV) ?_
  clear hV hS
  rintro _ w ⟨r_156, c_158, c_162, m_166, v_159, fp_160, v_163, fp_164, fp_167, hV, rfl, hr_157, h_161, h_165, h_168, hS⟩
  refine ⟨_, rfl, ?_⟩
  refine WL.nil (DQ.mk2 (C' := St w0 H ([(b_2, oc #[v_159, v_163, v_15, v_20, v_25, v_30] 79)] ++ (fp_160 ++ (fp_164 ++ (fp_167 ++ (fp_22 ++ (fp_27 ++ (fp_151 ++ ([(b_51, oc #[i6 f_34, i6 g_36, i6 h_38] 96)] ++ L))))))))) hS ⟨il, il, il, il, il, il, il, il, il, il, il, il, il, il, il, il, trivial⟩ ?_)
  clear hS w
  refine Wd.run rfl rfl rfl rfl (fun _ => ex_assign rfl) fun q_173 hq_172 => ?_
  refine Wd.nil fun w hS => ?_
  refine WQ.next ?_
  refine WC.sub (m := [(0, (pq b_2)), (9, (pq b_51)), (19, i6 r_156)]) ⟨rfl, rfl, rfl, trivial⟩ ?_
  refine WC.seq ?_
  refine WC.drawn (σ := [0, 1, 2, 3, 4, 5, 6]) (C := St w0 H ([(b_2, oc #[v_159, v_163, v_15, v_20, v_25, v_30] 79)] ++ (fp_160 ++ (fp_164 ++ (fp_167 ++ (fp_22 ++ (fp_27 ++ (fp_151 ++ ([(b_51, oc #[i6 f_34, i6 g_36, i6 h_38] 96)] ++ L))))))))) [[], [0], [0, 1], [0, 1, 2], [], [], [0, 1, 2, 3, 4, 5]] [6] Try.mixed (by kernel_rfl) (hS.drawn _) ?_
  clear hS w
  refine Wd.run rfl rfl rfl rfl (fun _ => ex_move rfl) fun q_175 hq_174 => ?_
  refine Wd.run rfl rfl rfl rfl (fun _ => ex_nilCheck rfl) fun q_177 hq_176 => ?_
  refine Wd.run rfl rfl rfl rfl (fun _ => ex_fieldAddr (o' := 5) Try.underlying79 rfl Try.sizeOf77 rfl rfl) fun q_179 hq_178 => ?_
  refine Wd.runb (off := 5) rfl rfl rfl rfl (fun _ _ _ h => ex_load_box Try.isAgg77 rfl h) rfl (fun _ h => h) fun q_181 hq_180 => ?_
  refine Wd.runbs (off := 0) (k := 3) (cs := [i6 f_34, i6 g_36, i6 h_38]) rfl rfl rfl rfl (fun _ _ _ h => ex_load_box_agg Try.isAgg96 Try.sizeOf96 rfl h rfl) rfl (fun _ h => St.f8 h) fun q_183 hq_182 => ?_
  refine Wd.run rfl rfl rfl rfl (fun _ => ex_move rfl) fun q_185 hq_184 => ?_
  refine Wd.turn rfl rfl rfl fun w hS => ?_
  replace hS := hS.f7
  refine WL.mapUpdate (k := (f_34, g_36, h_38)) (e := r_156) Try.underlying77 Try.key96 ⟨hr_35, hr_37, hr_39⟩ (cInt_mk (I64.has hr_157)) rfl rfl rfl hS h_152 ?_
  clear hS
  intro w fp_186 h_187 hS
  refine WL.nil (DQ.mk2 (C' := St w0 H (fp_186 ++ ([(b_2, oc #[v_159, v_163, v_15, v_20, v_25, v_30] 79)] ++ (fp_160 ++ (fp_164 ++ (fp_167 ++ (fp_22 ++ (fp_27 ++ ([(b_51, oc #[i6 f_34, i6 g_36, i6 h_38] 96)] ++ L))))))))) hS ⟨il, il, il, il, il, il, trivial⟩ ?_)
  clear hS w
  refine Wd.nil fun w hS => ?_
  refine WQ.next ?_
  replace hS := hS.f8.drop
  refine WC.sr ?_
  refine WL.mv rfl rfl ?_
  refine WL.ma rfl rfl ?_
  refine WL.nx ?_
  refine WC.sub (m := [(8, i6 r_156)]) ⟨rfl, trivial⟩ ?_
  refine WC.ret ?_
  replace hS := hS.f7.f7.f7.f7.f7.f7
  exact leave1 rfl rfl ⟨r_156, c_158, c_162, m_166, (mset m_150 (f_34, g_36, h_38) r_156), v_159, fp_160, v_163, fp_164, fp_167, fp_186, hV, rfl, hr_157, h_161, h_165, h_168, h_187, hS⟩

theorem S_Not {w0 : World} {H : View} {L : Seg} {w : World} {b_2 : Nat} {v_5 : Value} {nodes_4 : N3} {fp_7 : Seg} {v_10 : Value} {free_9 : LI} {fp_12 : Seg} {v_15 : Value} {xby_14 : M3} {fp_17 : Seg} {v_20 : Value} {order_19 : LI} {fp_22 : Seg} {v_25 : Value} {level_24 : LI} {fp_27 : Seg} {v_30 : Value} {memo_29 : M3} {fp_32 : Seg} {f_34 : Int} {Q : Int → N3 → LI → M3 → M3 → Prop} (h_6 : OwnSl H (cPair (cInt .i64) (cPair (cInt .i64) (cInt .i64))) 81 v_5 nodes_4 fp_7) (h_11 : OwnSl H (cInt .i64) 32 v_10 free_9 fp_12) (h_16 : OwnMp H kTri (cInt .i64) v_15 xby_14 fp_17) (h_21 : OwnSl H (cInt .i64) 3 v_20 order_19 fp_22) (h_26 : OwnSl H (cInt .i64) 3 v_25 level_24 fp_27) (h_31 : OwnMp H kTri (cInt .i64) v_30 memo_29 fp_32) (hr_35 : I64 f_34) (hS : St w0 H ([(b_2, oc #[v_5, v_10, v_15, v_20, v_25, v_30] 79)] ++ (fp_7 ++ (fp_12 ++ (fp_17 ++ (fp_22 ++ (fp_27 ++ (fp_32 ++ L))))))) w) (hV : V_Not nodes_4 free_9 xby_14 order_19 level_24 memo_29 f_34 Q) :
 Calls Try.prog 31 #[(pq b_2), i6 f_34] w fun e w' => ∃ (r1 : Int) (r2 : N3) (r3 : LI) (r4 : M3) (r5 : M3) (v2 : Value) (fp2 : Seg) (v3 : Value) (fp3 : Seg) (fp4 : Seg) (fp5 : Seg), Q r1 r2 r3 r4 r5 ∧ e = .returned (i6 r1) ∧ I64 r1 ∧ OwnSl H (cPair (cInt .i64) (cPair (cInt .i64) (cInt .i64))) 81 v2 r2 fp2 ∧ OwnSl H (cInt .i64) 32 v3 r3 fp3 ∧ OwnMp H kTri (cInt .i64) v_15 r4 fp4 ∧ OwnMp H kTri (cInt .i64) v_30 r5 fp5 ∧ St w0 H ([(b_2, oc #[v2, v3, v_15, v_20, v_25, v_30] 79)] ++ (fp2 ++ (fp3 ++ (fp4 ++ (fp_22 ++ (fp_27 ++ (fp5 ++ L))))))) w' := by
 unfold V_Not at hV
 refine enter Try.func31 rfl Try.ntmps31 rfl (lk_args_cons (d := 0) (v := (pq b_2)) rfl (lk_args_cons (d := 1) (v := i6 f_34) rfl (lk_args_nil _))) ?_
 refine WC.sr ?_
 refine WL.ma rfl rfl ?_
 refine WL.nx ?_
 refine WC.sr ?_
 refine WL.mv rfl rfl ?_
 refine WL.mv rfl rfl ?_
 replace hS := hS.f7.f7.f7.f7.f7.f7.f7
 obtain ⟨mf, hV⟩ := hV
 refine WL.call rfl rfl rfl (enters0 (vs := [(pq b_2), i6 f_34, i6 0, i6 1]) Try.call29 ⟨rfl, rfl, rfl, rfl, trivial⟩) (S_Ite mf  h_6 h_11 h_16 h_21 h_26 h_31 hr_35 (by unfold I64; omega) (by unfold I64; omega) hS hV) ?_
 clear hV hS
 rintro _ w ⟨r_36, c_38, c_42, m_46, m_49, v_39, fp_40, v_43, fp_44, fp_47, fp_50, hV, rfl, hr_37, h_41, h_45, h_48, h_51, hS⟩
 refine ⟨_, rfl, ?_⟩
 refine WL.ma rfl rfl ?_
 refine WL.nx ?_
 refine WC.ret ?_
 replace hS := hS.f7.f7.f7.f7.f7.f7.f7
 exact leave1 rfl rfl ⟨r_36, c_38, c_42, m_46, m_49, v_39, fp_40, v_43, fp_44, fp_47, fp_50, hV, rfl, hr_37, h_41, h_45, h_48, h_51, hS⟩

theorem S_And {w0 : World} {H : View} {L : Seg} {w : World} {b_2 : Nat} {v_5 : Value} {nodes_4 : N3} {fp_7 : Seg} {v_10 : Value} {free_9 : LI} {fp_12 : Seg} {v_15 : Value} {xby_14 : M3} {fp_17 : Seg} {v_20 : Value} {order_19 : LI} {fp_22 : Seg} {v_25 : Value} {level_24 : LI} {fp_27 : Seg} {v_30 : Value} {memo_29 : M3} {fp_32 : Seg} {f_34 : Int} {g_36 : Int} {Q : Int → N3 → LI → M3 → M3 → Prop} (h_6 : OwnSl H (cPair (cInt .i64) (cPair (cInt .i64) (cInt .i64))) 81 v_5 nodes_4 fp_7) (h_11 : OwnSl H (cInt .i64) 32 v_10 free_9 fp_12) (h_16 : OwnMp H kTri (cInt .i64) v_15 xby_14 fp_17) (h_21 : OwnSl H (cInt .i64) 3 v_20 order_19 fp_22) (h_26 : OwnSl H (cInt .i64) 3 v_25 level_24 fp_27) (h_31 : OwnMp H kTri (cInt .i64) v_30 memo_29 fp_32) (hr_35 : I64 f_34) (hr_37 : I64 g_36) (hS : St w0 H ([(b_2, oc #[v_5, v_10, v_15, v_20, v_25, v_30] 79)] ++ (fp_7 ++ (fp_12 ++ (fp_17 ++ (fp_22 ++ (fp_27 ++ (fp_32 ++ L))))))) w) (hV : V_And nodes_4 free_9 xby_14 order_19 level_24 memo_29 f_34 g_36 Q) :
 Calls Try.prog 32 #[(pq b_2), i6 f_34, i6 g_36] w fun e w' => ∃ (r1 : Int) (r2 : N3) (r3 : LI) (r4 : M3) (r5 : M3) (v2 : Value) (fp2 : Seg) (v3 : Value) (fp3 : Seg) (fp4 : Seg) (fp5 : Seg), Q r1 r2 r3 r4 r5 ∧ e = .returned (i6 r1) ∧ I64 r1 ∧ OwnSl H (cPair (cInt .i64) (cPair (cInt .i64) (cInt .i64))) 81 v2 r2 fp2 ∧ OwnSl H (cInt .i64) 32 v3 r3 fp3 ∧ OwnMp H kTri (cInt .i64) v_15 r4 fp4 ∧ OwnMp H kTri (cInt .i64) v_30 r5 fp5 ∧ St w0 H ([(b_2, oc #[v2, v3, v_15, v_20, v_25, v_30] 79)] ++ (fp2 ++ (fp3 ++ (fp4 ++ (fp_22 ++ (fp_27 ++ (fp5 ++ L))))))) w' := by
 unfold V_And at hV
 refine enter Try.func32 rfl Try.ntmps32 rfl (lk_args_cons (d := 0) (v := (pq b_2)) rfl (lk_args_cons (d := 1) (v := i6 f_34) rfl (lk_args_cons (d := 2) (v := i6 g_36) rfl (lk_args_nil _)))) ?_
 refine WC.sr ?_
 refine WL.ma rfl rfl ?_
 refine WL.nx ?_
 refine WC.sr ?_
 refine WL.mv rfl rfl ?_
 refine WL.mv rfl rfl ?_
 refine WL.mv rfl rfl ?_
 replace hS := hS.f7.f7.f7.f7.f7.f7.f7
 obtain ⟨mf, hV⟩ := hV
 refine WL.call rfl rfl rfl (enters0 (vs := [(pq b_2), i6 f_34, i6 g_36, i6 0]) Try.call29 ⟨rfl, rfl, rfl, rfl, trivial⟩) (S_Ite mf  h_6 h_11 h_16 h_21 h_26 h_31 hr_35 hr_37 (by unfold I64; omega) hS hV) ?_
 clear hV hS
 rintro _ w ⟨r_38, c_40, c_44, m_48, m_51, v_41, fp_42, v_45, fp_46, fp_49, fp_52, hV, rfl, hr_39, h_43, h_47, h_50, h_53, hS⟩
 refine ⟨_, rfl, ?_⟩
 refine WL.ma rfl rfl ?_
 refine WL.nx ?_
 refine WC.ret ?_
 replace hS := hS.f7.f7.f7.f7.f7.f7.f7
 exact leave1 rfl rfl ⟨r_38, c_40, c_44, m_48, m_51, v_41, fp_42, v_45, fp_46, fp_49, fp_52, hV, rfl, hr_39, h_43, h_47, h_50, h_53, hS⟩

theorem S_Or {w0 : World} {H : View} {L : Seg} {w : World} {b_2 : Nat} {v_5 : Value} {nodes_4 : N3} {fp_7 : Seg} {v_10 : Value} {free_9 : LI} {fp_12 : Seg} {v_15 : Value} {xby_14 : M3} {fp_17 : Seg} {v_20 : Value} {order_19 : LI} {fp_22 : Seg} {v_25 : Value} {level_24 : LI} {fp_27 : Seg} {v_30 : Value} {memo_29 : M3} {fp_32 : Seg} {f_34 : Int} {g_36 : Int} {Q : Int → N3 → LI → M3 → M3 → Prop} (h_6 : OwnSl H (cPair (cInt .i64) (cPair (cInt .i64) (cInt .i64))) 81 v_5 nodes_4 fp_7) (h_11 : OwnSl H (cInt .i64) 32 v_10 free_9 fp_12) (h_16 : OwnMp H kTri (cInt .i64) v_15 xby_14 fp_17) (h_21 : OwnSl H (cInt .i64) 3 v_20 order_19 fp_22) (h_26 : OwnSl H (cInt .i64) 3 v_25 level_24 fp_27) (h_31 : OwnMp H kTri (cInt .i64) v_30 memo_29 fp_32) (hr_35 : I64 f_34) (hr_37 : I64 g_36) (hS : St w0 H ([(b_2, oc #[v_5, v_10, v_15, v_20, v_25, v_30] 79)] ++ (fp_7 ++ (fp_12 ++ (fp_17 ++ (fp_22 ++ (fp_27 ++ (fp_32 ++ L))))))) w) (hV : V_Or nodes_4 free_9 xby_14 order_19 level_24 memo_29 f_34 g_36 Q) :
 Calls Try.prog 33 #[(pq b_2), i6 f_34, i6 g_36] w fun e w' => ∃ (r1 : Int) (r2 : N3) (r3 : LI) (r4 : M3) (r5 : M3) (v2 : Value) (fp2 : Seg) (v3 : Value) (fp3 : Seg) (fp4 : Seg) (fp5 : Seg), Q r1 r2 r3 r4 r5 ∧ e = .returned (i6 r1) ∧ I64 r1 ∧ OwnSl H (cPair (cInt .i64) (cPair (cInt .i64) (cInt .i64))) 81 v2 r2 fp2 ∧ OwnSl H (cInt .i64) 32 v3 r3 fp3 ∧ OwnMp H kTri (cInt .i64) v_15 r4 fp4 ∧ OwnMp H kTri (cInt .i64) v_30 r5 fp5 ∧ St w0 H ([(b_2, oc #[v2, v3, v_15, v_20, v_25, v_30] 79)] ++ (fp2 ++ (fp3 ++ (fp4 ++ (fp_22 ++ (fp_27 ++ (fp5 ++ L))))))) w' := by
 unfold V_Or at hV
 refine enter Try.func33 rfl Try.ntmps33 rfl (lk_args_cons (d := 0) (v := (pq b_2)) rfl (lk_args_cons (d := 1) (v := i6 f_34) rfl (lk_args_cons (d := 2) (v := i6 g_36) rfl (lk_args_nil _)))) ?_
 refine WC.sr ?_
 refine WL.ma rfl rfl ?_
 refine WL.nx ?_
 refine WC.sr ?_
 refine WL.mv rfl rfl ?_
 refine WL.mv rfl rfl ?_
 refine WL.mv rfl rfl ?_
 replace hS := hS.f7.f7.f7.f7.f7.f7.f7
 obtain ⟨mf, hV⟩ := hV
 refine WL.call rfl rfl rfl (enters0 (vs := [(pq b_2), i6 f_34, i6 1, i6 g_36]) Try.call29 ⟨rfl, rfl, rfl, rfl, trivial⟩) (S_Ite mf  h_6 h_11 h_16 h_21 h_26 h_31 hr_35 (by unfold I64; omega) hr_37 hS hV) ?_
 clear hV hS
 rintro _ w ⟨r_38, c_40, c_44, m_48, m_51, v_41, fp_42, v_45, fp_46, fp_49, fp_52, hV, rfl, hr_39, h_43, h_47, h_50, h_53, hS⟩
 refine ⟨_, rfl, ?_⟩
 refine WL.ma rfl rfl ?_
 refine WL.nx ?_
 refine WC.ret ?_
 replace hS := hS.f7.f7.f7.f7.f7.f7.f7
 exact leave1 rfl rfl ⟨r_38, c_40, c_44, m_48, m_51, v_41, fp_42, v_45, fp_46, fp_49, fp_52, hV, rfl, hr_39, h_43, h_47, h_50, h_53, hS⟩

theorem S_Xor {w0 : World} {H : View} {L : Seg} {w : World} {b_2 : Nat} {v_5 : Value} {nodes_4 : N3} {fp_7 : Seg} {v_10 : Value} {free_9 : LI} {fp_12 : Seg} {v_15 : Value} {xby_14 : M3} {fp_17 : Seg} {v_20 : Value} {order_19 : LI} {fp_22 : Seg} {v_25 : Value} {level_24 : LI} {fp_27 : Seg} {v_30 : Value} {memo_29 : M3} {fp_32 : Seg} {f_34 : Int} {g_36 : Int} {Q : Int → N3 → LI → M3 → M3 → Prop} (h_6 : OwnSl H (cPair (cInt .i64) (cPair (cInt .i64) (cInt .i64))) 81 v_5 nodes_4 fp_7) (h_11 : OwnSl H (cInt .i64) 32 v_10 free_9 fp_12) (h_16 : OwnMp H kTri (cInt .i64) v_15 xby_14 fp_17) (h_21 : OwnSl H (cInt .i64) 3 v_20 order_19 fp_22) (h_26 : OwnSl H (cInt .i64) 3 v_25 level_24 fp_27) (h_31 : OwnMp H kTri (cInt .i64) v_30 memo_29 fp_32) (hr_35 : I64 f_34) (hr_37 : I64 g_36) (hS : St w0 H ([(b_2, oc #[v_5, v_10, v_15, v_20, v_25, v_30] 79)] ++ (fp_7 ++ (fp_12 ++ (fp_17 ++ (fp_22 ++ (fp_27 ++ (fp_32 ++ L))))))) w) (hV : V_Xor nodes_4 free_9 xby_14 order_19 level_24 memo_29 f_34 g_36 Q) :
 Calls Try.prog 34 #[(pq b_2), i6 f_34, i6 g_36] w fun e w' => ∃ (r1 : Int) (r2 : N3) (r3 : LI) (r4 : M3) (r5 : M3) (v2 : Value) (fp2 : Seg) (v3 : Value) (fp3 : Seg) (fp4 : Seg) (fp5 : Seg), Q r1 r2 r3 r4 r5 ∧ e = .returned (i6 r1) ∧ I64 r1 ∧ OwnSl H (cPair (cInt .i64) (cPair (cInt .i64) (cInt .i64))) 81 v2 r2 fp2 ∧ OwnSl H (cInt .i64) 32 v3 r3 fp3 ∧ OwnMp H kTri (cInt .i64) v_15 r4 fp4 ∧ OwnMp H kTri (cInt .i64) v_30 r5 fp5 ∧ St w0 H ([(b_2, oc #[v2, v3, v_15, v_20, v_25, v_30] 79)] ++ (fp2 ++ (fp3 ++ (fp4 ++ (fp_22 ++ (fp_27 ++ (fp5 ++ L))))))) w' := by
 unfold V_Xor at hV
 refine enter Try.func34 rfl Try.ntmps34 rfl (lk_args_cons (d := 0) (v := (pq b_2)) rfl (lk_args_cons (d := 1) (v := i6 f_34) rfl (lk_args_cons (d := 2) (v := i6 g_36) rfl (lk_args_nil _)))) ?_
 refine WC.sr ?_
 refine WL.ma rfl rfl ?_
 refine WL.nx ?_
 refine WC.sr ?_
 refine WL.mv rfl rfl ?_
 refine WL.mv rfl rfl ?_
 refine WL.mv rfl rfl ?_
 refine WL.mv rfl rfl ?_
 replace hS := hS.f7.f7.f7.f7.f7.f7.f7
 refine WL.call rfl rfl rfl (enters0 (vs := [(pq b_2), i6 g_36]) Try.call31 ⟨rfl, rfl, trivial⟩) (S_Not  h_6 h_11 h_16 h_21 h_26 h_31 hr_37 hS hV) ?_
 clear hV hS
 rintro _ w ⟨r_38, c_40, c_44, m_48, m_51, v_41, fp_42, v_45, fp_46, fp_49, fp_52, hV, rfl, hr_39, h_43, h_47, h_50, h_53, hS⟩
 refine ⟨_, rfl, ?_⟩
 refine WL.mv rfl rfl ?_
 replace hS := hS.f7.f7.f7.f7.f7.f7.f7
 obtain ⟨mf, hV⟩ := hV
 refine WL.call rfl rfl rfl (enters0 (vs := [(pq b_2), i6 f_34, i6 r_38, i6 g_36]) Try.call29 ⟨rfl, rfl, rfl, rfl, trivial⟩) (S_Ite mf  h_43 h_47 h_50 h_21 h_26 h_53 hr_35 hr_39 hr_37 hS hV) ?_
 clear hV hS
 rintro _ w ⟨r_57, c_59, c_63, m_67, m_70, v_60, fp_61, v_64, fp_65, fp_68, fp_71, hV, rfl, hr_58, h_62, h_66, h_69, h_72, hS⟩
 refine ⟨_, rfl, ?_⟩
 refine WL.ma rfl rfl ?_
 refine WL.nx ?_
 refine WC.sub (m := [(6, i6 r_57)]) ⟨rfl, trivial⟩ ?_
 refine WC.ret ?_
 replace hS := hS.f7.f7.f7.f7.f7.f7.f7
 exact leave1 rfl rfl ⟨r_57, c_59, c_63, m_67, m_70, v_60, fp_61, v_64, fp_65, fp_68, fp_71, hV, rfl, hr_58, h_62, h_66, h_69, h_72, hS⟩

theorem S_IndexI {w0 : World} {H : View} {L : Seg} {w : World} {v_2 : Value} {s_1 : LI} {v_4 : Int} {Q : Int → Prop} (h_3 : IsSl H (cInt .i64) v_2 s_1) (hr_5 : I64 v_4) (hS : St w0 H (L) w) (hV : V_IndexI s_1 v_4 Q) :
 Calls Try.prog 79 #[v_2, i6 v_4] w fun e w' => ∃ (r1 : Int), Q r1 ∧ e = .returned (i6 r1) ∧ I64 r1 ∧ St w0 H (L) w' := by
 unfold V_IndexI at hV
 refine enter Try.func79 rfl Try.ntmps79 rfl (lk_args_cons (d := 0) (v := v_2) rfl (lk_args_cons (d := 1) (v := i6 v_4) rfl (lk_args_nil _))) ?_
 refine WC.sr ?_
 refine WL.ma rfl rfl ?_
 refine WL.nx ?_
 refine WC.seq ?_
 refine WC.sr ?_
 refine WL.mv rfl rfl ?_
 have hl_6 : Len s_1 := h_3.bound
 replace hV := hV hl_6
 refine WL.run hS rfl rfl rfl (ex_len_sl Try.underlying27 rfl h_3) ?_
 refine WL.mv rfl rfl ?_
 refine WL.nx ?_
 refine WC.block ?_
 obtain ⟨I_33, mu_34, hI_48, hV⟩ := hV
 refine WC.loop (σ := Int) (fun s a w => ∃ (x_19 : Int), s = x_19 ∧ I_33 x_19 ∧ I64 x_19 ∧ St w0 H (L) w ∧ Fr 19 [(0, v_2), (1, i6 v_4), (7, i6 (s_1.length : Int)), (8, i6 x_19)] a) mu_34 0 ?_ ?_
 exact fun a ha => ⟨0, rfl, hI_48, (by unfold I64; omega), hS, ha.of_sub ⟨rfl, rfl, rfl, rfl, trivial⟩⟩
 clear hS hI_48
 rintro x_19 a w ⟨_, rfl, hI, hr_20, hS, ha⟩
 refine in_frame ha ?_
 clear ha
 replace hV := hV _ hI
 clear hI
 refine WC.sr ?_
 refine WL.run hS rfl rfl rfl (ex_lss rfl rfl) ?_
 refine WL.nx ?_
 refine WC.seq ?_
 refine WC.cond rfl ?_ ?_
 intro hc_47
 replace hV := hV.1 (of_decide_eq_true hc_47)
 refine WC.skip ?_
 refine WQ.next ?_
 refine WC.seq ?_
 refine WC.block ?_
 refine WC.sr ?_
 refine WL.mv rfl rfl ?_
 refine WL.ma rfl rfl ?_
 refine WL.nx ?_
 refine WC.sr ?_
 refine WL.mv rfl rfl ?_
 refine WL.mv rfl rfl ?_
 refine WL.mv rfl rfl ?_
 obtain ⟨hin_37, hV⟩ := hV
 refine WL.runx hS rfl rfl rfl (ex_index Try.underlying27 Try.sizeOf3 rfl rfl h_3 hin_37) ?_
 intro p_38 hp_39
 refine WL.runx hS rfl rfl rfl (ex_load Try.isAgg3 rfl rfl hp_39) ?_
 intro u_40 hu_41
 obtain ⟨rfl, hr_42⟩ := cInt_rep hu_41
 replace hr_42 := has_I64 hr_42
 replace hV := hV hr_42
 refine WL.run hS rfl rfl rfl (ex_eql rfl rfl) ?_
 refine WL.nx ?_
 refine WC.cond rfl ?_ ?_
 intro hc_46
 replace hV := hV.1 (of_decide_eq_true hc_46)
 refine WC.sr ?_
 refine WL.mv rfl rfl ?_
 refine WL.ma rfl rfl ?_
 refine WL.nx ?_
 refine WC.sub (m := [(4, i6 x_19)]) ⟨rfl, trivial⟩ ?_
 refine WC.ret ?_
 refine WQ.out nofun ?_
 refine WQ.pass nofun ?_
 refine WQ.pass nofun ?_
 refine WQ.out nofun ?_
 refine WQ.pass nofun ?_
 exact leave1 rfl rfl ⟨x_19, hV, rfl, hr_20, hS⟩
 intro hc_46
 replace hV := hV.2 (of_decide_eq_false hc_46)
 refine WC.skip ?_
 refine WQ.out nofun ?_
 refine WQ.next ?_
 refine WC.region ?_
 obtain ⟨hi_45, hV⟩ := hV
 refine WL.run hS rfl rfl rfl (ex_add rfl rfl hi_45) ?_
 refine WL.mv rfl rfl ?_
 refine WL.nil ?_
 exact WQ.there fun a ha => ⟨(x_19 + 1), ⟨(x_19 + 1), rfl, hV.1, hi_45, hS, ha.of_sub ⟨rfl, rfl, rfl, rfl, trivial⟩⟩, hV.2⟩
 intro hc_47
 replace hV := hV.2 (of_decide_eq_false hc_47)
 refine WC.exit ?_
 refine WQ.pass nofun ?_
 refine WQ.pass nofun ?_
 refine WQ.hit ?_
 refine WQ.next ?_
 refine WC.sr ?_
 refine WL.ma rfl rfl ?_
 refine WL.nx ?_
 refine WC.ret ?_
 exact leave1 rfl rfl ⟨(-1), hV, rfl, (by unfold I64; omega), hS⟩

theorem S_ContainsI {w0 : World} {H : View} {L : Seg} {w : World} {v_2 : Value} {s_1 : LI} {v_4 : Int} {Q : Bool → Prop} (h_3 : IsSl H (cInt .i64) v_2 s_1) (hr_5 : I64 v_4) (hS : St w0 H (L) w) (hV : V_ContainsI s_1 v_4 Q) :
 Calls Try.prog 69 #[v_2, i6 v_4] w fun e w' => ∃ (r1 : Bool), Q r1 ∧ e = .returned (.bool r1) ∧ St w0 H (L) w' := by
 unfold V_ContainsI at hV
 refine enter Try.func69 rfl Try.ntmps69 rfl (lk_args_cons (d := 0) (v := v_2) rfl (lk_args_cons (d := 1) (v := i6 v_4) rfl (lk_args_nil _))) ?_
 refine WC.sr ?_
 refine WL.ma rfl rfl ?_
 refine WL.nx ?_
 refine WC.sr ?_
 refine WL.mv rfl rfl ?_
 refine WL.mv rfl rfl ?_
 refine WL.call rfl rfl rfl (enters0 (vs := [v_2, i6 v_4]) Try.call79 ⟨rfl, rfl, trivial⟩) (S_IndexI  h_3 hr_5 hS hV) ?_
 clear hV hS
 rintro _ w ⟨r_6, hV, rfl, hr_7, hS⟩
 refine ⟨_, rfl, ?_⟩
 refine WL.run hS rfl rfl rfl (ex_geq rfl rfl) ?_
 refine WL.ma rfl rfl ?_
 refine WL.nx ?_
 refine WC.ret ?_
 exact leave1 rfl rfl ⟨decide (0 ≤ r_6), hV, rfl, hS⟩

theorem S_Exists1 {w0 : World} {H : View} {L : Seg} {w : World} {xat_1 : Int} {low_3 : Int} {up_5 : Int} {b_8 : Nat} {v_11 : Value} {c_7_10 : LI} {b_14 : Nat} {b_17 : Nat} {v_20 : Value} {nodes_19 : N3} {fp_22 : Seg} {v_25 : Value} {free_24 : LI} {fp_27 : Seg} {v_30 : Value} {xby_29 : M3} {fp_32 : Seg} {v_35 : Value} {order_34 : LI} {fp_37 : Seg} {v_40 : Value} {level_39 : LI} {fp_42 : Seg} {v_45 : Value} {memo_44 : M3} {fp_47 : Seg} {Q : Int → N3 → LI → M3 → M3 → Prop} (hr_2 : I64 xat_1) (hr_4 : I64 low_3) (hr_6 : I64 up_5) (h_12 : IsSl H (cInt .i64) v_11 c_7_10) (h_21 : OwnSl H (cPair (cInt .i64) (cPair (cInt .i64) (cInt .i64))) 81 v_20 nodes_19 fp_22) (h_26 : OwnSl H (cInt .i64) 32 v_25 free_24 fp_27) (h_31 : OwnMp H kTri (cInt .i64) v_30 xby_29 fp_32) (h_36 : OwnSl H (cInt .i64) 3 v_35 order_34 fp_37) (h_41 : OwnSl H (cInt .i64) 3 v_40 level_39 fp_42) (h_46 : OwnMp H kTri (cInt .i64) v_45 memo_44 fp_47) (hS : St w0 H ([(b_8, oc #[v_11] 27)] ++ ([(b_14, oc #[(pq b_17)] 36)] ++ ([(b_17, oc #[v_20, v_25, v_30, v_35, v_40, v_45] 79)] ++ (fp_22 ++ (fp_27 ++ (fp_32 ++ (fp_37 ++ (fp_42 ++ (fp_47 ++ L))))))))) w) (hV : V_Exists1 xat_1 low_3 up_5 c_7_10 nodes_19 free_24 xby_29 order_34 level_39 memo_44 Q) :
 Calls Try.prog 68 #[i6 xat_1, i6 low_3, i6 up_5, (pq b_8), (pq b_14)] w fun e w' => ∃ (r1 : Int) (r2 : N3) (r3 : LI) (r4 : M3) (r5 : M3) (v2 : Value) (fp2 : Seg) (v3 : Value) (fp3 : Seg) (fp4 : Seg) (fp5 : Seg), Q r1 r2 r3 r4 r5 ∧ e = .returned (i6 r1) ∧ I64 r1 ∧ OwnSl H (cPair (cInt .i64) (cPair (cInt .i64) (cInt .i64))) 81 v2 r2 fp2 ∧ OwnSl H (cInt .i64) 32 v3 r3 fp3 ∧ OwnMp H kTri (cInt .i64) v_30 r4 fp4 ∧ OwnMp H kTri (cInt .i64) v_45 r5 fp5 ∧ St w0 H ([(b_8, oc #[v_11] 27)] ++ ([(b_14, oc #[(pq b_17)] 36)] ++ ([(b_17, oc #[v2, v3, v_30, v_35, v_40, v_45] 79)] ++ (fp2 ++ (fp3 ++ (fp4 ++ (fp_37 ++ (fp_42 ++ (fp5 ++ L))))))))) w' := by
 unfold V_Exists1 at hV
 refine enter Try.func68 rfl Try.ntmps68 rfl (lk_args_cons (d := 0) (v := i6 xat_1) rfl (lk_args_cons (d := 1) (v := i6 low_3) rfl (lk_args_cons (d := 2) (v := i6 up_5) rfl (lk_args_cons (d := 3) (v := (pq b_8)) rfl (lk_args_cons (d := 4) (v := (pq b_14)) rfl (lk_args_nil _)))))) ?_
 refine WC.sr ?_
 refine WL.ma rfl rfl ?_
 refine WL.nx ?_
 refine WC.seq ?_
 refine WC.sr ?_
 refine WL.run hS rfl rfl rfl (ex_load_box Try.isAgg27 rfl rfl) ?_
 refine WL.mv rfl rfl ?_
 refine WL.call rfl rfl rfl (enters0 (vs := [v_11, i6 xat_1]) Try.call69 ⟨rfl, rfl, trivial⟩) (S_ContainsI  h_12 hr_2 hS hV) ?_
 clear hV hS
 rintro _ w ⟨r_49, hV, rfl, hS⟩
 refine ⟨_, rfl, ?_⟩
 refine WL.nx ?_
 refine WC.cond rfl ?_ ?_
 intro hc_117
 replace hV := hV.1 hc_117
 refine WC.sr ?_
 replace hS := hS.f2
 refine WL.run hS rfl rfl rfl (ex_load_box Try.isAgg36 rfl rfl) ?_
 refine WL.mv rfl rfl ?_
 refine WL.mv rfl rfl ?_
 replace hS := hS.f9.f9.f9.f9.f9.f9.f9
 refine WL.call rfl rfl rfl (enters0 (vs := [(pq b_17), i6 low_3, i6 up_5]) Try.call33 ⟨rfl, rfl, rfl, trivial⟩) (S_Or  h_21 h_26 h_31 h_36 h_41 h_46 hr_4 hr_6 hS hV) ?_
 clear hV hS
 rintro _ w ⟨r_51, c_53, c_57, m_61, m_64, v_54, fp_55, v_58, fp_59, fp_62, fp_65, hV, rfl, hr_52, h_56, h_60, h_63, h_66, hS⟩
 refine ⟨_, rfl, ?_⟩
 refine WL.ma rfl rfl ?_
 refine WL.nx ?_
 refine WC.sub (m := [(8, i6 r_51)]) ⟨rfl, trivial⟩ ?_
 refine WC.ret ?_
 refine WQ.pass nofun ?_
 replace hS := hS.f7.f7.f7.f7.f7.f7.f7.f8.f9
 exact leave1 rfl rfl ⟨r_51, c_53, c_57, m_61, m_64, v_54, fp_55, v_58, fp_59, fp_62, fp_65, hV, rfl, hr_52, h_56, h_60, h_63, h_66, hS⟩
 intro hc_117
 replace hV := hV.2 hc_117
 refine WC.skip ?_
 refine WQ.next ?_
 refine WC.seq ?_
 refine WC.drawn (σ := [0, 1, 2, 4, 5, 3, 6, 7]) (C := St w0 H ([(b_8, oc #[v_11] 27)] ++ ([(b_14, oc #[(pq b_17)] 36)] ++ ([(b_17, oc #[v_20, v_25, v_30, v_35, v_40, v_45] 79)] ++ (fp_22 ++ (fp_27 ++ (fp_32 ++ (fp_37 ++ (fp_42 ++ (fp_47 ++ L)))))))))) [[], [], [], [1, 2], [], [], [0, 1, 2, 3, 4, 5], [0, 1, 2, 3, 4, 5, 6]] [3, 6] Try.mixed (by kernel_rfl) (hS.drawn _) ?_
 clear hS w
 refine Wd.runb (off := 0) rfl rfl rfl rfl (fun _ _ _ h => ex_load_box Try.isAgg36 rfl h) rfl (fun _ h => St.f2 h) fun q_71 hq_70 => ?_
 refine Wd.runb (off := 0) rfl rfl rfl rfl (fun _ _ _ h => ex_load_box Try.isAgg36 rfl h) rfl (fun _ h => St.f2 h) fun q_73 hq_72 => ?_
 refine Wd.run rfl rfl rfl rfl (fun _ => ex_move rfl) fun q_75 hq_74 => ?_
 refine Wd.run rfl rfl rfl rfl (fun _ => ex_move rfl) fun q_77 hq_76 => ?_
 refine Wd.run rfl rfl rfl rfl (fun _ => ex_move rfl) fun q_79 hq_78 => ?_
 refine Wd.turn rfl rfl rfl fun w hS => ?_
 replace hS := hS.f9.f9.f9.f9.f9.f9.f9
 refine WL.call rfl rfl rfl (enters0 (vs := [(pq b_17), i6 xat_1, i6 0, i6 1]) Try.call51 ⟨rfl, rfl, rfl, rfl, trivial⟩) (S_make  h_21 h_26 h_31 h_36 h_41 h_46 hr_2 (by unfold I64; omega) (by unfold I64; omega) hS hV) ?_
 clear hV hS
 rintro _ w ⟨r_80, c_82, c_86, m_90, v_83, fp_84, v_87, fp_88, fp_91, hV, rfl, hr_81, h_85, h_89, h_92, hS⟩
 refine ⟨_, rfl, ?_⟩
 refine WL.nil (DQ.mk2 (C' := St w0 H ([(b_17, oc #[v_83, v_87, v_30, v_35, v_40, v_45] 79)] ++ (fp_84 ++ (fp_88 ++ (fp_91 ++ (fp_37 ++ (fp_42 ++ (fp_47 ++ ([(b_8, oc #[v_11] 27)] ++ ([(b_14, oc #[(pq b_17)] 36)] ++ L)))))))))) hS ⟨.inr (hq_78 _), .inr (hq_76 _), il, il, .inr (hq_70 H ([(b_17, oc #[v_83, v_87, v_30, v_35, v_40, v_45] 79)] ++ (fp_84 ++ (fp_88 ++ (fp_91 ++ (fp_37 ++ (fp_42 ++ (fp_47 ++ ([(b_8, oc #[v_11] 27)] ++ L)))))))) #[(pq b_17)] _ rfl (fun _ h => St.f9 h)), trivial⟩ ?_)
 clear hS w
 refine Wd.turn rfl rfl rfl fun w hS => ?_
 replace hS := hS.f7.f7.f7.f7.f7.f7.f7
 obtain ⟨mf, hV⟩ := hV
 refine WL.call rfl rfl rfl (enters0 (vs := [(pq b_17), i6 r_80, i6 up_5, i6 low_3]) Try.call29 ⟨rfl, rfl, rfl, rfl, trivial⟩) (S_Ite mf  h_85 h_89 h_92 h_36 h_41 h_46 hr_81 hr_6 hr_4 hS hV) ?_
 clear hV hS
 rintro _ w ⟨r_96, c_98, c_102, m_106, m_109, v_99, fp_100, v_103, fp_104, fp_107, fp_110, hV, rfl, hr_97, h_101, h_105, h_108, h_111, hS⟩
 refine ⟨_, rfl, ?_⟩
 refine WL.nil (DQ.mk2 (C' := St w0 H ([(b_17, oc #[v_99, v_103, v_30, v_35, v_40, v_45] 79)] ++ (fp_100 ++ (fp_104 ++ (fp_107 ++ (fp_37 ++ (fp_42 ++ (fp_110 ++ ([(b_8, oc #[v_11] 27)] ++ ([(b_14, oc #[(pq b_17)] 36)] ++ L)))))))))) hS ⟨il, il, il, il, il, trivial⟩ ?_)
 clear hS w
 refine Wd.run rfl rfl rfl rfl (fun _ => ex_assign rfl) fun q_116 hq_115 => ?_
 refine Wd.nil fun w hS => ?_
 refine WQ.next ?_
 refine WC.sub (m := [(8, i6 r_96)]) ⟨rfl, trivial⟩ ?_
 refine WC.ret ?_
 replace hS := hS.f7.f7.f7.f7.f7.f7.f7.f9.f9
 exact leave1 rfl rfl ⟨r_96, c_98, c_102, m_106, m_109, v_99, fp_100, v_103, fp_104, fp_107, fp_110, hV, rfl, hr_97, h_101, h_105, h_108, h_111, hS⟩

theorem S_Let1 {w0 : World} {H : View} {L : Seg} {w : World} {xat_1 : Int} {low_3 : Int} {up_5 : Int} {b_8 : Nat} {c_7_10 : Int} {b_13 : Nat} {b_16 : Nat} {v_19 : Value} {nodes_18 : N3} {fp_21 : Seg} {v_24 : Value} {free_23 : LI} {fp_26 : Seg} {v_29 : Value} {xby_28 : M3} {fp_31 : Seg} {v_34 : Value} {order_33 : LI} {fp_36 : Seg} {v_39 : Value} {level_38 : LI} {fp_41 : Seg} {v_44 : Value} {memo_43 : M3} {fp_46 : Seg} {b_49 : Nat} {c_48_51 : Int} {Q : Int → N3 → LI → M3 → M3 → Prop} (hr_2 : I64 xat_1) (hr_4 : I64 low_3) (hr_6 : I64 up_5) (hr_11 : I64 c_7_10) (h_20 : OwnSl H (cPair (cInt .i64) (cPair (cInt .i64) (cInt .i64))) 81 v_19 nodes_18 fp_21) (h_25 : OwnSl H (cInt .i64) 32 v_24 free_23 fp_26) (h_30 : OwnMp H kTri (cInt .i64) v_29 xby_28 fp_31) (h_35 : OwnSl H (cInt .i64) 3 v_34 order_33 fp_36) (h_40 : OwnSl H (cInt .i64) 3 v_39 level_38 fp_41) (h_45 : OwnMp H kTri (cInt .i64) v_44 memo_43 fp_46) (hr_52 : I64 c_48_51) (hS : St w0 H ([(b_8, oc #[i6 c_7_10] 3)] ++ ([(b_13, oc #[(pq b_16)] 36)] ++ ([(b_16, oc #[v_19, v_24, v_29, v_34, v_39, v_44] 79)] ++ (fp_21 ++ (fp_26 ++ (fp_31 ++ (fp_36 ++ (fp_41 ++ (fp_46 ++ ([(b_49, oc #[i6 c_48_51] 32)] ++ L)))))))))) w) (hV : V_Let1 xat_1 low_3 up_5 c_7_10 nodes_18 free_23 xby_28 order_33 level_38 memo_43 c_48_51 Q) :
 Calls Try.prog 71 #[i6 xat_1, i6 low_3, i6 up_5, (pq b_8), (pq b_13), (pq b_49)] w fun e w' => ∃ (r1 : Int) (r2 : N3) (r3 : LI) (r4 : M3) (r5 : M3) (v2 : Value) (fp2 : Seg) (v3 : Value) (fp3 : Seg) (fp4 : Seg) (fp5 : Seg), Q r1 r2 r3 r4 r5 ∧ e = .returned (i6 r1) ∧ I64 r1 ∧ OwnSl H (cPair (cInt .i64) (cPair (cInt .i64) (cInt .i64))) 81 v2 r2 fp2 ∧ OwnSl H (cInt .i64) 32 v3 r3 fp3 ∧ OwnMp H kTri (cInt .i64) v_29 r4 fp4 ∧ OwnMp H kTri (cInt .i64) v_44 r5 fp5 ∧ St w0 H ([(b_8, oc #[i6 c_7_10] 3)] ++ ([(b_13, oc #[(pq b_16)] 36)] ++ ([(b_16, oc #[v2, v3, v_29, v_34, v_39, v_44] 79)] ++ (fp2 ++ (fp3 ++ (fp4 ++ (fp_36 ++ (fp_41 ++ (fp5 ++ ([(b_49, oc #[i6 c_48_51] 32)] ++ L)))))))))) w' := by
 unfold V_Let1 at hV
 refine enter Try.func71 rfl Try.ntmps71 rfl (lk_args_cons (d := 0) (v := i6 xat_1) rfl (lk_args_cons (d := 1) (v := i6 low_3) rfl (lk_args_cons (d := 2) (v := i6 up_5) rfl (lk_args_cons (d := 3) (v := (pq b_8)) rfl (lk_args_cons (d := 4) (v := (pq b_13)) rfl (lk_args_cons (d := 5) (v := (pq b_49)) rfl (lk_args_nil _))))))) ?_
 refine WC.sr ?_
 refine WL.ma rfl rfl ?_
 refine WL.nx ?_
 refine WC.seq ?_
 refine WC.sr ?_
 refine WL.mv rfl rfl ?_
 refine WL.run hS rfl rfl rfl (ex_load_box Try.isAgg3 rfl rfl) ?_
 refine WL.run hS rfl rfl rfl (ex_eql rfl rfl) ?_
 refine WL.nx ?_
 refine WC.cond rfl ?_ ?_
 intro hc_120
 replace hV := hV.1 (of_decide_eq_true hc_120)
 refine WC.sr ?_
 replace hS := hS.f2
 refine WL.run hS rfl rfl rfl (ex_load_box Try.isAgg36 rfl rfl) ?_
 replace hS := hS.f10
 refine WL.run hS rfl rfl rfl (ex_load_box Try.isAgg32 rfl rfl) ?_
 refine WL.mv rfl rfl ?_
 refine WL.mv rfl rfl ?_
 replace hS := hS.f10.f10.f10.f10.f10.f10.f10
 obtain ⟨mf, hV⟩ := hV
 refine WL.call rfl rfl rfl (enters0 (vs := [(pq b_16), i6 c_48_51, i6 up_5, i6 low_3]) Try.call29 ⟨rfl, rfl, rfl, rfl, trivial⟩) (S_Ite mf  h_20 h_25 h_30 h_35 h_40 h_45 hr_52 hr_6 hr_4 hS hV) ?_
 clear hV hS
 rintro _ w ⟨r_54, c_56, c_60, m_64, m_67, v_57, fp_58, v_61, fp_62, fp_65, fp_68, hV, rfl, hr_55, h_59, h_63, h_66, h_69, hS⟩
 refine ⟨_, rfl, ?_⟩
 refine WL.ma rfl rfl ?_
 refine WL.nx ?_
 refine WC.sub (m := [(9, i6 r_54)]) ⟨rfl, trivial⟩ ?_
 refine WC.ret ?_
 refine WQ.pass nofun ?_
 replace hS := hS.f8.f8.f8.f8.f8.f8.f8.f8.f9.f10
 exact leave1 rfl rfl ⟨r_54, c_56, c_60, m_64, m_67, v_57, fp_58, v_61, fp_62, fp_65, fp_68, hV, rfl, hr_55, h_59, h_63, h_66, h_69, hS⟩
 intro hc_120
 replace hV := hV.2 (of_decide_eq_false hc_120)
 refine WC.skip ?_
 refine WQ.next ?_
 refine WC.seq ?_
 refine WC.drawn (σ := [0, 1, 2, 4, 5, 3, 6, 7]) (C := St w0 H ([(b_8, oc #[i6 c_7_10] 3)] ++ ([(b_13, oc #[(pq b_16)] 36)] ++ ([(b_16, oc #[v_19, v_24, v_29, v_34, v_39, v_44] 79)] ++ (fp_21 ++ (fp_26 ++ (fp_31 ++ (fp_36 ++ (fp_41 ++ (fp_46 ++ ([(b_49, oc #[i6 c_48_51] 32)] ++ L))))))))))) [[], [], [], [1, 2], [], [], [0, 1, 2, 3, 4, 5], [0, 1, 2, 3, 4, 5, 6]] [3, 6] Try.mixed (by kernel_rfl) (hS.drawn _) ?_
 clear hS w
 refine Wd.runb (off := 0) rfl rfl rfl rfl (fun _ _ _ h => ex_load_box Try.isAgg36 rfl h) rfl (fun _ h => St.f2 h) fun q_74 hq_73 => ?_
 refine Wd.runb (off := 0) rfl rfl rfl rfl (fun _ _ _ h => ex_load_box Try.isAgg36 rfl h) rfl (fun _ h => St.f2 h) fun q_76 hq_75 => ?_
 refine Wd.run rfl rfl rfl rfl (fun _ => ex_move rfl) fun q_78 hq_77 => ?_
 refine Wd.run rfl rfl rfl rfl (fun _ => ex_move rfl) fun q_80 hq_79 => ?_
 refine Wd.run rfl rfl rfl rfl (fun _ => ex_move rfl) fun q_82 hq_81 => ?_
 refine Wd.turn rfl rfl rfl fun w hS => ?_
 replace hS := hS.f9.f9.f9.f9.f9.f9.f9
 refine WL.call rfl rfl rfl (enters0 (vs := [(pq b_16), i6 xat_1, i6 0, i6 1]) Try.call51 ⟨rfl, rfl, rfl, rfl, trivial⟩) (S_make  h_20 h_25 h_30 h_35 h_40 h_45 hr_2 (by unfold I64; omega) (by unfold I64; omega) hS hV) ?_
 clear hV hS
 rintro _ w ⟨r_83, c_85, c_89, m_93, v_86, fp_87, v_90, fp_91, fp_94, hV, rfl, hr_84, h_88, h_92, h_95, hS⟩
 refine ⟨_, rfl, ?_⟩
 refine WL.nil (DQ.mk2 (C' := St w0 H ([(b_16, oc #[v_86, v_90, v_29, v_34, v_39, v_44] 79)] ++ (fp_87 ++ (fp_91 ++ (fp_94 ++ (fp_36 ++ (fp_41 ++ (fp_46 ++ ([(b_8, oc #[i6 c_7_10] 3)] ++ ([(b_13, oc #[(pq b_16)] 36)] ++ ([(b_49, oc #[i6 c_48_51] 32)] ++ L))))))))))) hS ⟨.inr (hq_81 _), .inr (hq_79 _), il, il, .inr (hq_73 H ([(b_16, oc #[v_86, v_90, v_29, v_34, v_39, v_44] 79)] ++ (fp_87 ++ (fp_91 ++ (fp_94 ++ (fp_36 ++ (fp_41 ++ (fp_46 ++ ([(b_8, oc #[i6 c_7_10] 3)] ++ ([(b_49, oc #[i6 c_48_51] 32)] ++ L))))))))) #[(pq b_16)] _ rfl (fun _ h => St.f9 h)), trivial⟩ ?_)
 clear hS w
 refine Wd.turn rfl rfl rfl fun w hS => ?_
 replace hS := hS.f7.f7.f7.f7.f7.f7.f7
 obtain ⟨mf, hV⟩ := hV
 refine WL.call rfl rfl rfl (enters0 (vs := [(pq b_16), i6 r_83, i6 up_5, i6 low_3]) Try.call29 ⟨rfl, rfl, rfl, rfl, trivial⟩) (S_Ite mf  h_88 h_92 h_95 h_35 h_40 h_45 hr_84 hr_6 hr_4 hS hV) ?_
 clear hV hS
 rintro _ w ⟨r_99, c_101, c_105, m_109, m_112, v_102, fp_103, v_106, fp_107, fp_110, fp_113, hV, rfl, hr_100, h_104, h_108, h_111, h_114, hS⟩
 refine ⟨_, rfl, ?_⟩
 refine WL.nil (DQ.mk2 (C' := St w0 H ([(b_16, oc #[v_102, v_106, v_29, v_34, v_39, v_44] 79)] ++ (fp_103 ++ (fp_107 ++ (fp_110 ++ (fp_36 ++ (fp_41 ++ (fp_113 ++ ([(b_8, oc #[i6 c_7_10] 3)] ++ ([(b_13, oc #[(pq b_16)] 36)] ++ ([(b_49, oc #[i6 c_48_51] 32)] ++ L))))))))))) hS ⟨il, il, il, il, il, trivial⟩ ?_)
 clear hS w
 refine Wd.run rfl rfl rfl rfl (fun _ => ex_assign rfl) fun q_119 hq_118 => ?_
 refine Wd.nil fun w hS => ?_
 refine WQ.next ?_
 refine WC.sub (m := [(9, i6 r_99)]) ⟨rfl, trivial⟩ ?_
 refine WC.ret ?_
 replace hS := hS.f10.f8.f8.f8.f8.f8.f8.f8.f10.f10
 exact leave1 rfl rfl ⟨r_99, c_101, c_105, m_109, m_112, v_102, fp_103, v_106, fp_107, fp_110, fp_113, hV, rfl, hr_100, h_104, h_108, h_111, h_114, hS⟩

theorem S_overE (m0 : Nat) : ∀ {w0 : World} {H : View} {L : Seg} {w : World} {b_2 : Nat} {v_5 : Value} {nodes_4 : N3} {fp_7 : Seg} {v_10 : Value} {free_9 : LI} {fp_12 : Seg} {v_15 : Value} {xby_14 : M3} {fp_17 : Seg} {v_20 : Value} {order_19 : LI} {fp_22 : Seg} {v_25 : Value} {level_24 : LI} {fp_27 : Seg} {v_30 : Value} {memo_29 : M3} {fp_32 : Seg} {f_34 : Int} {v_37 : Value} {seen_36 : M1} {fp_39 : Seg} {b_43 : Nat} {v_46 : Value} {c_42_45 : LI} {b_49 : Nat} {Q : Int → N3 → LI → M3 → M3 → M1 → Prop} (h_6 : OwnSl H (cPair (cInt .i64) (cPair (cInt .i64) (cInt .i64))) 81 v_5 nodes_4 fp_7) (h_11 : OwnSl H (cInt .i64) 32 v_10 free_9 fp_12) (h_16 : OwnMp H kTri (cInt .i64) v_15 xby_14 fp_17) (h_21 : OwnSl H (cInt .i64) 3 v_20 order_19 fp_22) (h_26 : OwnSl H (cInt .i64) 3 v_25 level_24 fp_27) (h_31 : OwnMp H kTri (cInt .i64) v_30 memo_29 fp_32) (hr_35 : I64 f_34) (h_38 : OwnMp H kInt (cInt .i64) v_37 seen_36 fp_39) (h_47 : IsSl H (cInt .i64) v_46 c_42_45) (hS : St w0 H ([(b_2, oc #[v_5, v_10, v_15, v_20, v_25, v_30] 79)] ++ (fp_7 ++ (fp_12 ++ (fp_17 ++ (fp_22 ++ (fp_27 ++ (fp_32 ++ (fp_39 ++ ([(b_43, oc #[v_46] 27)] ++ ([(b_49, oc #[(pq b_2)] 36)] ++ L)))))))))) w) (hV : V_overE m0 nodes_4 free_9 xby_14 order_19 level_24 memo_29 f_34 seen_36 c_42_45 Q),
 Calls Try.prog 67 #[(pq b_2), i6 f_34, v_37, .func (.func 68) #[] #[(pq b_43), (pq b_49)]] w fun e w' => ∃ (r1 : Int) (r2 : N3) (r3 : LI) (r4 : M3) (r5 : M3) (r6 : M1) (v2 : Value) (fp2 : Seg) (v3 : Value) (fp3 : Seg) (fp4 : Seg) (fp5 : Seg) (fp6 : Seg), Q r1 r2 r3 r4 r5 r6 ∧ e = .returned (i6 r1) ∧ I64 r1 ∧ OwnSl H (cPair (cInt .i64) (cPair (cInt .i64) (cInt .i64))) 81 v2 r2 fp2 ∧ OwnSl H (cInt .i64) 32 v3 r3 fp3 ∧ OwnMp H kTri (cInt .i64) v_15 r4 fp4 ∧ OwnMp H kTri (cInt .i64) v_30 r5 fp5 ∧ OwnMp H kInt (cInt .i64) v_37 r6 fp6 ∧ St w0 H ([(b_2, oc #[v2, v3, v_15, v_20, v_25, v_30] 79)] ++ (fp2 ++ (fp3 ++ (fp4 ++ (fp_22 ++ (fp_27 ++ (fp5 ++ (fp6 ++ ([(b_43, oc #[v_46] 27)] ++ ([(b_49, oc #[(pq b_2)] 36)] ++ L)))))))))) w' := by
 induction m0 with
 | zero => intro w0 H L w b_2 v_5 nodes_4 fp_7 v_10 free_9 fp_12 v_15 xby_14 fp_17 v_20 order_19 fp_22 v_25 level_24 fp_27 v_30 memo_29 fp_32 f_34 v_37 seen_36 fp_39 b_43 v_46 c_42_45 b_49 Q h_6 h_11 h_16 h_21 h_26 h_31 hr_35 h_38 h_47 hS hV; exact hV.elim
 | succ m0 ih =>
  intro w0 H L w b_2 v_5 nodes_4 fp_7 v_10 free_9 fp_12 v_15 xby_14 fp_17 v_20 order_19 fp_22 v_25 level_24 fp_27 v_30 memo_29 fp_32 f_34 v_37 seen_36 fp_39 b_43 v_46 c_42_45 b_49 Q h_6 h_11 h_16 h_21 h_26 h_31 hr_35 h_38 h_47 hS hV
  unfold V_overE at hV
  refine enter Try.func67 rfl Try.ntmps67 rfl (lk_args_cons (d := 0) (v := (pq b_2)) rfl (lk_args_cons (d := 1) (v := i6 f_34) rfl (lk_args_cons (d := 2) (v := v_37) rfl (lk_args_cons (d := 3) (v := .func (.func 68) #[] #[(pq b_43), (pq b_49)]) rfl (lk_args_nil _))))) ?_
  refine WC.sr ?_
  refine WL.ma rfl rfl ?_
  refine WL.nx ?_
  refine WC.seq ?_
  refine WC.sr ?_
  refine WL.mv rfl rfl ?_
  refine WL.run hS rfl rfl rfl (ex_leq rfl rfl) ?_
  refine WL.nx ?_
  refine WC.cond rfl ?_ ?_
  intro hc_163
  replace hV := hV.1 (of_decide_eq_true hc_163)
  refine WC.sr ?_
  refine WL.mv rfl rfl ?_
  refine WL.ma rfl rfl ?_
  refine WL.nx ?_
  refine WC.ret ?_
  refine WQ.pass nofun ?_
  replace hS := hS.f10.f10.f10.f10.f10.f10.f10.f10.f10.f10
  exact leave1 rfl rfl ⟨f_34, nodes_4, free_9, xby_14, memo_29, seen_36, v_5, fp_7, v_10, fp_12, fp_17, fp_32, fp_39, hV, rfl, hr_35, h_6, h_11, h_16, h_31, h_38, hS⟩
  intro hc_163
  replace hV := hV.2 (of_decide_eq_false hc_163)
  refine WC.skip ?_
  refine WQ.next ?_
  refine WC.seq ?_
  refine WC.sr ?_
  refine WL.mv rfl rfl ?_
  refine WL.mv rfl rfl ?_
  replace hS := hS.f8
  refine WL.runx hS rfl rfl rfl (exNow (H := H) (L := [(b_2, oc #[v_5, v_10, v_15, v_20, v_25, v_30] 79)] ++ (fp_7 ++ (fp_12 ++ (fp_17 ++ (fp_22 ++ (fp_27 ++ (fp_32 ++ ([(b_43, oc #[v_46] 27)] ++ ([(b_49, oc #[(pq b_2)] 36)] ++ L))))))))) (ex_lookup_ok (c := (cInt .i64)) (k := f_34) (d := 0) Try.underlying99 Try.key32 Try.zeroValue32 ⟨rfl, I64.has (by unfold I64; omega)⟩ rfl rfl h_38)) ?_
  rintro _ ⟨u_53, rfl, hu_54⟩
  obtain ⟨rfl, hr_55⟩ := cInt_rep hu_54
  replace hr_55 := has_I64 hr_55
  replace hV := hV hr_55
  refine WL.mv rfl rfl ?_
  refine WL.run hS rfl rfl rfl (ex_extract rfl rfl) ?_
  refine WL.run hS rfl rfl rfl (ex_extract rfl rfl) ?_
  refine WL.ma rfl rfl ?_
  refine WL.ma rfl rfl ?_
  refine WL.nx ?_
  refine WC.sr ?_
  refine WL.mv rfl rfl ?_
  refine WL.nx ?_
  refine WC.sub (m := [(0, (pq b_2)), (1, i6 f_34), (2, v_37), (3, .func (.func 68) #[] #[(pq b_43), (pq b_49)]), (9, i6 (mgetD seen_36 f_34 0)), (22, .bool (mhas seen_36 f_34))]) ⟨rfl, rfl, rfl, rfl, rfl, rfl, trivial⟩ ?_
  refine WC.cond rfl ?_ ?_
  intro hc_162
  replace hV := hV.1 hc_162
  refine WC.sr ?_
  refine WL.mv rfl rfl ?_
  refine WL.ma rfl rfl ?_
  refine WL.nx ?_
  refine WC.ret ?_
  refine WQ.pass nofun ?_
  replace hS := hS.f10.f10.f3.f10.f10.f10.f10.f10.f10.f10
  exact leave1 rfl rfl ⟨(mgetD seen_36 f_34 0), nodes_4, free_9, xby_14, memo_29, seen_36, v_5, fp_7, v_10, fp_12, fp_17, fp_32, fp_39, hV, rfl, hr_55, h_6, h_11, h_16, h_31, h_38, hS⟩
  intro hc_162
  replace hV := hV.2 hc_162
  refine WC.skip ?_
  refine WQ.next ?_
  refine WC.sr ?_
  refine WL.mv rfl rfl ?_
  refine WL.run hS rfl rfl rfl (ex_nilCheck rfl) ?_
  refine WL.run hS rfl rfl rfl (ex_fieldAddr (o' := 0) Try.underlying79 rfl Try.sizeOf75 rfl rfl) ?_
  replace hS := hS.f2
  refine WL.run hS rfl rfl rfl (ex_load_box Try.isAgg75 rfl rfl) ?_
  refine WL.mv rfl rfl ?_
  obtain ⟨hin_56, hV⟩ := hV
  refine WL.runx hS rfl rfl rfl (ex_index_own Try.underlying75 Try.sizeOf81 rfl rfl h_6 hin_56) ?_
  intro p_57 hp_58
  replace hS := hS.f3
  refine WL.runx hS rfl rfl rfl (exNow (H := H) (L := [(b_2, oc #[v_5, v_10, v_15, v_20, v_25, v_30] 79)] ++ (fp_39 ++ (fp_12 ++ (fp_17 ++ (fp_22 ++ (fp_27 ++ (fp_32 ++ ([(b_43, oc #[v_46] 27)] ++ ([(b_49, oc #[(pq b_2)] 36)] ++ L))))))))) (ex_load_own_agg Try.isAgg81 Try.sizeOf81 rfl h_6 hp_58 hin_56)) ?_
  rintro u_59 ⟨_, rfl, hu⟩
  obtain ⟨_, _, rfl, hu_60, hu_61⟩ := hu
  obtain ⟨rfl, hr_62⟩ := hu_60
  replace hr_62 := has_I64 hr_62
  replace hV := hV hr_62
  obtain ⟨_, _, rfl, hu_63, hu_64⟩ := hu_61
  obtain ⟨rfl, hr_65⟩ := hu_63
  replace hr_65 := has_I64 hr_65
  replace hV := hV hr_65
  obtain ⟨rfl, hr_66⟩ := hu_64
  replace hr_66 := has_I64 hr_66
  replace hV := hV hr_66
  refine WL.alloc (arr := #[i6 0, i6 0, i6 0]) rfl Try.zeroValue81 rfl hS ?_
  clear hS
  intro b_67 w hS
  refine WL.store_box (pre := []) (old := [i6 0, i6 0, i6 0]) (rst := []) (cs := [i6 ((ix nodes_4 f_34).1), i6 ((ix nodes_4 f_34).2.1), i6 ((ix nodes_4 f_34).2.2)]) (arr' := #[i6 ((ix nodes_4 f_34).1), i6 ((ix nodes_4 f_34).2.1), i6 ((ix nodes_4 f_34).2.2)]) Try.sizeOf81 rfl rfl rfl ⟨rfl, rfl, rfl, trivial⟩ rfl rfl rfl rfl hS ?_
  clear hS
  intro w hS
  refine WL.nx ?_
  refine WC.seq ?_
  refine WC.drawn (σ := [0, 1, 2, 3, 4, 5, 6, 7, 9, 10, 11, 12, 13, 8, 14, 15, 16]) (C := St w0 H ([(b_67, oc #[i6 ((ix nodes_4 f_34).1), i6 ((ix nodes_4 f_34).2.1), i6 ((ix nodes_4 f_34).2.2)] 81)] ++ (fp_7 ++ ([(b_2, oc #[v_5, v_10, v_15, v_20, v_25, v_30] 79)] ++ (fp_39 ++ (fp_12 ++ (fp_17 ++ (fp_22 ++ (fp_27 ++ (fp_32 ++ ([(b_43, oc #[v_46] 27)] ++ ([(b_49, oc #[(pq b_2)] 36)] ++ L)))))))))))) [[], [], [1], [], [], [4], [], [], [3, 4, 5, 6, 7], [], [], [10], [], [], [3, 4, 5, 6, 7, 8, 9, 10, 11, 12, 13], [0, 1, 2, 3, 4, 5, 6, 7, 8, 9, 10, 11, 12, 13, 14], [0, 1, 2, 3, 4, 5, 6, 7, 8, 9, 10, 11, 12, 13, 14, 15]] [8, 14, 15] Try.mixed (by kernel_rfl) (hS.drawn _) ?_
  clear hS w
  refine Wd.run rfl rfl rfl rfl (fun _ => ex_move rfl) fun q_70 hq_69 => ?_
  refine Wd.run rfl rfl rfl rfl (fun _ => ex_fieldAddr (o' := 0) Try.underlying81 rfl Try.sizeOf3 rfl rfl) fun q_72 hq_71 => ?_
  refine Wd.runb (off := 0) rfl rfl rfl rfl (fun _ _ _ h => ex_load_box Try.isAgg3 rfl h) rfl (fun _ h => h) fun q_74 hq_73 => ?_
  refine Wd.run rfl rfl rfl rfl (fun _ => ex_move rfl) fun q_76 hq_75 => ?_
  refine Wd.run rfl rfl rfl rfl (fun _ => ex_fieldAddr (o' := 1) Try.underlying81 rfl Try.sizeOf32 rfl rfl) fun q_78 hq_77 => ?_
  refine Wd.runb (off := 1) rfl rfl rfl rfl (fun _ _ _ h => ex_load_box Try.isAgg32 rfl h) rfl (fun _ h => h) fun q_80 hq_79 => ?_
  refine Wd.run rfl rfl rfl rfl (fun _ => ex_move rfl) fun q_82 hq_81 => ?_
  refine Wd.run rfl rfl rfl rfl (fun _ => ex_move rfl) fun q_84 hq_83 => ?_
  refine Wd.run rfl rfl rfl rfl (fun _ => ex_move rfl) fun q_86 hq_85 => ?_
  refine Wd.run rfl rfl rfl rfl (fun _ => ex_fieldAddr (o' := 2) Try.underlying81 rfl Try.sizeOf32 rfl rfl) fun q_88 hq_87 => ?_
  refine Wd.runb (off := 2) rfl rfl rfl rfl (fun _ _ _ h => ex_load_box Try.isAgg32 rfl h) rfl (fun _ h => h) fun q_90 hq_89 => ?_
  refine Wd.run rfl rfl rfl rfl (fun _ => ex_move rfl) fun q_92 hq_91 => ?_
  refine Wd.run rfl rfl rfl rfl (fun _ => ex_move rfl) fun q_94 hq_93 => ?_
  refine Wd.turn rfl rfl rfl fun w hS => ?_
  replace hS := hS.f11.f11.f6.f11.f11.f11.f11.f11.f10.f11
  refine WL.call rfl rfl rfl (enters0 (vs := [(pq b_2), i6 ((ix nodes_4 f_34).2.1), v_37, .func (.func 68) #[] #[(pq b_43), (pq b_49)]]) Try.call67 ⟨rfl, rfl, rfl, rfl, trivial⟩) (ih  h_6 h_11 h_16 h_21 h_26 h_31 hr_65 h_38 h_47 hS hV) ?_
  clear hV hS
  rintro _ w ⟨r_95, c_97, c_101, m_105, m_108, m_111, v_98, fp_99, v_102, fp_103, fp_106, fp_109, fp_112, hV, rfl, hr_96, h_100, h_104, h_107, h_110, h_113, hS⟩
  refine ⟨_, rfl, ?_⟩
  refine WL.nil (DQ.mk2 (C' := St w0 H ([(b_2, oc #[v_98, v_102, v_15, v_20, v_25, v_30] 79)] ++ (fp_99 ++ (fp_103 ++ (fp_106 ++ (fp_22 ++ (fp_27 ++ (fp_109 ++ (fp_112 ++ ([(b_43, oc #[v_46] 27)] ++ ([(b_49, oc #[(pq b_2)] 36)] ++ ([(b_67, oc #[i6 ((ix nodes_4 f_34).1), i6 ((ix nodes_4 f_34).2.1), i6 ((ix nodes_4 f_34).2.2)] 81)] ++ L)))))))))))) hS ⟨.inr (hq_93 _), .inr (hq_91 _), .inr (hq_89 H ([(b_2, oc #[v_98, v_102, v_15, v_20, v_25, v_30] 79)] ++ (fp_99 ++ (fp_103 ++ (fp_106 ++ (fp_22 ++ (fp_27 ++ (fp_109 ++ (fp_112 ++ ([(b_43, oc #[v_46] 27)] ++ ([(b_49, oc #[(pq b_2)] 36)] ++ L)))))))))) #[i6 ((ix nodes_4 f_34).1), i6 ((ix nodes_4 f_34).2.1), i6 ((ix nodes_4 f_34).2.2)] _ rfl (fun _ h => St.f11 h)), .inr (hq_87 _), .inr (hq_85 _), il, il, il, il, il, .inr (hq_73 H ([(b_2, oc #[v_98, v_102, v_15, v_20, v_25, v_30] 79)] ++ (fp_99 ++ (fp_103 ++ (fp_106 ++ (fp_22 ++ (fp_27 ++ (fp_109 ++ (fp_112 ++ ([(b_43, oc #[v_46] 27)] ++ ([(b_49, oc #[(pq b_2)] 36)] ++ L)))))))))) #[i6 ((ix nodes_4 f_34).1), i6 ((ix nodes_4 f_34).2.1), i6 ((ix nodes_4 f_34).2.2)] _ rfl (fun _ h => St.f11 h)), .inr (hq_71 _), .inr (hq_69 _), trivial⟩ ?_)
  clear hS w
  refine Wd.turn rfl rfl rfl fun w hS => ?_
  replace hS := hS.f10.f10.f10.f10.f10.f10.f10.f10.f10.f10
  refine WL.call rfl rfl rfl (enters0 (vs := [(pq b_2), i6 ((ix nodes_4 f_34).2.2), v_37, .func (.func 68) #[] #[(pq b_43), (pq b_49)]]) Try.call67 ⟨rfl, rfl, rfl, rfl, trivial⟩) (ih  h_100 h_104 h_107 h_21 h_26 h_110 hr_66 h_113 h_47 hS hV) ?_
  clear hV hS
  rintro _ w ⟨r_117, c_119, c_123, m_127, m_130, m_133, v_120, fp_121, v_124, fp_125, fp_128, fp_131, fp_134, hV, rfl, hr_118, h_122, h_126, h_129, h_132, h_135, hS⟩
  refine ⟨_, rfl, ?_⟩
  refine WL.nil (DQ.mk2 (C' := St w0 H ([(b_2, oc #[v_120, v_124, v_15, v_20, v_25, v_30] 79)] ++ (fp_121 ++ (fp_125 ++ (fp_128 ++ (fp_22 ++ (fp_27 ++ (fp_131 ++ (fp_134 ++ ([(b_43, oc #[v_46] 27)] ++ ([(b_49, oc #[(pq b_2)] 36)] ++ ([(b_67, oc #[i6 ((ix nodes_4 f_34).1), i6 ((ix nodes_4 f_34).2.1), i6 ((ix nodes_4 f_34).2.2)] 81)] ++ L)))))))))))) hS ⟨il, il, il, il, il, il, il, il, il, il, .inr (hq_73 H ([(b_2, oc #[v_120, v_124, v_15, v_20, v_25, v_30] 79)] ++ (fp_121 ++ (fp_125 ++ (fp_128 ++ (fp_22 ++ (fp_27 ++ (fp_131 ++ (fp_134 ++ ([(b_43, oc #[v_46] 27)] ++ ([(b_49, oc #[(pq b_2)] 36)] ++ L)))))))))) #[i6 ((ix nodes_4 f_34).1), i6 ((ix nodes_4 f_34).2.1), i6 ((ix nodes_4 f_34).2.2)] _ rfl (fun _ h => St.f11 h)), .inr (hq_71 _), .inr (hq_69 _), trivial⟩ ?_)
  clear hS w
  refine Wd.turn rfl rfl rfl fun w hS => ?_
  replace hS := hS.f7.f7.f7.f7.f7.f7.f7.f10.f10
  refine WL.call rfl rfl rfl (enters_c (vs := [i6 ((ix nodes_4 f_34).1), i6 r_95, i6 r_117]) (caps := [(pq b_43), (pq b_49)]) rfl Try.call68 ⟨rfl, rfl, rfl, trivial⟩) (S_Exists1  hr_62 hr_96 hr_118 h_47 h_122 h_126 h_129 h_21 h_26 h_132 hS hV) ?_
  clear hV hS
  rintro _ w ⟨r_139, c_141, c_145, m_149, m_152, v_142, fp_143, v_146, fp_147, fp_150, fp_153, hV, rfl, hr_140, h_144, h_148, h_151, h_154, hS⟩
  refine ⟨_, rfl, ?_⟩
  refine WL.nil (DQ.mk2 (C' := St w0 H ([(b_43, oc #[v_46] 27)] ++ ([(b_49, oc #[(pq b_2)] 36)] ++ ([(b_2, oc #[v_142, v_146, v_15, v_20, v_25, v_30] 79)] ++ (fp_143 ++ (fp_147 ++ (fp_150 ++ (fp_22 ++ (fp_27 ++ (fp_153 ++ (fp_134 ++ ([(b_67, oc #[i6 ((ix nodes_4 f_34).1), i6 ((ix nodes_4 f_34).2.1), i6 ((ix nodes_4 f_34).2.2)] 81)] ++ L)))))))))))) hS ⟨il, il, il, il, il, il, il, il, il, il, il, il, il, trivial⟩ ?_)
  clear hS w
  refine Wd.run rfl rfl rfl rfl (fun _ => ex_assign rfl) fun q_159 hq_158 => ?_
  refine Wd.nil fun w hS => ?_
  refine WQ.next ?_
  refine WC.sub (m := [(1, i6 f_34), (2, v_37), (12, i6 r_139)]) ⟨rfl, rfl, rfl, trivial⟩ ?_
  replace hS := hS.f11.drop
  refine WC.sr ?_
  refine WL.mv rfl rfl ?_
  refine WL.mv rfl rfl ?_
  refine WL.mv rfl rfl ?_
  replace hS := hS.f10
  refine WL.mapUpdate (k := f_34) (e := r_139) Try.underlying99 Try.key32 hr_35 (cInt_mk (I64.has hr_140)) rfl rfl rfl hS h_135 ?_
  clear hS
  intro w fp_160 h_161 hS
  refine WL.nx ?_
  refine WC.sr ?_
  refine WL.mv rfl rfl ?_
  refine WL.ma rfl rfl ?_
  refine WL.nx ?_
  refine WC.ret ?_
  replace hS := hS.f3.f3.f3.f10.f10.f10.f10.f10.f10.f10
  exact leave1 rfl rfl ⟨r_139, c_141, c_145, m_149, m_152, (mset m_133 f_34 r_139), v_142, fp_143, v_146, fp_147, fp_150, fp_153, fp_160, hV, rfl, hr_140, h_144, h_148, h_151, h_154, h_161, hS⟩

theorem S_overL (m0 : Nat) : ∀ {w0 : World} {H : View} {L : Seg} {w : World} {b_2 : Nat} {v_5 : Value} {nodes_4 : N3} {fp_7 : Seg} {v_10 : Value} {free_9 : LI} {fp_12 : Seg} {v_15 : Value} {xby_14 : M3} {fp_17 : Seg} {v_20 : Value} {order_19 : LI} {fp_22 : Seg} {v_25 : Value} {level_24 : LI} {fp_27 : Seg} {v_30 : Value} {memo_29 : M3} {fp_32 : Seg} {f_34 : Int} {v_37 : Value} {seen_36 : M1} {fp_39 : Seg} {b_43 : Nat} {c_42_45 : Int} {b_48 : Nat} {b_52 : Nat} {c_51_54 : Int} {Q : Int → N3 → LI → M3 → M3 → M1 → Prop} (h_6 : OwnSl H (cPair (cInt .i64) (cPair (cInt .i64) (cInt .i64))) 81 v_5 nodes_4 fp_7) (h_11 : OwnSl H (cInt .i64) 32 v_10 free_9 fp_12) (h_16 : OwnMp H kTri (cInt .i64) v_15 xby_14 fp_17) (h_21 : OwnSl H (cInt .i64) 3 v_20 order_19 fp_22) (h_26 : OwnSl H (cInt .i64) 3 v_25 level_24 fp_27) (h_31 : OwnMp H kTri (cInt .i64) v_30 memo_29 fp_32) (hr_35 : I64 f_34) (h_38 : OwnMp H kInt (cInt .i64) v_37 seen_36 fp_39) (hr_46 : I64 c_42_45) (hr_55 : I64 c_51_54) (hS : St w0 H ([(b_2, oc #[v_5, v_10, v_15, v_20, v_25, v_30] 79)] ++ (fp_7 ++ (fp_12 ++ (fp_17 ++ (fp_22 ++ (fp_27 ++ (fp_32 ++ (fp_39 ++ ([(b_43, oc #[i6 c_42_45] 3)] ++ ([(b_48, oc #[(pq b_2)] 36)] ++ ([(b_52, oc #[i6 c_51_54] 32)] ++ L))))))))))) w) (hV : V_overL m0 nodes_4 free_9 xby_14 order_19 level_24 memo_29 f_34 seen_36 c_42_45 c_51_54 Q),
 Calls Try.prog 67 #[(pq b_2), i6 f_34, v_37, .func (.func 71) #[] #[(pq b_43), (pq b_48), (pq b_52)]] w fun e w' => ∃ (r1 : Int) (r2 : N3) (r3 : LI) (r4 : M3) (r5 : M3) (r6 : M1) (v2 : Value) (fp2 : Seg) (v3 : Value) (fp3 : Seg) (fp4 : Seg) (fp5 : Seg) (fp6 : Seg), Q r1 r2 r3 r4 r5 r6 ∧ e = .returned (i6 r1) ∧ I64 r1 ∧ OwnSl H (cPair (cInt .i64) (cPair (cInt .i64) (cInt .i64))) 81 v2 r2 fp2 ∧ OwnSl H (cInt .i64) 32 v3 r3 fp3 ∧ OwnMp H kTri (cInt .i64) v_15 r4 fp4 ∧ OwnMp H kTri (cInt .i64) v_30 r5 fp5 ∧ OwnMp H kInt (cInt .i64) v_37 r6 fp6 ∧ St w0 H ([(b_2, oc #[v2, v3, v_15, v_20, v_25, v_30] 79)] ++ (fp2 ++ (fp3 ++ (fp4 ++ (fp_22 ++ (fp_27 ++ (fp5 ++ (fp6 ++ ([(b_43, oc #[i6 c_42_45] 3)] ++ ([(b_48, oc #[(pq b_2)] 36)] ++ ([(b_52, oc #[i6 c_51_54] 32)] ++ L))))))))))) w' := by
 induction m0 with
 | zero => intro w0 H L w b_2 v_5 nodes_4 fp_7 v_10 free_9 fp_12 v_15 xby_14 fp_17 v_20 order_19 fp_22 v_25 level_24 fp_27 v_30 memo_29 fp_32 f_34 v_37 seen_36 fp_39 b_43 c_42_45 b_48 b_52 c_51_54 Q h_6 h_11 h_16 h_21 h_26 h_31 hr_35 h_38 hr_46 hr_55 hS hV; exact hV.elim
 | succ m0 ih =>
  intro w0 H L w b_2 v_5 nodes_4 fp_7 v_10 free_9 fp_12 v_15 xby_14 fp_17 v_20 order_19 fp_22 v_25 level_24 fp_27 v_30 memo_29 fp_32 f_34 v_37 seen_36 fp_39 b_43 c_42_45 b_48 b_52 c_51_54 Q h_6 h_11 h_16 h_21 h_26 h_31 hr_35 h_38 hr_46 hr_55 hS hV
  unfold V_overL at hV
  refine enter Try.func67 rfl Try.ntmps67 rfl (lk_args_cons (d := 0) (v := (pq b_2)) rfl (lk_args_cons (d := 1) (v := i6 f_34) rfl (lk_args_cons (d := 2) (v := v_37) rfl (lk_args_cons (d := 3) (v := .func (.func 71) #[] #[(pq b_43), (pq b_48), (pq b_52)]) rfl (lk_args_nil _))))) ?_
  refine WC.sr ?_
  refine WL.ma rfl rfl ?_
  refine WL.nx ?_
  refine WC.seq ?_
  refine WC.sr ?_
  refine WL.mv rfl rfl ?_
  refine WL.run hS rfl rfl rfl (ex_leq rfl rfl) ?_
  refine WL.nx ?_
  refine WC.cond rfl ?_ ?_
  intro hc_167
  replace hV := hV.1 (of_decide_eq_true hc_167)
  refine WC.sr ?_
  refine WL.mv rfl rfl ?_
  refine WL.ma rfl rfl ?_
  refine WL.nx ?_
  refine WC.ret ?_
  refine WQ.pass nofun ?_
  replace hS := hS.f11.f11.f11.f11.f11.f11.f11.f11.f11.f11.f11
  exact leave1 rfl rfl ⟨f_34, nodes_4, free_9, xby_14, memo_29, seen_36, v_5, fp_7, v_10, fp_12, fp_17, fp_32, fp_39, hV, rfl, hr_35, h_6, h_11, h_16, h_31, h_38, hS⟩
  intro hc_167
  replace hV := hV.2 (of_decide_eq_false hc_167)
  refine WC.skip ?_
  refine WQ.next ?_
  refine WC.seq ?_
  refine WC.sr ?_
  refine WL.mv rfl rfl ?_
  refine WL.mv rfl rfl ?_
  replace hS := hS.f8
  refine WL.runx hS rfl rfl rfl (exNow (H := H) (L := [(b_2, oc #[v_5, v_10, v_15, v_20, v_25, v_30] 79)] ++ (fp_7 ++ (fp_12 ++ (fp_17 ++ (fp_22 ++ (fp_27 ++ (fp_32 ++ ([(b_43, oc #[i6 c_42_45] 3)] ++ ([(b_48, oc #[(pq b_2)] 36)] ++ ([(b_52, oc #[i6 c_51_54] 32)] ++ L)))))))))) (ex_lookup_ok (c := (cInt .i64)) (k := f_34) (d := 0) Try.underlying99 Try.key32 Try.zeroValue32 ⟨rfl, I64.has (by unfold I64; omega)⟩ rfl rfl h_38)) ?_
  rintro _ ⟨u_57, rfl, hu_58⟩
  obtain ⟨rfl, hr_59⟩ := cInt_rep hu_58
  replace hr_59 := has_I64 hr_59
  replace hV := hV hr_59
  refine WL.mv rfl rfl ?_
  refine WL.run hS rfl rfl rfl (ex_extract rfl rfl) ?_
  refine WL.run hS rfl rfl rfl (ex_extract rfl rfl) ?_
  refine WL.ma rfl rfl ?_
  refine WL.ma rfl rfl ?_
  refine WL.nx ?_
  refine WC.sr ?_
  refine WL.mv rfl rfl ?_
  refine WL.nx ?_
  refine WC.sub (m := [(0, (pq b_2)), (1, i6 f_34), (2, v_37), (3, .func (.func 71) #[] #[(pq b_43), (pq b_48), (pq b_52)]), (9, i6 (mgetD seen_36 f_34 0)), (22, .bool (mhas seen_36 f_34))]) ⟨rfl, rfl, rfl, rfl, rfl, rfl, trivial⟩ ?_
  refine WC.cond rfl ?_ ?_
  intro hc_166
  replace hV := hV.1 hc_166
  refine WC.sr ?_
  refine WL.mv rfl rfl ?_
  refine WL.ma rfl rfl ?_
  refine WL.nx ?_
  refine WC.ret ?_
  refine WQ.pass nofun ?_
  replace hS := hS.f11.f11.f11.f4.f11.f11.f11.f11.f11.f11.f11
  exact leave1 rfl rfl ⟨(mgetD seen_36 f_34 0), nodes_4, free_9, xby_14, memo_29, seen_36, v_5, fp_7, v_10, fp_12, fp_17, fp_32, fp_39, hV, rfl, hr_59, h_6, h_11, h_16, h_31, h_38, hS⟩
  intro hc_166
  replace hV := hV.2 hc_166
  refine WC.skip ?_
  refine WQ.next ?_
  refine WC.sr ?_
  refine WL.mv rfl rfl ?_
  refine WL.run hS rfl rfl rfl (ex_nilCheck rfl) ?_
  refine WL.run hS rfl rfl rfl (ex_fieldAddr (o' := 0) Try.underlying79 rfl Try.sizeOf75 rfl rfl) ?_
  replace hS := hS.f2
  refine WL.run hS rfl rfl rfl (ex_load_box Try.isAgg75 rfl rfl) ?_
  refine WL.mv rfl rfl ?_
  obtain ⟨hin_60, hV⟩ := hV
  refine WL.runx hS rfl rfl rfl (ex_index_own Try.underlying75 Try.sizeOf81 rfl rfl h_6 hin_60) ?_
  intro p_61 hp_62
  replace hS := hS.f3
  refine WL.runx hS rfl rfl rfl (exNow (H := H) (L := [(b_2, oc #[v_5, v_10, v_15, v_20, v_25, v_30] 79)] ++ (fp_39 ++ (fp_12 ++ (fp_17 ++ (fp_22 ++ (fp_27 ++ (fp_32 ++ ([(b_43, oc #[i6 c_42_45] 3)] ++ ([(b_48, oc #[(pq b_2)] 36)] ++ ([(b_52, oc #[i6 c_51_54] 32)] ++ L)))))))))) (ex_load_own_agg Try.isAgg81 Try.sizeOf81 rfl h_6 hp_62 hin_60)) ?_
  rintro u_63 ⟨_, rfl, hu⟩
  obtain ⟨_, _, rfl, hu_64, hu_65⟩ := hu
  obtain ⟨rfl, hr_66⟩ := hu_64
  replace hr_66 := has_I64 hr_66
  replace hV := hV hr_66
  obtain ⟨_, _, rfl, hu_67, hu_68⟩ := hu_65
  obtain ⟨rfl, hr_69⟩ := hu_67
  replace hr_69 := has_I64 hr_69
  replace hV := hV hr_69
  obtain ⟨rfl, hr_70⟩ := hu_68
  replace hr_70 := has_I64 hr_70
  replace hV := hV hr_70
  refine WL.alloc (arr := #[i6 0, i6 0, i6 0]) rfl Try.zeroValue81 rfl hS ?_
  clear hS
  intro b_71 w hS
  refine WL.store_box (pre := []) (old := [i6 0, i6 0, i6 0]) (rst := []) (cs := [i6 ((ix nodes_4 f_34).1), i6 ((ix nodes_4 f_34).2.1), i6 ((ix nodes_4 f_34).2.2)]) (arr' := #[i6 ((ix nodes_4 f_34).1), i6 ((ix nodes_4 f_34).2.1), i6 ((ix nodes_4 f_34).2.2)]) Try.sizeOf81 rfl rfl rfl ⟨rfl, rfl, rfl, trivial⟩ rfl rfl rfl rfl hS ?_
  clear hS
  intro w hS
  refine WL.nx ?_
  refine WC.seq ?_
  refine WC.drawn (σ := [0, 1, 2, 3, 4, 5, 6, 7, 9, 10, 11, 12, 13, 8, 14, 15, 16]) (C := St w0 H ([(b_71, oc #[i6 ((ix nodes_4 f_34).1), i6 ((ix nodes_4 f_34).2.1), i6 ((ix nodes_4 f_34).2.2)] 81)] ++ (fp_7 ++ ([(b_2, oc #[v_5, v_10, v_15, v_20, v_25, v_30] 79)] ++ (fp_39 ++ (fp_12 ++ (fp_17 ++ (fp_22 ++ (fp_27 ++ (fp_32 ++ ([(b_43, oc #[i6 c_42_45] 3)] ++ ([(b_48, oc #[(pq b_2)] 36)] ++ ([(b_52, oc #[i6 c_51_54] 32)] ++ L))))))))))))) [[], [], [1], [], [], [4], [], [], [3, 4, 5, 6, 7], [], [], [10], [], [], [3, 4, 5, 6, 7, 8, 9, 10, 11, 12, 13], [0, 1, 2, 3, 4, 5, 6, 7, 8, 9, 10, 11, 12, 13, 14], [0, 1, 2, 3, 4, 5, 6, 7, 8, 9, 10, 11, 12, 13, 14, 15]] [8, 14, 15] Try.mixed (by kernel_rfl) (hS.drawn _) ?_
  clear hS w
  refine Wd.run rfl rfl rfl rfl (fun _ => ex_move rfl) fun q_74 hq_73 => ?_
  refine Wd.run rfl rfl rfl rfl (fun _ => ex_fieldAddr (o' := 0) Try.underlying81 rfl Try.sizeOf3 rfl rfl) fun q_76 hq_75 => ?_
  refine Wd.runb (off := 0) rfl rfl rfl rfl (fun _ _ _ h => ex_load_box Try.isAgg3 rfl h) rfl (fun _ h => h) fun q_78 hq_77 => ?_
  refine Wd.run rfl rfl rfl rfl (fun _ => ex_move rfl) fun q_80 hq_79 => ?_
  refine Wd.run rfl rfl rfl rfl (fun _ => ex_fieldAddr (o' := 1) Try.underlying81 rfl Try.sizeOf32 rfl rfl) fun q_82 hq_81 => ?_
  refine Wd.runb (off := 1) rfl rfl rfl rfl (fun _ _ _ h => ex_load_box Try.isAgg32 rfl h) rfl (fun _ h => h) fun q_84 hq_83 => ?_
  refine Wd.run rfl rfl rfl rfl (fun _ => ex_move rfl) fun q_86 hq_85 => ?_
  refine Wd.run rfl rfl rfl rfl (fun _ => ex_move rfl) fun q_88 hq_87 => ?_
  refine Wd.run rfl rfl rfl rfl (fun _ => ex_move rfl) fun q_90 hq_89 => ?_
  refine Wd.run rfl rfl rfl rfl (fun _ => ex_fieldAddr (o' := 2) Try.underlying81 rfl Try.sizeOf32 rfl rfl) fun q_92 hq_91 => ?_
  refine Wd.runb (off := 2) rfl rfl rfl rfl (fun _ _ _ h => ex_load_box Try.isAgg32 rfl h) rfl (fun _ h => h) fun q_94 hq_93 => ?_
  refine Wd.run rfl rfl rfl rfl (fun _ => ex_move rfl) fun q_96 hq_95 => ?_
  refine Wd.run rfl rfl rfl rfl (fun _ => ex_move rfl) fun q_98 hq_97 => ?_
  refine Wd.turn rfl rfl rfl fun w hS => ?_
  replace hS := hS.f12.f12.f12.f7.f12.f12.f12.f12.f12.f11.f12
  refine WL.call rfl rfl rfl (enters0 (vs := [(pq b_2), i6 ((ix nodes_4 f_34).2.1), v_37, .func (.func 71) #[] #[(pq b_43), (pq b_48), (pq b_52)]]) Try.call67 ⟨rfl, rfl, rfl, rfl, trivial⟩) (ih  h_6 h_11 h_16 h_21 h_26 h_31 hr_69 h_38 hr_46 hr_55 hS hV) ?_
  clear hV hS
  rintro _ w ⟨r_99, c_101, c_105, m_109, m_112, m_115, v_102, fp_103, v_106, fp_107, fp_110, fp_113, fp_116, hV, rfl, hr_100, h_104, h_108, h_111, h_114, h_117, hS⟩
  refine ⟨_, rfl, ?_⟩
  refine WL.nil (DQ.mk2 (C' := St w0 H ([(b_2, oc #[v_102, v_106, v_15, v_20, v_25, v_30] 79)] ++ (fp_103 ++ (fp_107 ++ (fp_110 ++ (fp_22 ++ (fp_27 ++ (fp_113 ++ (fp_116 ++ ([(b_43, oc #[i6 c_42_45] 3)] ++ ([(b_48, oc #[(pq b_2)] 36)] ++ ([(b_52, oc #[i6 c_51_54] 32)] ++ ([(b_71, oc #[i6 ((ix nodes_4 f_34).1), i6 ((ix nodes_4 f_34).2.1), i6 ((ix nodes_4 f_34).2.2)] 81)] ++ L))))))))))))) hS ⟨.inr (hq_97 _), .inr (hq_95 _), .inr (hq_93 H ([(b_2, oc #[v_102, v_106, v_15, v_20, v_25, v_30] 79)] ++ (fp_103 ++ (fp_107 ++ (fp_110 ++ (fp_22 ++ (fp_27 ++ (fp_113 ++ (fp_116 ++ ([(b_43, oc #[i6 c_42_45] 3)] ++ ([(b_48, oc #[(pq b_2)] 36)] ++ ([(b_52, oc #[i6 c_51_54] 32)] ++ L))))))))))) #[i6 ((ix nodes_4 f_34).1), i6 ((ix nodes_4 f_34).2.1), i6 ((ix nodes_4 f_34).2.2)] _ rfl (fun _ h => St.f12 h)), .inr (hq_91 _), .inr (hq_89 _), il, il, il, il, il, .inr (hq_77 H ([(b_2, oc #[v_102, v_106, v_15, v_20, v_25, v_30] 79)] ++ (fp_103 ++ (fp_107 ++ (fp_110 ++ (fp_22 ++ (fp_27 ++ (fp_113 ++ (fp_116 ++ ([(b_43, oc #[i6 c_42_45] 3)] ++ ([(b_48, oc #[(pq b_2)] 36)] ++ ([(b_52, oc #[i6 c_51_54] 32)] ++ L))))))))))) #[i6 ((ix nodes_4 f_34).1), i6 ((ix nodes_4 f_34).2.1), i6 ((ix nodes_4 f_34).2.2)] _ rfl (fun _ h => St.f12 h)), .inr (hq_75 _), .inr (hq_73 _), trivial⟩ ?_)
  clear hS w
  refine Wd.turn rfl rfl rfl fun w hS => ?_
  replace hS := hS.f11.f11.f11.f11.f11.f11.f11.f11.f11.f11.f11
  refine WL.call rfl rfl rfl (enters0 (vs := [(pq b_2), i6 ((ix nodes_4 f_34).2.2), v_37, .func (.func 71) #[] #[(pq b_43), (pq b_48), (pq b_52)]]) Try.call67 ⟨rfl, rfl, rfl, rfl, trivial⟩) (ih  h_104 h_108 h_111 h_21 h_26 h_114 hr_70 h_117 hr_46 hr_55 hS hV) ?_
  clear hV hS
  rintro _ w ⟨r_121, c_123, c_127, m_131, m_134, m_137, v_124, fp_125, v_128, fp_129, fp_132, fp_135, fp_138, hV, rfl, hr_122, h_126, h_130, h_133, h_136, h_139, hS⟩
  refine ⟨_, rfl, ?_⟩
  refine WL.nil (DQ.mk2 (C' := St w0 H ([(b_2, oc #[v_124, v_128, v_15, v_20, v_25, v_30] 79)] ++ (fp_125 ++ (fp_129 ++ (fp_132 ++ (fp_22 ++ (fp_27 ++ (fp_135 ++ (fp_138 ++ ([(b_43, oc #[i6 c_42_45] 3)] ++ ([(b_48, oc #[(pq b_2)] 36)] ++ ([(b_52, oc #[i6 c_51_54] 32)] ++ ([(b_71, oc #[i6 ((ix nodes_4 f_34).1), i6 ((ix nodes_4 f_34).2.1), i6 ((ix nodes_4 f_34).2.2)] 81)] ++ L))))))))))))) hS ⟨il, il, il, il, il, il, il, il, il, il, .inr (hq_77 H ([(b_2, oc #[v_124, v_128, v_15, v_20, v_25, v_30] 79)] ++ (fp_125 ++ (fp_129 ++ (fp_132 ++ (fp_22 ++ (fp_27 ++ (fp_135 ++ (fp_138 ++ ([(b_43, oc #[i6 c_42_45] 3)] ++ ([(b_48, oc #[(pq b_2)] 36)] ++ ([(b_52, oc #[i6 c_51_54] 32)] ++ L))))))))))) #[i6 ((ix nodes_4 f_34).1), i6 ((ix nodes_4 f_34).2.1), i6 ((ix nodes_4 f_34).2.2)] _ rfl (fun _ h => St.f12 h)), .inr (hq_75 _), .inr (hq_73 _), trivial⟩ ?_)
  clear hS w
  refine Wd.turn rfl rfl rfl fun w hS => ?_
  replace hS := hS.f11.f8.f8.f8.f8.f8.f8.f8.f11.f11
  refine WL.call rfl rfl rfl (enters_c (vs := [i6 ((ix nodes_4 f_34).1), i6 r_99, i6 r_121]) (caps := [(pq b_43), (pq b_48), (pq b_52)]) rfl Try.call71 ⟨rfl, rfl, rfl, trivial⟩) (S_Let1  hr_66 hr_100 hr_122 hr_46 h_126 h_130 h_133 h_21 h_26 h_136 hr_55 hS hV) ?_
  clear hV hS
  rintro _ w ⟨r_143, c_145, c_149, m_153, m_156, v_146, fp_147, v_150, fp_151, fp_154, fp_157, hV, rfl, hr_144, h_148, h_152, h_155, h_158, hS⟩
  refine ⟨_, rfl, ?_⟩
  refine WL.nil (DQ.mk2 (C' := St w0 H ([(b_43, oc #[i6 c_42_45] 3)] ++ ([(b_48, oc #[(pq b_2)] 36)] ++ ([(b_2, oc #[v_146, v_150, v_15, v_20, v_25, v_30] 79)] ++ (fp_147 ++ (fp_151 ++ (fp_154 ++ (fp_22 ++ (fp_27 ++ (fp_157 ++ ([(b_52, oc #[i6 c_51_54] 32)] ++ (fp_138 ++ ([(b_71, oc #[i6 ((ix nodes_4 f_34).1), i6 ((ix nodes_4 f_34).2.1), i6 ((ix nodes_4 f_34).2.2)] 81)] ++ L))))))))))))) hS ⟨il, il, il, il, il, il, il, il, il, il, il, il, il, trivial⟩ ?_)
  clear hS w
  refine Wd.run rfl rfl rfl rfl (fun _ => ex_assign rfl) fun q_163 hq_162 => ?_
  refine Wd.nil fun w hS => ?_
  refine WQ.next ?_
  refine WC.sub (m := [(1, i6 f_34), (2, v_37), (12, i6 r_143)]) ⟨rfl, rfl, rfl, trivial⟩ ?_
  replace hS := hS.f12.drop
  refine WC.sr ?_
  refine WL.mv rfl rfl ?_
  refine WL.mv rfl rfl ?_
  refine WL.mv rfl rfl ?_
  replace hS := hS.f11
  refine WL.mapUpdate (k := f_34) (e := r_143) Try.underlying99 Try.key32 hr_35 (cInt_mk (I64.has hr_144)) rfl rfl rfl hS h_139 ?_
  clear hS
  intro w fp_164 h_165 hS
  refine WL.nx ?_
  refine WC.sr ?_
  refine WL.mv rfl rfl ?_
  refine WL.ma rfl rfl ?_
  refine WL.nx ?_
  refine WC.ret ?_
  replace hS := hS.f11.f4.f4.f4.f11.f11.f11.f11.f11.f11.f11
  exact leave1 rfl rfl ⟨r_143, c_145, c_149, m_153, m_156, (mset m_137 f_34 r_143), v_146, fp_147, v_150, fp_151, fp_154, fp_157, fp_164, hV, rfl, hr_144, h_148, h_152, h_155, h_158, h_165, hS⟩

theorem S_Exists {w0 : World} {H : View} {L : Seg} {w : World} {b_2 : Nat} {v_5 : Value} {nodes_4 : N3} {fp_7 : Seg} {v_10 : Value} {free_9 : LI} {fp_12 : Seg} {v_15 : Value} {xby_14 : M3} {fp_17 : Seg} {v_20 : Value} {order_19 : LI} {fp_22 : Seg} {v_25 : Value} {level_24 : LI} {fp_27 : Seg} {v_30 : Value} {memo_29 : M3} {fp_32 : Seg} {f_34 : Int} {v_37 : Value} {vars_36 : LI} {Q : Int → N3 → LI → M3 → M3 → Prop} (h_6 : OwnSl H (cPair (cInt .i64) (cPair (cInt .i64) (cInt .i64))) 81 v_5 nodes_4 fp_7) (h_11 : OwnSl H (cInt .i64) 32 v_10 free_9 fp_12) (h_16 : OwnMp H kTri (cInt .i64) v_15 xby_14 fp_17) (h_21 : OwnSl H (cInt .i64) 3 v_20 order_19 fp_22) (h_26 : OwnSl H (cInt .i64) 3 v_25 level_24 fp_27) (h_31 : OwnMp H kTri (cInt .i64) v_30 memo_29 fp_32) (hr_35 : I64 f_34) (h_38 : IsSl H (cInt .i64) v_37 vars_36) (hS : St w0 H ([(b_2, oc #[v_5, v_10, v_15, v_20, v_25, v_30] 79)] ++ (fp_7 ++ (fp_12 ++ (fp_17 ++ (fp_22 ++ (fp_27 ++ (fp_32 ++ L))))))) w) (hV : V_Exists nodes_4 free_9 xby_14 order_19 level_24 memo_29 f_34 vars_36 Q) :
 Calls Try.prog 35 #[(pq b_2), i6 f_34, v_37] w fun e w' => ∃ (r1 : Int) (r2 : N3) (r3 : LI) (r4 : M3) (r5 : M3) (v2 : Value) (fp2 : Seg) (v3 : Value) (fp3 : Seg) (fp4 : Seg) (fp5 : Seg), Q r1 r2 r3 r4 r5 ∧ e = .returned (i6 r1) ∧ I64 r1 ∧ OwnSl H (cPair (cInt .i64) (cPair (cInt .i64) (cInt .i64))) 81 v2 r2 fp2 ∧ OwnSl H (cInt .i64) 32 v3 r3 fp3 ∧ OwnMp H kTri (cInt .i64) v_15 r4 fp4 ∧ OwnMp H kTri (cInt .i64) v_30 r5 fp5 ∧ St w0 H ([(b_2, oc #[v2, v3, v_15, v_20, v_25, v_30] 79)] ++ (fp2 ++ (fp3 ++ (fp4 ++ (fp_22 ++ (fp_27 ++ (fp5 ++ L))))))) w' := by
 unfold V_Exists at hV
 refine enter Try.func35 rfl Try.ntmps35 rfl (lk_args_cons (d := 0) (v := (pq b_2)) rfl (lk_args_cons (d := 1) (v := i6 f_34) rfl (lk_args_cons (d := 2) (v := v_37) rfl (lk_args_nil _)))) ?_
 refine WC.sr ?_
 refine WL.box (arr := #[(pq b_2)]) rfl rfl rfl hS ?_
 clear hS
 intro b_39 w hS
 refine WL.box (arr := #[v_37]) rfl rfl (cells_one (IsSl.one h_38)) hS ?_
 clear hS
 intro b_41 w hS
 refine WL.ma rfl rfl ?_
 refine WL.nx ?_
 refine WC.sr ?_
 replace hS := hS.f2
 refine WL.run hS rfl rfl rfl (ex_load_box Try.isAgg36 rfl rfl) ?_
 refine WL.mv rfl rfl ?_
 refine WL.makeMap (κ := Int) (ν := Int) (kc := kInt) (c := (cInt .i64)) rfl hS ?_
 clear hS
 intro v_43 w fp_44 h_45 hS
 refine WL.run hS rfl rfl rfl (ex_makeFunc (vs := [(pq b_41), (pq b_39)]) ⟨rfl, rfl, trivial⟩) ?_
 replace hS := hS.f2.f3.f3.f10.f10.f10.f10.f10.f10.f10
 obtain ⟨mf, hV⟩ := hV
 refine WL.call rfl rfl rfl (enters0 (vs := [(pq b_2), i6 f_34, v_43, .func (.func 68) #[] #[(pq b_41), (pq b_39)]]) Try.call67 ⟨rfl, rfl, rfl, rfl, trivial⟩) (S_overE mf  h_6 h_11 h_16 h_21 h_26 h_31 hr_35 h_45 h_38 hS hV) ?_
 clear hV hS
 rintro _ w ⟨r_47, c_49, c_53, m_57, m_60, m_63, v_50, fp_51, v_54, fp_55, fp_58, fp_61, fp_64, hV, rfl, hr_48, h_52, h_56, h_59, h_62, h_65, hS⟩
 refine ⟨_, rfl, ?_⟩
 refine WL.ma rfl rfl ?_
 refine WL.nx ?_
 refine WC.sub (m := [(6, i6 r_47)]) ⟨rfl, trivial⟩ ?_
 replace hS := hS.f10.drop
 replace hS := hS.f9.drop
 replace hS := hS.f8.drop
 refine WC.ret ?_
 replace hS := hS.f7.f7.f7.f7.f7.f7.f7
 exact leave1 rfl rfl ⟨r_47, c_49, c_53, m_57, m_60, v_50, fp_51, v_54, fp_55, fp_58, fp_61, hV, rfl, hr_48, h_52, h_56, h_59, h_62, hS⟩

theorem S_Forall {w0 : World} {H : View} {L : Seg} {w : World} {b_2 : Nat} {v_5 : Value} {nodes_4 : N3} {fp_7 : Seg} {v_10 : Value} {free_9 : LI} {fp_12 : Seg} {v_15 : Value} {xby_14 : M3} {fp_17 : Seg} {v_20 : Value} {order_19 : LI} {fp_22 : Seg} {v_25 : Value} {level_24 : LI} {fp_27 : Seg} {v_30 : Value} {memo_29 : M3} {fp_32 : Seg} {f_34 : Int} {v_37 : Value} {vars_36 : LI} {Q : Int → N3 → LI → M3 → M3 → Prop} (h_6 : OwnSl H (cPair (cInt .i64) (cPair (cInt .i64) (cInt .i64))) 81 v_5 nodes_4 fp_7) (h_11 : OwnSl H (cInt .i64) 32 v_10 free_9 fp_12) (h_16 : OwnMp H kTri (cInt .i64) v_15 xby_14 fp_17) (h_21 : OwnSl H (cInt .i64) 3 v_20 order_19 fp_22) (h_26 : OwnSl H (cInt .i64) 3 v_25 level_24 fp_27) (h_31 : OwnMp H kTri (cInt .i64) v_30 memo_29 fp_32) (hr_35 : I64 f_34) (h_38 : IsSl H (cInt .i64) v_37 vars_36) (hS : St w0 H ([(b_2, oc #[v_5, v_10, v_15, v_20, v_25, v_30] 79)] ++ (fp_7 ++ (fp_12 ++ (fp_17 ++ (fp_22 ++ (fp_27 ++ (fp_32 ++ L))))))) w) (hV : V_Forall nodes_4 free_9 xby_14 order_19 level_24 memo_29 f_34 vars_36 Q) :
 Calls Try.prog 36 #[(pq b_2), i6 f_34, v_37] w fun e w' => ∃ (r1 : Int) (r2 : N3) (r3 : LI) (r4 : M3) (r5 : M3) (v2 : Value) (fp2 : Seg) (v3 : Value) (fp3 : Seg) (fp4 : Seg) (fp5 : Seg), Q r1 r2 r3 r4 r5 ∧ e = .returned (i6 r1) ∧ I64 r1 ∧ OwnSl H (cPair (cInt .i64) (cPair (cInt .i64) (cInt .i64))) 81 v2 r2 fp2 ∧ OwnSl H (cInt .i64) 32 v3 r3 fp3 ∧ OwnMp H kTri (cInt .i64) v_15 r4 fp4 ∧ OwnMp H kTri (cInt .i64) v_30 r5 fp5 ∧ St w0 H ([(b_2, oc #[v2, v3, v_15, v_20, v_25, v_30] 79)] ++ (fp2 ++ (fp3 ++ (fp4 ++ (fp_22 ++ (fp_27 ++ (fp5 ++ L))))))) w' := by
 unfold V_Forall at hV
 refine enter Try.func36 rfl Try.ntmps36 rfl (lk_args_cons (d := 0) (v := (pq b_2)) rfl (lk_args_cons (d := 1) (v := i6 f_34) rfl (lk_args_cons (d := 2) (v := v_37) rfl (lk_args_nil _)))) ?_
 refine WC.sr ?_
 refine WL.ma rfl rfl ?_
 refine WL.nx ?_
 refine WC.sr ?_
 refine WL.mv rfl rfl ?_
 refine WL.mv rfl rfl ?_
 refine WL.mv rfl rfl ?_
 refine WL.mv rfl rfl ?_
 replace hS := hS.f7.f7.f7.f7.f7.f7.f7
 refine WL.call rfl rfl rfl (enters0 (vs := [(pq b_2), i6 f_34]) Try.call31 ⟨rfl, rfl, trivial⟩) (S_Not  h_6 h_11 h_16 h_21 h_26 h_31 hr_35 hS hV) ?_
 clear hV hS
 rintro _ w ⟨r_39, c_41, c_45, m_49, m_52, v_42, fp_43, v_46, fp_47, fp_50, fp_53, hV, rfl, hr_40, h_44, h_48, h_51, h_54, hS⟩
 refine ⟨_, rfl, ?_⟩
 refine WL.mv rfl rfl ?_
 replace hS := hS.f7.f7.f7.f7.f7.f7.f7
 refine WL.call rfl rfl rfl (enters0 (vs := [(pq b_2), i6 r_39, v_37]) Try.call35 ⟨rfl, rfl, rfl, trivial⟩) (S_Exists  h_44 h_48 h_51 h_21 h_26 h_54 hr_40 h_38 hS hV) ?_
 clear hV hS
 rintro _ w ⟨r_58, c_60, c_64, m_68, m_71, v_61, fp_62, v_65, fp_66, fp_69, fp_72, hV, rfl, hr_59, h_63, h_67, h_70, h_73, hS⟩
 refine ⟨_, rfl, ?_⟩
 replace hS := hS.f7.f7.f7.f7.f7.f7.f7
 refine WL.call rfl rfl rfl (enters0 (vs := [(pq b_2), i6 r_58]) Try.call31 ⟨rfl, rfl, trivial⟩) (S_Not  h_63 h_67 h_70 h_21 h_26 h_73 hr_59 hS hV) ?_
 clear hV hS
 rintro _ w ⟨r_77, c_79, c_83, m_87, m_90, v_80, fp_81, v_84, fp_85, fp_88, fp_91, hV, rfl, hr_78, h_82, h_86, h_89, h_92, hS⟩
 refine ⟨_, rfl, ?_⟩
 refine WL.ma rfl rfl ?_
 refine WL.nx ?_
 refine WC.sub (m := [(6, i6 r_77)]) ⟨rfl, trivial⟩ ?_
 refine WC.ret ?_
 replace hS := hS.f7.f7.f7.f7.f7.f7.f7
 exact leave1 rfl rfl ⟨r_77, c_79, c_83, m_87, m_90, v_80, fp_81, v_84, fp_85, fp_88, fp_91, hV, rfl, hr_78, h_82, h_86, h_89, h_92, hS⟩

theorem S_Let {w0 : World} {H : View} {L : Seg} {w : World} {b_2 : Nat} {v_5 : Value} {nodes_4 : N3} {fp_7 : Seg} {v_10 : Value} {free_9 : LI} {fp_12 : Seg} {v_15 : Value} {xby_14 : M3} {fp_17 : Seg} {v_20 : Value} {order_19 : LI} {fp_22 : Seg} {v_25 : Value} {level_24 : LI} {fp_27 : Seg} {v_30 : Value} {memo_29 : M3} {fp_32 : Seg} {f_34 : Int} {i_36 : Int} {g_38 : Int} {Q : Int → N3 → LI → M3 → M3 → Prop} (h_6 : OwnSl H (cPair (cInt .i64) (cPair (cInt .i64) (cInt .i64))) 81 v_5 nodes_4 fp_7) (h_11 : OwnSl H (cInt .i64) 32 v_10 free_9 fp_12) (h_16 : OwnMp H kTri (cInt .i64) v_15 xby_14 fp_17) (h_21 : OwnSl H (cInt .i64) 3 v_20 order_19 fp_22) (h_26 : OwnSl H (cInt .i64) 3 v_25 level_24 fp_27) (h_31 : OwnMp H kTri (cInt .i64) v_30 memo_29 fp_32) (hr_35 : I64 f_34) (hr_37 : I64 i_36) (hr_39 : I64 g_38) (hS : St w0 H ([(b_2, oc #[v_5, v_10, v_15, v_20, v_25, v_30] 79)] ++ (fp_7 ++ (fp_12 ++ (fp_17 ++ (fp_22 ++ (fp_27 ++ (fp_32 ++ L))))))) w) (hV : V_Let nodes_4 free_9 xby_14 order_19 level_24 memo_29 f_34 i_36 g_38 Q) :
 Calls Try.prog 38 #[(pq b_2), i6 f_34, i6 i_36, i6 g_38] w fun e w' => ∃ (r1 : Int) (r2 : N3) (r3 : LI) (r4 : M3) (r5 : M3) (v2 : Value) (fp2 : Seg) (v3 : Value) (fp3 : Seg) (fp4 : Seg) (fp5 : Seg), Q r1 r2 r3 r4 r5 ∧ e = .returned (i6 r1) ∧ I64 r1 ∧ OwnSl H (cPair (cInt .i64) (cPair (cInt .i64) (cInt .i64))) 81 v2 r2 fp2 ∧ OwnSl H (cInt .i64) 32 v3 r3 fp3 ∧ OwnMp H kTri (cInt .i64) v_15 r4 fp4 ∧ OwnMp H kTri (cInt .i64) v_30 r5 fp5 ∧ St w0 H ([(b_2, oc #[v2, v3, v_15, v_20, v_25, v_30] 79)] ++ (fp2 ++ (fp3 ++ (fp4 ++ (fp_22 ++ (fp_27 ++ (fp5 ++ L))))))) w' := by
 unfold V_Let at hV
 refine enter Try.func38 rfl Try.ntmps38 rfl (lk_args_cons (d := 0) (v := (pq b_2)) rfl (lk_args_cons (d := 1) (v := i6 f_34) rfl (lk_args_cons (d := 2) (v := i6 i_36) rfl (lk_args_cons (d := 3) (v := i6 g_38) rfl (lk_args_nil _))))) ?_
 refine WC.sr ?_
 refine WL.box (arr := #[(pq b_2)]) rfl rfl rfl hS ?_
 clear hS
 intro b_40 w hS
 refine WL.box (arr := #[i6 i_36]) rfl rfl rfl hS ?_
 clear hS
 intro b_42 w hS
 refine WL.box (arr := #[i6 g_38]) rfl rfl rfl hS ?_
 clear hS
 intro b_44 w hS
 refine WL.ma rfl rfl ?_
 refine WL.nx ?_
 refine WC.sr ?_
 replace hS := hS.f3
 refine WL.run hS rfl rfl rfl (ex_load_box Try.isAgg36 rfl rfl) ?_
 refine WL.mv rfl rfl ?_
 refine WL.makeMap (κ := Int) (ν := Int) (kc := kInt) (c := (cInt .i64)) rfl hS ?_
 clear hS
 intro v_46 w fp_47 h_48 hS
 refine WL.run hS rfl rfl rfl (ex_makeFunc (vs := [(pq b_42), (pq b_40), (pq b_44)]) ⟨rfl, rfl, rfl, trivial⟩) ?_
 replace hS := hS.f3.f3.f4.f4.f11.f11.f11.f11.f11.f11.f11
 obtain ⟨mf, hV⟩ := hV
 refine WL.call rfl rfl rfl (enters0 (vs := [(pq b_2), i6 f_34, v_46, .func (.func 71) #[] #[(pq b_42), (pq b_40), (pq b_44)]]) Try.call67 ⟨rfl, rfl, rfl, rfl, trivial⟩) (S_overL mf  h_6 h_11 h_16 h_21 h_26 h_31 hr_35 h_48 hr_37 hr_39 hS hV) ?_
 clear hV hS
 rintro _ w ⟨r_50, c_52, c_56, m_60, m_63, m_66, v_53, fp_54, v_57, fp_58, fp_61, fp_64, fp_67, hV, rfl, hr_51, h_55, h_59, h_62, h_65, h_68, hS⟩
 refine ⟨_, rfl, ?_⟩
 refine WL.ma rfl rfl ?_
 refine WL.nx ?_
 refine WC.sub (m := [(8, i6 r_50)]) ⟨rfl, trivial⟩ ?_
 replace hS := hS.f10.drop
 replace hS := hS.f9.drop
 replace hS := hS.f9.drop
 replace hS := hS.f8.drop
 refine WC.ret ?_
 replace hS := hS.f7.f7.f7.f7.f7.f7.f7
 exact leave1 rfl rfl ⟨r_50, c_52, c_56, m_60, m_63, v_53, fp_54, v_57, fp_58, fp_61, fp_64, hV, rfl, hr_51, h_55, h_59, h_62, h_65, hS⟩

theorem S_Eval {w0 : World} {H : View} {L : Seg} {w : World} {b_2 : Nat} {v_5 : Value} {nodes_4 : N3} {fp_7 : Seg} {v_10 : Value} {free_9 : LI} {fp_12 : Seg} {v_15 : Value} {xby_14 : M3} {fp_17 : Seg} {v_20 : Value} {order_19 : LI} {fp_22 : Seg} {v_25 : Value} {level_24 : LI} {fp_27 : Seg} {v_30 : Value} {memo_29 : M3} {fp_32 : Seg} {f_34 : Int} {v_37 : Value} {xat_36 : List Bool} {Q : Bool → Prop} (h_6 : OwnSl H (cPair (cInt .i64) (cPair (cInt .i64) (cInt .i64))) 81 v_5 nodes_4 fp_7) (h_11 : OwnSl H (cInt .i64) 32 v_10 free_9 fp_12) (h_16 : OwnMp H kTri (cInt .i64) v_15 xby_14 fp_17) (h_21 : OwnSl H (cInt .i64) 3 v_20 order_19 fp_22) (h_26 : OwnSl H (cInt .i64) 3 v_25 level_24 fp_27) (h_31 : OwnMp H kTri (cInt .i64) v_30 memo_29 fp_32) (hr_35 : I64 f_34) (h_38 : IsSl H cBool v_37 xat_36) (hS : St w0 H ([(b_2, oc #[v_5, v_10, v_15, v_20, v_25, v_30] 79)] ++ (fp_7 ++ (fp_12 ++ (fp_17 ++ (fp_22 ++ (fp_27 ++ (fp_32 ++ L))))))) w) (hV : V_Eval nodes_4 free_9 xby_14 order_19 level_24 memo_29 f_34 xat_36 Q) :
 Calls Try.prog 40 #[(pq b_2), i6 f_34, v_37] w fun e w' => ∃ (r1 : Bool), Q r1 ∧ e = .returned (.bool r1) ∧ St w0 H ([(b_2, oc #[v_5, v_10, v_15, v_20, v_25, v_30] 79)] ++ (fp_7 ++ (fp_12 ++ (fp_17 ++ (fp_22 ++ (fp_27 ++ (fp_32 ++ L))))))) w' := by
 unfold V_Eval at hV
 refine enter Try.func40 rfl Try.ntmps40 rfl (lk_args_cons (d := 0) (v := (pq b_2)) rfl (lk_args_cons (d := 1) (v := i6 f_34) rfl (lk_args_cons (d := 2) (v := v_37) rfl (lk_args_nil _)))) ?_
 refine WC.sr ?_
 refine WL.ma rfl rfl ?_
 refine WL.nx ?_
 refine WC.seq ?_
 refine WC.block ?_
 replace hS := hS.f7.f7.f7.f7.f7.f7.f7
 obtain ⟨I_111, mu_112, hI_150, hV⟩ := hV
 refine WC.loop (σ := Int) (fun s a w => ∃ (f_74 : Int), s = f_74 ∧ I_111 f_74 ∧ I64 f_74 ∧ St w0 H ([(b_2, oc #[v_5, v_10, v_15, v_20, v_25, v_30] 79)] ++ (fp_7 ++ (fp_12 ++ (fp_17 ++ (fp_22 ++ (fp_27 ++ (fp_32 ++ L))))))) w ∧ Fr 35 [(0, (pq b_2)), (1, i6 f_74), (2, v_37)] a) mu_112 f_34 ?_ ?_
 exact fun a ha => ⟨f_34, rfl, hI_150, hr_35, hS, ha.of_sub ⟨rfl, rfl, rfl, trivial⟩⟩
 clear hS hI_150
 rintro f_74 a w ⟨_, rfl, hI, hr_75, hS, ha⟩
 refine in_frame ha ?_
 clear ha
 replace hV := hV _ hI
 clear hI
 refine WC.seq ?_
 refine WC.sr ?_
 refine WL.mv rfl rfl ?_
 refine WL.run hS rfl rfl rfl (ex_gtr rfl rfl) ?_
 refine WL.nx ?_
 refine WC.cond rfl ?_ ?_
 intro hc_149
 replace hV := hV.1 (of_decide_eq_true hc_149)
 refine WC.skip ?_
 refine WQ.next ?_
 refine WC.block ?_
 refine WC.sr ?_
 refine WL.mv rfl rfl ?_
 refine WL.run hS rfl rfl rfl (ex_nilCheck rfl) ?_
 refine WL.run hS rfl rfl rfl (ex_fieldAddr (o' := 0) Try.underlying79 rfl Try.sizeOf75 rfl rfl) ?_
 refine WL.run hS rfl rfl rfl (ex_load_box Try.isAgg75 rfl rfl) ?_
 refine WL.mv rfl rfl ?_
 obtain ⟨hin_115, hV⟩ := hV
 refine WL.runx hS rfl rfl rfl (ex_index_own Try.underlying75 Try.sizeOf81 rfl rfl h_6 hin_115) ?_
 intro p_116 hp_117
 replace hS := hS.f2
 refine WL.runx hS rfl rfl rfl (exNow (H := H) (L := [(b_2, oc #[v_5, v_10, v_15, v_20, v_25, v_30] 79)] ++ (fp_12 ++ (fp_17 ++ (fp_22 ++ (fp_27 ++ (fp_32 ++ L)))))) (ex_load_own_agg Try.isAgg81 Try.sizeOf81 rfl h_6 hp_117 hin_115)) ?_
 rintro u_118 ⟨_, rfl, hu⟩
 obtain ⟨_, _, rfl, hu_119, hu_120⟩ := hu
 obtain ⟨rfl, hr_121⟩ := hu_119
 replace hr_121 := has_I64 hr_121
 replace hV := hV hr_121
 obtain ⟨_, _, rfl, hu_122, hu_123⟩ := hu_120
 obtain ⟨rfl, hr_124⟩ := hu_122
 replace hr_124 := has_I64 hr_124
 replace hV := hV hr_124
 obtain ⟨rfl, hr_125⟩ := hu_123
 replace hr_125 := has_I64 hr_125
 replace hV := hV hr_125
 refine WL.alloc (arr := #[i6 0, i6 0, i6 0]) rfl Try.zeroValue81 rfl hS ?_
 clear hS
 intro b_126 w hS
 refine WL.store_box (pre := []) (old := [i6 0, i6 0, i6 0]) (rst := []) (cs := [i6 ((ix nodes_4 f_74).1), i6 ((ix nodes_4 f_74).2.1), i6 ((ix nodes_4 f_74).2.2)]) (arr' := #[i6 ((ix nodes_4 f_74).1), i6 ((ix nodes_4 f_74).2.1), i6 ((ix nodes_4 f_74).2.2)]) Try.sizeOf81 rfl rfl rfl ⟨rfl, rfl, rfl, trivial⟩ rfl rfl rfl rfl hS ?_
 clear hS
 intro w hS
 refine WL.nx ?_
 refine WC.sub (m := [(0, (pq b_2)), (2, v_37), (7, (pq b_126))]) ⟨rfl, rfl, rfl, trivial⟩ ?_
 obtain ⟨J_137, hJ_138, hV⟩ := hV
 refine WC.meet (fun a w => ∃ (x_136 : Bool), J_137 x_136 ∧ St w0 H ([(b_2, oc #[v_5, v_10, v_15, v_20, v_25, v_30] 79)] ++ (fp_7 ++ (fp_12 ++ (fp_17 ++ (fp_22 ++ (fp_27 ++ (fp_32 ++ ([(b_126, oc #[i6 ((ix nodes_4 f_74).1), i6 ((ix nodes_4 f_74).2.1), i6 ((ix nodes_4 f_74).2.2)] 81)] ++ L)))))))) w ∧ Fr 35 [(0, (pq b_2)), (2, v_37), (7, (pq b_126)), (28, .bool x_136)] a) ?_ ?_
 rintro a w ⟨x_136, hI, hS, ha⟩
 refine in_frame ha ?_
 clear ha hV
 have hV := hJ_138 _ hI
 clear hI hJ_138
 refine WC.cond rfl ?_ ?_
 intro hc_147
 replace hV := hV.1 hc_147
 refine WC.region ?_
 refine WL.run hS rfl rfl rfl (ex_fieldAddr (o' := 2) Try.underlying81 rfl Try.sizeOf32 rfl rfl) ?_
 replace hS := hS.f8
 refine WL.run hS rfl rfl rfl (ex_load_box Try.isAgg32 rfl rfl) ?_
 refine WL.ma rfl rfl ?_
 refine WL.nil ?_
 refine WQ.out nofun ?_
 replace hS := hS.drop
 replace hS := hS.f7.f7.f7.f7.f7.f7.f7
 exact WQ.there fun a ha => ⟨(ix nodes_4 f_74).2.2, ⟨(ix nodes_4 f_74).2.2, rfl, hV.1, hr_125, hS, ha.of_sub ⟨rfl, rfl, rfl, trivial⟩⟩, hV.2⟩
 intro hc_147
 replace hV := hV.2 hc_147
 refine WC.region ?_
 refine WL.run hS rfl rfl rfl (ex_fieldAddr (o' := 1) Try.underlying81 rfl Try.sizeOf32 rfl rfl) ?_
 replace hS := hS.f8
 refine WL.run hS rfl rfl rfl (ex_load_box Try.isAgg32 rfl rfl) ?_
 refine WL.ma rfl rfl ?_
 refine WL.nil ?_
 refine WQ.out nofun ?_
 replace hS := hS.drop
 replace hS := hS.f7.f7.f7.f7.f7.f7.f7
 exact WQ.there fun a ha => ⟨(ix nodes_4 f_74).2.1, ⟨(ix nodes_4 f_74).2.1, rfl, hV.1, hr_124, hS, ha.of_sub ⟨rfl, rfl, rfl, trivial⟩⟩, hV.2⟩
 clear hJ_138
 refine WC.region ?_
 refine WL.run hS rfl rfl rfl (ex_fieldAddr (o' := 0) Try.underlying81 rfl Try.sizeOf3 rfl rfl) ?_
 refine WL.run hS rfl rfl rfl (ex_load_box Try.isAgg3 rfl rfl) ?_
 refine WL.mv rfl rfl ?_
 have hl_139 : Len xat_36 := h_38.bound
 replace hV := hV hl_139
 refine WL.run hS rfl rfl rfl (ex_len_sl Try.underlying28 rfl h_38) ?_
 refine WL.run hS rfl rfl rfl (ex_lss rfl rfl) ?_
 refine WL.mv rfl rfl ?_
 rcases Bool.eq_false_or_eq_true (decide ((ix nodes_4 f_74).1 < (xat_36.length : Int))) with hg_141 | hg_141
 replace hV := hV.1 (of_decide_eq_true hg_141)
 refine WL.unguard rfl rfl hg_141 ?_
 refine WL.mv rfl rfl ?_
 refine WL.unguard rfl rfl hg_141 ?_
 refine WL.run hS rfl rfl rfl (ex_fieldAddr (o' := 0) Try.underlying81 rfl Try.sizeOf3 rfl rfl) ?_
 refine WL.unguard rfl rfl hg_141 ?_
 refine WL.run hS rfl rfl rfl (ex_load_box Try.isAgg3 rfl rfl) ?_
 refine WL.unguard rfl rfl hg_141 ?_
 obtain ⟨hin_142, hV⟩ := hV
 refine WL.runx hS rfl rfl rfl (ex_index Try.underlying28 Try.sizeOf4 rfl rfl h_38 hin_142) ?_
 intro p_143 hp_144
 refine WL.unguard rfl rfl hg_141 ?_
 refine WL.runx hS rfl rfl rfl (ex_load Try.isAgg4 rfl rfl hp_144) ?_
 intro u_145 hu_146
 obtain rfl := cBool_rep hu_146
 refine WL.run hS rfl rfl rfl (ex_pick_t rfl hg_141 rfl) ?_
 refine WL.nil ?_
 replace hS := hS.f8.f8.f8.f8.f8.f7.f8
 exact WQ.there fun a ha => ⟨(ix xat_36 ((ix nodes_4 f_74).1)), hV, hS, ha.of_sub ⟨rfl, rfl, rfl, rfl, trivial⟩⟩
 replace hV := hV.2 (of_decide_eq_false hg_141)
 refine WL.skip_g rfl rfl rfl hg_141 rfl rfl ?_
 refine WL.skip_g rfl rfl rfl hg_141 rfl rfl ?_
 refine WL.skip_g rfl rfl rfl hg_141 rfl rfl ?_
 refine WL.skip_g rfl rfl rfl hg_141 rfl rfl ?_
 refine WL.skip_g rfl rfl rfl hg_141 rfl rfl ?_
 refine WL.run hS rfl rfl rfl (ex_pick_f rfl hg_141 rfl) ?_
 refine WL.nil ?_
 replace hS := hS.f8.f8.f8.f8.f8.f7.f8
 exact WQ.there fun a ha => ⟨false, hV, hS, ha.of_sub ⟨rfl, rfl, rfl, rfl, trivial⟩⟩
 intro hc_149
 replace hV := hV.2 (of_decide_eq_false hc_149)
 refine WC.exit ?_
 refine WQ.pass nofun ?_
 refine WQ.pass nofun ?_
 refine WQ.hit ?_
 refine WQ.next ?_
 refine WC.sr ?_
 refine WL.mv rfl rfl ?_
 refine WL.run hS rfl rfl rfl (ex_eql rfl rfl) ?_
 refine WL.ma rfl rfl ?_
 refine WL.nx ?_
 refine WC.ret ?_
 replace hS := hS.f7.f7.f7.f7.f7.f7.f7
 exact leave1 rfl rfl ⟨decide (f_74 = 1), hV, rfl, hS⟩

theorem S_below (m0 : Nat) : ∀ {w0 : World} {H : View} {L : Seg} {w : World} {b_2 : Nat} {v_5 : Value} {nodes_4 : N3} {fp_7 : Seg} {v_10 : Value} {free_9 : LI} {fp_12 : Seg} {v_15 : Value} {xby_14 : M3} {fp_17 : Seg} {v_20 : Value} {order_19 : LI} {fp_22 : Seg} {v_25 : Value} {level_24 : LI} {fp_27 : Seg} {v_30 : Value} {memo_29 : M3} {fp_32 : Seg} {f_34 : Int} {v_37 : Value} {xin_36 : M1} {fp_39 : Seg} {Q : M1 → Prop} (h_6 : OwnSl H (cPair (cInt .i64) (cPair (cInt .i64) (cInt .i64))) 81 v_5 nodes_4 fp_7) (h_11 : OwnSl H (cInt .i64) 32 v_10 free_9 fp_12) (h_16 : OwnMp H kTri (cInt .i64) v_15 xby_14 fp_17) (h_21 : OwnSl H (cInt .i64) 3 v_20 order_19 fp_22) (h_26 : OwnSl H (cInt .i64) 3 v_25 level_24 fp_27) (h_31 : OwnMp H kTri (cInt .i64) v_30 memo_29 fp_32) (hr_35 : I64 f_34) (h_38 : OwnMp H kInt (cInt .i64) v_37 xin_36 fp_39) (hS : St w0 H ([(b_2, oc #[v_5, v_10, v_15, v_20, v_25, v_30] 79)] ++ (fp_7 ++ (fp_12 ++ (fp_17 ++ (fp_22 ++ (fp_27 ++ (fp_32 ++ (fp_39 ++ L)))))))) w) (hV : V_below m0 nodes_4 free_9 xby_14 order_19 level_24 memo_29 f_34 xin_36 Q),
 Calls Try.prog 56 #[(pq b_2), i6 f_34, v_37] w fun e w' => ∃ (r1 : M1) (fp1 : Seg), Q r1 ∧ e = .returned (.tuple #[]) ∧ OwnMp H kInt (cInt .i64) v_37 r1 fp1 ∧ St w0 H ([(b_2, oc #[v_5, v_10, v_15, v_20, v_25, v_30] 79)] ++ (fp_7 ++ (fp_12 ++ (fp_17 ++ (fp_22 ++ (fp_27 ++ (fp_32 ++ (fp1 ++ L)))))))) w' := by
 induction m0 with
 | zero => intro w0 H L w b_2 v_5 nodes_4 fp_7 v_10 free_9 fp_12 v_15 xby_14 fp_17 v_20 order_19 fp_22 v_25 level_24 fp_27 v_30 memo_29 fp_32 f_34 v_37 xin_36 fp_39 Q h_6 h_11 h_16 h_21 h_26 h_31 hr_35 h_38 hS hV; exact hV.elim
 | succ m0 ih =>
  intro w0 H L w b_2 v_5 nodes_4 fp_7 v_10 free_9 fp_12 v_15 xby_14 fp_17 v_20 order_19 fp_22 v_25 level_24 fp_27 v_30 memo_29 fp_32 f_34 v_37 xin_36 fp_39 Q h_6 h_11 h_16 h_21 h_26 h_31 hr_35 h_38 hS hV
  unfold V_below at hV
  refine enter Try.func56 rfl Try.ntmps56 rfl (lk_args_cons (d := 0) (v := (pq b_2)) rfl (lk_args_cons (d := 1) (v := i6 f_34) rfl (lk_args_cons (d := 2) (v := v_37) rfl (lk_args_nil _)))) ?_
  refine WC.seq ?_
  obtain ⟨J_48, hJ_49, hV⟩ := hV
  refine WC.meet (fun a w => ∃ (x_47 : Bool), J_48 x_47 ∧ St w0 H ([(b_2, oc #[v_5, v_10, v_15, v_20, v_25, v_30] 79)] ++ (fp_7 ++ (fp_12 ++ (fp_17 ++ (fp_22 ++ (fp_27 ++ (fp_32 ++ (fp_39 ++ L)))))))) w ∧ Fr 38 [(0, (pq b_2)), (1, i6 f_34), (2, v_37), (13, .bool x_47)] a) ?_ ?_
  rintro a w ⟨x_47, hI, hS, ha⟩
  refine in_frame ha ?_
  clear ha hV
  have hV := hJ_49 _ hI
  clear hI hJ_49
  refine WC.cond rfl ?_ ?_
  intro hc_82
  replace hV := hV.1 hc_82
  refine WC.ret ?_
  refine WQ.pass nofun ?_
  replace hS := hS.f8.f8.f8.f8.f8.f8.f8.f8
  exact leave0 (il) rfl ⟨xin_36, fp_39, hV, rfl, h_38, hS⟩
  intro hc_82
  replace hV := hV.2 hc_82
  refine WC.skip ?_
  refine WQ.next ?_
  refine WC.sr ?_
  refine WL.mv rfl rfl ?_
  refine WL.mv rfl rfl ?_
  replace hS := hS.f8
  refine WL.mapUpdate (k := f_34) (e := 1) Try.underlying87 Try.key32 hr_35 (cInt_mk (I64.has (by unfold I64; omega))) rfl rfl rfl hS h_38 ?_
  clear hS
  intro w fp_56 h_57 hS
  refine WL.nx ?_
  refine WC.sr ?_
  refine WL.mv rfl rfl ?_
  refine WL.mv rfl rfl ?_
  refine WL.run hS rfl rfl rfl (ex_nilCheck rfl) ?_
  refine WL.run hS rfl rfl rfl (ex_fieldAddr (o' := 0) Try.underlying79 rfl Try.sizeOf75 rfl rfl) ?_
  replace hS := hS.f2
  refine WL.run hS rfl rfl rfl (ex_load_box Try.isAgg75 rfl rfl) ?_
  refine WL.mv rfl rfl ?_
  obtain ⟨hin_58, hV⟩ := hV
  refine WL.runx hS rfl rfl rfl (ex_index_own Try.underlying75 Try.sizeOf81 rfl rfl h_6 hin_58) ?_
  intro p_59 hp_60
  refine WL.runx hS rfl rfl rfl (ex_fieldAddr_own Try.underlying81 rfl Try.sizeOf32 rfl hp_60) ?_
  intro p_62 hp_61
  replace hS := hS.f3
  refine WL.runx hS rfl rfl rfl (exNow (H := H) (L := [(b_2, oc #[v_5, v_10, v_15, v_20, v_25, v_30] 79)] ++ (fp_56 ++ (fp_12 ++ (fp_17 ++ (fp_22 ++ (fp_27 ++ (fp_32 ++ L))))))) (ex_load_ownpart (d := (cInt .i64)) Try.isAgg32 rfl rfl h_6 hp_61 hin_58 (Part.next Part.fst))) ?_
  intro u_63 hu_64
  obtain ⟨rfl, hr_65⟩ := cInt_rep hu_64
  replace hr_65 := has_I64 hr_65
  replace hV := hV hr_65
  refine WL.mv rfl rfl ?_
  replace hS := hS.f3.f8.f8.f8.f8.f8.f7.f8
  refine WL.call rfl rfl rfl (enters0 (vs := [(pq b_2), i6 ((ix nodes_4 f_34).2.1), v_37]) Try.call56 ⟨rfl, rfl, rfl, trivial⟩) (ih  h_6 h_11 h_16 h_21 h_26 h_31 hr_65 h_57 hS hV) ?_
  clear hV hS
  rintro _ w ⟨m_66, fp_67, hV, rfl, h_68, hS⟩
  refine ⟨_, rfl, ?_⟩
  refine WL.nx ?_
  refine WC.sub (m := [(0, (pq b_2)), (1, i6 f_34), (2, v_37)]) ⟨rfl, rfl, rfl, trivial⟩ ?_
  refine WC.region ?_
  refine WL.mv rfl rfl ?_
  refine WL.mv rfl rfl ?_
  refine WL.run hS rfl rfl rfl (ex_nilCheck rfl) ?_
  refine WL.run hS rfl rfl rfl (ex_fieldAddr (o' := 0) Try.underlying79 rfl Try.sizeOf75 rfl rfl) ?_
  refine WL.run hS rfl rfl rfl (ex_load_box Try.isAgg75 rfl rfl) ?_
  refine WL.mv rfl rfl ?_
  obtain ⟨hin_70, hV⟩ := hV
  refine WL.runx hS rfl rfl rfl (ex_index_own Try.underlying75 Try.sizeOf81 rfl rfl h_6 hin_70) ?_
  intro p_71 hp_72
  refine WL.runx hS rfl rfl rfl (ex_fieldAddr_own Try.underlying81 rfl Try.sizeOf32 rfl hp_72) ?_
  intro p_74 hp_73
  replace hS := hS.f2
  refine WL.runx hS rfl rfl rfl (exNow (H := H) (L := [(b_2, oc #[v_5, v_10, v_15, v_20, v_25, v_30] 79)] ++ (fp_12 ++ (fp_17 ++ (fp_22 ++ (fp_27 ++ (fp_32 ++ (fp_67 ++ L))))))) (ex_load_ownpart (d := (cInt .i64)) Try.isAgg32 rfl rfl h_6 hp_73 hin_70 (Part.next Part.snd))) ?_
  intro u_75 hu_76
  obtain ⟨rfl, hr_77⟩ := cInt_rep hu_76
  replace hr_77 := has_I64 hr_77
  replace hV := hV hr_77
  refine WL.mv rfl rfl ?_
  replace hS := hS.f8.f8.f8.f8.f8.f8.f7.f8
  refine WL.call rfl rfl rfl (enters0 (vs := [(pq b_2), i6 ((ix nodes_4 f_34).2.2), v_37]) Try.call56 ⟨rfl, rfl, rfl, trivial⟩) (ih  h_6 h_11 h_16 h_21 h_26 h_31 hr_77 h_68 hS hV) ?_
  clear hV hS
  rintro _ w ⟨m_78, fp_79, hV, rfl, h_80, hS⟩
  refine ⟨_, rfl, ?_⟩
  refine WL.nil ?_
  replace hS := hS.f8.f8.f8.f8.f8.f8.f8.f8
  exact leave0 (.inr rfl) rfl ⟨m_78, fp_79, hV, rfl, h_80, hS⟩
  clear hJ_49
  refine WC.region ?_
  refine WL.mv rfl rfl ?_
  refine WL.run hS rfl rfl rfl (ex_leq rfl rfl) ?_
  refine WL.mv rfl rfl ?_
  rcases Bool.eq_false_or_eq_true (decide (f_34 ≤ 1)) with hg_51 | hg_51
  replace hV := hV.1 (of_decide_eq_true hg_51)
  refine WL.skip_g rfl rfl rfl hg_51 rfl rfl ?_
  refine WL.skip_g rfl rfl rfl hg_51 rfl rfl ?_
  refine WL.skip_g rfl rfl rfl hg_51 rfl rfl ?_
  refine WL.skip_g rfl rfl rfl hg_51 rfl rfl ?_
  refine WL.run hS rfl rfl rfl (ex_pick_t rfl hg_51 rfl) ?_
  refine WL.nil ?_
  replace hS := hS.f8.f8.f8.f8.f8.f8.f8.f8
  exact WQ.there fun a ha => ⟨true, hV, hS, ha.of_sub ⟨rfl, rfl, rfl, rfl, trivial⟩⟩
  replace hV := hV.2 (of_decide_eq_false hg_51)
  refine WL.unguard rfl rfl hg_51 ?_
  refine WL.mv rfl rfl ?_
  refine WL.unguard rfl rfl hg_51 ?_
  refine WL.mv rfl rfl ?_
  refine WL.unguard rfl rfl hg_51 ?_
  replace hS := hS.f8
  refine WL.runx hS rfl rfl rfl (exNow (H := H) (L := [(b_2, oc #[v_5, v_10, v_15, v_20, v_25, v_30] 79)] ++ (fp_7 ++ (fp_12 ++ (fp_17 ++ (fp_22 ++ (fp_27 ++ (fp_32 ++ L))))))) (ex_lookup (c := (cInt .i64)) (k := f_34) (d := 0) Try.underlying87 Try.key32 Try.zeroValue3 ⟨rfl, I64.has (by unfold I64; omega)⟩ rfl rfl h_38)) ?_
  intro u_52 hu_53
  obtain ⟨rfl, hr_54⟩ := cInt_rep hu_53
  replace hr_54 := has_I64 hr_54
  replace hV := hV hr_54
  refine WL.unguard rfl rfl hg_51 ?_
  refine WL.run hS rfl rfl rfl (ex_neq rfl rfl) ?_
  refine WL.run hS rfl rfl rfl (ex_pick_f rfl hg_51 rfl) ?_
  refine WL.nil ?_
  replace hS := hS.f8.f8.f8.f8.f8.f8.f8
  exact WQ.there fun a ha => ⟨decide ((mgetD xin_36 f_34 0) ≠ 0), hV, hS, ha.of_sub ⟨rfl, rfl, rfl, rfl, trivial⟩⟩

theorem S_all {w0 : World} {H : View} {L : Seg} {w : World} {b_2 : Nat} {v_5 : Value} {nodes_4 : N3} {fp_7 : Seg} {v_10 : Value} {free_9 : LI} {fp_12 : Seg} {v_15 : Value} {xby_14 : M3} {fp_17 : Seg} {v_20 : Value} {order_19 : LI} {fp_22 : Seg} {v_25 : Value} {level_24 : LI} {fp_27 : Seg} {v_30 : Value} {memo_29 : M3} {fp_32 : Seg} {v_35 : Value} {fs_34 : LI} {Q : M1 → Prop} (h_6 : OwnSl H (cPair (cInt .i64) (cPair (cInt .i64) (cInt .i64))) 81 v_5 nodes_4 fp_7) (h_11 : OwnSl H (cInt .i64) 32 v_10 free_9 fp_12) (h_16 : OwnMp H kTri (cInt .i64) v_15 xby_14 fp_17) (h_21 : OwnSl H (cInt .i64) 3 v_20 order_19 fp_22) (h_26 : OwnSl H (cInt .i64) 3 v_25 level_24 fp_27) (h_31 : OwnMp H kTri (cInt .i64) v_30 memo_29 fp_32) (h_36 : IsSl H (cInt .i64) v_35 fs_34) (hS : St w0 H ([(b_2, oc #[v_5, v_10, v_15, v_20, v_25, v_30] 79)] ++ (fp_7 ++ (fp_12 ++ (fp_17 ++ (fp_22 ++ (fp_27 ++ (fp_32 ++ L))))))) w) (hV : V_all nodes_4 free_9 xby_14 order_19 level_24 memo_29 fs_34 Q) :
 Calls Try.prog 52 #[(pq b_2), v_35] w fun e w' => ∃ (r1 : M1) (v1 : Value) (fp1 : Seg), Q r1 ∧ e = .returned (v1) ∧ OwnMp H kInt (cInt .i64) v1 r1 fp1 ∧ St w0 H (fp1 ++ ([(b_2, oc #[v_5, v_10, v_15, v_20, v_25, v_30] 79)] ++ (fp_7 ++ (fp_12 ++ (fp_17 ++ (fp_22 ++ (fp_27 ++ (fp_32 ++ L)))))))) w' := by
 unfold V_all at hV
 refine enter Try.func52 rfl Try.ntmps52 rfl (lk_args_cons (d := 0) (v := (pq b_2)) rfl (lk_args_cons (d := 1) (v := v_35) rfl (lk_args_nil _))) ?_
 refine WC.sr ?_
 refine WL.ma rfl rfl ?_
 refine WL.nx ?_
 refine WC.sr ?_
 refine WL.makeMap (κ := Int) (ν := Int) (kc := kInt) (c := (cInt .i64)) rfl hS ?_
 clear hS
 intro v_37 w fp_38 h_39 hS
 refine WL.ma rfl rfl ?_
 refine WL.nx ?_
 refine WC.seq ?_
 refine WC.sr ?_
 refine WL.mv rfl rfl ?_
 have hl_41 : Len fs_34 := h_36.bound
 replace hV := hV hl_41
 refine WL.run hS rfl rfl rfl (ex_len_sl Try.underlying35 rfl h_36) ?_
 refine WL.mv rfl rfl ?_
 refine WL.nx ?_
 refine WC.block ?_
 replace hS := hS.f8.f8.f8.f8.f8.f8.f8
 obtain ⟨I_75, mu_76, hI_92, hV⟩ := hV
 refine WC.loop (σ := M1 × Int) (fun s a w => ∃ (xin_56 : M1) (x_59 : Int) (fp_57 : Seg), s = (xin_56, x_59) ∧ I_75 (xin_56, x_59) ∧ OwnMp H kInt (cInt .i64) v_37 xin_56 fp_57 ∧ I64 x_59 ∧ St w0 H ([(b_2, oc #[v_5, v_10, v_15, v_20, v_25, v_30] 79)] ++ (fp_7 ++ (fp_12 ++ (fp_17 ++ (fp_22 ++ (fp_27 ++ (fp_32 ++ (fp_57 ++ L)))))))) w ∧ Fr 21 [(0, (pq b_2)), (5, v_37), (9, v_35), (10, i6 (fs_34.length : Int)), (11, i6 x_59)] a) mu_76 (([] : M1), 0) ?_ ?_
 exact fun a ha => ⟨([] : M1), 0, fp_38, rfl, hI_92, h_39, (by unfold I64; omega), hS, ha.of_sub ⟨rfl, rfl, rfl, rfl, rfl, trivial⟩⟩
 clear hS hI_92
 rintro _ a w ⟨xin_56, x_59, fp_57, rfl, hI, h_58, hr_60, hS, ha⟩
 refine in_frame ha ?_
 clear ha
 replace hV := hV _ hI
 clear hI
 refine WC.sr ?_
 refine WL.run hS rfl rfl rfl (ex_lss rfl rfl) ?_
 refine WL.nx ?_
 refine WC.seq ?_
 refine WC.cond rfl ?_ ?_
 intro hc_91
 replace hV := hV.1 (of_decide_eq_true hc_91)
 refine WC.skip ?_
 refine WQ.next ?_
 refine WC.seq ?_
 refine WC.block ?_
 refine WC.sr ?_
 obtain ⟨hin_79, hV⟩ := hV
 refine WL.runx hS rfl rfl rfl (ex_index Try.underlying35 Try.sizeOf32 rfl rfl h_36 hin_79) ?_
 intro p_80 hp_81
 refine WL.runx hS rfl rfl rfl (ex_load Try.isAgg32 rfl rfl hp_81) ?_
 intro u_82 hu_83
 obtain ⟨rfl, hr_84⟩ := cInt_rep hu_83
 replace hr_84 := has_I64 hr_84
 replace hV := hV hr_84
 refine WL.ma rfl rfl ?_
 refine WL.nx ?_
 refine WC.region ?_
 refine WL.mv rfl rfl ?_
 refine WL.mv rfl rfl ?_
 refine WL.mv rfl rfl ?_
 replace hS := hS.f8.f8.f8.f8.f8.f8.f8.f8
 obtain ⟨mf, hV⟩ := hV
 refine WL.call rfl rfl rfl (enters0 (vs := [(pq b_2), i6 (ix fs_34 x_59), v_37]) Try.call56 ⟨rfl, rfl, rfl, trivial⟩) (S_below mf  h_6 h_11 h_16 h_21 h_26 h_31 hr_84 h_58 hS hV) ?_
 clear hV hS
 rintro _ w ⟨m_85, fp_86, hV, rfl, h_87, hS⟩
 refine ⟨_, rfl, ?_⟩
 refine WL.nil ?_
 refine WQ.out nofun ?_
 refine WQ.next ?_
 refine WC.region ?_
 obtain ⟨hi_90, hV⟩ := hV
 refine WL.run hS rfl rfl rfl (ex_add rfl rfl hi_90) ?_
 refine WL.mv rfl rfl ?_
 refine WL.nil ?_
 replace hS := hS.f8.f8.f8.f8.f8.f8.f8.f8
 exact WQ.there fun a ha => ⟨(m_85, (x_59 + 1)), ⟨m_85, (x_59 + 1), fp_86, rfl, hV.1, h_87, hi_90, hS, ha.of_sub ⟨rfl, rfl, rfl, rfl, rfl, trivial⟩⟩, hV.2⟩
 intro hc_91
 replace hV := hV.2 (of_decide_eq_false hc_91)
 refine WC.exit ?_
 refine WQ.pass nofun ?_
 refine WQ.pass nofun ?_
 refine WQ.hit ?_
 refine WQ.next ?_
 refine WC.sr ?_
 refine WL.mv rfl rfl ?_
 refine WL.ma rfl rfl ?_
 refine WL.nx ?_
 refine WC.ret ?_
 replace hS := hS.f7.f7.f7.f7.f7.f7.f7.f8
 exact leave1 rfl rfl ⟨xin_56, v_37, fp_57, hV, rfl, h_58, hS⟩

theorem S_Size {w0 : World} {H : View} {L : Seg} {w : World} {b_2 : Nat} {v_5 : Value} {nodes_4 : N3} {fp_7 : Seg} {v_10 : Value} {free_9 : LI} {fp_12 : Seg} {v_15 : Value} {xby_14 : M3} {fp_17 : Seg} {v_20 : Value} {order_19 : LI} {fp_22 : Seg} {v_25 : Value} {level_24 : LI} {fp_27 : Seg} {v_30 : Value} {memo_29 : M3} {fp_32 : Seg} {v_35 : Value} {fs_34 : LI} {Q : Int → Prop} (h_6 : OwnSl H (cPair (cInt .i64) (cPair (cInt .i64) (cInt .i64))) 81 v_5 nodes_4 fp_7) (h_11 : OwnSl H (cInt .i64) 32 v_10 free_9 fp_12) (h_16 : OwnMp H kTri (cInt .i64) v_15 xby_14 fp_17) (h_21 : OwnSl H (cInt .i64) 3 v_20 order_19 fp_22) (h_26 : OwnSl H (cInt .i64) 3 v_25 level_24 fp_27) (h_31 : OwnMp H kTri (cInt .i64) v_30 memo_29 fp_32) (h_36 : IsSl H (cInt .i64) v_35 fs_34) (hS : St w0 H ([(b_2, oc #[v_5, v_10, v_15, v_20, v_25, v_30] 79)] ++ (fp_7 ++ (fp_12 ++ (fp_17 ++ (fp_22 ++ (fp_27 ++ (fp_32 ++ L))))))) w) (hV : V_Size nodes_4 free_9 xby_14 order_19 level_24 memo_29 fs_34 Q) :
 Calls Try.prog 47 #[(pq b_2), v_35] w fun e w' => ∃ (r1 : Int), Q r1 ∧ e = .returned (i6 r1) ∧ I64 r1 ∧ St w0 H ([(b_2, oc #[v_5, v_10, v_15, v_20, v_25, v_30] 79)] ++ (fp_7 ++ (fp_12 ++ (fp_17 ++ (fp_22 ++ (fp_27 ++ (fp_32 ++ L))))))) w' := by
 unfold V_Size at hV
 refine enter Try.func47 rfl Try.ntmps47 rfl (lk_args_cons (d := 0) (v := (pq b_2)) rfl (lk_args_cons (d := 1) (v := v_35) rfl (lk_args_nil _))) ?_
 refine WC.sr ?_
 refine WL.ma rfl rfl ?_
 refine WL.nx ?_
 refine WC.sr ?_
 refine WL.mv rfl rfl ?_
 refine WL.mv rfl rfl ?_
 replace hS := hS.f7.f7.f7.f7.f7.f7.f7
 refine WL.call rfl rfl rfl (enters0 (vs := [(pq b_2), v_35]) Try.call52 ⟨rfl, rfl, trivial⟩) (S_all  h_6 h_11 h_16 h_21 h_26 h_31 h_36 hS hV) ?_
 clear hV hS
 rintro _ w ⟨r_37, v_38, fp_39, hV, rfl, h_40, hS⟩
 refine ⟨_, rfl, ?_⟩
 obtain ⟨hl_43, hV⟩ := hV
 refine WL.run hS rfl rfl rfl (exQv (H := H) (ex_len_map Try.underlying87 rfl h_40) _ (fun _ h => h)) ?_
 refine WL.ma rfl rfl ?_
 refine WL.nx ?_
 replace hS := hS.drop
 refine WC.ret ?_
 replace hS := hS.f7.f7.f7.f7.f7.f7.f7
 exact leave1 rfl rfl ⟨(r_37.length : Int), hV, rfl, (Len.i64 hl_43), hS⟩

theorem S_Nodes {w0 : World} {H : View} {L : Seg} {w : World} {b_2 : Nat} {v_5 : Value} {nodes_4 : N3} {fp_7 : Seg} {v_10 : Value} {free_9 : LI} {fp_12 : Seg} {v_15 : Value} {xby_14 : M3} {fp_17 : Seg} {v_20 : Value} {order_19 : LI} {fp_22 : Seg} {v_25 : Value} {level_24 : LI} {fp_27 : Seg} {v_30 : Value} {memo_29 : M3} {fp_32 : Seg} {Q : Int → Prop} (h_6 : OwnSl H (cPair (cInt .i64) (cPair (cInt .i64) (cInt .i64))) 81 v_5 nodes_4 fp_7) (h_11 : OwnSl H (cInt .i64) 32 v_10 free_9 fp_12) (h_16 : OwnMp H kTri (cInt .i64) v_15 xby_14 fp_17) (h_21 : OwnSl H (cInt .i64) 3 v_20 order_19 fp_22) (h_26 : OwnSl H (cInt .i64) 3 v_25 level_24 fp_27) (h_31 : OwnMp H kTri (cInt .i64) v_30 memo_29 fp_32) (hS : St w0 H ([(b_2, oc #[v_5, v_10, v_15, v_20, v_25, v_30] 79)] ++ (fp_7 ++ (fp_12 ++ (fp_17 ++ (fp_22 ++ (fp_27 ++ (fp_32 ++ L))))))) w) (hV : V_Nodes nodes_4 free_9 xby_14 order_19 level_24 memo_29 Q) :
 Calls Try.prog 22 #[(pq b_2)] w fun e w' => ∃ (r1 : Int), Q r1 ∧ e = .returned (i6 r1) ∧ I64 r1 ∧ St w0 H ([(b_2, oc #[v_5, v_10, v_15, v_20, v_25, v_30] 79)] ++ (fp_7 ++ (fp_12 ++ (fp_17 ++ (fp_22 ++ (fp_27 ++ (fp_32 ++ L))))))) w' := by
 unfold V_Nodes at hV
 refine enter Try.func22 rfl Try.ntmps22 rfl (lk_args_cons (d := 0) (v := (pq b_2)) rfl (lk_args_nil _)) ?_
 refine WC.sr ?_
 refine WL.ma rfl rfl ?_
 refine WL.nx ?_
 refine WC.sr ?_
 refine WL.mv rfl rfl ?_
 refine WL.run hS rfl rfl rfl (ex_nilCheck rfl) ?_
 refine WL.run hS rfl rfl rfl (ex_fieldAddr (o' := 2) Try.underlying79 rfl Try.sizeOf76 rfl rfl) ?_
 refine WL.run hS rfl rfl rfl (ex_load_box Try.isAgg76 rfl rfl) ?_
 obtain ⟨hl_34, hV⟩ := hV
 replace hS := hS.f4
 refine WL.run hS rfl rfl rfl (exQv (H := H) (ex_len_map Try.underlying76 rfl h_16) _ (fun _ h => h)) ?_
 refine WL.ma rfl rfl ?_
 refine WL.nx ?_
 refine WC.ret ?_
 replace hS := hS.f7.f7.f7.f4.f7.f7.f7
 exact leave1 rfl rfl ⟨(xby_14.length : Int), hV, rfl, (Len.i64 hl_34), hS⟩

end Go.Proofs.Ytceipmldngeagaa
