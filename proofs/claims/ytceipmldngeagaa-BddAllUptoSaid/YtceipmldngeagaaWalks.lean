/- For each function: called, it does its work where its condition is so. Printed by program. -/
import Derived.Test.YtceipmldngeagaaFacts
import Derived.Test.YtceipmldngeagaaConds
import Derived.Test.YtceipmldngeagaaManB
import Derived.Test.YtceipmldngeagaaWalks4
set_option linter.unusedVariables false
set_option linter.unusedSimpArgs false
set_option maxRecDepth 100000
namespace Go.Proofs.Ytceipmldngeagaa
open Go.Vc
theorem S_plays {w0 : World} {H : View} {L : Seg} {w : World} {n_1 : Int} {v_4 : Value} {script_3 : List (Int × Int × Int × Int × LI × List Bool)} {held_6 : Int} {Q : Bool → Prop} (hr_2 : I64 n_1) (h_5 : IsSl H (cPair (cInt .i64) (cPair (cInt .i64) (cPair (cInt .i64) (cPair (cInt .i64) (cPair (cSl (cInt .i64)) (cSl cBool)))))) v_4 script_3) (hr_7 : I64 held_6) (hS : St w0 H (L) w) (hV : V_plays n_1 script_3 held_6 Q) :
 Calls Try.prog 7 #[i6 n_1, v_4, i6 held_6] w fun e w' => ∃ (r1 : Bool) (H' : View), Q r1 ∧ e = .returned (.bool r1) ∧ View.le H H' ∧ St w0 H' (L) w' := by
 unfold V_plays at hV
 refine enter Try.func7 rfl Try.ntmps7 rfl (lk_args_cons (d := 0) (v := i6 n_1) rfl (lk_args_cons (d := 1) (v := v_4) rfl (lk_args_cons (d := 2) (v := i6 held_6) rfl (lk_args_nil _)))) ?_
 refine WC.sr ?_
 refine WL.ma rfl rfl ?_
 refine WL.nx ?_
 refine WC.seq ?_
 refine WC.seq ?_
 refine WC.via (m := [(0, i6 n_1), (1, v_4), (2, i6 held_6), (20, .bool (decide ((n_1 < 0) ∨ (9 < n_1))))]) ?_ ?_
 refine WC.region ?_
 refine WL.mv rfl rfl ?_
 refine WL.run hS rfl rfl rfl (ex_lss rfl rfl) ?_
 refine WL.mv rfl rfl ?_
 rcases Bool.eq_false_or_eq_true (decide (n_1 < 0)) with hg_11 | hg_11
 refine WL.skip_g rfl rfl rfl hg_11 rfl rfl ?_
 refine WL.skip_g rfl rfl rfl hg_11 rfl rfl ?_
 refine WL.run hS rfl rfl rfl (ex_pick_t rfl hg_11 rfl) ?_
 refine WL.sub (m := [(0, i6 n_1), (1, v_4), (2, i6 held_6), (15, i6 n_1), (16, .bool (decide (n_1 < 0))), (17, .bool (decide (n_1 < 0))), (18, undef), (19, undef), (20, .bool (decide ((n_1 < 0) ∨ (9 < n_1))))]) ⟨rfl, rfl, rfl, rfl, rfl, rfl, rfl, rfl, congrArg (fun b => some (Value.bool b)) (or_t hg_11 : true = decide ((n_1 < 0) ∨ (9 < n_1))), trivial⟩ ?_
 exact WL.nil (At.of ⟨rfl, rfl, rfl, rfl, trivial⟩)
 refine WL.unguard rfl rfl hg_11 ?_
 refine WL.mv rfl rfl ?_
 refine WL.unguard rfl rfl hg_11 ?_
 refine WL.run hS rfl rfl rfl (ex_gtr rfl rfl) ?_
 refine WL.run hS rfl rfl rfl (ex_pick_f rfl hg_11 rfl) ?_
 refine WL.sub (m := [(0, i6 n_1), (1, v_4), (2, i6 held_6), (15, i6 n_1), (16, .bool (decide (n_1 < 0))), (17, .bool (decide (n_1 < 0))), (18, i6 n_1), (19, .bool (decide (9 < n_1))), (20, .bool (decide ((n_1 < 0) ∨ (9 < n_1))))]) ⟨rfl, rfl, rfl, rfl, rfl, rfl, rfl, rfl, congrArg (fun b => some (Value.bool b)) (or_f hg_11 : decide (9 < n_1) = decide ((n_1 < 0) ∨ (9 < n_1))), trivial⟩ ?_
 exact WL.nil (At.of ⟨rfl, rfl, rfl, rfl, trivial⟩)
 refine WQ.next ?_
 refine WC.cond rfl ?_ ?_
 intro hc_1586
 replace hV := hV.1 (of_decide_eq_true hc_1586)
 refine WC.sr ?_
 refine WL.ma rfl rfl ?_
 refine WL.nx ?_
 refine WC.ret ?_
 refine WQ.pass nofun ?_
 exact leave1 rfl rfl ⟨true, H, hV, rfl, (View.le.refl _), hS⟩
 intro hc_1586
 replace hV := hV.2 (of_decide_eq_false hc_1586)
 refine WC.skip ?_
 refine WQ.next ?_
 refine WC.sr ?_
 refine WL.mv rfl rfl ?_
 refine WL.call rfl rfl rfl (enters0 (vs := [i6 n_1]) Try.call8 ⟨rfl, trivial⟩) (S_world  hr_2 hS hV) ?_
 clear hV hS
 rintro _ w ⟨r_13, v_14, fp_15, H_19, hV, rfl, le_20, h_16, hS⟩
 refine ⟨_, rfl, ?_⟩
 rcases h_16 with ⟨rfl, rfl, rfl⟩ | ⟨y_18_b, y_18_0_b, y_18_0_0, y_18_0_1, y_18_0_2, y_18_0_3, y_18_0_4, y_18_0_5, y_18_1, y_18_2, y_18_3, y_18_4, y_18_5, y_18_0_0v, y_18_0_0f, y_18_0_1v, y_18_0_1f, y_18_0_2v, y_18_0_2f, y_18_0_3v, y_18_0_3f, y_18_0_4v, y_18_0_4f, y_18_0_5v, y_18_0_5f, y_18_2v, y_18_2f, y_18_3v, y_18_3f, y_18_4v, y_18_4f, y_18_5v, y_18_5f, rfl, rfl, rfl, h_23, h_25, h_27, h_29, h_31, h_33, hr_35, h_36, h_38, h_40, h_42⟩
 replace hS : St w0 H_19 (L) w := hS
 replace hV := hV.1 rfl
 refine WL.ma rfl rfl ?_
 refine WL.nx ?_
 refine WC.seq ?_
 refine WC.sr ?_
 refine WL.mv rfl rfl ?_
 refine WL.run hS rfl rfl rfl (ex_ptr_eql Try.ptr25 rfl) ?_
 refine WL.nx ?_
 refine WC.cond_true rfl ?_
 refine WC.sr ?_
 refine WL.ma rfl rfl ?_
 refine WL.nx ?_
 refine WC.sub (m := [(6, .bool false)]) ⟨rfl, trivial⟩ ?_
 refine WC.ret ?_
 refine WQ.pass nofun ?_
 exact leave1 rfl rfl ⟨false, H_19, hV, rfl, ((View.le.refl _).trans le_20), hS⟩
 simp only [List.append_assoc] at hS
 replace hS : St w0 H_19 ([(y_18_b, oc #[(pq y_18_0_b), i6 y_18_1, y_18_2v, y_18_3v, y_18_4v, y_18_5v] 39)] ++ ([(y_18_0_b, oc #[y_18_0_0v, y_18_0_1v, y_18_0_2v, y_18_0_3v, y_18_0_4v, y_18_0_5v] 79)] ++ (y_18_0_0f ++ (y_18_0_1f ++ (y_18_0_2f ++ (y_18_0_3f ++ (y_18_0_4f ++ (y_18_0_5f ++ (y_18_2f ++ (y_18_3f ++ (y_18_4f ++ (y_18_5f ++ L)))))))))))) w := hS
 replace hV := hV.2 _ _ _ _ _ _ _ _ _ _ _ rfl
 refine WL.ma rfl rfl ?_
 refine WL.nx ?_
 refine WC.seq ?_
 refine WC.sr ?_
 refine WL.mv rfl rfl ?_
 refine WL.run hS rfl rfl rfl (ex_ptr_eql Try.ptr25 rfl) ?_
 refine WL.nx ?_
 refine WC.cond_false rfl ?_
 refine WC.skip ?_
 refine WQ.next ?_
 refine WC.seq ?_
 refine WC.sr ?_
 refine WL.ma rfl rfl ?_
 refine WL.nx ?_
 refine WC.block ?_
 replace hS := hS.f12.f12.f12.f12.f12.f12.f12.f12.f12.f12.f12.f12
 obtain ⟨I_1209, mu_1210, hI_1585, hV⟩ := hV
 refine WC.loop (σ := N3 × LI × M3 × LI × LI × M3 × LI × B2 × LI × B2 × Int) (fun s a w => ∃ (c_791 : N3) (c_796 : LI) (c_800 : M3) (c_804 : LI) (c_809 : LI) (c_813 : M3) (c_817 : LI) (c_822 : B2) (c_827 : LI) (c_832 : B2) (i_836 : Int) (H_788 : View) (v_792 : Value) (fp_793 : Seg) (v_797 : Value) (fp_798 : Seg) (fp_801 : Seg) (v_805 : Value) (fp_806 : Seg) (v_810 : Value) (fp_811 : Seg) (fp_814 : Seg) (v_818 : Value) (fp_819 : Seg) (v_823 : Value) (fp_824 : Seg) (v_828 : Value) (fp_829 : Seg) (v_833 : Value) (fp_834 : Seg), s = (c_791, c_796, c_800, c_804, c_809, c_813, c_817, c_822, c_827, c_832, i_836) ∧ I_1209 (c_791, c_796, c_800, c_804, c_809, c_813, c_817, c_822, c_827, c_832, i_836) ∧ View.le H_19 H_788 ∧ OwnSl H_788 (cPair (cInt .i64) (cPair (cInt .i64) (cInt .i64))) 81 v_792 c_791 fp_793 ∧ OwnSl H_788 (cInt .i64) 32 v_797 c_796 fp_798 ∧ OwnMp H_788 kTri (cInt .i64) y_18_0_2v c_800 fp_801 ∧ OwnSl H_788 (cInt .i64) 3 v_805 c_804 fp_806 ∧ OwnSl H_788 (cInt .i64) 3 v_810 c_809 fp_811 ∧ OwnMp H_788 kTri (cInt .i64) y_18_0_5v c_813 fp_814 ∧ OwnSl H_788 (cInt .i64) 32 v_818 c_817 fp_819 ∧ OwnSl H_788 (cSl cBool) 28 v_823 c_822 fp_824 ∧ OwnSl H_788 (cInt .i64) 3 v_828 c_827 fp_829 ∧ OwnSl H_788 (cSl cBool) 28 v_833 c_832 fp_834 ∧ I64 i_836 ∧ St w0 H_788 ([(y_18_b, oc #[(pq y_18_0_b), i6 y_18_1, v_818, v_823, v_828, v_833] 39)] ++ ([(y_18_0_b, oc #[v_792, v_797, y_18_0_2v, v_805, v_810, y_18_0_5v] 79)] ++ (fp_793 ++ (fp_798 ++ (fp_801 ++ (fp_806 ++ (fp_811 ++ (fp_814 ++ (fp_819 ++ (fp_824 ++ (fp_829 ++ (fp_834 ++ L)))))))))))) w ∧ Fr 96 [(1, v_4), (2, i6 held_6), (7, (pq y_18_b)), (8, i6 i_836)] a) mu_1210 (y_18_0_0, y_18_0_1, y_18_0_2, y_18_0_3, y_18_0_4, y_18_0_5, y_18_2, y_18_3, y_18_4, y_18_5, 0) ?_ ?_
 exact fun a ha => ⟨y_18_0_0, y_18_0_1, y_18_0_2, y_18_0_3, y_18_0_4, y_18_0_5, y_18_2, y_18_3, y_18_4, y_18_5, 0, H_19, y_18_0_0v, y_18_0_0f, y_18_0_1v, y_18_0_1f, y_18_0_2f, y_18_0_3v, y_18_0_3f, y_18_0_4v, y_18_0_4f, y_18_0_5f, y_18_2v, y_18_2f, y_18_3v, y_18_3f, y_18_4v, y_18_4f, y_18_5v, y_18_5f, rfl, hI_1585, (View.le.refl _), h_23, h_25, h_27, h_29, h_31, h_33, h_36, h_38, h_40, h_42, (by unfold I64; omega), hS, ha.of_sub ⟨rfl, rfl, rfl, rfl, trivial⟩⟩
 clear hS hI_1585
 rintro _ a w ⟨c_791, c_796, c_800, c_804, c_809, c_813, c_817, c_822, c_827, c_832, i_836, H_788, v_792, fp_793, v_797, fp_798, fp_801, v_805, fp_806, v_810, fp_811, fp_814, v_818, fp_819, v_823, fp_824, v_828, fp_829, v_833, fp_834, rfl, hI, le_789, h_794, h_799, h_802, h_807, h_812, h_815, h_820, h_825, h_830, h_835, hr_837, hS, ha⟩
 refine in_frame ha ?_
 clear ha
 replace hV := hV _ hI
 clear hI
 refine WC.seq ?_
 refine WC.sr ?_
 refine WL.mv rfl rfl ?_
 refine WL.mv rfl rfl ?_
 have hl_1212 : Len script_3 := ((h_5.mono le_20).mono le_789).bound
 replace hV := hV hl_1212
 refine WL.run hS rfl rfl rfl (ex_len_sl Try.underlying22 rfl ((h_5.mono le_20).mono le_789)) ?_
 refine WL.run hS rfl rfl rfl (ex_lss rfl rfl) ?_
 refine WL.nx ?_
 refine WC.cond rfl ?_ ?_
 intro hc_1584
 replace hV := hV.1 (of_decide_eq_true hc_1584)
 refine WC.skip ?_
 refine WQ.next ?_
 obtain ⟨J_1420, hJ_1421, hV⟩ := hV
 refine WC.meet (fun a w => ∃ (c_1375 : N3) (c_1380 : LI) (c_1384 : M3) (c_1388 : LI) (c_1393 : LI) (c_1397 : M3) (c_1401 : LI) (c_1406 : B2) (c_1411 : LI) (c_1416 : B2) (H_1372 : View) (v_1376 : Value) (fp_1377 : Seg) (v_1381 : Value) (fp_1382 : Seg) (fp_1385 : Seg) (v_1389 : Value) (fp_1390 : Seg) (v_1394 : Value) (fp_1395 : Seg) (fp_1398 : Seg) (v_1402 : Value) (fp_1403 : Seg) (v_1407 : Value) (fp_1408 : Seg) (v_1412 : Value) (fp_1413 : Seg) (v_1417 : Value) (fp_1418 : Seg), J_1420 (c_1375, c_1380, c_1384, c_1388, c_1393, c_1397, c_1401, c_1406, c_1411, c_1416) ∧ View.le H_788 H_1372 ∧ OwnSl H_1372 (cPair (cInt .i64) (cPair (cInt .i64) (cInt .i64))) 81 v_1376 c_1375 fp_1377 ∧ OwnSl H_1372 (cInt .i64) 32 v_1381 c_1380 fp_1382 ∧ OwnMp H_1372 kTri (cInt .i64) y_18_0_2v c_1384 fp_1385 ∧ OwnSl H_1372 (cInt .i64) 3 v_1389 c_1388 fp_1390 ∧ OwnSl H_1372 (cInt .i64) 3 v_1394 c_1393 fp_1395 ∧ OwnMp H_1372 kTri (cInt .i64) y_18_0_5v c_1397 fp_1398 ∧ OwnSl H_1372 (cInt .i64) 32 v_1402 c_1401 fp_1403 ∧ OwnSl H_1372 (cSl cBool) 28 v_1407 c_1406 fp_1408 ∧ OwnSl H_1372 (cInt .i64) 3 v_1412 c_1411 fp_1413 ∧ OwnSl H_1372 (cSl cBool) 28 v_1417 c_1416 fp_1418 ∧ St w0 H_1372 ([(y_18_b, oc #[(pq y_18_0_b), i6 y_18_1, v_1402, v_1407, v_1412, v_1417] 39)] ++ ([(y_18_0_b, oc #[v_1376, v_1381, y_18_0_2v, v_1389, v_1394, y_18_0_5v] 79)] ++ (fp_1377 ++ (fp_1382 ++ (fp_1385 ++ (fp_1390 ++ (fp_1395 ++ (fp_1398 ++ (fp_1403 ++ (fp_1408 ++ (fp_1413 ++ (fp_1418 ++ L)))))))))))) w ∧ Fr 96 [(1, v_4), (2, i6 held_6), (7, (pq y_18_b)), (8, i6 i_836)] a) ?_ ?_
 rintro a w ⟨c_1375, c_1380, c_1384, c_1388, c_1393, c_1397, c_1401, c_1406, c_1411, c_1416, H_1372, v_1376, fp_1377, v_1381, fp_1382, fp_1385, v_1389, fp_1390, v_1394, fp_1395, fp_1398, v_1402, fp_1403, v_1407, fp_1408, v_1412, fp_1413, v_1417, fp_1418, hI, le_1373, h_1378, h_1383, h_1386, h_1391, h_1396, h_1399, h_1404, h_1409, h_1414, h_1419, hS, ha⟩
 refine in_frame ha ?_
 clear ha hV
 have hV := hJ_1421 _ hI
 clear hI hJ_1421
 refine WC.region ?_
 refine WL.mv rfl rfl ?_
 obtain ⟨hi_1581, hV⟩ := hV
 refine WL.run hS rfl rfl rfl (ex_add rfl rfl hi_1581) ?_
 refine WL.ma rfl rfl ?_
 refine WL.nil ?_
 replace hS := hS.f12.f12.f12.f12.f12.f12.f12.f12.f12.f12.f12.f12
 exact WQ.there fun a ha => ⟨(c_1375, c_1380, c_1384, c_1388, c_1393, c_1397, c_1401, c_1406, c_1411, c_1416, (i_836 + 1)), ⟨c_1375, c_1380, c_1384, c_1388, c_1393, c_1397, c_1401, c_1406, c_1411, c_1416, (i_836 + 1), H_1372, v_1376, fp_1377, v_1381, fp_1382, fp_1385, v_1389, fp_1390, v_1394, fp_1395, fp_1398, v_1402, fp_1403, v_1407, fp_1408, v_1412, fp_1413, v_1417, fp_1418, rfl, hV.1, (((View.le.refl _).trans le_789).trans le_1373), h_1378, h_1383, h_1386, h_1391, h_1396, h_1399, h_1404, h_1409, h_1414, h_1419, hi_1581, hS, ha.of_sub ⟨rfl, rfl, rfl, rfl, trivial⟩⟩, hV.2⟩
 clear hJ_1421
 refine WC.block ?_
 refine WC.sr ?_
 refine WL.mv rfl rfl ?_
 refine WL.mv rfl rfl ?_
 obtain ⟨hin_1422, hV⟩ := hV
 refine WL.runx hS rfl rfl rfl (ex_index Try.underlying22 Try.sizeOf30 rfl rfl ((h_5.mono le_20).mono le_789) hin_1422) ?_
 intro p_1423 hp_1424
 refine WL.runx hS rfl rfl rfl (ex_load_agg Try.isAgg30 Try.sizeOf30 rfl hp_1424) ?_
 rintro u_1425 ⟨_, rfl, hu⟩
 obtain ⟨_, _, rfl, hu_1426, hu_1427⟩ := hu
 obtain ⟨rfl, hr_1428⟩ := hu_1426
 replace hr_1428 := has_I64 hr_1428
 replace hV := hV hr_1428
 obtain ⟨_, _, rfl, hu_1429, hu_1430⟩ := hu_1427
 obtain ⟨rfl, hr_1431⟩ := hu_1429
 replace hr_1431 := has_I64 hr_1431
 replace hV := hV hr_1431
 obtain ⟨_, _, rfl, hu_1432, hu_1433⟩ := hu_1430
 obtain ⟨rfl, hr_1434⟩ := hu_1432
 replace hr_1434 := has_I64 hr_1434
 replace hV := hV hr_1434
 obtain ⟨_, _, rfl, hu_1435, hu_1436⟩ := hu_1433
 obtain ⟨rfl, hr_1437⟩ := hu_1435
 replace hr_1437 := has_I64 hr_1437
 replace hV := hV hr_1437
 obtain ⟨_, _, rfl, hu_1438, hu_1439⟩ := hu_1436
 obtain ⟨v_1440, rfl, h_1441⟩ := hu_1438
 obtain ⟨v_1442, rfl, h_1443⟩ := hu_1439
 refine WL.alloc (arr := #[i6 0, i6 0, i6 0, i6 0, (.slice none 0 0), (.slice none 0 0)]) rfl Try.zeroValue30 rfl hS ?_
 clear hS
 intro b_1444 w hS
 refine WL.store_box (pre := []) (old := [i6 0, i6 0, i6 0, i6 0, (.slice none 0 0), (.slice none 0 0)]) (rst := []) (cs := [i6 ((ix script_3 i_836).1), i6 ((ix script_3 i_836).2.1), i6 ((ix script_3 i_836).2.2.1), i6 ((ix script_3 i_836).2.2.2.1), v_1440, v_1442]) (arr' := #[i6 ((ix script_3 i_836).1), i6 ((ix script_3 i_836).2.1), i6 ((ix script_3 i_836).2.2.1), i6 ((ix script_3 i_836).2.2.2.1), v_1440, v_1442]) Try.sizeOf30 rfl rfl rfl ⟨rfl, rfl, rfl, rfl, (IsSl.one h_1441), (IsSl.one h_1443), trivial⟩ rfl rfl rfl rfl hS ?_
 clear hS
 intro w hS
 refine WL.nx ?_
 refine WC.seq ?_
 refine WC.sr ?_
 refine WL.run hS rfl rfl rfl (ex_fieldAddr (o' := 0) Try.underlying30 rfl Try.sizeOf3 rfl rfl) ?_
 refine WL.run hS rfl rfl rfl (ex_load_box Try.isAgg3 rfl rfl) ?_
 refine WL.run hS rfl rfl rfl (ex_geq rfl rfl) ?_
 refine WL.nx ?_
 refine WC.sub (m := [(1, v_4), (2, i6 held_6), (7, (pq y_18_b)), (8, i6 i_836), (9, (pq b_1444)), (37, .bool (decide (10 ≤ (ix script_3 i_836).1)))]) ⟨rfl, rfl, rfl, rfl, rfl, rfl, trivial⟩ ?_
 refine WC.cond rfl ?_ ?_
 intro hc_1579
 replace hV := hV.1 (of_decide_eq_true hc_1579)
 refine WC.sr ?_
 refine WL.mv rfl rfl ?_
 refine WL.run hS rfl rfl rfl (ex_load_box_agg (cs := [i6 ((ix script_3 i_836).1), i6 ((ix script_3 i_836).2.1), i6 ((ix script_3 i_836).2.2.1), i6 ((ix script_3 i_836).2.2.2.1), v_1440, v_1442]) Try.isAgg30 Try.sizeOf30 rfl rfl rfl) ?_
 replace hS := hS.f13.f13.f13.f13.f13.f13.f13.f13.f13.f13.f13.f13
 refine WL.call rfl rfl rfl (enters0 (vs := [(pq y_18_b), .agg #[i6 ((ix script_3 i_836).1), i6 ((ix script_3 i_836).2.1), i6 ((ix script_3 i_836).2.2.1), i6 ((ix script_3 i_836).2.2.2.1), v_1440, v_1442]]) Try.call9 ⟨rfl, rfl, trivial⟩) (S_turned  h_794 h_799 h_802 h_807 h_812 h_815 hr_35 h_820 h_825 h_830 h_835 hr_1428 hr_1431 hr_1434 hr_1437 h_1441 h_1443 hS hV) ?_
 clear hV hS
 rintro _ w ⟨r_1449, c_1450, c_1454, m_1458, c_1461, c_1465, m_1469, c_1472, c_1476, c_1480, c_1484, v_1451, fp_1452, v_1455, fp_1456, fp_1459, v_1462, fp_1463, v_1466, fp_1467, fp_1470, v_1473, fp_1474, v_1477, fp_1478, v_1481, fp_1482, v_1485, fp_1486, H_1488, hV, rfl, le_1489, h_1453, h_1457, h_1460, h_1464, h_1468, h_1471, h_1475, h_1479, h_1483, h_1487, hS⟩
 refine ⟨_, rfl, ?_⟩
 refine WL.ma rfl rfl ?_
 refine WL.nx ?_
 replace hS := hS.f13.drop
 refine WC.seq ?_
 obtain ⟨J_1502, hJ_1503, hV⟩ := hV
 refine WC.meet (fun a w => ∃ (x_1501 : Bool), J_1502 x_1501 ∧ St w0 H_1488 ([(y_18_b, oc #[(pq y_18_0_b), i6 y_18_1, v_1473, v_1477, v_1481, v_1485] 39)] ++ ([(y_18_0_b, oc #[v_1451, v_1455, y_18_0_2v, v_1462, v_1466, y_18_0_5v] 79)] ++ (fp_1452 ++ (fp_1456 ++ (fp_1459 ++ (fp_1463 ++ (fp_1467 ++ (fp_1470 ++ (fp_1474 ++ (fp_1478 ++ (fp_1482 ++ (fp_1486 ++ L)))))))))))) w ∧ Fr 96 [(1, v_4), (2, i6 held_6), (7, (pq y_18_b)), (8, i6 i_836), (47, .bool x_1501)] a) ?_ ?_
 rintro a w ⟨x_1501, hI, hS, ha⟩
 refine in_frame ha ?_
 clear ha hV
 have hV := hJ_1503 _ hI
 clear hI hJ_1503
 refine WC.cond rfl ?_ ?_
 intro hc_1507
 replace hV := hV.1 hc_1507
 refine WC.sr ?_
 refine WL.ma rfl rfl ?_
 refine WL.nx ?_
 replace hS := hS.drop
 replace hS := hS.drop
 replace hS := hS.drop
 replace hS := hS.drop
 replace hS := hS.drop
 replace hS := hS.drop
 replace hS := hS.drop
 replace hS := hS.drop
 replace hS := hS.drop
 replace hS := hS.drop
 replace hS := hS.drop
 replace hS := hS.drop
 refine WC.ret ?_
 refine WQ.pass nofun ?_
 refine WQ.pass nofun ?_
 refine WQ.out nofun ?_
 refine WQ.pass nofun ?_
 refine WQ.pass nofun ?_
 refine WQ.out nofun ?_
 refine WQ.pass nofun ?_
 exact leave1 rfl rfl ⟨false, H_1488, hV, rfl, ((((View.le.refl _).trans le_20).trans le_789).trans le_1489), hS⟩
 intro hc_1507
 replace hV := hV.2 hc_1507
 refine WC.skip ?_
 refine WQ.next ?_
 refine WC.exit ?_
 refine WQ.pass nofun ?_
 refine WQ.hit ?_
 replace hS := hS.f12.f12.f12.f12.f12.f12.f12.f12.f12.f12.f12.f12
 exact WQ.there fun a ha => ⟨c_1450, c_1454, m_1458, c_1461, c_1465, m_1469, c_1472, c_1476, c_1480, c_1484, H_1488, v_1451, fp_1452, v_1455, fp_1456, fp_1459, v_1462, fp_1463, v_1466, fp_1467, fp_1470, v_1473, fp_1474, v_1477, fp_1478, v_1481, fp_1482, v_1485, fp_1486, hV, ((View.le.refl _).trans le_1489), h_1453, h_1457, h_1460, h_1464, h_1468, h_1471, h_1475, h_1479, h_1483, h_1487, hS, ha.of_sub ⟨rfl, rfl, rfl, rfl, trivial⟩⟩
 clear hJ_1503
 refine WC.region ?_
 refine WL.mv rfl rfl ?_
 refine WL.run hS rfl rfl rfl (ex_not rfl) ?_
 refine WL.mv rfl rfl ?_
 rcases Bool.eq_false_or_eq_true (!r_1449) with hg_1504 | hg_1504
 replace hV := hV.1 hg_1504
 refine WL.unguard rfl rfl hg_1504 ?_
 refine WL.mv rfl rfl ?_
 refine WL.unguard rfl rfl hg_1504 ?_
 obtain ⟨hi_1505, hV⟩ := hV
 refine WL.run hS rfl rfl rfl (ex_and rfl rfl hr_7 hi_1505) ?_
 refine WL.unguard rfl rfl hg_1504 ?_
 refine WL.run hS rfl rfl rfl (ex_gtr rfl rfl) ?_
 refine WL.run hS rfl rfl rfl (ex_pick_t rfl hg_1504 rfl) ?_
 refine WL.nil ?_
 replace hS := hS.f12.f12.f12.f12.f12.f12.f12.f12.f12.f12.f12.f12
 exact WQ.there fun a ha => ⟨decide (0 < (nat2 (· &&& ·) held_6 4)), hV, hS, ha.of_sub ⟨rfl, rfl, rfl, rfl, rfl, trivial⟩⟩
 replace hV := hV.2 hg_1504
 refine WL.skip_g rfl rfl rfl hg_1504 rfl rfl ?_
 refine WL.skip_g rfl rfl rfl hg_1504 rfl rfl ?_
 refine WL.skip_g rfl rfl rfl hg_1504 rfl rfl ?_
 refine WL.run hS rfl rfl rfl (ex_pick_f rfl hg_1504 rfl) ?_
 refine WL.nil ?_
 replace hS := hS.f12.f12.f12.f12.f12.f12.f12.f12.f12.f12.f12.f12
 exact WQ.there fun a ha => ⟨false, hV, hS, ha.of_sub ⟨rfl, rfl, rfl, rfl, rfl, trivial⟩⟩
 intro hc_1579
 replace hV := hV.2 (of_decide_eq_false hc_1579)
 refine WC.skip ?_
 refine WQ.next ?_
 refine WC.sr ?_
 refine WL.mv rfl rfl ?_
 refine WL.run hS rfl rfl rfl (ex_load_box_agg (cs := [i6 ((ix script_3 i_836).1), i6 ((ix script_3 i_836).2.1), i6 ((ix script_3 i_836).2.2.1), i6 ((ix script_3 i_836).2.2.2.1), v_1440, v_1442]) Try.isAgg30 Try.sizeOf30 rfl rfl rfl) ?_
 replace hS := hS.f13.f13.f13.f13.f13.f13.f13.f13.f13.f13.f13.f13
 refine WL.call rfl rfl rfl (enters0 (vs := [(pq y_18_b), .agg #[i6 ((ix script_3 i_836).1), i6 ((ix script_3 i_836).2.1), i6 ((ix script_3 i_836).2.2.1), i6 ((ix script_3 i_836).2.2.2.1), v_1440, v_1442]]) Try.call10 ⟨rfl, rfl, trivial⟩) (S_wmade  h_794 h_799 h_802 h_807 h_812 h_815 hr_35 h_820 h_825 h_830 h_835 hr_1428 hr_1431 hr_1434 hr_1437 h_1441 h_1443 hS hV) ?_
 clear hV hS
 rintro _ w ⟨r_1508, r_1510, r_1513, c_1514, c_1518, m_1522, m_1525, v_1511, v_1515, fp_1516, v_1519, fp_1520, fp_1523, fp_1526, H_1528, hV, rfl, le_1529, hr_1509, h_1512, h_1517, h_1521, h_1524, h_1527, hS⟩
 refine ⟨_, rfl, ?_⟩
 refine WL.mv rfl rfl ?_
 refine WL.run hS rfl rfl rfl (ex_extract rfl rfl) ?_
 refine WL.run hS rfl rfl rfl (ex_extract rfl rfl) ?_
 refine WL.run hS rfl rfl rfl (ex_extract rfl rfl) ?_
 refine WL.ma rfl rfl ?_
 refine WL.ma rfl rfl ?_
 refine WL.ma rfl rfl ?_
 refine WL.nx ?_
 refine WC.seq ?_
 refine WC.sr ?_
 refine WL.mv rfl rfl ?_
 refine WL.run hS rfl rfl rfl (ex_not rfl) ?_
 refine WL.nx ?_
 refine WC.sub (m := [(1, v_4), (2, i6 held_6), (7, (pq y_18_b)), (8, i6 i_836), (9, (pq b_1444)), (11, i6 r_1508), (12, v_1511), (56, .bool (!r_1513))]) ⟨rfl, rfl, rfl, rfl, rfl, rfl, rfl, rfl, trivial⟩ ?_
 refine WC.cond rfl ?_ ?_
 intro hc_1578
 replace hV := hV.1 hc_1578
 refine WC.exit ?_
 refine WQ.pass nofun ?_
 refine WQ.hit ?_
 replace hS := hS.f13.drop
 replace hS := hS.f12.f12.f12.f12.f12.f12.f12.f12.f12.f12.f12.f12
 exact WQ.there fun a ha => ⟨c_1514, c_1518, m_1522, c_804, c_809, m_1525, c_817, c_822, c_827, c_832, H_1528, v_1515, fp_1516, v_1519, fp_1520, fp_1523, v_805, fp_806, v_810, fp_811, fp_1526, v_818, fp_819, v_823, fp_824, v_828, fp_829, v_833, fp_834, hV, ((View.le.refl _).trans le_1529), h_1517, h_1521, h_1524, (h_807.mono le_1529), (h_812.mono le_1529), h_1527, (h_820.mono le_1529), (h_825.mono le_1529), (h_830.mono le_1529), (h_835.mono le_1529), hS, ha.of_sub ⟨rfl, rfl, rfl, rfl, trivial⟩⟩
 intro hc_1578
 replace hV := hV.2 hc_1578
 refine WC.skip ?_
 refine WQ.next ?_
 refine WC.sr ?_
 refine WL.mv rfl rfl ?_
 refine WL.mv rfl rfl ?_
 refine WL.run hS rfl rfl rfl (ex_nilCheck rfl) ?_
 refine WL.run hS rfl rfl rfl (ex_fieldAddr (o' := 2) Try.underlying39 rfl Try.sizeOf35 rfl rfl) ?_
 refine WL.run hS rfl rfl rfl (ex_load_box Try.isAgg35 rfl rfl) ?_
 refine WL.mv rfl rfl ?_
 refine WL.build1 (c := (cInt .i64)) rfl Try.underlying35 Try.info32 rfl rfl (cInt_mk (I64.has hr_1509)) hS ?_
 clear hS
 intro v_1533 w fp_1534 h_1535 hS
 obtain ⟨hr_1536, hV⟩ := hV
 replace hS := hS.f10
 refine WL.append (c := (cInt .i64)) (xs := c_817) (ys := ([r_1508])) rfl Try.underlying35 Try.info32 rfl rfl rfl hS (h_820.mono le_1529) (h_1535.src hS.f2) hr_1536.1 hr_1536.2 ?_
 clear hS
 intro v_1537 w fp_1538 h_1539 hS
 refine WL.run hS rfl rfl rfl (ex_nilCheck rfl) ?_
 refine WL.run hS rfl rfl rfl (ex_fieldAddr (o' := 2) Try.underlying39 rfl Try.sizeOf35 rfl rfl) ?_
 replace hS := hS.f3
 refine WL.store_box (pre := [(pq y_18_0_b), i6 y_18_1]) (old := [v_818]) (rst := [v_823, v_828, v_833]) (cs := [v_1537]) (arr' := #[(pq y_18_0_b), i6 y_18_1, v_1537, v_823, v_828, v_833]) Try.sizeOf35 rfl rfl (congrArg Array.toList (cells_one (OwnSl.one h_1539))) ⟨(OwnSl.one h_1539), trivial⟩ rfl rfl rfl rfl hS ?_
 clear hS
 intro w hS
 refine WL.nx ?_
 refine WC.sub (m := [(1, v_4), (2, i6 held_6), (7, (pq y_18_b)), (8, i6 i_836), (9, (pq b_1444)), (12, v_1511)]) ⟨rfl, rfl, rfl, rfl, rfl, rfl, trivial⟩ ?_
 replace hS := hS.f3.drop
 refine WC.sr ?_
 refine WL.mv rfl rfl ?_
 refine WL.mv rfl rfl ?_
 refine WL.run hS rfl rfl rfl (ex_nilCheck rfl) ?_
 refine WL.run hS rfl rfl rfl (ex_fieldAddr (o' := 3) Try.underlying39 rfl Try.sizeOf37 rfl rfl) ?_
 refine WL.run hS rfl rfl rfl (ex_load_box Try.isAgg37 rfl rfl) ?_
 refine WL.mv rfl rfl ?_
 refine WL.build1 (c := (cSl cBool)) rfl Try.underlying37 Try.info28 rfl rfl (cSl_mk h_1512) hS ?_
 clear hS
 intro v_1542 w fp_1543 h_1544 hS
 obtain ⟨hr_1545, hV⟩ := hV
 replace hS := hS.f11
 refine WL.append (c := (cSl cBool)) (xs := c_822) (ys := ([r_1510])) rfl Try.underlying37 Try.info28 rfl rfl rfl hS (h_825.mono le_1529) (h_1544.src hS.f2) hr_1545.1 hr_1545.2 ?_
 clear hS
 intro v_1546 w fp_1547 h_1548 hS
 refine WL.run hS rfl rfl rfl (ex_nilCheck rfl) ?_
 refine WL.run hS rfl rfl rfl (ex_fieldAddr (o' := 3) Try.underlying39 rfl Try.sizeOf37 rfl rfl) ?_
 replace hS := hS.f3
 refine WL.store_box (pre := [(pq y_18_0_b), i6 y_18_1, v_1537]) (old := [v_823]) (rst := [v_828, v_833]) (cs := [v_1546]) (arr' := #[(pq y_18_0_b), i6 y_18_1, v_1537, v_1546, v_828, v_833]) Try.sizeOf37 rfl rfl (congrArg Array.toList (cells_one (OwnSl.one h_1548))) ⟨(OwnSl.one h_1548), trivial⟩ rfl rfl rfl rfl hS ?_
 clear hS
 intro w hS
 refine WL.nx ?_
 replace hS := hS.f3.drop
 refine WC.sr ?_
 refine WL.mv rfl rfl ?_
 refine WL.mv rfl rfl ?_
 refine WL.run hS rfl rfl rfl (ex_nilCheck rfl) ?_
 refine WL.run hS rfl rfl rfl (ex_fieldAddr (o' := 5) Try.underlying39 rfl Try.sizeOf37 rfl rfl) ?_
 refine WL.run hS rfl rfl rfl (ex_load_box Try.isAgg37 rfl rfl) ?_
 refine WL.mv rfl rfl ?_
 refine WL.build1 (c := (cSl cBool)) rfl Try.underlying37 Try.info28 rfl rfl (cSl_mk h_1512) hS ?_
 clear hS
 intro v_1551 w fp_1552 h_1553 hS
 obtain ⟨hr_1554, hV⟩ := hV
 replace hS := hS.f13
 refine WL.append (c := (cSl cBool)) (xs := c_832) (ys := ([r_1510])) rfl Try.underlying37 Try.info28 rfl rfl rfl hS (h_835.mono le_1529) (h_1553.src hS.f2) hr_1554.1 hr_1554.2 ?_
 clear hS
 intro v_1555 w fp_1556 h_1557 hS
 refine WL.run hS rfl rfl rfl (ex_nilCheck rfl) ?_
 refine WL.run hS rfl rfl rfl (ex_fieldAddr (o' := 5) Try.underlying39 rfl Try.sizeOf37 rfl rfl) ?_
 replace hS := hS.f3
 refine WL.store_box (pre := [(pq y_18_0_b), i6 y_18_1, v_1537, v_1546, v_828]) (old := [v_833]) (rst := []) (cs := [v_1555]) (arr' := #[(pq y_18_0_b), i6 y_18_1, v_1537, v_1546, v_828, v_1555]) Try.sizeOf37 rfl rfl (congrArg Array.toList (cells_one (OwnSl.one h_1557))) ⟨(OwnSl.one h_1557), trivial⟩ rfl rfl rfl rfl hS ?_
 clear hS
 intro w hS
 refine WL.nx ?_
 refine WC.sub (m := [(1, v_4), (2, i6 held_6), (7, (pq y_18_b)), (8, i6 i_836), (9, (pq b_1444))]) ⟨rfl, rfl, rfl, rfl, rfl, trivial⟩ ?_
 replace hS := hS.f3.drop
 refine WC.sr ?_
 refine WL.mv rfl rfl ?_
 replace hS := hS.f13
 refine WL.run hS rfl rfl rfl (ex_load_box_agg (cs := [i6 ((ix script_3 i_836).1), i6 ((ix script_3 i_836).2.1), i6 ((ix script_3 i_836).2.2.1), i6 ((ix script_3 i_836).2.2.2.1), v_1440, v_1442]) Try.isAgg30 Try.sizeOf30 rfl rfl rfl) ?_
 refine WL.mv rfl rfl ?_
 replace hS := hS.f3.f13.f5.f6.f13.f13.f13.f13.f13.f13.f13.f13
 refine WL.call rfl rfl rfl (enters0 (vs := [(pq y_18_b), .agg #[i6 ((ix script_3 i_836).1), i6 ((ix script_3 i_836).2.1), i6 ((ix script_3 i_836).2.2.1), i6 ((ix script_3 i_836).2.2.2.1), v_1440, v_1442], i6 held_6]) Try.call11 ⟨rfl, rfl, rfl, trivial⟩) (S_looks  h_1517 h_1521 h_1524 (h_807.mono le_1529) (h_812.mono le_1529) h_1527 hr_35 h_1539 h_1548 (h_830.mono le_1529) h_1557 hr_1428 hr_1431 hr_1434 hr_1437 (h_1441.mono le_1529) (h_1443.mono le_1529) hr_7 hS hV) ?_
 clear hV hS
 rintro _ w ⟨r_1559, c_1560, c_1564, m_1568, m_1571, v_1561, fp_1562, v_1565, fp_1566, fp_1569, fp_1572, hV, rfl, h_1563, h_1567, h_1570, h_1573, hS⟩
 refine ⟨_, rfl, ?_⟩
 refine WL.ma rfl rfl ?_
 refine WL.nx ?_
 replace hS := hS.f13.drop
 refine WC.sr ?_
 refine WL.mv rfl rfl ?_
 refine WL.run hS rfl rfl rfl (ex_not rfl) ?_
 refine WL.nx ?_
 refine WC.cond rfl ?_ ?_
 intro hc_1577
 replace hV := hV.1 hc_1577
 refine WC.sr ?_
 refine WL.ma rfl rfl ?_
 refine WL.nx ?_
 refine WC.sub (m := [(6, .bool false)]) ⟨rfl, trivial⟩ ?_
 replace hS := hS.drop
 replace hS := hS.drop
 replace hS := hS.f3.drop
 replace hS := hS.f3.drop
 replace hS := hS.f3.drop
 replace hS := hS.f3.drop
 replace hS := hS.f5.drop
 replace hS := hS.f3.drop
 replace hS := hS.f3.drop
 replace hS := hS.f3.drop
 replace hS := hS.drop
 replace hS := hS.drop
 refine WC.ret ?_
 refine WQ.out nofun ?_
 refine WQ.pass nofun ?_
 refine WQ.pass nofun ?_
 refine WQ.out nofun ?_
 refine WQ.pass nofun ?_
 exact leave1 rfl rfl ⟨false, H_1528, hV, rfl, ((((View.le.refl _).trans le_20).trans le_789).trans le_1529), hS⟩
 intro hc_1577
 replace hV := hV.2 hc_1577
 refine WC.skip ?_
 refine WQ.out nofun ?_
 replace hS := hS.f12.f12.f12.f12.f12.f12.f12.f12.f12.f12.f12.f12
 exact WQ.there fun a ha => ⟨c_1560, c_1564, m_1568, c_804, c_809, m_1571, (c_817 ++ ([r_1508])), (c_822 ++ ([r_1510])), c_827, (c_832 ++ ([r_1510])), H_1528, v_1561, fp_1562, v_1565, fp_1566, fp_1569, v_805, fp_806, v_810, fp_811, fp_1572, v_1537, fp_1538, v_1546, fp_1547, v_828, fp_829, v_1555, fp_1556, hV, ((View.le.refl _).trans le_1529), h_1563, h_1567, h_1570, (h_807.mono le_1529), (h_812.mono le_1529), h_1573, h_1539, h_1548, (h_830.mono le_1529), h_1557, hS, ha.of_sub ⟨rfl, rfl, rfl, rfl, trivial⟩⟩
 intro hc_1584
 replace hV := hV.2 (of_decide_eq_false hc_1584)
 refine WC.exit ?_
 refine WQ.pass nofun ?_
 refine WQ.pass nofun ?_
 refine WQ.hit ?_
 refine WQ.next ?_
 refine WC.sr ?_
 refine WL.mv rfl rfl ?_
 refine WL.mv rfl rfl ?_
 replace hS := hS.f12.f12.f12.f12.f12.f12.f12.f12.f12.f12.f12.f12
 refine WL.call rfl rfl rfl (enters0 (vs := [(pq y_18_b), i6 held_6]) Try.call12 ⟨rfl, rfl, trivial⟩) (S_whole  h_794 h_799 h_802 h_807 h_812 h_815 hr_35 h_820 h_825 h_830 h_835 hr_7 hS hV) ?_
 clear hV hS
 rintro _ w ⟨r_1582, hV, rfl, hS⟩
 refine ⟨_, rfl, ?_⟩
 refine WL.ma rfl rfl ?_
 refine WL.nx ?_
 refine WC.sub (m := [(6, .bool r_1582)]) ⟨rfl, trivial⟩ ?_
 replace hS := hS.drop
 replace hS := hS.drop
 replace hS := hS.drop
 replace hS := hS.drop
 replace hS := hS.drop
 replace hS := hS.drop
 replace hS := hS.drop
 replace hS := hS.drop
 replace hS := hS.drop
 replace hS := hS.drop
 replace hS := hS.drop
 replace hS := hS.drop
 refine WC.ret ?_
 exact leave1 rfl rfl ⟨r_1582, H_788, hV, rfl, (((View.le.refl _).trans le_20).trans le_789), hS⟩

theorem S_BddMeans {w0 : World} {H : View} {L : Seg} {w : World} {n_1 : Int} {v_4 : Value} {script_3 : List (Int × Int × Int × Int × LI × List Bool)} {Q : Bool → Prop} (hr_2 : I64 n_1) (h_5 : IsSl H (cPair (cInt .i64) (cPair (cInt .i64) (cPair (cInt .i64) (cPair (cInt .i64) (cPair (cSl (cInt .i64)) (cSl cBool)))))) v_4 script_3) (hS : St w0 H (L) w) (hV : V_BddMeans n_1 script_3 Q) :
 Calls Try.prog 3 #[i6 n_1, v_4] w fun e w' => ∃ (r1 : Bool), Q r1 ∧ e = .returned (.bool r1) ∧ St w0 H (L) w' := by
 unfold V_BddMeans at hV
 refine enter Try.func3 rfl Try.ntmps3 rfl (lk_args_cons (d := 0) (v := i6 n_1) rfl (lk_args_cons (d := 1) (v := v_4) rfl (lk_args_nil _))) ?_
 refine WC.sr ?_
 refine WL.ma rfl rfl ?_
 refine WL.nx ?_
 refine WC.sr ?_
 refine WL.mv rfl rfl ?_
 refine WL.mv rfl rfl ?_
 refine WL.call rfl rfl rfl (enters0 (vs := [i6 n_1, v_4, i6 1]) Try.call7 ⟨rfl, rfl, rfl, trivial⟩) (S_plays  hr_2 h_5 (by unfold I64; omega) hS hV) ?_
 clear hV hS
 rintro _ w ⟨r_6, H_7, hV, rfl, le_8, hS⟩
 refine ⟨_, rfl, ?_⟩
 refine WL.ma rfl rfl ?_
 refine WL.nx ?_
 refine WC.ret ?_
 exact leave1 rfl rfl ⟨r_6, hV, rfl, (hS.weaken ((View.le.refl _).trans le_8))⟩

theorem S_BddCounts {w0 : World} {H : View} {L : Seg} {w : World} {n_1 : Int} {v_4 : Value} {script_3 : List (Int × Int × Int × Int × LI × List Bool)} {Q : Bool → Prop} (hr_2 : I64 n_1) (h_5 : IsSl H (cPair (cInt .i64) (cPair (cInt .i64) (cPair (cInt .i64) (cPair (cInt .i64) (cPair (cSl (cInt .i64)) (cSl cBool)))))) v_4 script_3) (hS : St w0 H (L) w) (hV : V_BddCounts n_1 script_3 Q) :
 Calls Try.prog 4 #[i6 n_1, v_4] w fun e w' => ∃ (r1 : Bool), Q r1 ∧ e = .returned (.bool r1) ∧ St w0 H (L) w' := by
 unfold V_BddCounts at hV
 refine enter Try.func4 rfl Try.ntmps4 rfl (lk_args_cons (d := 0) (v := i6 n_1) rfl (lk_args_cons (d := 1) (v := v_4) rfl (lk_args_nil _))) ?_
 refine WC.sr ?_
 refine WL.ma rfl rfl ?_
 refine WL.nx ?_
 refine WC.sr ?_
 refine WL.mv rfl rfl ?_
 refine WL.mv rfl rfl ?_
 refine WL.call rfl rfl rfl (enters0 (vs := [i6 n_1, v_4, i6 2]) Try.call7 ⟨rfl, rfl, rfl, trivial⟩) (S_plays  hr_2 h_5 (by unfold I64; omega) hS hV) ?_
 clear hV hS
 rintro _ w ⟨r_6, H_7, hV, rfl, le_8, hS⟩
 refine ⟨_, rfl, ?_⟩
 refine WL.ma rfl rfl ?_
 refine WL.nx ?_
 refine WC.ret ?_
 exact leave1 rfl rfl ⟨r_6, hV, rfl, (hS.weaken ((View.le.refl _).trans le_8))⟩

theorem S_BddSizes {w0 : World} {H : View} {L : Seg} {w : World} {n_1 : Int} {v_4 : Value} {script_3 : List (Int × Int × Int × Int × LI × List Bool)} {Q : Bool → Prop} (hr_2 : I64 n_1) (h_5 : IsSl H (cPair (cInt .i64) (cPair (cInt .i64) (cPair (cInt .i64) (cPair (cInt .i64) (cPair (cSl (cInt .i64)) (cSl cBool)))))) v_4 script_3) (hS : St w0 H (L) w) (hV : V_BddSizes n_1 script_3 Q) :
 Calls Try.prog 5 #[i6 n_1, v_4] w fun e w' => ∃ (r1 : Bool), Q r1 ∧ e = .returned (.bool r1) ∧ St w0 H (L) w' := by
 unfold V_BddSizes at hV
 refine enter Try.func5 rfl Try.ntmps5 rfl (lk_args_cons (d := 0) (v := i6 n_1) rfl (lk_args_cons (d := 1) (v := v_4) rfl (lk_args_nil _))) ?_
 refine WC.sr ?_
 refine WL.ma rfl rfl ?_
 refine WL.nx ?_
 refine WC.sr ?_
 refine WL.mv rfl rfl ?_
 refine WL.mv rfl rfl ?_
 refine WL.call rfl rfl rfl (enters0 (vs := [i6 n_1, v_4, i6 4]) Try.call7 ⟨rfl, rfl, rfl, trivial⟩) (S_plays  hr_2 h_5 (by unfold I64; omega) hS hV) ?_
 clear hV hS
 rintro _ w ⟨r_6, H_7, hV, rfl, le_8, hS⟩
 refine ⟨_, rfl, ?_⟩
 refine WL.ma rfl rfl ?_
 refine WL.nx ?_
 refine WC.ret ?_
 exact leave1 rfl rfl ⟨r_6, hV, rfl, (hS.weaken ((View.le.refl _).trans le_8))⟩

theorem S_BddAll {w0 : World} {H : View} {L : Seg} {w : World} {n_1 : Int} {v_4 : Value} {script_3 : List (Int × Int × Int × Int × LI × List Bool)} {Q : Bool → Prop} (hr_2 : I64 n_1) (h_5 : IsSl H (cPair (cInt .i64) (cPair (cInt .i64) (cPair (cInt .i64) (cPair (cInt .i64) (cPair (cSl (cInt .i64)) (cSl cBool)))))) v_4 script_3) (hS : St w0 H (L) w) (hV : V_BddAll n_1 script_3 Q) :
 Calls Try.prog 6 #[i6 n_1, v_4] w fun e w' => ∃ (r1 : Bool), Q r1 ∧ e = .returned (.bool r1) ∧ St w0 H (L) w' := by
 unfold V_BddAll at hV
 refine enter Try.func6 rfl Try.ntmps6 rfl (lk_args_cons (d := 0) (v := i6 n_1) rfl (lk_args_cons (d := 1) (v := v_4) rfl (lk_args_nil _))) ?_
 refine WC.sr ?_
 refine WL.ma rfl rfl ?_
 refine WL.nx ?_
 refine WC.sr ?_
 refine WL.mv rfl rfl ?_
 refine WL.mv rfl rfl ?_
 refine WL.call rfl rfl rfl (enters0 (vs := [i6 n_1, v_4, i6 7]) Try.call7 ⟨rfl, rfl, rfl, trivial⟩) (S_plays  hr_2 h_5 (by unfold I64; omega) hS hV) ?_
 clear hV hS
 rintro _ w ⟨r_6, H_7, hV, rfl, le_8, hS⟩
 refine ⟨_, rfl, ?_⟩
 refine WL.ma rfl rfl ?_
 refine WL.nx ?_
 refine WC.ret ?_
 exact leave1 rfl rfl ⟨r_6, hV, rfl, (hS.weaken ((View.le.refl _).trans le_8))⟩

end Go.Proofs.Ytceipmldngeagaa
