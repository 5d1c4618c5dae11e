/- For each function: called, it does its work where its condition is so. Printed by program. -/
import Derived.Test.YtlhkfkecoekoeaaGreatDoorFacts
import Derived.Test.YtlhkfkecoekoeaaGreatDoorConds
import Derived.Test.YtlhkfkecoekoeaaGreatDoorShv
import Derived.Test.YtlhkfkecoekoeaaGreatDoorTold
import Derived.Test.YtlhkfkecoekoeaaGreatDoorWalks2
set_option linter.unusedVariables false
set_option linter.unusedSimpArgs false
set_option maxRecDepth 100000
set_option maxHeartbeats 1000000
namespace Go.Proofs.YtlhkfkecoekoeaaGreatDoor
open Go.Vc
theorem S_single {w0 : World} {H : View} {L : Seg} {w : World} {b_2 : Nat} {text_4 : Str} {xat_5 : Int} {deep_7 : Int} {heavy_9 : Bool} {E : Int → Int → Prop} {Q : Val → Int → Prop} (hr_6 : I64 xat_5) (hr_8 : I64 deep_7) (hN : GlobN w0 H) (hS : St w0 H ([(b_2, oc #[sv text_4, i6 xat_5, i6 deep_7, .bool heavy_9] 62)] ++ L) w) (hV : V_single text_4 xat_5 deep_7 heavy_9 E Q) :
 Calls Tryz.prog 66 #[(pq b_2)] w fun e w' => (∃ (r1 : Val) (r2 : Int) (u1 : Value) (H' : View), Q r1 r2 ∧ e = .returned (.agg #[u1]) ∧ View.le H H' ∧ IsW H' u1 r1 ∧ I64 r2 ∧ St w0 H' ([(b_2, oc #[sv text_4, i6 r2, i6 deep_7, .bool heavy_9] 62)] ++ L) w') ∨ (∃ e1 a1, E e1 a1 ∧ e = .panicked (faultC e1 a1) ∧ ∃ H1, View.le H H1 ∧ St w0 H1 L w') := by
 unfold V_single at hV
 refine enter Tryz.func66 rfl Tryz.ntmps66 rfl (lk_args_cons (d := 0) (v := (pq b_2)) rfl (lk_args_nil _)) (WC.sr (WL.alloc (arr := #[.nilIface]) rfl Tryz.zeroValue25 rfl hS ?_))
 clear hS
 intro b_10 w hS
 refine WL.nx (WC.seq (WC.quiet (C := St w0 H ([(b_10, oc #[.nilIface] 25)] ++ ([(b_2, oc #[sv text_4, i6 xat_5, i6 deep_7, .bool heavy_9] 62)] ++ L))) Tryz.mixed (by kernel_rfl) (hS.drawn _) ?_))
 clear hS w
 refine Wq.run rfl rfl rfl (ex_move rfl) (Wq.run rfl rfl rfl (ex_nilCheck rfl) (Wq.run rfl rfl rfl (ex_fieldAddr (o' := 0) Tryz.underlying62 rfl Tryz.sizeOf9 rfl rfl) (Wq.run rfl rfl rfl ((ex_load_box Tryz.isAgg9 rfl rfl).of (fun _ h => St.f2 h)) (Wq.run rfl rfl rfl (ex_move rfl) (Wq.run rfl rfl rfl (ex_nilCheck rfl) (Wq.run rfl rfl rfl (ex_fieldAddr (o' := 1) Tryz.underlying62 rfl Tryz.sizeOf3 rfl rfl) (Wq.run rfl rfl rfl ((ex_load_box Tryz.isAgg3 rfl rfl).of (fun _ h => St.f2 h)) ?_)))))))
 obtain ⟨hb_12, hV⟩ := hV
 refine Wq.run rfl rfl rfl (ex_s_lo Tryz.underlying9 rfl rfl hb_12) (Wq.run rfl rfl rfl (ex_assign rfl) (Wq.nil fun w hS => (WQ.next ?_)))
 obtain ⟨J_132, hJ_133, hV⟩ := hV
 refine WC.meet (fun a w => J_132 () ∧ St w0 H ([(b_2, oc #[sv text_4, i6 xat_5, i6 deep_7, .bool heavy_9] 62)] ++ ([(b_10, oc #[.nilIface] 25)] ++ L)) w ∧ Fr 185 [(0, (pq b_2)), (2, (pq b_10)), (3, sv (text_4.drop xat_5.toNat))] a) ?_ ?_
 rintro a w ⟨hI, hS, ha⟩
 refine in_frame ha ?_
 clear ha hV
 have hV := hJ_133 _ hI
 clear hI hJ_133
 refine WC.sr (WL.mv rfl rfl (WL.call rfl rfl rfl (enters0 (vs := [sv (text_4.drop xat_5.toNat), sv ([45] : Str)]) Tryz.call57 ⟨rfl, rfl, trivial⟩) (S_hasPre  hS hV) ?_))
 clear hV hS
 rintro _ w ⟨r_254, hV, rfl, hS⟩
 refine ⟨_, rfl, ?_⟩
 refine WL.ma rfl rfl (WL.nx ?_)
 obtain ⟨J_261, hJ_262, hV⟩ := hV
 refine WC.meet (fun a w => ∃ (c_259 : Int), J_261 c_259 ∧ I64 c_259 ∧ St w0 H ([(b_2, oc #[sv text_4, i6 c_259, i6 deep_7, .bool heavy_9] 62)] ++ ([(b_10, oc #[.nilIface] 25)] ++ L)) w ∧ Fr 185 [(0, (pq b_2)), (2, (pq b_10)), (6, .bool r_254)] a) ?_ ?_
 rintro a w ⟨c_259, hI, hr_260, hS, ha⟩
 refine in_frame ha ?_
 clear ha hV
 have hV := hJ_262 _ hI
 clear hI hJ_262
 refine WC.sr (WL.mv rfl rfl (WL.call rfl rfl rfl (enters0 (vs := [(pq b_2)]) Tryz.call104 ⟨rfl, trivial⟩) (S_word hr_260 hr_8 hS hV) ?_))
 clear hV hS
 rintro _ w ⟨r_266, hV, rfl, hS⟩
 refine ⟨_, rfl, ?_⟩
 refine WL.ma rfl rfl (WL.nx ?_)
 obtain ⟨J_273, hJ_274, hV⟩ := hV
 refine WC.meet (fun a w => ∃ (c_271 : Int), J_273 c_271 ∧ I64 c_271 ∧ St w0 H ([(b_2, oc #[sv text_4, i6 c_271, i6 deep_7, .bool heavy_9] 62)] ++ ([(b_10, oc #[.nilIface] 25)] ++ L)) w ∧ Fr 185 [(0, (pq b_2)), (2, (pq b_10)), (6, .bool r_254), (7, sv r_266)] a) ?_ ?_
 rintro a w ⟨c_271, hI, hr_272, hS, ha⟩
 refine in_frame ha ?_
 clear ha hV
 have hV := hJ_274 _ hI
 clear hI hJ_274
 refine WC.seq ?_
 obtain ⟨J_283, hJ_284, hV⟩ := hV
 refine WC.meet (fun a w => ∃ (x_282 : Bool), J_283 x_282 ∧ St w0 H ([(b_2, oc #[sv text_4, i6 c_271, i6 deep_7, .bool heavy_9] 62)] ++ ([(b_10, oc #[.nilIface] 25)] ++ L)) w ∧ Fr 185 [(0, (pq b_2)), (2, (pq b_10)), (6, .bool r_254), (7, sv r_266), (118, .bool x_282)] a) ?_ ?_
 rintro a w ⟨x_282, hI, hS, ha⟩
 refine in_frame ha ?_
 clear ha hV
 have hV := hJ_284 _ hI
 clear hI hJ_284
 refine WC.cond rfl ?_ ?_
 intro hc_403
 replace hV := hV.1 hc_403
 refine WC.sr (WL.mv rfl rfl (WL.mv rfl rfl (WL.mv rfl rfl (WL.callP rfl rfl rfl (enters0 (vs := [(pq b_2), sv r_266, .bool r_254]) Tryz.call105 ⟨rfl, rfl, rfl, trivial⟩) (S_number hr_272 hr_8 hN hS hV) (by rintro _ w ⟨e_296, xat_297, hE_298, rfl, H_299, le_300, hS⟩; exact ⟨_, rfl, WQ.of fun a ha => And.intro ha.defers (.inr ⟨e_296, xat_297, hE_298, rfl, _, ((View.le.refl _).trans le_300), hS.drop⟩)⟩) ?_))))
 clear hV hS
 rintro _ w ⟨r_289, r_292, u_290, H_294, hV, rfl, le_295, h_291, hr_293, hS⟩
 refine ⟨_, rfl, ?_⟩
 replace hS := hS.f2
 refine WL.store_box (pre := []) (old := [.nilIface]) (rst := []) (cs := [u_290]) (arr' := #[u_290]) Tryz.sizeOf25 rfl rfl rfl ⟨(IsW.one h_291), trivial⟩ rfl rfl rfl rfl hS ?_
 clear hS
 intro w hS
 refine WL.nx (WC.ret (WQ.pass nofun ?_))
 have hl_301 := load_own_agg (P := Tryz.prog) (cs := [u_290]) Tryz.isAgg25 Tryz.sizeOf25 hS rfl
 replace hS := hS.drop
 exact leavec1 (il) rfl rfl hl_301 (.inl ⟨r_289, r_292, u_290, H_294, hV, rfl, ((View.le.refl _).trans le_295), h_291, hr_293, hS⟩)
 intro hc_403
 replace hV := hV.2 hc_403
 refine WC.skip (WQ.next ?_)
 obtain ⟨J_318, hJ_319, hV⟩ := hV
 refine WC.meet (fun a w => J_318 () ∧ St w0 H ([(b_2, oc #[sv text_4, i6 c_271, i6 deep_7, .bool heavy_9] 62)] ++ ([(b_10, oc #[.nilIface] 25)] ++ L)) w ∧ Fr 185 [(0, (pq b_2)), (2, (pq b_10)), (7, sv r_266)] a) ?_ ?_
 rintro a w ⟨hI, hS, ha⟩
 refine in_frame ha ?_
 clear ha hV
 have hV := hJ_319 _ hI
 clear hI hJ_319
 refine WC.seq (WC.sr (WL.mv rfl rfl (WL.nx (WC.block (WC.sr (WL.run hS rfl rfl rfl (ex_s_eql rfl rfl) (WL.ma rfl rfl ?_)))))))
 refine WL.nx ?_
 refine WC.cond rfl ?_ ?_
 intro hc_402
 replace hV := hV.1 (of_decide_eq_true hc_402)
 refine WC.sr (WL.mv rfl rfl (WL.run hS rfl rfl rfl (ex_nilCheck rfl) (WL.run hS rfl rfl rfl (ex_fieldAddr (o' := 1) Tryz.underlying62 rfl Tryz.sizeOf3 rfl rfl) (WL.run hS rfl rfl rfl (ex_load_box Tryz.isAgg3 rfl rfl) (WL.mv rfl rfl ?_)))))
 obtain ⟨hl_336, hV⟩ := hV
 refine WL.run hS rfl rfl rfl (ex_s_len Tryz.underlying9 rfl) ?_
 obtain ⟨hi_338, hV⟩ := hV
 refine WL.run hS rfl rfl rfl (ex_add rfl rfl hi_338) (WL.run hS rfl rfl rfl (ex_nilCheck rfl) (WL.run hS rfl rfl rfl (ex_fieldAddr (o' := 1) Tryz.underlying62 rfl Tryz.sizeOf3 rfl rfl) (WL.store_box (pre := [sv text_4]) (old := [i6 c_271]) (rst := [i6 deep_7, .bool heavy_9]) (cs := [i6 (c_271 + (r_266.length : Int))]) (arr' := #[sv text_4, i6 (c_271 + (r_266.length : Int)), i6 deep_7, .bool heavy_9]) Tryz.sizeOf3 rfl rfl rfl ⟨rfl, trivial⟩ rfl rfl rfl rfl hS ?_)))
 clear hS
 intro w hS
 refine WL.nx (WC.sub (m := [(2, (pq b_10))]) ⟨rfl, trivial⟩ (WC.sr (WL.run hS rfl rfl rfl (ex_build (vs := []) (zc := #[.nilIface]) (cs := #[.nilIface]) (places := #[(0, 1)]) Tryz.underlying25 Tryz.zeroValue25 (fun w => by simp [Tryz.sizeOf23]) rfl trivial rfl (by simp [Instr.fill, cells_int, cells_bool, cells_iface, cells_niliface, cells_slice, str_cells])) ?_)))
 replace hS := hS.f2
 refine WL.store_box (pre := []) (old := [.nilIface]) (rst := []) (cs := [.nilIface]) (arr' := #[.nilIface]) Tryz.sizeOf25 rfl rfl rfl ⟨rfl, trivial⟩ rfl rfl rfl rfl hS ?_
 clear hS
 intro w hS
 refine WL.nx (WC.ret (WQ.out nofun (WQ.pass nofun ?_)))
 have hl_339 := load_own_agg (P := Tryz.prog) (cs := [.nilIface]) Tryz.isAgg25 Tryz.sizeOf25 hS rfl
 replace hS := hS.drop
 exact leavec1 (il) rfl rfl hl_339 (.inl ⟨Val.nil, (c_271 + (r_266.length : Int)), .nilIface, H, hV, rfl, (View.le.refl _), IsW.nil, hi_338, hS⟩)
 intro hc_402
 replace hV := hV.2 (of_decide_eq_false hc_402)
 obtain ⟨J_342, hJ_343, hV⟩ := hV
 refine WC.meet (fun a w => ∃ (x_341 : Bool), J_342 x_341 ∧ St w0 H ([(b_2, oc #[sv text_4, i6 c_271, i6 deep_7, .bool heavy_9] 62)] ++ ([(b_10, oc #[.nilIface] 25)] ++ L)) w ∧ Fr 185 [(0, (pq b_2)), (2, (pq b_10)), (7, sv r_266), (148, .bool x_341)] a) ?_ ?_
 rintro a w ⟨x_341, hI, hS, ha⟩
 refine in_frame ha ?_
 clear ha hV
 have hV := hJ_343 _ hI
 clear hI hJ_343
 refine WC.cond rfl ?_ ?_
 intro hc_401
 replace hV := hV.1 hc_401
 refine WC.sr (WL.mv rfl rfl (WL.run hS rfl rfl rfl (ex_nilCheck rfl) (WL.run hS rfl rfl rfl (ex_fieldAddr (o' := 1) Tryz.underlying62 rfl Tryz.sizeOf3 rfl rfl) (WL.run hS rfl rfl rfl (ex_load_box Tryz.isAgg3 rfl rfl) (WL.mv rfl rfl ?_)))))
 obtain ⟨hl_345, hV⟩ := hV
 refine WL.run hS rfl rfl rfl (ex_s_len Tryz.underlying9 rfl) ?_
 obtain ⟨hi_347, hV⟩ := hV
 refine WL.run hS rfl rfl rfl (ex_add rfl rfl hi_347) (WL.run hS rfl rfl rfl (ex_nilCheck rfl) (WL.run hS rfl rfl rfl (ex_fieldAddr (o' := 1) Tryz.underlying62 rfl Tryz.sizeOf3 rfl rfl) (WL.store_box (pre := [sv text_4]) (old := [i6 c_271]) (rst := [i6 deep_7, .bool heavy_9]) (cs := [i6 (c_271 + (r_266.length : Int))]) (arr' := #[sv text_4, i6 (c_271 + (r_266.length : Int)), i6 deep_7, .bool heavy_9]) Tryz.sizeOf3 rfl rfl rfl ⟨rfl, trivial⟩ rfl rfl rfl rfl hS ?_)))
 clear hS
 intro w hS
 refine WL.nx (WC.sub (m := [(2, (pq b_10)), (7, sv r_266)]) ⟨rfl, rfl, trivial⟩ (WC.sr (WL.mv rfl rfl (WL.run hS rfl rfl rfl (ex_s_eql rfl rfl) (WL.call rfl rfl rfl (enters0 (vs := [.bool (decide (r_266 = ([116, 114, 117, 101] : Str)))]) Tryz.call106 ⟨rfl, trivial⟩) (S_Truth  hS hV) ?_)))))
 clear hV hS
 rintro _ w ⟨r_348, u_349, H_351, hV, rfl, le_352, h_350, hS⟩
 refine ⟨_, rfl, ?_⟩
 replace hS := hS.f2
 refine WL.store_box (pre := []) (old := [.nilIface]) (rst := []) (cs := [u_349]) (arr' := #[u_349]) Tryz.sizeOf25 rfl rfl rfl ⟨(IsW.one h_350), trivial⟩ rfl rfl rfl rfl hS ?_
 clear hS
 intro w hS
 refine WL.nx (WC.ret (WQ.out nofun (WQ.pass nofun ?_)))
 have hl_353 := load_own_agg (P := Tryz.prog) (cs := [u_349]) Tryz.isAgg25 Tryz.sizeOf25 hS rfl
 replace hS := hS.drop
 exact leavec1 (il) rfl rfl hl_353 (.inl ⟨r_348, (c_271 + (r_266.length : Int)), u_349, H_351, hV, rfl, ((View.le.refl _).trans le_352), h_350, hi_347, hS⟩)
 intro hc_401
 replace hV := hV.2 hc_401
 refine WC.skip (WQ.out nofun (WQ.next ?_))
 obtain ⟨J_372, hJ_373, hV⟩ := hV
 refine WC.meet (fun a w => J_372 () ∧ St w0 H ([(b_2, oc #[sv text_4, i6 c_271, i6 deep_7, .bool heavy_9] 62)] ++ ([(b_10, oc #[.nilIface] 25)] ++ L)) w ∧ Fr 185 [(0, (pq b_2)), (2, (pq b_10)), (7, sv r_266)] a) ?_ ?_
 rintro a w ⟨hI, hS, ha⟩
 refine in_frame ha ?_
 clear ha hV
 have hV := hJ_373 _ hI
 clear hI hJ_373
 refine WC.sr (WL.mv rfl rfl (WL.run hS rfl rfl rfl (ex_nilCheck rfl) (WL.run hS rfl rfl rfl (ex_fieldAddr (o' := 1) Tryz.underlying62 rfl Tryz.sizeOf3 rfl rfl) (WL.run hS rfl rfl rfl (ex_load_box Tryz.isAgg3 rfl rfl) (WL.mv rfl rfl ?_)))))
 obtain ⟨hl_392, hV⟩ := hV
 refine WL.run hS rfl rfl rfl (ex_s_len Tryz.underlying9 rfl) ?_
 obtain ⟨hi_394, hV⟩ := hV
 refine WL.run hS rfl rfl rfl (ex_add rfl rfl hi_394) (WL.run hS rfl rfl rfl (ex_nilCheck rfl) (WL.run hS rfl rfl rfl (ex_fieldAddr (o' := 1) Tryz.underlying62 rfl Tryz.sizeOf3 rfl rfl) (WL.store_box (pre := [sv text_4]) (old := [i6 c_271]) (rst := [i6 deep_7, .bool heavy_9]) (cs := [i6 (c_271 + (r_266.length : Int))]) (arr' := #[sv text_4, i6 (c_271 + (r_266.length : Int)), i6 deep_7, .bool heavy_9]) Tryz.sizeOf3 rfl rfl rfl ⟨rfl, trivial⟩ rfl rfl rfl rfl hS ?_)))
 clear hS
 intro w hS
 refine WL.nx (WC.sub (m := [(2, (pq b_10)), (7, sv r_266)]) ⟨rfl, rfl, trivial⟩ (WC.sr (WL.mv rfl rfl (WL.call rfl rfl rfl (enters0 (vs := [sv r_266]) Tryz.call108 ⟨rfl, trivial⟩) (S_Atom  hS hV) ?_))))
 clear hV hS
 rintro _ w ⟨r_395, u_396, H_398, hV, rfl, le_399, h_397, hS⟩
 refine ⟨_, rfl, ?_⟩
 replace hS := hS.f2
 refine WL.store_box (pre := []) (old := [.nilIface]) (rst := []) (cs := [u_396]) (arr' := #[u_396]) Tryz.sizeOf25 rfl rfl rfl ⟨(IsW.one h_397), trivial⟩ rfl rfl rfl rfl hS ?_
 clear hS
 intro w hS
 refine WL.nx (WC.ret ?_)
 have hl_400 := load_own_agg (P := Tryz.prog) (cs := [u_396]) Tryz.isAgg25 Tryz.sizeOf25 hS rfl
 replace hS := hS.drop
 exact leavec1 (il) rfl rfl hl_400 (.inl ⟨r_395, (c_271 + (r_266.length : Int)), u_396, H_398, hV, rfl, ((View.le.refl _).trans le_399), h_397, hi_394, hS⟩)
 clear hJ_373
 refine WC.block (WC.sr (WL.mv rfl rfl (WL.call rfl rfl rfl (enters0 (vs := [sv r_266]) Tryz.call107 ⟨rfl, trivial⟩) (S_Reserved  hS hV) ?_)))
 clear hV hS
 rintro _ w ⟨r_374, hV, rfl, hS⟩
 refine ⟨_, rfl, ?_⟩
 refine WL.ma rfl rfl (WL.nx ?_)
 refine WC.cond rfl ?_ ?_
 intro hc_391
 replace hV := hV.1 hc_391
 refine WC.region (WL.mv rfl rfl (WL.callP rfl rfl rfl (enters0 (vs := [(pq b_2), i6 (1 : Int)]) Tryz.call25 ⟨rfl, rfl, trivial⟩) (S_fail hr_272 hr_8 (show I64 (1 : Int) by unfold I64; omega) hS hV) (by rintro _ w ⟨e_377, xat_378, hE_379, rfl, H_380, le_381, hS⟩; exact ⟨_, rfl, WQ.of fun a ha => And.intro ha.defers (.inr ⟨e_377, xat_378, hE_379, rfl, _, ((View.le.refl _).trans le_381), hS.drop⟩)⟩) ?_))
 clear hV hS
 rintro _ w ⟨hV, rfl, hS⟩
 refine ⟨_, rfl, ?_⟩
 refine WL.nil (WQ.out nofun ?_)
 replace hS := hS.f2.f2
 exact WQ.there fun a ha => ⟨hV, hS, ha.of_sub ⟨rfl, rfl, rfl, trivial⟩⟩
 intro hc_391
 replace hV := hV.2 hc_391
 refine WC.sr (WL.mv rfl rfl ?_)
 obtain ⟨hl_382, hV⟩ := hV
 refine WL.run hS rfl rfl rfl (ex_s_len Tryz.underlying9 rfl) (WL.run hS rfl rfl rfl (ex_gtr rfl rfl) (WL.ma rfl rfl (WL.nx ?_)))
 refine WC.cond rfl ?_ ?_
 intro hc_390
 replace hV := hV.1 (of_decide_eq_true hc_390)
 refine WC.region (WL.mv rfl rfl (WL.callP rfl rfl rfl (enters0 (vs := [(pq b_2), i6 (5 : Int)]) Tryz.call25 ⟨rfl, rfl, trivial⟩) (S_fail hr_272 hr_8 (show I64 (5 : Int) by unfold I64; omega) hS hV) (by rintro _ w ⟨e_385, xat_386, hE_387, rfl, H_388, le_389, hS⟩; exact ⟨_, rfl, WQ.of fun a ha => And.intro ha.defers (.inr ⟨e_385, xat_386, hE_387, rfl, _, ((View.le.refl _).trans le_389), hS.drop⟩)⟩) ?_))
 clear hV hS
 rintro _ w ⟨hV, rfl, hS⟩
 refine ⟨_, rfl, ?_⟩
 refine WL.nil (WQ.out nofun ?_)
 replace hS := hS.f2.f2
 exact WQ.there fun a ha => ⟨hV, hS, ha.of_sub ⟨rfl, rfl, rfl, trivial⟩⟩
 intro hc_390
 replace hV := hV.2 (of_decide_eq_false hc_390)
 refine WC.skip (WQ.out nofun ?_)
 replace hS := hS.f2.f2
 exact WQ.there fun a ha => ⟨hV, hS, ha.of_sub ⟨rfl, rfl, rfl, trivial⟩⟩
 clear hJ_343
 refine WC.sr (WL.run hS rfl rfl rfl (ex_s_eql rfl rfl) (WL.ma rfl rfl (WL.nx ?_)))
 refine WC.cond rfl ?_ ?_
 intro hc_344
 replace hV := hV.1 (of_decide_eq_true hc_344)
 refine WC.skip ?_
 replace hS := hS.f2.f2
 exact WQ.there fun a ha => ⟨decide (r_266 = ([116, 114, 117, 101] : Str)), hV, hS, ha.of_sub ⟨rfl, rfl, rfl, rfl, trivial⟩⟩
 intro hc_344
 replace hV := hV.2 (of_decide_eq_false hc_344)
 refine WC.region (WL.run hS rfl rfl rfl (ex_s_eql rfl rfl) (WL.ma rfl rfl (WL.nil ?_)))
 replace hS := hS.f2.f2
 exact WQ.there fun a ha => ⟨decide (r_266 = ([102, 97, 108, 115, 101] : Str)), hV, hS, ha.of_sub ⟨rfl, rfl, rfl, rfl, trivial⟩⟩
 clear hJ_319
 obtain ⟨J_324, hJ_325, hV⟩ := hV
 refine WC.meet (fun a w => ∃ (x_323 : Bool), J_324 x_323 ∧ St w0 H ([(b_2, oc #[sv text_4, i6 c_271, i6 deep_7, .bool heavy_9] 62)] ++ ([(b_10, oc #[.nilIface] 25)] ++ L)) w ∧ Fr 185 [(0, (pq b_2)), (2, (pq b_10)), (7, sv r_266), (132, .bool x_323)] a) ?_ ?_
 rintro a w ⟨x_323, hI, hS, ha⟩
 refine in_frame ha ?_
 clear ha hV
 have hV := hJ_325 _ hI
 clear hI hJ_325
 refine WC.cond rfl ?_ ?_
 intro hc_335
 replace hV := hV.1 hc_335
 refine WC.region (WL.mv rfl rfl (WL.callP rfl rfl rfl (enters0 (vs := [(pq b_2), i6 (1 : Int)]) Tryz.call25 ⟨rfl, rfl, trivial⟩) (S_fail hr_272 hr_8 (show I64 (1 : Int) by unfold I64; omega) hS hV) (by rintro _ w ⟨e_330, xat_331, hE_332, rfl, H_333, le_334, hS⟩; exact ⟨_, rfl, WQ.of fun a ha => And.intro ha.defers (.inr ⟨e_330, xat_331, hE_332, rfl, _, ((View.le.refl _).trans le_334), hS.drop⟩)⟩) ?_))
 clear hV hS
 rintro _ w ⟨hV, rfl, hS⟩
 refine ⟨_, rfl, ?_⟩
 refine WL.nil ?_
 replace hS := hS.f2.f2
 exact WQ.there fun a ha => ⟨hV, hS, ha.of_sub ⟨rfl, rfl, rfl, trivial⟩⟩
 intro hc_335
 replace hV := hV.2 hc_335
 refine WC.skip ?_
 replace hS := hS.f2.f2
 exact WQ.there fun a ha => ⟨hV, hS, ha.of_sub ⟨rfl, rfl, rfl, trivial⟩⟩
 clear hJ_325
 refine WC.region (WL.mv rfl rfl (WL.run hS rfl rfl rfl (ex_s_eql rfl rfl) (WL.mv rfl rfl ?_)))
 rcases Bool.eq_false_or_eq_true (decide (r_266 = ([] : Str))) with hg_326 | hg_326
 replace hV := hV.1 (of_decide_eq_true hg_326)
 refine WL.skip_g rfl rfl rfl hg_326 rfl rfl (WL.run hS rfl rfl rfl (ex_pick_t rfl hg_326 rfl) (WL.mv rfl rfl (WL.skip_g rfl rfl rfl rfl rfl rfl (WL.skip_g rfl rfl rfl rfl rfl rfl (WL.skip_g rfl rfl rfl rfl rfl rfl (WL.run hS rfl rfl rfl (ex_pick_t rfl rfl rfl) (WL.nil ?_)))))))
 replace hS := hS.f2.f2
 exact WQ.there fun a ha => ⟨true, hV, hS, ha.of_sub ⟨rfl, rfl, rfl, rfl, trivial⟩⟩
 replace hV := hV.2 (of_decide_eq_false hg_326)
 refine WL.unguard rfl rfl hg_326 (WL.mv rfl rfl (WL.run hS rfl rfl rfl (ex_pick_f rfl hg_326 rfl) (WL.mv rfl rfl ?_)))
 rcases Bool.eq_false_or_eq_true r_254 with hg_327 | hg_327
 replace hV := hV.1 hg_327
 refine WL.skip_g rfl rfl rfl hg_327 rfl rfl (WL.skip_g rfl rfl rfl hg_327 rfl rfl (WL.skip_g rfl rfl rfl hg_327 rfl rfl (WL.run hS rfl rfl rfl (ex_pick_t rfl hg_327 rfl) (WL.nil ?_))))
 replace hS := hS.f2.f2
 exact WQ.there fun a ha => ⟨true, hV, hS, ha.of_sub ⟨rfl, rfl, rfl, rfl, trivial⟩⟩
 replace hV := hV.2 hg_327
 refine WL.unguard rfl rfl hg_327 (WL.mv rfl rfl (WL.unguard rfl rfl hg_327 ?_))
 obtain ⟨hin_328, hV⟩ := hV
 refine WL.run hS rfl rfl rfl (ex_s_index Tryz.underlying9 rfl rfl hin_328) (WL.unguard rfl rfl hg_327 (WL.run hS rfl rfl rfl (ex_eql rfl rfl) (WL.run hS rfl rfl rfl (ex_pick_f rfl hg_327 rfl) (WL.nil ?_))))
 replace hS := hS.f2.f2
 exact WQ.there fun a ha => ⟨decide ((byte r_266 (0 : Int)) = (95 : Int)), hV, hS, ha.of_sub ⟨rfl, rfl, rfl, rfl, trivial⟩⟩
 clear hJ_284
 refine WC.region (WL.mv rfl rfl (WL.run hS rfl rfl rfl (ex_s_neq rfl rfl) (WL.mv rfl rfl ?_)))
 rcases Bool.eq_false_or_eq_true (decide (r_266 ≠ ([] : Str))) with hg_285 | hg_285
 replace hV := hV.1 (of_decide_eq_true hg_285)
 refine WL.unguard rfl rfl hg_285 (WL.mv rfl rfl (WL.unguard rfl rfl hg_285 ?_))
 obtain ⟨hin_286, hV⟩ := hV
 refine WL.run hS rfl rfl rfl (ex_s_index Tryz.underlying9 rfl rfl hin_286) (WL.unguard rfl rfl hg_285 (WL.run hS rfl rfl rfl (ex_geq rfl rfl) (WL.run hS rfl rfl rfl (ex_pick_t rfl hg_285 rfl) (WL.mv rfl rfl ?_))))
 rcases Bool.eq_false_or_eq_true (decide ((48 : Int) ≤ (byte r_266 (0 : Int)))) with hg_287 | hg_287
 replace hV := hV.1 (of_decide_eq_true hg_287)
 refine WL.unguard rfl rfl hg_287 (WL.mv rfl rfl (WL.unguard rfl rfl hg_287 ?_))
 obtain ⟨hin_288, hV⟩ := hV
 refine WL.run hS rfl rfl rfl (ex_s_index Tryz.underlying9 rfl rfl hin_288) (WL.unguard rfl rfl hg_287 (WL.run hS rfl rfl rfl (ex_leq rfl rfl) (WL.run hS rfl rfl rfl (ex_pick_t rfl hg_287 rfl) (WL.nil ?_))))
 replace hS := hS.f2.f2
 exact WQ.there fun a ha => ⟨decide ((byte r_266 (0 : Int)) ≤ (57 : Int)), hV, hS, ha.of_sub ⟨rfl, rfl, rfl, rfl, rfl, trivial⟩⟩
 replace hV := hV.2 (of_decide_eq_false hg_287)
 refine WL.skip_g rfl rfl rfl hg_287 rfl rfl (WL.skip_g rfl rfl rfl hg_287 rfl rfl (WL.skip_g rfl rfl rfl hg_287 rfl rfl (WL.run hS rfl rfl rfl (ex_pick_f rfl hg_287 rfl) (WL.nil ?_))))
 replace hS := hS.f2.f2
 exact WQ.there fun a ha => ⟨false, hV, hS, ha.of_sub ⟨rfl, rfl, rfl, rfl, rfl, trivial⟩⟩
 replace hV := hV.2 (of_decide_eq_false hg_285)
 refine WL.skip_g rfl rfl rfl hg_285 rfl rfl (WL.skip_g rfl rfl rfl hg_285 rfl rfl (WL.skip_g rfl rfl rfl hg_285 rfl rfl (WL.run hS rfl rfl rfl (ex_pick_f rfl hg_285 rfl) (WL.mv rfl rfl (WL.skip_g rfl rfl rfl rfl rfl rfl (WL.skip_g rfl rfl rfl rfl rfl rfl (WL.skip_g rfl rfl rfl rfl rfl rfl ?_)))))))
 refine WL.run hS rfl rfl rfl (ex_pick_f rfl rfl rfl) (WL.nil ?_)
 replace hS := hS.f2.f2
 exact WQ.there fun a ha => ⟨false, hV, hS, ha.of_sub ⟨rfl, rfl, rfl, rfl, rfl, trivial⟩⟩
 clear hJ_274
 refine WC.sr (WL.mv rfl rfl (WL.nx ?_))
 refine WC.cond rfl ?_ ?_
 intro hc_277
 replace hV := hV.1 hc_277
 refine WC.region (WL.mv rfl rfl (WL.run hS rfl rfl rfl (ex_nilCheck rfl) (WL.run hS rfl rfl rfl (ex_fieldAddr (o' := 1) Tryz.underlying62 rfl Tryz.sizeOf3 rfl rfl) (WL.run hS rfl rfl rfl (ex_load_box Tryz.isAgg3 rfl rfl) ?_))))
 obtain ⟨hi_276, hV⟩ := hV
 refine WL.run hS rfl rfl rfl (ex_sub rfl rfl hi_276) (WL.run hS rfl rfl rfl (ex_nilCheck rfl) (WL.run hS rfl rfl rfl (ex_fieldAddr (o' := 1) Tryz.underlying62 rfl Tryz.sizeOf3 rfl rfl) (WL.store_box (pre := [sv text_4]) (old := [i6 c_259]) (rst := [i6 deep_7, .bool heavy_9]) (cs := [i6 (c_259 - (1 : Int))]) (arr' := #[sv text_4, i6 (c_259 - (1 : Int)), i6 deep_7, .bool heavy_9]) Tryz.sizeOf3 rfl rfl rfl ⟨rfl, trivial⟩ rfl rfl rfl rfl hS ?_)))
 clear hS
 intro w hS
 refine WL.nil ?_
 replace hS := hS.f2.f2
 exact WQ.there fun a ha => ⟨(c_259 - (1 : Int)), hV, hi_276, hS, ha.of_sub ⟨rfl, rfl, rfl, rfl, trivial⟩⟩
 intro hc_277
 replace hV := hV.2 hc_277
 refine WC.skip ?_
 replace hS := hS.f2.f2
 exact WQ.there fun a ha => ⟨c_259, hV, hr_260, hS, ha.of_sub ⟨rfl, rfl, rfl, rfl, trivial⟩⟩
 clear hJ_262
 refine WC.sr (WL.mv rfl rfl (WL.nx ?_))
 refine WC.cond rfl ?_ ?_
 intro hc_265
 replace hV := hV.1 hc_265
 refine WC.region (WL.mv rfl rfl (WL.run hS rfl rfl rfl (ex_nilCheck rfl) (WL.run hS rfl rfl rfl (ex_fieldAddr (o' := 1) Tryz.underlying62 rfl Tryz.sizeOf3 rfl rfl) (WL.run hS rfl rfl rfl (ex_load_box Tryz.isAgg3 rfl rfl) ?_))))
 obtain ⟨hi_264, hV⟩ := hV
 refine WL.run hS rfl rfl rfl (ex_add rfl rfl hi_264) (WL.run hS rfl rfl rfl (ex_nilCheck rfl) (WL.run hS rfl rfl rfl (ex_fieldAddr (o' := 1) Tryz.underlying62 rfl Tryz.sizeOf3 rfl rfl) (WL.store_box (pre := [sv text_4]) (old := [i6 xat_5]) (rst := [i6 deep_7, .bool heavy_9]) (cs := [i6 (xat_5 + (1 : Int))]) (arr' := #[sv text_4, i6 (xat_5 + (1 : Int)), i6 deep_7, .bool heavy_9]) Tryz.sizeOf3 rfl rfl rfl ⟨rfl, trivial⟩ rfl rfl rfl rfl hS ?_)))
 clear hS
 intro w hS
 refine WL.nil ?_
 replace hS := hS.f2.f2
 exact WQ.there fun a ha => ⟨(xat_5 + (1 : Int)), hV, hi_264, hS, ha.of_sub ⟨rfl, rfl, rfl, trivial⟩⟩
 intro hc_265
 replace hV := hV.2 hc_265
 refine WC.skip ?_
 replace hS := hS.f2.f2
 exact WQ.there fun a ha => ⟨xat_5, hV, hr_6, hS, ha.of_sub ⟨rfl, rfl, rfl, trivial⟩⟩
 clear hJ_133
 refine WC.sr (WL.mv rfl rfl (WL.call rfl rfl rfl (enters0 (vs := [sv (text_4.drop xat_5.toNat), sv ([34] : Str)]) Tryz.call57 ⟨rfl, rfl, trivial⟩) (S_hasPre  hS hV) ?_))
 clear hV hS
 rintro _ w ⟨r_134, hV, rfl, hS⟩
 refine ⟨_, rfl, ?_⟩
 refine WL.nx (WC.sub (m := [(0, (pq b_2)), (2, (pq b_10)), (3, sv (text_4.drop xat_5.toNat)), (18, .bool r_134)]) ⟨rfl, rfl, rfl, rfl, trivial⟩ ?_)
 refine WC.cond rfl ?_ ?_
 intro hc_253
 replace hV := hV.1 hc_253
 refine WC.seq (WC.sr (WL.mv rfl rfl (WL.run hS rfl rfl rfl (ex_nilCheck rfl) (WL.run hS rfl rfl rfl (ex_fieldAddr (o' := 1) Tryz.underlying62 rfl Tryz.sizeOf3 rfl rfl) ?_))))
 replace hS := hS.f2
 refine WL.run hS rfl rfl rfl (ex_load_box Tryz.isAgg3 rfl rfl) ?_
 obtain ⟨hi_137, hV⟩ := hV
 refine WL.run hS rfl rfl rfl (ex_add rfl rfl hi_137) (WL.ma rfl rfl (WL.nx (WC.block ?_)))
 replace hS := hS.f2.f2
 obtain ⟨I_208, mu_209, hI_252, hV⟩ := hV
 refine WC.loop (σ := Int) (fun s a w => ∃ (k_172 : Int), s = k_172 ∧ I_208 k_172 ∧ I64 k_172 ∧ St w0 H ([(b_2, oc #[sv text_4, i6 xat_5, i6 deep_7, .bool heavy_9] 62)] ++ ([(b_10, oc #[.nilIface] 25)] ++ L)) w ∧ Fr 185 [(0, (pq b_2)), (2, (pq b_10)), (3, sv (text_4.drop xat_5.toNat)), (4, i6 k_172)] a) mu_209 (xat_5 + (1 : Int)) ?_ ?_
 exact fun a ha => ⟨(xat_5 + (1 : Int)), rfl, hI_252, hi_137, hS, ha.of_sub ⟨rfl, rfl, rfl, rfl, trivial⟩⟩
 clear hS hI_252
 rintro k_172 a w ⟨_, rfl, hI, hr_173, hS, ha⟩
 refine in_frame ha ?_
 clear ha
 replace hV := hV _ hI
 clear hI
 refine WC.seq ?_
 obtain ⟨J_220, hJ_221, hV⟩ := hV
 refine WC.meet (fun a w => ∃ (x_219 : Bool), J_220 x_219 ∧ St w0 H ([(b_2, oc #[sv text_4, i6 xat_5, i6 deep_7, .bool heavy_9] 62)] ++ ([(b_10, oc #[.nilIface] 25)] ++ L)) w ∧ Fr 185 [(0, (pq b_2)), (2, (pq b_10)), (3, sv (text_4.drop xat_5.toNat)), (4, i6 k_172), (57, .bool x_219)] a) ?_ ?_
 rintro a w ⟨x_219, hI, hS, ha⟩
 refine in_frame ha ?_
 clear ha hV
 have hV := hJ_221 _ hI
 clear hI hJ_221
 refine WC.cond rfl ?_ ?_
 intro hc_251
 replace hV := hV.1 hc_251
 refine WC.skip (WQ.next (WC.seq (WC.block (WC.sr (WL.mv rfl rfl (WL.run hS rfl rfl rfl (ex_nilCheck rfl) (WL.run hS rfl rfl rfl (ex_fieldAddr (o' := 0) Tryz.underlying62 rfl Tryz.sizeOf9 rfl rfl) ?_)))))))
 refine WL.run hS rfl rfl rfl (ex_load_box Tryz.isAgg9 rfl rfl) (WL.mv rfl rfl ?_)
 obtain ⟨hin_230, hV⟩ := hV
 refine WL.run hS rfl rfl rfl (ex_s_index Tryz.underlying9 rfl rfl hin_230) (WL.run hS rfl rfl rfl (ex_eql rfl rfl) (WL.nx ?_))
 refine WC.cond rfl ?_ ?_
 intro hc_244
 replace hV := hV.1 (of_decide_eq_true hc_244)
 refine WC.seq (WC.quiet (C := St w0 H ([(b_2, oc #[sv text_4, i6 xat_5, i6 deep_7, .bool heavy_9] 62)] ++ ([(b_10, oc #[.nilIface] 25)] ++ L))) Tryz.mixed (by kernel_rfl) (hS.drawn _) ?_)
 clear hS w
 refine Wq.run rfl rfl rfl (ex_move rfl) (Wq.run rfl rfl rfl (ex_nilCheck rfl) (Wq.run rfl rfl rfl (ex_fieldAddr (o' := 0) Tryz.underlying62 rfl Tryz.sizeOf9 rfl rfl) (Wq.run rfl rfl rfl (ex_load_box Tryz.isAgg9 rfl rfl) (Wq.run rfl rfl rfl (ex_move rfl) (Wq.run rfl rfl rfl (ex_nilCheck rfl) (Wq.run rfl rfl rfl (ex_fieldAddr (o' := 1) Tryz.underlying62 rfl Tryz.sizeOf3 rfl rfl) (Wq.run rfl rfl rfl (ex_load_box Tryz.isAgg3 rfl rfl) ?_)))))))
 obtain ⟨hi_232, hV⟩ := hV
 refine Wq.run rfl rfl rfl (ex_add rfl rfl hi_232) (Wq.run rfl rfl rfl (ex_move rfl) ?_)
 obtain ⟨hb_233, hV⟩ := hV
 refine Wq.run rfl rfl rfl (ex_s_lohi Tryz.underlying9 rfl rfl rfl hb_233) (Wq.run rfl rfl rfl (ex_assign rfl) (Wq.nil fun w hS => (WQ.next (WC.sub (m := [(0, (pq b_2)), (2, (pq b_10)), (4, i6 k_172), (5, sv ((text_4.take k_172.toNat).drop (xat_5 + (1 : Int)).toNat))]) ⟨rfl, rfl, rfl, rfl, trivial⟩ (WC.sr (WL.mv rfl rfl (WL.mv rfl rfl ?_)))))))
 obtain ⟨hi_235, hV⟩ := hV
 refine WL.run hS rfl rfl rfl (ex_add rfl rfl hi_235) (WL.run hS rfl rfl rfl (ex_nilCheck rfl) (WL.run hS rfl rfl rfl (ex_fieldAddr (o' := 1) Tryz.underlying62 rfl Tryz.sizeOf3 rfl rfl) (WL.store_box (pre := [sv text_4]) (old := [i6 xat_5]) (rst := [i6 deep_7, .bool heavy_9]) (cs := [i6 (k_172 + (1 : Int))]) (arr' := #[sv text_4, i6 (k_172 + (1 : Int)), i6 deep_7, .bool heavy_9]) Tryz.sizeOf3 rfl rfl rfl ⟨rfl, trivial⟩ rfl rfl rfl rfl hS ?_)))
 clear hS
 intro w hS
 refine WL.nx (WC.sr (WL.mv rfl rfl (WL.call rfl rfl rfl (enters0 (vs := [sv ((text_4.take k_172.toNat).drop (xat_5 + (1 : Int)).toNat)]) Tryz.call103 ⟨rfl, trivial⟩) (S_Text  hS hV) ?_)))
 clear hV hS
 rintro _ w ⟨r_236, u_237, H_239, hV, rfl, le_240, h_238, hS⟩
 refine ⟨_, rfl, ?_⟩
 replace hS := hS.f2
 refine WL.store_box (pre := []) (old := [.nilIface]) (rst := []) (cs := [u_237]) (arr' := #[u_237]) Tryz.sizeOf25 rfl rfl rfl ⟨(IsW.one h_238), trivial⟩ rfl rfl rfl rfl hS ?_
 clear hS
 intro w hS
 refine WL.nx (WC.sub (m := [(2, (pq b_10))]) ⟨rfl, trivial⟩ (WC.ret (WQ.out nofun (WQ.pass nofun (WQ.pass nofun (WQ.out nofun (WQ.pass nofun ?_)))))))
 refine WQ.pass nofun ?_
 have hl_241 := load_own_agg (P := Tryz.prog) (cs := [u_237]) Tryz.isAgg25 Tryz.sizeOf25 hS rfl
 replace hS := hS.drop
 exact leavec1 (il) rfl rfl hl_241 (.inl ⟨r_236, (k_172 + (1 : Int)), u_237, H_239, hV, rfl, ((View.le.refl _).trans le_240), h_238, hi_235, hS⟩)
 intro hc_244
 replace hV := hV.2 (of_decide_eq_false hc_244)
 refine WC.skip (WQ.out nofun (WQ.next (WC.region (WL.mv rfl rfl ?_))))
 obtain ⟨hi_243, hV⟩ := hV
 refine WL.run hS rfl rfl rfl (ex_add rfl rfl hi_243) (WL.ma rfl rfl (WL.nil ?_))
 replace hS := hS.f2.f2
 exact WQ.there fun a ha => ⟨(k_172 + (1 : Int)), ⟨(k_172 + (1 : Int)), rfl, hV.1, hi_243, hS, ha.of_sub ⟨rfl, rfl, rfl, rfl, trivial⟩⟩, hV.2⟩
 intro hc_251
 replace hV := hV.2 hc_251
 refine WC.exit (WQ.pass nofun (WQ.pass nofun (WQ.hit (WQ.next (WC.region (WL.mv rfl rfl (WL.callP rfl rfl rfl (enters0 (vs := [(pq b_2), i6 (1 : Int)]) Tryz.call25 ⟨rfl, rfl, trivial⟩) (S_fail hr_6 hr_8 (show I64 (1 : Int) by unfold I64; omega) hS hV) (by rintro _ w ⟨e_246, xat_247, hE_248, rfl, H_249, le_250, hS⟩; exact ⟨_, rfl, WQ.of fun a ha => And.intro ha.defers (.inr ⟨e_246, xat_247, hE_248, rfl, _, ((View.le.refl _).trans le_250), hS.drop⟩)⟩) ?_)))))))
 clear hV hS
 rintro _ w ⟨hV, rfl, hS⟩
 refine ⟨_, rfl, ?_⟩
 refine WL.nil ?_
 replace hS := hS.f2.f2
 exact WQ.there fun a ha => ⟨hV, hS, ha.of_sub ⟨rfl, rfl, rfl, trivial⟩⟩
 clear hJ_221
 refine WC.region (WL.mv rfl rfl (WL.mv rfl rfl (WL.run hS rfl rfl rfl (ex_nilCheck rfl) (WL.run hS rfl rfl rfl (ex_fieldAddr (o' := 0) Tryz.underlying62 rfl Tryz.sizeOf9 rfl rfl) (WL.run hS rfl rfl rfl (ex_load_box Tryz.isAgg9 rfl rfl) ?_)))))
 obtain ⟨hl_222, hV⟩ := hV
 refine WL.run hS rfl rfl rfl (ex_s_len Tryz.underlying9 rfl) (WL.run hS rfl rfl rfl (ex_lss rfl rfl) (WL.mv rfl rfl ?_))
 rcases Bool.eq_false_or_eq_true (decide (k_172 < (text_4.length : Int))) with hg_224 | hg_224
 replace hV := hV.1 (of_decide_eq_true hg_224)
 refine WL.unguard rfl rfl hg_224 (WL.mv rfl rfl (WL.unguard rfl rfl hg_224 (WL.run hS rfl rfl rfl (ex_nilCheck rfl) (WL.unguard rfl rfl hg_224 (WL.run hS rfl rfl rfl (ex_fieldAddr (o' := 0) Tryz.underlying62 rfl Tryz.sizeOf9 rfl rfl) (WL.unguard rfl rfl hg_224 (WL.run hS rfl rfl rfl (ex_load_box Tryz.isAgg9 rfl rfl) ?_)))))))
 refine WL.unguard rfl rfl hg_224 (WL.mv rfl rfl (WL.unguard rfl rfl hg_224 ?_))
 obtain ⟨hin_225, hV⟩ := hV
 refine WL.run hS rfl rfl rfl (ex_s_index Tryz.underlying9 rfl rfl hin_225) (WL.unguard rfl rfl hg_224 (WL.run hS rfl rfl rfl (ex_geq rfl rfl) (WL.run hS rfl rfl rfl (ex_pick_t rfl hg_224 rfl) (WL.mv rfl rfl ?_))))
 rcases Bool.eq_false_or_eq_true (decide ((32 : Int) ≤ (byte text_4 k_172))) with hg_226 | hg_226
 replace hV := hV.1 (of_decide_eq_true hg_226)
 refine WL.unguard rfl rfl hg_226 (WL.mv rfl rfl (WL.unguard rfl rfl hg_226 (WL.run hS rfl rfl rfl (ex_nilCheck rfl) (WL.unguard rfl rfl hg_226 (WL.run hS rfl rfl rfl (ex_fieldAddr (o' := 0) Tryz.underlying62 rfl Tryz.sizeOf9 rfl rfl) (WL.unguard rfl rfl hg_226 (WL.run hS rfl rfl rfl (ex_load_box Tryz.isAgg9 rfl rfl) ?_)))))))
 refine WL.unguard rfl rfl hg_226 (WL.mv rfl rfl (WL.unguard rfl rfl hg_226 ?_))
 obtain ⟨hin_227, hV⟩ := hV
 refine WL.run hS rfl rfl rfl (ex_s_index Tryz.underlying9 rfl rfl hin_227) (WL.unguard rfl rfl hg_226 (WL.run hS rfl rfl rfl (ex_leq rfl rfl) (WL.run hS rfl rfl rfl (ex_pick_t rfl hg_226 rfl) (WL.mv rfl rfl ?_))))
 rcases Bool.eq_false_or_eq_true (decide ((byte text_4 k_172) ≤ (126 : Int))) with hg_228 | hg_228
 replace hV := hV.1 (of_decide_eq_true hg_228)
 refine WL.unguard rfl rfl hg_228 (WL.mv rfl rfl (WL.unguard rfl rfl hg_228 (WL.run hS rfl rfl rfl (ex_nilCheck rfl) (WL.unguard rfl rfl hg_228 (WL.run hS rfl rfl rfl (ex_fieldAddr (o' := 0) Tryz.underlying62 rfl Tryz.sizeOf9 rfl rfl) (WL.unguard rfl rfl hg_228 (WL.run hS rfl rfl rfl (ex_load_box Tryz.isAgg9 rfl rfl) ?_)))))))
 refine WL.unguard rfl rfl hg_228 (WL.mv rfl rfl (WL.unguard rfl rfl hg_228 ?_))
 obtain ⟨hin_229, hV⟩ := hV
 refine WL.run hS rfl rfl rfl (ex_s_index Tryz.underlying9 rfl rfl hin_229) (WL.unguard rfl rfl hg_228 (WL.run hS rfl rfl rfl (ex_neq rfl rfl) (WL.run hS rfl rfl rfl (ex_pick_t rfl hg_228 rfl) (WL.nil ?_))))
 replace hS := hS.f2.f2
 exact WQ.there fun a ha => ⟨decide ((byte text_4 k_172) ≠ (92 : Int)), hV, hS, ha.of_sub ⟨rfl, rfl, rfl, rfl, rfl, trivial⟩⟩
 replace hV := hV.2 (of_decide_eq_false hg_228)
 refine WL.skip_g rfl rfl rfl hg_228 rfl rfl (WL.skip_g rfl rfl rfl hg_228 rfl rfl (WL.skip_g rfl rfl rfl hg_228 rfl rfl (WL.skip_g rfl rfl rfl hg_228 rfl rfl (WL.skip_g rfl rfl rfl hg_228 rfl rfl (WL.skip_g rfl rfl rfl hg_228 rfl rfl (WL.skip_g rfl rfl rfl hg_228 rfl rfl (WL.run hS rfl rfl rfl (ex_pick_f rfl hg_228 rfl) ?_)))))))
 refine WL.nil ?_
 replace hS := hS.f2.f2
 exact WQ.there fun a ha => ⟨false, hV, hS, ha.of_sub ⟨rfl, rfl, rfl, rfl, rfl, trivial⟩⟩
 replace hV := hV.2 (of_decide_eq_false hg_226)
 refine WL.skip_g rfl rfl rfl hg_226 rfl rfl (WL.skip_g rfl rfl rfl hg_226 rfl rfl (WL.skip_g rfl rfl rfl hg_226 rfl rfl (WL.skip_g rfl rfl rfl hg_226 rfl rfl (WL.skip_g rfl rfl rfl hg_226 rfl rfl (WL.skip_g rfl rfl rfl hg_226 rfl rfl (WL.skip_g rfl rfl rfl hg_226 rfl rfl (WL.run hS rfl rfl rfl (ex_pick_f rfl hg_226 rfl) ?_)))))))
 refine WL.mv rfl rfl (WL.skip_g rfl rfl rfl rfl rfl rfl (WL.skip_g rfl rfl rfl rfl rfl rfl (WL.skip_g rfl rfl rfl rfl rfl rfl (WL.skip_g rfl rfl rfl rfl rfl rfl (WL.skip_g rfl rfl rfl rfl rfl rfl (WL.skip_g rfl rfl rfl rfl rfl rfl (WL.skip_g rfl rfl rfl rfl rfl rfl ?_)))))))
 refine WL.run hS rfl rfl rfl (ex_pick_f rfl rfl rfl) (WL.nil ?_)
 replace hS := hS.f2.f2
 exact WQ.there fun a ha => ⟨false, hV, hS, ha.of_sub ⟨rfl, rfl, rfl, rfl, rfl, trivial⟩⟩
 replace hV := hV.2 (of_decide_eq_false hg_224)
 refine WL.skip_g rfl rfl rfl hg_224 rfl rfl (WL.skip_g rfl rfl rfl hg_224 rfl rfl (WL.skip_g rfl rfl rfl hg_224 rfl rfl (WL.skip_g rfl rfl rfl hg_224 rfl rfl (WL.skip_g rfl rfl rfl hg_224 rfl rfl (WL.skip_g rfl rfl rfl hg_224 rfl rfl (WL.skip_g rfl rfl rfl hg_224 rfl rfl (WL.run hS rfl rfl rfl (ex_pick_f rfl hg_224 rfl) ?_)))))))
 refine WL.mv rfl rfl (WL.skip_g rfl rfl rfl rfl rfl rfl (WL.skip_g rfl rfl rfl rfl rfl rfl (WL.skip_g rfl rfl rfl rfl rfl rfl (WL.skip_g rfl rfl rfl rfl rfl rfl (WL.skip_g rfl rfl rfl rfl rfl rfl (WL.skip_g rfl rfl rfl rfl rfl rfl (WL.skip_g rfl rfl rfl rfl rfl rfl ?_)))))))
 refine WL.run hS rfl rfl rfl (ex_pick_f rfl rfl rfl) (WL.mv rfl rfl (WL.skip_g rfl rfl rfl rfl rfl rfl (WL.skip_g rfl rfl rfl rfl rfl rfl (WL.skip_g rfl rfl rfl rfl rfl rfl (WL.skip_g rfl rfl rfl rfl rfl rfl (WL.skip_g rfl rfl rfl rfl rfl rfl (WL.skip_g rfl rfl rfl rfl rfl rfl ?_)))))))
 refine WL.skip_g rfl rfl rfl rfl rfl rfl (WL.run hS rfl rfl rfl (ex_pick_f rfl rfl rfl) (WL.nil ?_))
 replace hS := hS.f2.f2
 exact WQ.there fun a ha => ⟨false, hV, hS, ha.of_sub ⟨rfl, rfl, rfl, rfl, rfl, trivial⟩⟩
 intro hc_253
 replace hV := hV.2 hc_253
 refine WC.skip ?_
 replace hS := hS.f2
 exact WQ.there fun a ha => ⟨hV, hS, ha.of_sub ⟨rfl, rfl, rfl, trivial⟩⟩

def H_value (G : Str → Int → Int → Bool → (Int → Int → Prop) → (Val → Int → Int → Bool → Prop) → Prop) : Prop := ∀ {w0 : World} {H : View} {L : Seg} {w : World} {b_2 : Nat} {text_4 : Str} {xat_5 : Int} {deep_7 : Int} {heavy_9 : Bool} {E : Int → Int → Prop} {Q : Val → Int → Int → Bool → Prop} (hr_6 : I64 xat_5) (hr_8 : I64 deep_7) (hN : GlobN w0 H) (hS : St w0 H ([(b_2, oc #[sv text_4, i6 xat_5, i6 deep_7, .bool heavy_9] 62)] ++ L) w) (hV : G text_4 xat_5 deep_7 heavy_9 E Q), Calls Tryz.prog 23 #[(pq b_2)] w fun e w' => (∃ (r1 : Val) (r2 : Int) (r3 : Int) (r4 : Bool) (u1 : Value) (H' : View), Q r1 r2 r3 r4 ∧ e = .returned (.agg #[u1]) ∧ View.le H H' ∧ IsW H' u1 r1 ∧ I64 r2 ∧ I64 r3 ∧ St w0 H' ([(b_2, oc #[sv text_4, i6 r2, i6 r3, .bool r4] 62)] ++ L) w') ∨ (∃ e1 a1, E e1 a1 ∧ e = .panicked (faultC e1 a1) ∧ ∃ H1, View.le H H1 ∧ St w0 H1 L w')

theorem S_value1 {G : Str → Int → Int → Bool → (Int → Int → Prop) → (Val → Int → Int → Bool → Prop) → Prop} (hG : H_value G) {w0 : World} {H : View} {L : Seg} {w : World} {b_2 : Nat} {v_5 : Value} {c_1_4 : List (Val)} {fp_7 : Seg} {b_10 : Nat} {b_13 : Nat} {text_15 : Str} {xat_16 : Int} {deep_18 : Int} {heavy_20 : Bool} {E : Int → Int → Prop} {Q : (List (Val)) → Int → Int → Bool → Prop} (h_6 : OwnSl H cV 25 v_5 c_1_4 fp_7) (hr_17 : I64 xat_16) (hr_19 : I64 deep_18) (hN : GlobN w0 H) (hS : St w0 H ([(b_2, oc #[v_5] 42)] ++ (fp_7 ++ ([(b_10, oc #[(pq b_13)] 60)] ++ ([(b_13, oc #[sv text_15, i6 xat_16, i6 deep_18, .bool heavy_20] 62)] ++ L)))) w) (hV : V_value1 G c_1_4 text_15 xat_16 deep_18 heavy_20 E Q) :
 Calls Tryz.prog 56 #[(pq b_2), (pq b_10)] w fun e w' => (∃ (r1 : List (Val)) (r2 : Int) (r3 : Int) (r4 : Bool) (v1 : Value) (fp1 : Seg) (H' : View), Q r1 r2 r3 r4 ∧ e = .returned (.tuple #[]) ∧ View.le H H' ∧ OwnSl H' cV 25 v1 r1 fp1 ∧ I64 r2 ∧ I64 r3 ∧ St w0 H' ([(b_2, oc #[v1] 42)] ++ (fp1 ++ ([(b_10, oc #[(pq b_13)] 60)] ++ ([(b_13, oc #[sv text_15, i6 r2, i6 r3, .bool r4] 62)] ++ L)))) w') ∨ (∃ e1 a1, E e1 a1 ∧ e = .panicked (faultC e1 a1) ∧ ∃ H1, View.le H H1 ∧ St w0 H1 L w') := by
 unfold V_value1 at hV
 refine enter Tryz.func56 rfl Tryz.ntmps56 rfl (lk_args_cons (d := 0) (v := (pq b_2)) rfl (lk_args_cons (d := 1) (v := (pq b_10)) rfl (lk_args_nil _))) (DP.WC.drawn (σ := [0, 1, 2, 3, 4, 5]) (C := St w0 H ([(b_2, oc #[v_5] 42)] ++ (fp_7 ++ ([(b_10, oc #[(pq b_13)] 60)] ++ ([(b_13, oc #[sv text_15, i6 xat_16, i6 deep_18, .bool heavy_20] 62)] ++ L))))) (Pn := fun c w => ∃ e1 a1, E e1 a1 ∧ Ending.panicked c = .panicked (faultC e1 a1) ∧ ∃ H1, View.le H H1 ∧ St w0 H1 L w) [[], [], [1], [1, 2], [0, 1, 2, 3], [0, 1, 2, 3, 4]] [2, 3, 4, 5] (fun c a w hd hp => And.intro hd (.inr hp)) Tryz.mixed (by kernel_rfl) (hS.drawn _) ?_)
 clear hS w
 refine DP.Wd.runb (off := 0) rfl rfl rfl rfl (fun _ _ _ h => ex_load_box Tryz.isAgg42 rfl h) rfl (fun _ h => h) fun q_22 hq_21 => (DP.Wd.runb (off := 0) rfl rfl rfl rfl (fun _ _ _ h => ex_load_box Tryz.isAgg60 rfl h) rfl (fun _ h => St.f3 h) fun q_24 hq_23 => (DP.Wd.turn rfl rfl rfl fun w hS => ?_))
 replace hS := hS.f4
 refine WL.callP rfl rfl rfl (enters0 (vs := [(pq b_13)]) Tryz.call23 ⟨rfl, trivial⟩) (hG hr_17 hr_19 hN hS hV) (by rintro _ w ⟨e_35, xat_36, hE_37, rfl, H_38, le_39, hS⟩; exact ⟨_, rfl, DP.DQ.pan ⟨e_35, xat_36, hE_37, rfl, _, ((View.le.refl _).trans le_39), hS.drop.drop.drop⟩⟩) ?_
 clear hV hS
 rintro _ w ⟨r_25, r_28, r_30, r_32, u_26, H_33, hV, rfl, le_34, h_27, hr_29, hr_31, hS⟩
 refine ⟨_, rfl, ?_⟩
 refine WL.nil (DP.DQ.mk2 (C' := St w0 H_33 ([(b_13, oc #[sv text_15, i6 r_28, i6 r_30, .bool r_32] 62)] ++ ([(b_2, oc #[v_5] 42)] ++ (fp_7 ++ ([(b_10, oc #[(pq b_13)] 60)] ++ L))))) hS ⟨il, .inr (hq_21 H_33 ([(b_13, oc #[sv text_15, i6 r_28, i6 r_30, .bool r_32] 62)] ++ (fp_7 ++ ([(b_10, oc #[(pq b_13)] 60)] ++ L))) #[v_5] _ rfl (fun _ h => St.f2 h)), trivial⟩ ?_)
 clear hS w
 refine DP.Wd.turn rfl rfl rfl fun w hS => (WL.builds (c := cV) (xs := [r_25]) (vs := [.agg #[u_26]]) (css := [[u_26]]) rfl Tryz.underlying42 Tryz.info25 rfl ⟨rfl, trivial⟩ rfl (by decide) rfl (by simp; rfl) ⟨[u_26], _, rfl, (cV_mk h_27), rfl⟩ hS rfl (by decide) ?_)
 clear hS
 intro v_41 w fp_42 h_43 hS
 refine WL.nil (DP.DQ.mk2 (C' := St w0 H_33 (fp_42 ++ ([(b_13, oc #[sv text_15, i6 r_28, i6 r_30, .bool r_32] 62)] ++ ([(b_2, oc #[v_5] 42)] ++ (fp_7 ++ ([(b_10, oc #[(pq b_13)] 60)] ++ L)))))) hS ⟨il, .inr (hq_21 H_33 (fp_42 ++ ([(b_13, oc #[sv text_15, i6 r_28, i6 r_30, .bool r_32] 62)] ++ (fp_7 ++ ([(b_10, oc #[(pq b_13)] 60)] ++ L)))) #[v_5] _ rfl (fun _ h => St.f3 h)), trivial⟩ ?_)
 clear hS w
 refine DP.Wd.turn rfl rfl rfl fun w hS => ?_
 obtain ⟨hr_44, hV⟩ := hV
 replace hS := hS.f4
 refine WL.append (c := cV) (xs := c_1_4) (ys := ([r_25])) rfl Tryz.underlying42 Tryz.info25 rfl rfl rfl hS (h_6.mono le_34) (h_43.src hS.f2) hr_44.1 hr_44.2 ?_
 clear hS
 intro v_45 w fp_46 h_47 hS
 refine WL.nil (DP.DQ.mk2 (C' := St w0 H_33 (fp_46 ++ (fp_42 ++ ([(b_13, oc #[sv text_15, i6 r_28, i6 r_30, .bool r_32] 62)] ++ ([(b_2, oc #[v_5] 42)] ++ ([(b_10, oc #[(pq b_13)] 60)] ++ L)))))) hS ⟨il, il, trivial⟩ ?_)
 clear hS w
 refine DP.Wd.turn rfl rfl rfl fun w hS => ?_
 replace hS := hS.f4
 refine WL.store_box (pre := []) (old := [v_5]) (rst := []) (cs := [v_45]) (arr' := #[v_45]) Tryz.sizeOf42 rfl rfl (congrArg Array.toList (cells_one (OwnSl.one h_47))) ⟨(OwnSl.one h_47), trivial⟩ rfl rfl rfl rfl hS ?_
 clear hS
 intro w hS
 refine WL.nil (DP.DQ.mk2 (C' := St w0 H_33 ([(b_2, oc #[v_45] 42)] ++ (fp_46 ++ (fp_42 ++ ([(b_13, oc #[sv text_15, i6 r_28, i6 r_30, .bool r_32] 62)] ++ ([(b_10, oc #[(pq b_13)] 60)] ++ L)))))) hS ⟨il, il, trivial⟩ ?_)
 clear hS w
 refine DP.Wd.nil fun w hS => ?_
 replace hS := hS.f3.drop
 replace hS := hS.f3.f4.f4.f4
 exact leave0 (.inr rfl) rfl (.inl ⟨(c_1_4 ++ ([r_25])), r_28, r_30, r_32, v_45, fp_46, H_33, hV, rfl, ((View.le.refl _).trans le_34), h_47, hr_29, hr_31, hS⟩)

theorem S_value2 {G : Str → Int → Int → Bool → (Int → Int → Prop) → (Val → Int → Int → Bool → Prop) → Prop} (hG : H_value G) {w0 : World} {H : View} {L : Seg} {w : World} {b_2 : Nat} {v_5 : Value} {c_1_4 : List (Val)} {fp_7 : Seg} {b_10 : Nat} {b_13 : Nat} {text_15 : Str} {xat_16 : Int} {deep_18 : Int} {heavy_20 : Bool} {b_22 : Nat} {b_26 : Nat} {v_29 : Value} {c_25_28 : List (Val)} {fp_31 : Seg} {E : Int → Int → Prop} {Q : (List (Val)) → Int → Int → Bool → (List (Val)) → Prop} (h_6 : OwnSl H cV 25 v_5 c_1_4 fp_7) (hr_17 : I64 xat_16) (hr_19 : I64 deep_18) (h_30 : OwnSl H cV 25 v_29 c_25_28 fp_31) (hN : GlobN w0 H) (hS : St w0 H ([(b_2, oc #[v_5] 42)] ++ (fp_7 ++ ([(b_10, oc #[(pq b_13)] 60)] ++ ([(b_13, oc #[sv text_15, i6 xat_16, i6 deep_18, .bool heavy_20] 62)] ++ ([(b_22, Obj.cells #[.func (.func 56) #[] #[(pq b_26), (pq b_10)]] 1 (0, 0))] ++ ([(b_26, oc #[v_29] 42)] ++ (fp_31 ++ L))))))) w) (hV : V_value2 G c_1_4 text_15 xat_16 deep_18 heavy_20 c_25_28 E Q) :
 Calls Tryz.prog 63 #[(pq b_2), (pq b_10), (pq b_22)] w fun e w' => (∃ (r1 : List (Val)) (r2 : Int) (r3 : Int) (r4 : Bool) (r5 : List (Val)) (v1 : Value) (fp1 : Seg) (v5 : Value) (fp5 : Seg) (H' : View), Q r1 r2 r3 r4 r5 ∧ e = .returned (.tuple #[]) ∧ View.le H H' ∧ OwnSl H' cV 25 v1 r1 fp1 ∧ I64 r2 ∧ I64 r3 ∧ OwnSl H' cV 25 v5 r5 fp5 ∧ St w0 H' ([(b_2, oc #[v1] 42)] ++ (fp1 ++ ([(b_10, oc #[(pq b_13)] 60)] ++ ([(b_13, oc #[sv text_15, i6 r2, i6 r3, .bool r4] 62)] ++ ([(b_22, Obj.cells #[.func (.func 56) #[] #[(pq b_26), (pq b_10)]] 1 (0, 0))] ++ ([(b_26, oc #[v5] 42)] ++ (fp5 ++ L))))))) w') ∨ (∃ e1 a1, E e1 a1 ∧ e = .panicked (faultC e1 a1) ∧ ∃ H1, View.le H H1 ∧ St w0 H1 L w') := by
 unfold V_value2 at hV
 refine enter Tryz.func63 rfl Tryz.ntmps63 rfl (lk_args_cons (d := 0) (v := (pq b_2)) rfl (lk_args_cons (d := 1) (v := (pq b_10)) rfl (lk_args_cons (d := 2) (v := (pq b_22)) rfl (lk_args_nil _)))) (WC.seq (DP.WC.drawn (σ := [0, 1, 2, 3, 4, 5]) (C := St w0 H ([(b_2, oc #[v_5] 42)] ++ (fp_7 ++ ([(b_10, oc #[(pq b_13)] 60)] ++ ([(b_13, oc #[sv text_15, i6 xat_16, i6 deep_18, .bool heavy_20] 62)] ++ ([(b_22, Obj.cells #[.func (.func 56) #[] #[(pq b_26), (pq b_10)]] 1 (0, 0))] ++ ([(b_26, oc #[v_29] 42)] ++ (fp_31 ++ L)))))))) (Pn := fun c w => ∃ e1 a1, E e1 a1 ∧ Ending.panicked c = .panicked (faultC e1 a1) ∧ ∃ H1, View.le H H1 ∧ St w0 H1 L w) [[], [], [1], [1, 2], [0, 1, 2, 3], [0, 1, 2, 3, 4]] [2, 3, 4, 5] (fun c a w hd hp => And.intro hd (.inr hp)) Tryz.mixed (by kernel_rfl) (hS.drawn _) ?_))
 clear hS w
 refine DP.Wd.runb (off := 0) rfl rfl rfl rfl (fun _ _ _ h => ex_load_box Tryz.isAgg42 rfl h) rfl (fun _ h => h) fun q_35 hq_34 => (DP.Wd.runb (off := 0) rfl rfl rfl rfl (fun _ _ _ h => ex_load_box Tryz.isAgg60 rfl h) rfl (fun _ h => St.f3 h) fun q_37 hq_36 => (DP.Wd.turn rfl rfl rfl fun w hS => ?_))
 replace hS := hS.f4
 refine WL.callP rfl rfl rfl (enters0 (vs := [(pq b_13)]) Tryz.call23 ⟨rfl, trivial⟩) (hG hr_17 hr_19 hN hS hV) (by rintro _ w ⟨e_48, xat_49, hE_50, rfl, H_51, le_52, hS⟩; exact ⟨_, rfl, DP.DQ.pan ⟨e_48, xat_49, hE_50, rfl, _, ((View.le.refl _).trans le_52), hS.drop.drop.drop.drop.drop.drop⟩⟩) ?_
 clear hV hS
 rintro _ w ⟨r_38, r_41, r_43, r_45, u_39, H_46, hV, rfl, le_47, h_40, hr_42, hr_44, hS⟩
 refine ⟨_, rfl, ?_⟩
 refine WL.nil (DP.DQ.mk2 (C' := St w0 H_46 ([(b_13, oc #[sv text_15, i6 r_41, i6 r_43, .bool r_45] 62)] ++ ([(b_2, oc #[v_5] 42)] ++ (fp_7 ++ ([(b_10, oc #[(pq b_13)] 60)] ++ ([(b_22, Obj.cells #[.func (.func 56) #[] #[(pq b_26), (pq b_10)]] 1 (0, 0))] ++ ([(b_26, oc #[v_29] 42)] ++ (fp_31 ++ L)))))))) hS ⟨il, .inr (hq_34 H_46 ([(b_13, oc #[sv text_15, i6 r_41, i6 r_43, .bool r_45] 62)] ++ (fp_7 ++ ([(b_10, oc #[(pq b_13)] 60)] ++ ([(b_22, Obj.cells #[.func (.func 56) #[] #[(pq b_26), (pq b_10)]] 1 (0, 0))] ++ ([(b_26, oc #[v_29] 42)] ++ (fp_31 ++ L)))))) #[v_5] _ rfl (fun _ h => St.f2 h)), trivial⟩ ?_)
 clear hS w
 refine DP.Wd.turn rfl rfl rfl fun w hS => (WL.builds (c := cV) (xs := [r_38]) (vs := [.agg #[u_39]]) (css := [[u_39]]) rfl Tryz.underlying42 Tryz.info25 rfl ⟨rfl, trivial⟩ rfl (by decide) rfl (by simp; rfl) ⟨[u_39], _, rfl, (cV_mk h_40), rfl⟩ hS rfl (by decide) ?_)
 clear hS
 intro v_54 w fp_55 h_56 hS
 refine WL.nil (DP.DQ.mk2 (C' := St w0 H_46 (fp_55 ++ ([(b_13, oc #[sv text_15, i6 r_41, i6 r_43, .bool r_45] 62)] ++ ([(b_2, oc #[v_5] 42)] ++ (fp_7 ++ ([(b_10, oc #[(pq b_13)] 60)] ++ ([(b_22, Obj.cells #[.func (.func 56) #[] #[(pq b_26), (pq b_10)]] 1 (0, 0))] ++ ([(b_26, oc #[v_29] 42)] ++ (fp_31 ++ L))))))))) hS ⟨il, .inr (hq_34 H_46 (fp_55 ++ ([(b_13, oc #[sv text_15, i6 r_41, i6 r_43, .bool r_45] 62)] ++ (fp_7 ++ ([(b_10, oc #[(pq b_13)] 60)] ++ ([(b_22, Obj.cells #[.func (.func 56) #[] #[(pq b_26), (pq b_10)]] 1 (0, 0))] ++ ([(b_26, oc #[v_29] 42)] ++ (fp_31 ++ L))))))) #[v_5] _ rfl (fun _ h => St.f3 h)), trivial⟩ ?_)
 clear hS w
 refine DP.Wd.turn rfl rfl rfl fun w hS => ?_
 obtain ⟨hr_57, hV⟩ := hV
 replace hS := hS.f4
 refine WL.append (c := cV) (xs := c_1_4) (ys := ([r_38])) rfl Tryz.underlying42 Tryz.info25 rfl rfl rfl hS (h_6.mono le_47) (h_56.src hS.f2) hr_57.1 hr_57.2 ?_
 clear hS
 intro v_58 w fp_59 h_60 hS
 refine WL.nil (DP.DQ.mk2 (C' := St w0 H_46 (fp_59 ++ (fp_55 ++ ([(b_13, oc #[sv text_15, i6 r_41, i6 r_43, .bool r_45] 62)] ++ ([(b_2, oc #[v_5] 42)] ++ ([(b_10, oc #[(pq b_13)] 60)] ++ ([(b_22, Obj.cells #[.func (.func 56) #[] #[(pq b_26), (pq b_10)]] 1 (0, 0))] ++ ([(b_26, oc #[v_29] 42)] ++ (fp_31 ++ L))))))))) hS ⟨il, il, trivial⟩ ?_)
 clear hS w
 refine DP.Wd.turn rfl rfl rfl fun w hS => ?_
 replace hS := hS.f4
 refine WL.store_box (pre := []) (old := [v_5]) (rst := []) (cs := [v_58]) (arr' := #[v_58]) Tryz.sizeOf42 rfl rfl (congrArg Array.toList (cells_one (OwnSl.one h_60))) ⟨(OwnSl.one h_60), trivial⟩ rfl rfl rfl rfl hS ?_
 clear hS
 intro w hS
 refine WL.nil (DP.DQ.mk2 (C' := St w0 H_46 ([(b_2, oc #[v_58] 42)] ++ (fp_59 ++ (fp_55 ++ ([(b_13, oc #[sv text_15, i6 r_41, i6 r_43, .bool r_45] 62)] ++ ([(b_10, oc #[(pq b_13)] 60)] ++ ([(b_22, Obj.cells #[.func (.func 56) #[] #[(pq b_26), (pq b_10)]] 1 (0, 0))] ++ ([(b_26, oc #[v_29] 42)] ++ (fp_31 ++ L))))))))) hS ⟨il, il, trivial⟩ ?_)
 clear hS w
 refine DP.Wd.nil fun w hS => (WQ.next ?_)
 replace hS := hS.f3.drop
 refine WC.sr ?_
 replace hS := hS.f4
 refine WL.run hS rfl rfl rfl (ex_load_box Tryz.isAgg60 rfl rfl) ?_
 replace hS := hS.f4
 refine WL.callP rfl rfl rfl (enters0 (vs := [(pq b_13), sv ([58] : Str)]) Tryz.call64 ⟨rfl, rfl, trivial⟩) (S_want hr_42 hr_44 hS hV) (by rintro _ w ⟨e_65, xat_66, hE_67, rfl, H_68, le_69, hS⟩; exact ⟨_, rfl, WQ.of fun a ha => And.intro ha.defers (.inr ⟨e_65, xat_66, hE_67, rfl, _, (((View.le.refl _).trans le_47).trans le_69), hS.drop.drop.drop.drop.drop.drop⟩)⟩) ?_
 clear hV hS
 rintro _ w ⟨r_62, hV, rfl, hr_63, hS⟩
 refine ⟨_, rfl, ?_⟩
 refine WL.nx (WC.region ?_)
 replace hS := hS.f5
 refine WL.run hS rfl rfl rfl (ex_load_box Tryz.isAgg1 rfl rfl) ?_
 replace hS := hS.f2.f3.f7.f7
 refine WL.callP rfl rfl rfl (enters_c (vs := []) (caps := [(pq b_26), (pq b_10)]) rfl Tryz.call56 trivial) (S_value1 (@hG) (h_30.mono le_47) hr_63 hr_44 (hN.mono le_47) hS hV) (by rintro _ w ⟨e_81, xat_82, hE_83, rfl, H_84, le_85, hS⟩; exact ⟨_, rfl, WQ.of fun a ha => And.intro ha.defers (.inr ⟨e_81, xat_82, hE_83, rfl, _, (((View.le.refl _).trans le_47).trans le_85), hS.drop.drop.drop⟩)⟩) ?_
 clear hV hS
 rintro _ w ⟨c_70, r_74, r_76, r_78, v_71, fp_72, H_79, hV, rfl, le_80, h_73, hr_75, hr_77, hS⟩
 refine ⟨_, rfl, ?_⟩
 refine WL.nil ?_
 replace hS := hS.f2.f2.f5.f5.f5.f7.f7
 exact leave0 (.inr rfl) rfl (.inl ⟨(c_1_4 ++ ([r_38])), r_74, r_76, r_78, c_70, v_58, fp_59, v_71, fp_72, H_79, hV, rfl, (((View.le.refl _).trans le_47).trans le_80), (h_60.mono le_80), hr_75, hr_77, h_73, hS⟩)

theorem S_list {G : Str → Int → Int → Bool → (Int → Int → Prop) → (Val → Int → Int → Bool → Prop) → Prop} (hG : H_value G) {w0 : World} {H : View} {L : Seg} {w : World} {b_2 : Nat} {text_4 : Str} {xat_5 : Int} {deep_7 : Int} {heavy_9 : Bool} {last_10 : Str} {b_13 : Nat} {v_16 : Value} {c_12_15 : List (Val)} {fp_18 : Seg} {b_21 : Nat} {E : Int → Int → Prop} {Q : Int → Int → Bool → (List (Val)) → Prop} (hr_6 : I64 xat_5) (hr_8 : I64 deep_7) (h_17 : OwnSl H cV 25 v_16 c_12_15 fp_18) (hN : GlobN w0 H) (hS : St w0 H ([(b_2, oc #[sv text_4, i6 xat_5, i6 deep_7, .bool heavy_9] 62)] ++ ([(b_13, oc #[v_16] 42)] ++ (fp_18 ++ ([(b_21, oc #[(pq b_2)] 60)] ++ L)))) w) (hV : V_list G text_4 xat_5 deep_7 heavy_9 last_10 c_12_15 E Q) :
 Calls Tryz.prog 58 #[(pq b_2), sv last_10, .func (.func 56) #[] #[(pq b_13), (pq b_21)]] w fun e w' => (∃ (r1 : Int) (r2 : Int) (r3 : Bool) (r4 : List (Val)) (v4 : Value) (fp4 : Seg) (H' : View), Q r1 r2 r3 r4 ∧ e = .returned (.tuple #[]) ∧ View.le H H' ∧ I64 r1 ∧ I64 r2 ∧ OwnSl H' cV 25 v4 r4 fp4 ∧ St w0 H' ([(b_2, oc #[sv text_4, i6 r1, i6 r2, .bool r3] 62)] ++ ([(b_13, oc #[v4] 42)] ++ (fp4 ++ ([(b_21, oc #[(pq b_2)] 60)] ++ L)))) w') ∨ (∃ e1 a1, E e1 a1 ∧ e = .panicked (faultC e1 a1) ∧ ∃ H1, View.le H H1 ∧ St w0 H1 L w') := by
 unfold V_list at hV
 refine enter Tryz.func58 rfl Tryz.ntmps58 rfl (lk_args_cons (d := 0) (v := (pq b_2)) rfl (lk_args_cons (d := 1) (v := sv last_10) rfl (lk_args_cons (d := 2) (v := .func (.func 56) #[] #[(pq b_13), (pq b_21)]) rfl (lk_args_nil _)))) ?_
 obtain ⟨J_36, hJ_37, hV⟩ := hV
 refine WC.meet (fun a w => ∃ (c_34 : Int), J_36 c_34 ∧ I64 c_34 ∧ St w0 H ([(b_2, oc #[sv text_4, i6 xat_5, i6 c_34, .bool heavy_9] 62)] ++ ([(b_13, oc #[v_16] 42)] ++ (fp_18 ++ ([(b_21, oc #[(pq b_2)] 60)] ++ L)))) w ∧ Fr 49 [(0, (pq b_2)), (1, sv last_10), (2, .func (.func 56) #[] #[(pq b_13), (pq b_21)])] a) ?_ ?_
 rintro a w ⟨c_34, hI, hr_35, hS, ha⟩
 refine in_frame ha ?_
 clear ha hV
 have hV := hJ_37 _ hI
 clear hI hJ_37
 refine WC.sr (WL.mv rfl rfl (WL.run hS rfl rfl rfl (ex_nilCheck rfl) (WL.run hS rfl rfl rfl (ex_fieldAddr (o' := 1) Tryz.underlying62 rfl Tryz.sizeOf3 rfl rfl) (WL.run hS rfl rfl rfl (ex_load_box Tryz.isAgg3 rfl rfl) (WL.mv rfl rfl ?_)))))
 obtain ⟨hl_48, hV⟩ := hV
 refine WL.run hS rfl rfl rfl (ex_s_len Tryz.underlying9 rfl) ?_
 obtain ⟨hi_50, hV⟩ := hV
 refine WL.run hS rfl rfl rfl (ex_add rfl rfl hi_50) (WL.run hS rfl rfl rfl (ex_nilCheck rfl) (WL.run hS rfl rfl rfl (ex_fieldAddr (o' := 1) Tryz.underlying62 rfl Tryz.sizeOf3 rfl rfl) (WL.store_box (pre := [sv text_4]) (old := [i6 xat_5]) (rst := [i6 c_34, .bool heavy_9]) (cs := [i6 (xat_5 + (last_10.length : Int))]) (arr' := #[sv text_4, i6 (xat_5 + (last_10.length : Int)), i6 c_34, .bool heavy_9]) Tryz.sizeOf3 rfl rfl rfl ⟨rfl, trivial⟩ rfl rfl rfl rfl hS ?_)))
 clear hS
 intro w hS
 refine WL.nx ?_
 obtain ⟨J_199, hJ_200, hV⟩ := hV
 refine WC.meet (fun a w => ∃ (c_189 : Int) (c_191 : Int) (c_193 : Bool) (c_195 : List (Val)) (H_187 : View) (v_196 : Value) (fp_197 : Seg), J_199 (c_189, c_191, c_193, c_195) ∧ View.le H H_187 ∧ I64 c_189 ∧ I64 c_191 ∧ OwnSl H_187 cV 25 v_196 c_195 fp_197 ∧ St w0 H_187 ([(b_2, oc #[sv text_4, i6 c_189, i6 c_191, .bool c_193] 62)] ++ ([(b_13, oc #[v_196] 42)] ++ (fp_197 ++ ([(b_21, oc #[(pq b_2)] 60)] ++ L)))) w ∧ Fr 49 [(0, (pq b_2))] a) ?_ ?_
 rintro a w ⟨c_189, c_191, c_193, c_195, H_187, v_196, fp_197, hI, le_188, hr_190, hr_192, h_198, hS, ha⟩
 refine in_frame ha ?_
 clear ha hV
 have hV := hJ_200 _ hI
 clear hI hJ_200
 refine WC.region (WL.mv rfl rfl (WL.run hS rfl rfl rfl (ex_nilCheck rfl) (WL.run hS rfl rfl rfl (ex_fieldAddr (o' := 2) Tryz.underlying62 rfl Tryz.sizeOf3 rfl rfl) (WL.run hS rfl rfl rfl (ex_load_box Tryz.isAgg3 rfl rfl) ?_))))
 obtain ⟨hi_338, hV⟩ := hV
 refine WL.run hS rfl rfl rfl (ex_sub rfl rfl hi_338) (WL.run hS rfl rfl rfl (ex_nilCheck rfl) (WL.run hS rfl rfl rfl (ex_fieldAddr (o' := 2) Tryz.underlying62 rfl Tryz.sizeOf3 rfl rfl) (WL.store_box (pre := [sv text_4, i6 c_189]) (old := [i6 c_191]) (rst := [.bool c_193]) (cs := [i6 (c_191 - (1 : Int))]) (arr' := #[sv text_4, i6 c_189, i6 (c_191 - (1 : Int)), .bool c_193]) Tryz.sizeOf3 rfl rfl rfl ⟨rfl, trivial⟩ rfl rfl rfl rfl hS ?_)))
 clear hS
 intro w hS
 refine WL.nil ?_
 replace hS := hS.f4.f4.f4.f4
 exact leave0 (.inr rfl) rfl (.inl ⟨c_189, (c_191 - (1 : Int)), c_193, c_195, v_196, fp_197, H_187, hV, rfl, ((View.le.refl _).trans le_188), hr_190, hi_338, h_198, hS⟩)
 clear hJ_200
 refine WC.sr (WL.mv rfl rfl (WL.mv rfl rfl (WL.call rfl rfl rfl (enters0 (vs := [(pq b_2), sv last_10]) Tryz.call95 ⟨rfl, rfl, trivial⟩) (S_take hi_50 hr_35 hS hV) ?_)))
 clear hV hS
 rintro _ w ⟨r_201, r_202, hV, rfl, hr_203, hS⟩
 refine ⟨_, rfl, ?_⟩
 refine WL.run hS rfl rfl rfl (ex_not rfl) (WL.nx (WC.sub (m := [(0, (pq b_2)), (1, sv last_10), (2, .func (.func 56) #[] #[(pq b_13), (pq b_21)]), (32, .bool (!r_201))]) ⟨rfl, rfl, rfl, rfl, trivial⟩ ?_))
 refine WC.cond rfl ?_ ?_
 intro hc_336
 replace hV := hV.1 hc_336
 refine WC.sr (WL.mv rfl rfl ?_)
 replace hS := hS.f4.f4.f4
 refine WL.callP rfl rfl rfl (enters_c (vs := []) (caps := [(pq b_13), (pq b_21)]) rfl Tryz.call56 trivial) (S_value1 (@hG) h_17 hr_203 hr_35 hN hS hV) (by rintro _ w ⟨e_216, xat_217, hE_218, rfl, H_219, le_220, hS⟩; exact ⟨_, rfl, WQ.of fun a ha => And.intro ha.defers (.inr ⟨e_216, xat_217, hE_218, rfl, _, ((View.le.refl _).trans le_220), hS⟩)⟩) ?_
 clear hV hS
 rintro _ w ⟨c_205, r_209, r_211, r_213, v_206, fp_207, H_214, hV, rfl, le_215, h_208, hr_210, hr_212, hS⟩
 refine ⟨_, rfl, ?_⟩
 refine WL.nx (WC.seq (WC.block ?_))
 replace hS := hS.f3.f3.f3.f4
 obtain ⟨I_302, mu_303, hI_335, hV⟩ := hV
 refine WC.loop (σ := Int × Int × Bool × (List (Val))) (fun s a w => ∃ (c_270 : Int) (c_272 : Int) (c_274 : Bool) (c_276 : List (Val)) (H_268 : View) (v_277 : Value) (fp_278 : Seg), s = (c_270, c_272, c_274, c_276) ∧ I_302 (c_270, c_272, c_274, c_276) ∧ View.le H_214 H_268 ∧ I64 c_270 ∧ I64 c_272 ∧ OwnSl H_268 cV 25 v_277 c_276 fp_278 ∧ St w0 H_268 ([(b_2, oc #[sv text_4, i6 c_270, i6 c_272, .bool c_274] 62)] ++ ([(b_13, oc #[v_277] 42)] ++ (fp_278 ++ ([(b_21, oc #[(pq b_2)] 60)] ++ L)))) w ∧ Fr 49 [(0, (pq b_2)), (1, sv last_10), (2, .func (.func 56) #[] #[(pq b_13), (pq b_21)])] a) mu_303 (r_209, r_211, r_213, c_205) ?_ ?_
 exact fun a ha => ⟨r_209, r_211, r_213, c_205, H_214, v_206, fp_207, rfl, hI_335, (View.le.refl _), hr_210, hr_212, h_208, hS, ha.of_sub ⟨rfl, rfl, rfl, trivial⟩⟩
 clear hS hI_335
 rintro _ a w ⟨c_270, c_272, c_274, c_276, H_268, v_277, fp_278, rfl, hI, le_269, hr_271, hr_273, h_279, hS, ha⟩
 refine in_frame ha ?_
 clear ha
 replace hV := hV _ hI
 clear hI
 refine WC.seq (WC.sr (WL.mv rfl rfl (WL.call rfl rfl rfl (enters0 (vs := [(pq b_2), sv ([44] : Str)]) Tryz.call95 ⟨rfl, rfl, trivial⟩) (S_take hr_271 hr_273 hS hV) ?_)))
 clear hV hS
 rintro _ w ⟨r_305, r_306, hV, rfl, hr_307, hS⟩
 refine ⟨_, rfl, ?_⟩
 refine WL.nx ?_
 refine WC.cond rfl ?_ ?_
 intro hc_334
 replace hV := hV.1 hc_334
 refine WC.skip (WQ.next (WC.block (WC.region (WL.mv rfl rfl ?_))))
 replace hS := hS.f4.f4.f4
 refine WL.callP rfl rfl rfl (enters_c (vs := []) (caps := [(pq b_13), (pq b_21)]) rfl Tryz.call56 trivial) (S_value1 (@hG) h_279 hr_307 hr_273 ((hN.mono le_215).mono le_269) hS hV) (by rintro _ w ⟨e_320, xat_321, hE_322, rfl, H_323, le_324, hS⟩; exact ⟨_, rfl, WQ.of fun a ha => And.intro ha.defers (.inr ⟨e_320, xat_321, hE_322, rfl, _, ((((View.le.refl _).trans le_215).trans le_269).trans le_324), hS⟩)⟩) ?_
 clear hV hS
 rintro _ w ⟨c_309, r_313, r_315, r_317, v_310, fp_311, H_318, hV, rfl, le_319, h_312, hr_314, hr_316, hS⟩
 refine ⟨_, rfl, ?_⟩
 refine WL.nil (WQ.out nofun ?_)
 replace hS := hS.f3.f3.f3.f4
 exact WQ.there fun a ha => ⟨(r_313, r_315, r_317, c_309), ⟨r_313, r_315, r_317, c_309, H_318, v_310, fp_311, rfl, hV.1, (((View.le.refl _).trans le_269).trans le_319), hr_314, hr_316, h_312, hS, ha.of_sub ⟨rfl, rfl, rfl, trivial⟩⟩, hV.2⟩
 intro hc_334
 replace hV := hV.2 hc_334
 refine WC.exit (WQ.pass nofun (WQ.pass nofun (WQ.hit (WQ.next (WC.region (WL.mv rfl rfl (WL.mv rfl rfl ?_)))))))
 refine WL.callP rfl rfl rfl (enters0 (vs := [(pq b_2), sv last_10]) Tryz.call64 ⟨rfl, rfl, trivial⟩) (S_want hr_307 hr_273 hS hV) (by rintro _ w ⟨e_329, xat_330, hE_331, rfl, H_332, le_333, hS⟩; exact ⟨_, rfl, WQ.of fun a ha => And.intro ha.defers (.inr ⟨e_329, xat_330, hE_331, rfl, _, ((((View.le.refl _).trans le_215).trans le_269).trans le_333), hS.drop.drop.drop⟩)⟩) ?_
 clear hV hS
 rintro _ w ⟨r_326, hV, rfl, hr_327, hS⟩
 refine ⟨_, rfl, ?_⟩
 refine WL.nil ?_
 replace hS := hS.f4.f4.f4.f4
 exact WQ.there fun a ha => ⟨r_326, c_272, c_274, c_276, H_268, v_277, fp_278, hV, (((View.le.refl _).trans le_215).trans le_269), hr_327, hr_273, h_279, hS, ha.of_sub ⟨rfl, trivial⟩⟩
 intro hc_336
 replace hV := hV.2 hc_336
 refine WC.skip ?_
 replace hS := hS.f4.f4.f4.f4
 exact WQ.there fun a ha => ⟨r_202, c_34, heavy_9, c_12_15, H, v_16, fp_18, hV, (View.le.refl _), hr_203, hr_35, h_17, hS, ha.of_sub ⟨rfl, trivial⟩⟩
 clear hJ_37
 refine WC.sr (WL.mv rfl rfl (WL.run hS rfl rfl rfl (ex_nilCheck rfl) (WL.run hS rfl rfl rfl (ex_fieldAddr (o' := 2) Tryz.underlying62 rfl Tryz.sizeOf3 rfl rfl) (WL.run hS rfl rfl rfl (ex_load_box Tryz.isAgg3 rfl rfl) ?_))))
 obtain ⟨hi_39, hV⟩ := hV
 refine WL.run hS rfl rfl rfl (ex_add rfl rfl hi_39) (WL.run hS rfl rfl rfl (ex_nilCheck rfl) (WL.run hS rfl rfl rfl (ex_fieldAddr (o' := 2) Tryz.underlying62 rfl Tryz.sizeOf3 rfl rfl) (WL.store_box (pre := [sv text_4, i6 xat_5]) (old := [i6 deep_7]) (rst := [.bool heavy_9]) (cs := [i6 (deep_7 + (1 : Int))]) (arr' := #[sv text_4, i6 xat_5, i6 (deep_7 + (1 : Int)), .bool heavy_9]) Tryz.sizeOf3 rfl rfl rfl ⟨rfl, trivial⟩ rfl rfl rfl rfl hS ?_)))
 clear hS
 intro w hS
 refine WL.nx (WC.sr (WL.mv rfl rfl (WL.run hS rfl rfl rfl (ex_nilCheck rfl) (WL.run hS rfl rfl rfl (ex_fieldAddr (o' := 2) Tryz.underlying62 rfl Tryz.sizeOf3 rfl rfl) (WL.run hS rfl rfl rfl (ex_load_box Tryz.isAgg3 rfl rfl) (WL.run hS rfl rfl rfl (ex_gtr rfl rfl) (WL.nx ?_)))))))
 refine WC.sub (m := [(0, (pq b_2)), (1, sv last_10), (2, .func (.func 56) #[] #[(pq b_13), (pq b_21)]), (17, .bool (decide ((24 : Int) < (deep_7 + (1 : Int)))))]) ⟨rfl, rfl, rfl, rfl, trivial⟩ ?_
 refine WC.cond rfl ?_ ?_
 intro hc_47
 replace hV := hV.1 (of_decide_eq_true hc_47)
 refine WC.region (WL.mv rfl rfl (WL.callP rfl rfl rfl (enters0 (vs := [(pq b_2), i6 (6 : Int)]) Tryz.call25 ⟨rfl, rfl, trivial⟩) (S_fail hr_6 hi_39 (show I64 (6 : Int) by unfold I64; omega) hS hV) (by rintro _ w ⟨e_42, xat_43, hE_44, rfl, H_45, le_46, hS⟩; exact ⟨_, rfl, WQ.of fun a ha => And.intro ha.defers (.inr ⟨e_42, xat_43, hE_44, rfl, _, ((View.le.refl _).trans le_46), hS.drop.drop.drop⟩)⟩) ?_))
 clear hV hS
 rintro _ w ⟨hV, rfl, hS⟩
 refine ⟨_, rfl, ?_⟩
 refine WL.nil ?_
 replace hS := hS.f4.f4.f4.f4
 exact WQ.there fun a ha => ⟨(deep_7 + (1 : Int)), hV, hi_39, hS, ha.of_sub ⟨rfl, rfl, rfl, trivial⟩⟩
 intro hc_47
 replace hV := hV.2 (of_decide_eq_false hc_47)
 refine WC.skip ?_
 replace hS := hS.f4.f4.f4.f4
 exact WQ.there fun a ha => ⟨(deep_7 + (1 : Int)), hV, hi_39, hS, ha.of_sub ⟨rfl, rfl, rfl, trivial⟩⟩

theorem S_pairs {G : Str → Int → Int → Bool → (Int → Int → Prop) → (Val → Int → Int → Bool → Prop) → Prop} (hG : H_value G) {w0 : World} {H : View} {L : Seg} {w : World} {b_2 : Nat} {text_4 : Str} {xat_5 : Int} {deep_7 : Int} {heavy_9 : Bool} {b_12 : Nat} {v_15 : Value} {c_11_14 : List (Val)} {fp_17 : Seg} {b_20 : Nat} {b_24 : Nat} {b_28 : Nat} {v_31 : Value} {c_27_30 : List (Val)} {fp_33 : Seg} {E : Int → Int → Prop} {Q : Int → Int → Bool → (List (Val)) → (List (Val)) → Prop} (hr_6 : I64 xat_5) (hr_8 : I64 deep_7) (h_16 : OwnSl H cV 25 v_15 c_11_14 fp_17) (h_32 : OwnSl H cV 25 v_31 c_27_30 fp_33) (hN : GlobN w0 H) (hS : St w0 H ([(b_2, oc #[sv text_4, i6 xat_5, i6 deep_7, .bool heavy_9] 62)] ++ ([(b_12, oc #[v_15] 42)] ++ (fp_17 ++ ([(b_20, oc #[(pq b_2)] 60)] ++ ([(b_24, Obj.cells #[.func (.func 56) #[] #[(pq b_28), (pq b_20)]] 1 (0, 0))] ++ ([(b_28, oc #[v_31] 42)] ++ (fp_33 ++ L))))))) w) (hV : V_pairs G text_4 xat_5 deep_7 heavy_9 c_11_14 c_27_30 E Q) :
 Calls Tryz.prog 62 #[(pq b_2), .func (.func 63) #[] #[(pq b_12), (pq b_20), (pq b_24)]] w fun e w' => (∃ (r1 : Int) (r2 : Int) (r3 : Bool) (r4 : List (Val)) (r5 : List (Val)) (v4 : Value) (fp4 : Seg) (v5 : Value) (fp5 : Seg) (H' : View), Q r1 r2 r3 r4 r5 ∧ e = .returned (.tuple #[]) ∧ View.le H H' ∧ I64 r1 ∧ I64 r2 ∧ OwnSl H' cV 25 v4 r4 fp4 ∧ OwnSl H' cV 25 v5 r5 fp5 ∧ St w0 H' ([(b_2, oc #[sv text_4, i6 r1, i6 r2, .bool r3] 62)] ++ ([(b_12, oc #[v4] 42)] ++ (fp4 ++ ([(b_20, oc #[(pq b_2)] 60)] ++ ([(b_24, Obj.cells #[.func (.func 56) #[] #[(pq b_28), (pq b_20)]] 1 (0, 0))] ++ ([(b_28, oc #[v5] 42)] ++ (fp5 ++ L))))))) w') ∨ (∃ e1 a1, E e1 a1 ∧ e = .panicked (faultC e1 a1) ∧ ∃ H1, View.le H H1 ∧ St w0 H1 L w') := by
 unfold V_pairs at hV
 refine enter Tryz.func62 rfl Tryz.ntmps62 rfl (lk_args_cons (d := 0) (v := (pq b_2)) rfl (lk_args_cons (d := 1) (v := .func (.func 63) #[] #[(pq b_12), (pq b_20), (pq b_24)]) rfl (lk_args_nil _))) ?_
 obtain ⟨J_48, hJ_49, hV⟩ := hV
 refine WC.meet (fun a w => ∃ (c_46 : Int), J_48 c_46 ∧ I64 c_46 ∧ St w0 H ([(b_2, oc #[sv text_4, i6 xat_5, i6 c_46, .bool heavy_9] 62)] ++ ([(b_20, oc #[(pq b_2)] 60)] ++ ([(b_24, Obj.cells #[.func (.func 56) #[] #[(pq b_28), (pq b_20)]] 1 (0, 0))] ++ ([(b_28, oc #[v_31] 42)] ++ (fp_33 ++ ([(b_12, oc #[v_15] 42)] ++ (fp_17 ++ L))))))) w ∧ Fr 40 [(0, (pq b_2)), (1, .func (.func 63) #[] #[(pq b_12), (pq b_20), (pq b_24)])] a) ?_ ?_
 rintro a w ⟨c_46, hI, hr_47, hS, ha⟩
 refine in_frame ha ?_
 clear ha hV
 have hV := hJ_49 _ hI
 clear hI hJ_49
 refine WC.sr (WL.mv rfl rfl (WL.run hS rfl rfl rfl (ex_nilCheck rfl) (WL.run hS rfl rfl rfl (ex_fieldAddr (o' := 1) Tryz.underlying62 rfl Tryz.sizeOf3 rfl rfl) (WL.run hS rfl rfl rfl (ex_load_box Tryz.isAgg3 rfl rfl) ?_))))
 obtain ⟨hi_61, hV⟩ := hV
 refine WL.run hS rfl rfl rfl (ex_add rfl rfl hi_61) (WL.run hS rfl rfl rfl (ex_nilCheck rfl) (WL.run hS rfl rfl rfl (ex_fieldAddr (o' := 1) Tryz.underlying62 rfl Tryz.sizeOf3 rfl rfl) (WL.store_box (pre := [sv text_4]) (old := [i6 xat_5]) (rst := [i6 c_46, .bool heavy_9]) (cs := [i6 (xat_5 + (1 : Int))]) (arr' := #[sv text_4, i6 (xat_5 + (1 : Int)), i6 c_46, .bool heavy_9]) Tryz.sizeOf3 rfl rfl rfl ⟨rfl, trivial⟩ rfl rfl rfl rfl hS ?_)))
 clear hS
 intro w hS
 refine WL.nx (WC.sr (WL.mv rfl rfl ?_))
 replace hS := hS.f5.f5.f5.f4.f5.f7.f7
 refine WL.callP rfl rfl rfl (enters_c (vs := []) (caps := [(pq b_12), (pq b_20), (pq b_24)]) rfl Tryz.call63 trivial) (S_value2 (@hG) h_16 hi_61 hr_47 h_32 hN hS hV) (by rintro _ w ⟨e_77, xat_78, hE_79, rfl, H_80, le_81, hS⟩; exact ⟨_, rfl, WQ.of fun a ha => And.intro ha.defers (.inr ⟨e_77, xat_78, hE_79, rfl, _, ((View.le.refl _).trans le_81), hS⟩)⟩) ?_
 clear hV hS
 rintro _ w ⟨c_62, r_66, r_68, r_70, c_71, v_63, fp_64, v_72, fp_73, H_75, hV, rfl, le_76, h_65, hr_67, hr_69, h_74, hS⟩
 refine ⟨_, rfl, ?_⟩
 refine WL.nx (WC.seq (WC.block ?_))
 replace hS := hS.f2.f2.f7.f7.f7.f6.f7
 obtain ⟨I_184, mu_185, hI_224, hV⟩ := hV
 refine WC.loop (σ := Int × Int × Bool × (List (Val)) × (List (Val))) (fun s a w => ∃ (c_142 : Int) (c_144 : Int) (c_146 : Bool) (c_148 : List (Val)) (c_153 : List (Val)) (H_140 : View) (v_149 : Value) (fp_150 : Seg) (v_154 : Value) (fp_155 : Seg), s = (c_142, c_144, c_146, c_148, c_153) ∧ I_184 (c_142, c_144, c_146, c_148, c_153) ∧ View.le H_75 H_140 ∧ I64 c_142 ∧ I64 c_144 ∧ OwnSl H_140 cV 25 v_149 c_148 fp_150 ∧ OwnSl H_140 cV 25 v_154 c_153 fp_155 ∧ St w0 H_140 ([(b_2, oc #[sv text_4, i6 c_142, i6 c_144, .bool c_146] 62)] ++ ([(b_20, oc #[(pq b_2)] 60)] ++ ([(b_24, Obj.cells #[.func (.func 56) #[] #[(pq b_28), (pq b_20)]] 1 (0, 0))] ++ ([(b_28, oc #[v_149] 42)] ++ (fp_150 ++ ([(b_12, oc #[v_154] 42)] ++ (fp_155 ++ L))))))) w ∧ Fr 40 [(0, (pq b_2)), (1, .func (.func 63) #[] #[(pq b_12), (pq b_20), (pq b_24)])] a) mu_185 (r_66, r_68, r_70, c_71, c_62) ?_ ?_
 exact fun a ha => ⟨r_66, r_68, r_70, c_71, c_62, H_75, v_72, fp_73, v_63, fp_64, rfl, hI_224, (View.le.refl _), hr_67, hr_69, h_74, h_65, hS, ha.of_sub ⟨rfl, rfl, trivial⟩⟩
 clear hS hI_224
 rintro _ a w ⟨c_142, c_144, c_146, c_148, c_153, H_140, v_149, fp_150, v_154, fp_155, rfl, hI, le_141, hr_143, hr_145, h_151, h_156, hS, ha⟩
 refine in_frame ha ?_
 clear ha
 replace hV := hV _ hI
 clear hI
 refine WC.seq (WC.sr (WL.mv rfl rfl (WL.call rfl rfl rfl (enters0 (vs := [(pq b_2), sv ([44] : Str)]) Tryz.call95 ⟨rfl, rfl, trivial⟩) (S_take hr_143 hr_145 hS hV) ?_)))
 clear hV hS
 rintro _ w ⟨r_187, r_188, hV, rfl, hr_189, hS⟩
 refine ⟨_, rfl, ?_⟩
 refine WL.nx ?_
 refine WC.cond rfl ?_ ?_
 intro hc_223
 replace hV := hV.1 hc_223
 refine WC.skip (WQ.next (WC.block (WC.region (WL.mv rfl rfl ?_))))
 replace hS := hS.f5.f5.f5.f4.f5.f7.f7
 refine WL.callP rfl rfl rfl (enters_c (vs := []) (caps := [(pq b_12), (pq b_20), (pq b_24)]) rfl Tryz.call63 trivial) (S_value2 (@hG) h_156 hr_189 hr_145 h_151 ((hN.mono le_76).mono le_141) hS hV) (by rintro _ w ⟨e_206, xat_207, hE_208, rfl, H_209, le_210, hS⟩; exact ⟨_, rfl, WQ.of fun a ha => And.intro ha.defers (.inr ⟨e_206, xat_207, hE_208, rfl, _, ((((View.le.refl _).trans le_76).trans le_141).trans le_210), hS⟩)⟩) ?_
 clear hV hS
 rintro _ w ⟨c_191, r_195, r_197, r_199, c_200, v_192, fp_193, v_201, fp_202, H_204, hV, rfl, le_205, h_194, hr_196, hr_198, h_203, hS⟩
 refine ⟨_, rfl, ?_⟩
 refine WL.nil (WQ.out nofun ?_)
 replace hS := hS.f2.f2.f7.f7.f7.f6.f7
 exact WQ.there fun a ha => ⟨(r_195, r_197, r_199, c_200, c_191), ⟨r_195, r_197, r_199, c_200, c_191, H_204, v_201, fp_202, v_192, fp_193, rfl, hV.1, (((View.le.refl _).trans le_141).trans le_205), hr_196, hr_198, h_203, h_194, hS, ha.of_sub ⟨rfl, rfl, trivial⟩⟩, hV.2⟩
 intro hc_223
 replace hV := hV.2 hc_223
 refine WC.exit (WQ.pass nofun (WQ.pass nofun (WQ.hit (WQ.next (WC.sr (WL.mv rfl rfl (WL.callP rfl rfl rfl (enters0 (vs := [(pq b_2), sv ([93] : Str)]) Tryz.call64 ⟨rfl, rfl, trivial⟩) (S_want hr_189 hr_145 hS hV) (by rintro _ w ⟨e_216, xat_217, hE_218, rfl, H_219, le_220, hS⟩; exact ⟨_, rfl, WQ.of fun a ha => And.intro ha.defers (.inr ⟨e_216, xat_217, hE_218, rfl, _, ((((View.le.refl _).trans le_76).trans le_141).trans le_220), hS.drop.drop.drop.drop.drop.drop⟩)⟩) ?_)))))))
 clear hV hS
 rintro _ w ⟨r_213, hV, rfl, hr_214, hS⟩
 refine ⟨_, rfl, ?_⟩
 refine WL.nx (WC.region (WL.mv rfl rfl (WL.run hS rfl rfl rfl (ex_nilCheck rfl) (WL.run hS rfl rfl rfl (ex_fieldAddr (o' := 2) Tryz.underlying62 rfl Tryz.sizeOf3 rfl rfl) (WL.run hS rfl rfl rfl (ex_load_box Tryz.isAgg3 rfl rfl) ?_)))))
 obtain ⟨hi_222, hV⟩ := hV
 refine WL.run hS rfl rfl rfl (ex_sub rfl rfl hi_222) (WL.run hS rfl rfl rfl (ex_nilCheck rfl) (WL.run hS rfl rfl rfl (ex_fieldAddr (o' := 2) Tryz.underlying62 rfl Tryz.sizeOf3 rfl rfl) (WL.store_box (pre := [sv text_4, i6 r_213]) (old := [i6 c_144]) (rst := [.bool c_146]) (cs := [i6 (c_144 - (1 : Int))]) (arr' := #[sv text_4, i6 r_213, i6 (c_144 - (1 : Int)), .bool c_146]) Tryz.sizeOf3 rfl rfl rfl ⟨rfl, trivial⟩ rfl rfl rfl rfl hS ?_)))
 clear hS
 intro w hS
 refine WL.nil ?_
 replace hS := hS.f5.f5.f5.f5.f7.f7.f7
 exact leave0 (.inr rfl) rfl (.inl ⟨r_213, (c_144 - (1 : Int)), c_146, c_153, c_148, v_154, fp_155, v_149, fp_150, H_140, hV, rfl, (((View.le.refl _).trans le_76).trans le_141), hr_214, hi_222, h_156, h_151, hS⟩)
 clear hJ_49
 refine WC.sr (WL.mv rfl rfl (WL.run hS rfl rfl rfl (ex_nilCheck rfl) (WL.run hS rfl rfl rfl (ex_fieldAddr (o' := 2) Tryz.underlying62 rfl Tryz.sizeOf3 rfl rfl) (WL.run hS rfl rfl rfl (ex_load_box Tryz.isAgg3 rfl rfl) ?_))))
 obtain ⟨hi_51, hV⟩ := hV
 refine WL.run hS rfl rfl rfl (ex_add rfl rfl hi_51) (WL.run hS rfl rfl rfl (ex_nilCheck rfl) (WL.run hS rfl rfl rfl (ex_fieldAddr (o' := 2) Tryz.underlying62 rfl Tryz.sizeOf3 rfl rfl) (WL.store_box (pre := [sv text_4, i6 xat_5]) (old := [i6 deep_7]) (rst := [.bool heavy_9]) (cs := [i6 (deep_7 + (1 : Int))]) (arr' := #[sv text_4, i6 xat_5, i6 (deep_7 + (1 : Int)), .bool heavy_9]) Tryz.sizeOf3 rfl rfl rfl ⟨rfl, trivial⟩ rfl rfl rfl rfl hS ?_)))
 clear hS
 intro w hS
 refine WL.nx (WC.sr (WL.mv rfl rfl (WL.run hS rfl rfl rfl (ex_nilCheck rfl) (WL.run hS rfl rfl rfl (ex_fieldAddr (o' := 2) Tryz.underlying62 rfl Tryz.sizeOf3 rfl rfl) (WL.run hS rfl rfl rfl (ex_load_box Tryz.isAgg3 rfl rfl) (WL.run hS rfl rfl rfl (ex_gtr rfl rfl) (WL.nx ?_)))))))
 refine WC.sub (m := [(0, (pq b_2)), (1, .func (.func 63) #[] #[(pq b_12), (pq b_20), (pq b_24)]), (15, .bool (decide ((24 : Int) < (deep_7 + (1 : Int)))))]) ⟨rfl, rfl, rfl, trivial⟩ ?_
 refine WC.cond rfl ?_ ?_
 intro hc_59
 replace hV := hV.1 (of_decide_eq_true hc_59)
 refine WC.region (WL.mv rfl rfl (WL.callP rfl rfl rfl (enters0 (vs := [(pq b_2), i6 (6 : Int)]) Tryz.call25 ⟨rfl, rfl, trivial⟩) (S_fail hr_6 hi_51 (show I64 (6 : Int) by unfold I64; omega) hS hV) (by rintro _ w ⟨e_54, xat_55, hE_56, rfl, H_57, le_58, hS⟩; exact ⟨_, rfl, WQ.of fun a ha => And.intro ha.defers (.inr ⟨e_54, xat_55, hE_56, rfl, _, ((View.le.refl _).trans le_58), hS.drop.drop.drop.drop.drop.drop⟩)⟩) ?_))
 clear hV hS
 rintro _ w ⟨hV, rfl, hS⟩
 refine ⟨_, rfl, ?_⟩
 refine WL.nil ?_
 replace hS := hS.f3.f3.f7.f7.f7.f7.f7
 exact WQ.there fun a ha => ⟨(deep_7 + (1 : Int)), hV, hi_51, hS, ha.of_sub ⟨rfl, rfl, trivial⟩⟩
 intro hc_59
 replace hV := hV.2 (of_decide_eq_false hc_59)
 refine WC.skip ?_
 replace hS := hS.f3.f3.f7.f7.f7.f7.f7
 exact WQ.there fun a ha => ⟨(deep_7 + (1 : Int)), hV, hi_51, hS, ha.of_sub ⟨rfl, rfl, trivial⟩⟩

theorem S_value (m0 : Nat) : ∀ {w0 : World} {H : View} {L : Seg} {w : World} {b_2 : Nat} {text_4 : Str} {xat_5 : Int} {deep_7 : Int} {heavy_9 : Bool} {E : Int → Int → Prop} {Q : Val → Int → Int → Bool → Prop} (hr_6 : I64 xat_5) (hr_8 : I64 deep_7) (hN : GlobN w0 H) (hS : St w0 H ([(b_2, oc #[sv text_4, i6 xat_5, i6 deep_7, .bool heavy_9] 62)] ++ L) w) (hV : V_value m0 text_4 xat_5 deep_7 heavy_9 E Q),
 Calls Tryz.prog 23 #[(pq b_2)] w fun e w' => (∃ (r1 : Val) (r2 : Int) (r3 : Int) (r4 : Bool) (u1 : Value) (H' : View), Q r1 r2 r3 r4 ∧ e = .returned (.agg #[u1]) ∧ View.le H H' ∧ IsW H' u1 r1 ∧ I64 r2 ∧ I64 r3 ∧ St w0 H' ([(b_2, oc #[sv text_4, i6 r2, i6 r3, .bool r4] 62)] ++ L) w') ∨ (∃ e1 a1, E e1 a1 ∧ e = .panicked (faultC e1 a1) ∧ ∃ H1, View.le H H1 ∧ St w0 H1 L w') := by
 induction m0 with
 | zero => intro w0 H L w b_2 text_4 xat_5 deep_7 heavy_9 E Q hr_6 hr_8 hN hS hV; exact hV.elim
 | succ m0 ih =>
  intro w0 H L w b_2 text_4 xat_5 deep_7 heavy_9 E Q hr_6 hr_8 hN hS hV
  unfold V_value at hV
  refine enter Tryz.func23 rfl Tryz.ntmps23 rfl (lk_args_cons (d := 0) (v := (pq b_2)) rfl (lk_args_nil _)) (WC.sr (WL.box (arr := #[(pq b_2)]) rfl rfl rfl hS ?_))
  clear hS
  intro b_10 w hS
  refine WL.alloc (arr := #[.nilIface]) rfl Tryz.zeroValue25 rfl hS ?_
  clear hS
  intro b_12 w hS
  refine WL.nx (WC.sr ?_)
  replace hS := hS.f2
  refine WL.run hS rfl rfl rfl (ex_load_box Tryz.isAgg60 rfl rfl) ?_
  replace hS := hS.f3
  refine WL.call rfl rfl rfl (enters0 (vs := [(pq b_2)]) Tryz.call24 ⟨rfl, trivial⟩) (S_skip hr_6 hr_8 hS hV) ?_
  clear hV hS
  rintro _ w ⟨r_14, hV, rfl, hr_15, hS⟩
  refine ⟨_, rfl, ?_⟩
  refine WL.nx (WC.sr (WL.alloc (arr := #[(.slice none 0 0)]) rfl Tryz.zeroValue42 rfl hS ?_))
  clear hS
  intro b_17 w hS
  refine WL.alloc (arr := #[(.slice none 0 0)]) rfl Tryz.zeroValue42 rfl hS ?_
  clear hS
  intro b_20 w hS
  refine WL.nx (WC.sr (WL.run hS rfl rfl rfl (ex_makeFunc (vs := [(pq b_17), (pq b_10)]) ⟨rfl, rfl, trivial⟩) (WL.alloc (arr := #[.nilFunc]) rfl Tryz.zeroValue1 rfl hS ?_)))
  clear hS
  intro b_23 w hS
  refine WL.store_box (pre := []) (old := [.nilFunc]) (rst := []) (cs := [.func (.func 56) #[] #[(pq b_17), (pq b_10)]]) (arr' := #[.func (.func 56) #[] #[(pq b_17), (pq b_10)]]) Tryz.sizeOf1 rfl rfl rfl ⟨rfl, trivial⟩ rfl rfl rfl rfl hS ?_
  clear hS
  intro w hS
  refine WL.nx (WC.seq (WC.seq (WC.quiet (C := St w0 H ([(b_23, Obj.cells #[.func (.func 56) #[] #[(pq b_17), (pq b_10)]] 1 (0, 0))] ++ ([(b_20, oc #[(.slice none 0 0)] 42)] ++ ([(b_17, oc #[(.slice none 0 0)] 42)] ++ ([(b_2, oc #[sv text_4, i6 r_14, i6 deep_7, .bool heavy_9] 62)] ++ ([(b_10, oc #[(pq b_2)] 60)] ++ ([(b_12, oc #[.nilIface] 25)] ++ L))))))) Tryz.mixed (by kernel_rfl) (hS.drawn _) ?_)))
  clear hS w
  refine Wq.run rfl rfl rfl ((ex_load_box Tryz.isAgg60 rfl rfl).of (fun _ h => St.f5 h)) (Wq.run rfl rfl rfl (ex_nilCheck rfl) (Wq.run rfl rfl rfl (ex_fieldAddr (o' := 0) Tryz.underlying62 rfl Tryz.sizeOf9 rfl rfl) (Wq.run rfl rfl rfl ((ex_load_box Tryz.isAgg9 rfl rfl).of (fun _ h => St.f4 h)) (Wq.run rfl rfl rfl ((ex_load_box Tryz.isAgg60 rfl rfl).of (fun _ h => St.f5 h)) (Wq.run rfl rfl rfl (ex_nilCheck rfl) (Wq.run rfl rfl rfl (ex_fieldAddr (o' := 1) Tryz.underlying62 rfl Tryz.sizeOf3 rfl rfl) (Wq.run rfl rfl rfl ((ex_load_box Tryz.isAgg3 rfl rfl).of (fun _ h => St.f4 h)) ?_)))))))
  obtain ⟨hb_25, hV⟩ := hV
  refine Wq.run rfl rfl rfl (ex_s_lo Tryz.underlying9 rfl rfl hb_25) (Wq.run rfl rfl rfl (ex_assign rfl) (Wq.nil fun w hS => (WQ.next (WC.sub (m := [(1, (pq b_10)), (2, (pq b_12)), (3, (pq b_17)), (4, (pq b_20)), (5, (pq b_23)), (6, sv (text_4.drop r_14.toNat))]) ⟨rfl, rfl, rfl, rfl, rfl, rfl, trivial⟩ (WC.block (WC.sr (WL.mv rfl rfl ?_)))))))
  refine WL.call rfl rfl rfl (enters0 (vs := [sv (text_4.drop r_14.toNat), sv ([123] : Str)]) Tryz.call57 ⟨rfl, rfl, trivial⟩) (S_hasPre  hS hV) ?_
  clear hV hS
  rintro _ w ⟨r_26, hV, rfl, hS⟩
  refine ⟨_, rfl, ?_⟩
  refine WL.ma rfl rfl (WL.nx ?_)
  refine WC.cond rfl ?_ ?_
  intro hc_162
  replace hV := hV.1 hc_162
  refine WC.sr ?_
  replace hS := hS.f5
  refine WL.run hS rfl rfl rfl (ex_load_box Tryz.isAgg60 rfl rfl) ?_
  replace hS := hS.f2
  refine WL.run hS rfl rfl rfl (ex_load_box Tryz.isAgg1 rfl rfl) ?_
  replace hS := hS.nilseg
  replace hS := hS.f3.f2.f5.f6
  refine WL.callP rfl rfl rfl (enters0 (vs := [(pq b_2), sv ([125] : Str), .func (.func 56) #[] #[(pq b_17), (pq b_10)]]) Tryz.call58 ⟨rfl, rfl, rfl, trivial⟩) (S_list (@ih) hr_15 hr_8 OwnSl.nil hN hS hV) (by rintro _ w ⟨e_39, xat_40, hE_41, rfl, H_42, le_43, hS⟩; exact ⟨_, rfl, WQ.of fun a ha => And.intro ha.defers (.inr ⟨e_39, xat_40, hE_41, rfl, _, ((View.le.refl _).trans le_43), hS.drop.drop.drop⟩)⟩) ?_
  clear hV hS
  rintro _ w ⟨r_28, r_30, r_32, c_33, v_34, fp_35, H_37, hV, rfl, le_38, hr_29, hr_31, h_36, hS⟩
  refine ⟨_, rfl, ?_⟩
  refine WL.nx ?_
  replace hS := hS.f6.drop
  replace hS := hS.f5.drop
  refine WC.seq (WC.drawn (σ := [0, 1, 2, 3, 4]) (C := St w0 H_37 ([(b_2, oc #[sv text_4, i6 r_28, i6 r_30, .bool r_32] 62)] ++ ([(b_17, oc #[v_34] 42)] ++ (fp_35 ++ ([(b_10, oc #[(pq b_2)] 60)] ++ ([(b_12, oc #[.nilIface] 25)] ++ L)))))) [[], [], [1], [0, 1, 2], [0, 1, 2, 3]] [2, 3, 4] Tryz.mixed (by kernel_rfl) (hS.drawn _) ?_)
  clear hS w
  refine Wd.runb (off := 0) rfl rfl rfl rfl (fun _ _ _ h => ex_load_box Tryz.isAgg60 rfl h) rfl (fun _ h => St.f4 h) fun q_46 hq_45 => (Wd.runb (off := 0) rfl rfl rfl rfl (fun _ _ _ h => ex_load_box Tryz.isAgg42 rfl h) rfl (fun _ h => St.f2 h) fun q_48 hq_47 => (Wd.turn rfl rfl rfl fun w hS => ?_))
  replace hS := hS.f3
  refine WL.call rfl rfl rfl (enters0 (vs := [v_34]) Tryz.call60 ⟨rfl, trivial⟩) (S_SetOf h_36 hS hV) ?_
  clear hV hS
  rintro _ w ⟨r_49, u_50, H_52, hV, rfl, le_53, h_51, hS⟩
  refine ⟨_, rfl, ?_⟩
  refine WL.nil (DQ.mk2 (C' := St w0 H_52 ([(b_2, oc #[sv text_4, i6 r_28, i6 r_30, .bool r_32] 62)] ++ ([(b_17, oc #[v_34] 42)] ++ ([(b_10, oc #[(pq b_2)] 60)] ++ ([(b_12, oc #[.nilIface] 25)] ++ L))))) hS ⟨il, .inr (hq_45 H_52 ([(b_2, oc #[sv text_4, i6 r_28, i6 r_30, .bool r_32] 62)] ++ ([(b_17, oc #[v_34] 42)] ++ ([(b_12, oc #[.nilIface] 25)] ++ L))) #[(pq b_2)] _ rfl (fun _ h => St.f3 h)), trivial⟩ ?_)
  clear hS w
  refine Wd.turn rfl rfl rfl fun w hS => (WL.call rfl rfl rfl (enters0 (vs := [(pq b_2), .agg #[u_50]]) Tryz.call59 ⟨rfl, rfl, trivial⟩) (S_weighed hr_29 hr_31 h_51 hS hV) ?_)
  clear hV hS
  rintro _ w ⟨r_54, r_57, u_55, H_58, hV, rfl, le_59, h_56, hS⟩
  refine ⟨_, rfl, ?_⟩
  refine WL.nil (DQ.mk2 (C' := St w0 H_58 ([(b_2, oc #[sv text_4, i6 r_28, i6 r_30, .bool r_57] 62)] ++ ([(b_17, oc #[v_34] 42)] ++ ([(b_10, oc #[(pq b_2)] 60)] ++ ([(b_12, oc #[.nilIface] 25)] ++ L))))) hS ⟨il, il, trivial⟩ ?_)
  clear hS w
  refine Wd.turn rfl rfl rfl fun w hS => ?_
  replace hS := hS.f4
  refine WL.store_box (pre := []) (old := [.nilIface]) (rst := []) (cs := [u_55]) (arr' := #[u_55]) Tryz.sizeOf25 rfl rfl rfl ⟨(IsW.one h_56), trivial⟩ rfl rfl rfl rfl hS ?_
  clear hS
  intro w hS
  refine WL.nil (DQ.mk2 (C' := St w0 H_58 ([(b_12, oc #[u_55] 25)] ++ ([(b_2, oc #[sv text_4, i6 r_28, i6 r_30, .bool r_57] 62)] ++ ([(b_17, oc #[v_34] 42)] ++ ([(b_10, oc #[(pq b_2)] 60)] ++ L))))) hS ⟨il, il, trivial⟩ ?_)
  clear hS w
  refine Wd.nil fun w hS => (WQ.next (WC.sub (m := [(2, (pq b_12))]) ⟨rfl, trivial⟩ ?_))
  replace hS := hS.f4.drop
  replace hS := hS.f3.drop
  refine WC.ret (WQ.out nofun (WQ.pass nofun ?_))
  have hl_60 := load_own_agg (P := Tryz.prog) (cs := [u_55]) Tryz.isAgg25 Tryz.sizeOf25 hS rfl
  replace hS := hS.drop
  exact leavec1 (il) rfl rfl hl_60 (.inl ⟨r_54, r_28, r_30, r_57, u_55, H_58, hV, rfl, ((((View.le.refl _).trans le_38).trans le_53).trans le_59), h_56, hr_29, hr_31, hS⟩)
  intro hc_162
  replace hV := hV.2 hc_162
  refine WC.sr (WL.mv rfl rfl (WL.call rfl rfl rfl (enters0 (vs := [sv (text_4.drop r_14.toNat), sv ([60, 60] : Str)]) Tryz.call57 ⟨rfl, rfl, trivial⟩) (S_hasPre  hS hV) ?_))
  clear hV hS
  rintro _ w ⟨r_61, hV, rfl, hS⟩
  refine ⟨_, rfl, ?_⟩
  refine WL.ma rfl rfl (WL.nx ?_)
  refine WC.cond rfl ?_ ?_
  intro hc_161
  replace hV := hV.1 hc_161
  refine WC.sr ?_
  replace hS := hS.f5
  refine WL.run hS rfl rfl rfl (ex_load_box Tryz.isAgg60 rfl rfl) ?_
  replace hS := hS.f2
  refine WL.run hS rfl rfl rfl (ex_load_box Tryz.isAgg1 rfl rfl) ?_
  replace hS := hS.nilseg
  replace hS := hS.f3.f2.f5.f6
  refine WL.callP rfl rfl rfl (enters0 (vs := [(pq b_2), sv ([62, 62] : Str), .func (.func 56) #[] #[(pq b_17), (pq b_10)]]) Tryz.call58 ⟨rfl, rfl, rfl, trivial⟩) (S_list (@ih) hr_15 hr_8 OwnSl.nil hN hS hV) (by rintro _ w ⟨e_74, xat_75, hE_76, rfl, H_77, le_78, hS⟩; exact ⟨_, rfl, WQ.of fun a ha => And.intro ha.defers (.inr ⟨e_74, xat_75, hE_76, rfl, _, ((View.le.refl _).trans le_78), hS.drop.drop.drop⟩)⟩) ?_
  clear hV hS
  rintro _ w ⟨r_63, r_65, r_67, c_68, v_69, fp_70, H_72, hV, rfl, le_73, hr_64, hr_66, h_71, hS⟩
  refine ⟨_, rfl, ?_⟩
  refine WL.nx (WC.sub (m := [(1, (pq b_10)), (2, (pq b_12)), (3, (pq b_17))]) ⟨rfl, rfl, rfl, trivial⟩ ?_)
  replace hS := hS.f6.drop
  replace hS := hS.f5.drop
  refine WC.seq (WC.drawn (σ := [0, 1, 2, 3, 4]) (C := St w0 H_72 ([(b_2, oc #[sv text_4, i6 r_63, i6 r_65, .bool r_67] 62)] ++ ([(b_17, oc #[v_69] 42)] ++ (fp_70 ++ ([(b_10, oc #[(pq b_2)] 60)] ++ ([(b_12, oc #[.nilIface] 25)] ++ L)))))) [[], [], [1], [0, 1, 2], [0, 1, 2, 3]] [2, 3, 4] Tryz.mixed (by kernel_rfl) (hS.drawn _) ?_)
  clear hS w
  refine Wd.runb (off := 0) rfl rfl rfl rfl (fun _ _ _ h => ex_load_box Tryz.isAgg60 rfl h) rfl (fun _ h => St.f4 h) fun q_81 hq_80 => (Wd.runb (off := 0) rfl rfl rfl rfl (fun _ _ _ h => ex_load_box Tryz.isAgg42 rfl h) rfl (fun _ h => St.f2 h) fun q_83 hq_82 => (Wd.turn rfl rfl rfl fun w hS => ?_))
  replace hS := hS.f3
  obtain ⟨H_84, le_85, h_86, hS⟩ : ∃ K, View.le H_72 K ∧ IsSl K cV v_69 c_68 ∧ St w0 K ([(b_2, oc #[sv text_4, i6 r_63, i6 r_65, .bool r_67] 62)] ++ ([(b_17, oc #[v_69] 42)] ++ ([(b_10, oc #[(pq b_2)] 60)] ++ ([(b_12, oc #[.nilIface] 25)] ++ L)))) w := ⟨_, hS.put_le, h_71.share hS.put_le, hS.freeze⟩
  refine WL.call rfl rfl rfl (enters0 (vs := [v_69]) Tryz.call61 ⟨rfl, trivial⟩) (S_SequenceOf h_86 hS hV) ?_
  clear hV hS
  rintro _ w ⟨r_87, u_88, H_90, hV, rfl, le_91, h_89, hS⟩
  refine ⟨_, rfl, ?_⟩
  refine WL.nil (DQ.mk2 (C' := St w0 H_90 ([(b_2, oc #[sv text_4, i6 r_63, i6 r_65, .bool r_67] 62)] ++ ([(b_17, oc #[v_69] 42)] ++ ([(b_10, oc #[(pq b_2)] 60)] ++ ([(b_12, oc #[.nilIface] 25)] ++ L))))) hS ⟨il, .inr (hq_80 H_90 ([(b_2, oc #[sv text_4, i6 r_63, i6 r_65, .bool r_67] 62)] ++ ([(b_17, oc #[v_69] 42)] ++ ([(b_12, oc #[.nilIface] 25)] ++ L))) #[(pq b_2)] _ rfl (fun _ h => St.f3 h)), trivial⟩ ?_)
  clear hS w
  refine Wd.turn rfl rfl rfl fun w hS => (WL.call rfl rfl rfl (enters0 (vs := [(pq b_2), .agg #[u_88]]) Tryz.call59 ⟨rfl, rfl, trivial⟩) (S_weighed hr_64 hr_66 h_89 hS hV) ?_)
  clear hV hS
  rintro _ w ⟨r_92, r_95, u_93, H_96, hV, rfl, le_97, h_94, hS⟩
  refine ⟨_, rfl, ?_⟩
  refine WL.nil (DQ.mk2 (C' := St w0 H_96 ([(b_2, oc #[sv text_4, i6 r_63, i6 r_65, .bool r_95] 62)] ++ ([(b_17, oc #[v_69] 42)] ++ ([(b_10, oc #[(pq b_2)] 60)] ++ ([(b_12, oc #[.nilIface] 25)] ++ L))))) hS ⟨il, il, trivial⟩ ?_)
  clear hS w
  refine Wd.turn rfl rfl rfl fun w hS => ?_
  replace hS := hS.f4
  refine WL.store_box (pre := []) (old := [.nilIface]) (rst := []) (cs := [u_93]) (arr' := #[u_93]) Tryz.sizeOf25 rfl rfl rfl ⟨(IsW.one h_94), trivial⟩ rfl rfl rfl rfl hS ?_
  clear hS
  intro w hS
  refine WL.nil (DQ.mk2 (C' := St w0 H_96 ([(b_12, oc #[u_93] 25)] ++ ([(b_2, oc #[sv text_4, i6 r_63, i6 r_65, .bool r_95] 62)] ++ ([(b_17, oc #[v_69] 42)] ++ ([(b_10, oc #[(pq b_2)] 60)] ++ L))))) hS ⟨il, il, trivial⟩ ?_)
  clear hS w
  refine Wd.nil fun w hS => (WQ.next ?_)
  replace hS := hS.f4.drop
  replace hS := hS.f3.drop
  refine WC.ret (WQ.out nofun (WQ.pass nofun ?_))
  have hl_98 := load_own_agg (P := Tryz.prog) (cs := [u_93]) Tryz.isAgg25 Tryz.sizeOf25 hS rfl
  replace hS := hS.drop
  exact leavec1 (il) rfl rfl hl_98 (.inl ⟨r_92, r_63, r_65, r_95, u_93, H_96, hV, rfl, (((((View.le.refl _).trans le_73).trans le_85).trans le_91).trans le_97), h_94, hr_64, hr_66, hS⟩)
  intro hc_161
  replace hV := hV.2 hc_161
  refine WC.sr (WL.mv rfl rfl (WL.call rfl rfl rfl (enters0 (vs := [sv (text_4.drop r_14.toNat), sv ([91] : Str)]) Tryz.call57 ⟨rfl, rfl, trivial⟩) (S_hasPre  hS hV) ?_))
  clear hV hS
  rintro _ w ⟨r_99, hV, rfl, hS⟩
  refine ⟨_, rfl, ?_⟩
  refine WL.ma rfl rfl (WL.nx ?_)
  refine WC.cond rfl ?_ ?_
  intro hc_160
  replace hV := hV.1 hc_160
  refine WC.sr ?_
  replace hS := hS.f5
  refine WL.run hS rfl rfl rfl (ex_load_box Tryz.isAgg60 rfl rfl) (WL.run hS rfl rfl rfl (ex_makeFunc (vs := [(pq b_20), (pq b_10), (pq b_23)]) ⟨rfl, rfl, rfl, trivial⟩) ?_)
  replace hS := hS.nilseg
  replace hS := hS.nilseg
  replace hS := hS.f6.f5.f5.f5.f6.f7
  refine WL.callP rfl rfl rfl (enters0 (vs := [(pq b_2), .func (.func 63) #[] #[(pq b_20), (pq b_10), (pq b_23)]]) Tryz.call62 ⟨rfl, rfl, trivial⟩) (S_pairs (@ih) hr_15 hr_8 OwnSl.nil OwnSl.nil hN hS hV) (by rintro _ w ⟨e_116, xat_117, hE_118, rfl, H_119, le_120, hS⟩; exact ⟨_, rfl, WQ.of fun a ha => And.intro ha.defers (.inr ⟨e_116, xat_117, hE_118, rfl, _, ((View.le.refl _).trans le_120), hS.drop⟩)⟩) ?_
  clear hV hS
  rintro _ w ⟨r_101, r_103, r_105, c_106, c_110, v_107, fp_108, v_111, fp_112, H_114, hV, rfl, le_115, hr_102, hr_104, h_109, h_113, hS⟩
  refine ⟨_, rfl, ?_⟩
  refine WL.nx (WC.sub (m := [(1, (pq b_10)), (2, (pq b_12)), (3, (pq b_17)), (4, (pq b_20))]) ⟨rfl, rfl, rfl, rfl, trivial⟩ ?_)
  replace hS := hS.f5.drop
  refine WC.seq (WC.drawn (σ := [0, 1, 2, 3, 4, 5]) (C := St w0 H_114 ([(b_2, oc #[sv text_4, i6 r_101, i6 r_103, .bool r_105] 62)] ++ ([(b_20, oc #[v_107] 42)] ++ (fp_108 ++ ([(b_10, oc #[(pq b_2)] 60)] ++ ([(b_17, oc #[v_111] 42)] ++ (fp_112 ++ ([(b_12, oc #[.nilIface] 25)] ++ L)))))))) [[], [], [], [1, 2], [0, 1, 2, 3], [0, 1, 2, 3, 4]] [3, 4, 5] Tryz.mixed (by kernel_rfl) (hS.drawn _) ?_)
  clear hS w
  refine Wd.runb (off := 0) rfl rfl rfl rfl (fun _ _ _ h => ex_load_box Tryz.isAgg60 rfl h) rfl (fun _ h => St.f4 h) fun q_124 hq_123 => (Wd.runb (off := 0) rfl rfl rfl rfl (fun _ _ _ h => ex_load_box Tryz.isAgg42 rfl h) rfl (fun _ h => St.f2 h) fun q_126 hq_125 => (Wd.runb (off := 0) rfl rfl rfl rfl (fun _ _ _ h => ex_load_box Tryz.isAgg42 rfl h) rfl (fun _ h => St.f5 h) fun q_128 hq_127 => (Wd.turn rfl rfl rfl fun w hS => ?_)))
  replace hS := hS.f3
  obtain ⟨H_129, le_130, h_131, hS⟩ : ∃ K, View.le H_114 K ∧ IsSl K cV v_107 c_106 ∧ St w0 K ([(b_2, oc #[sv text_4, i6 r_101, i6 r_103, .bool r_105] 62)] ++ ([(b_20, oc #[v_107] 42)] ++ ([(b_10, oc #[(pq b_2)] 60)] ++ ([(b_17, oc #[v_111] 42)] ++ (fp_112 ++ ([(b_12, oc #[.nilIface] 25)] ++ L)))))) w := ⟨_, hS.put_le, h_109.share hS.put_le, hS.freeze⟩
  replace hS := hS.f5
  obtain ⟨H_132, le_133, h_134, hS⟩ : ∃ K, View.le H_129 K ∧ IsSl K cV v_111 c_110 ∧ St w0 K ([(b_2, oc #[sv text_4, i6 r_101, i6 r_103, .bool r_105] 62)] ++ ([(b_20, oc #[v_107] 42)] ++ ([(b_10, oc #[(pq b_2)] 60)] ++ ([(b_17, oc #[v_111] 42)] ++ ([(b_12, oc #[.nilIface] 25)] ++ L))))) w := ⟨_, hS.put_le, (h_113.mono le_130).share hS.put_le, hS.freeze⟩
  refine WL.call rfl rfl rfl (enters0 (vs := [v_107, v_111]) Tryz.call65 ⟨rfl, rfl, trivial⟩) (S_FunctionOf (h_131.mono le_133) h_134 hS hV) ?_
  clear hV hS
  rintro _ w ⟨r_135, u_136, H_138, hV, rfl, le_139, h_137, hS⟩
  refine ⟨_, rfl, ?_⟩
  refine WL.nil (DQ.mk2 (C' := St w0 H_138 ([(b_2, oc #[sv text_4, i6 r_101, i6 r_103, .bool r_105] 62)] ++ ([(b_20, oc #[v_107] 42)] ++ ([(b_10, oc #[(pq b_2)] 60)] ++ ([(b_17, oc #[v_111] 42)] ++ ([(b_12, oc #[.nilIface] 25)] ++ L)))))) hS ⟨il, il, .inr (hq_123 H_138 ([(b_2, oc #[sv text_4, i6 r_101, i6 r_103, .bool r_105] 62)] ++ ([(b_20, oc #[v_107] 42)] ++ ([(b_17, oc #[v_111] 42)] ++ ([(b_12, oc #[.nilIface] 25)] ++ L)))) #[(pq b_2)] _ rfl (fun _ h => St.f3 h)), trivial⟩ ?_)
  clear hS w
  refine Wd.turn rfl rfl rfl fun w hS => (WL.call rfl rfl rfl (enters0 (vs := [(pq b_2), .agg #[u_136]]) Tryz.call59 ⟨rfl, rfl, trivial⟩) (S_weighed hr_102 hr_104 h_137 hS hV) ?_)
  clear hV hS
  rintro _ w ⟨r_140, r_143, u_141, H_144, hV, rfl, le_145, h_142, hS⟩
  refine ⟨_, rfl, ?_⟩
  refine WL.nil (DQ.mk2 (C' := St w0 H_144 ([(b_2, oc #[sv text_4, i6 r_101, i6 r_103, .bool r_143] 62)] ++ ([(b_20, oc #[v_107] 42)] ++ ([(b_10, oc #[(pq b_2)] 60)] ++ ([(b_17, oc #[v_111] 42)] ++ ([(b_12, oc #[.nilIface] 25)] ++ L)))))) hS ⟨il, il, il, trivial⟩ ?_)
  clear hS w
  refine Wd.turn rfl rfl rfl fun w hS => ?_
  replace hS := hS.f5
  refine WL.store_box (pre := []) (old := [.nilIface]) (rst := []) (cs := [u_141]) (arr' := #[u_141]) Tryz.sizeOf25 rfl rfl rfl ⟨(IsW.one h_142), trivial⟩ rfl rfl rfl rfl hS ?_
  clear hS
  intro w hS
  refine WL.nil (DQ.mk2 (C' := St w0 H_144 ([(b_12, oc #[u_141] 25)] ++ ([(b_2, oc #[sv text_4, i6 r_101, i6 r_103, .bool r_143] 62)] ++ ([(b_20, oc #[v_107] 42)] ++ ([(b_10, oc #[(pq b_2)] 60)] ++ ([(b_17, oc #[v_111] 42)] ++ L)))))) hS ⟨il, il, il, trivial⟩ ?_)
  clear hS w
  refine Wd.nil fun w hS => (WQ.next ?_)
  replace hS := hS.f4.drop
  replace hS := hS.f4.drop
  replace hS := hS.f3.drop
  refine WC.ret (WQ.out nofun (WQ.pass nofun ?_))
  have hl_146 := load_own_agg (P := Tryz.prog) (cs := [u_141]) Tryz.isAgg25 Tryz.sizeOf25 hS rfl
  replace hS := hS.drop
  exact leavec1 (il) rfl rfl hl_146 (.inl ⟨r_140, r_101, r_103, r_143, u_141, H_144, hV, rfl, ((((((View.le.refl _).trans le_115).trans le_130).trans le_133).trans le_139).trans le_145), h_142, hr_102, hr_104, hS⟩)
  intro hc_160
  replace hV := hV.2 hc_160
  refine WC.skip (WQ.out nofun (WQ.next (WC.sub (m := [(1, (pq b_10)), (2, (pq b_12))]) ⟨rfl, rfl, trivial⟩ ?_)))
  replace hS := hS.f3.drop
  replace hS := hS.f2.drop
  replace hS := hS.drop
  refine WC.sr ?_
  replace hS := hS.f2
  refine WL.run hS rfl rfl rfl (ex_load_box Tryz.isAgg60 rfl rfl) ?_
  replace hS := hS.f2
  refine WL.callP rfl rfl rfl (enters0 (vs := [(pq b_2)]) Tryz.call66 ⟨rfl, trivial⟩) (S_single hr_15 hr_8 hN hS hV) (by rintro _ w ⟨e_154, xat_155, hE_156, rfl, H_157, le_158, hS⟩; exact ⟨_, rfl, WQ.of fun a ha => And.intro ha.defers (.inr ⟨e_154, xat_155, hE_156, rfl, _, ((View.le.refl _).trans le_158), hS.drop.drop⟩)⟩) ?_
  clear hV hS
  rintro _ w ⟨r_147, r_150, u_148, H_152, hV, rfl, le_153, h_149, hr_151, hS⟩
  refine ⟨_, rfl, ?_⟩
  replace hS := hS.f3
  refine WL.store_box (pre := []) (old := [.nilIface]) (rst := []) (cs := [u_148]) (arr' := #[u_148]) Tryz.sizeOf25 rfl rfl rfl ⟨(IsW.one h_149), trivial⟩ rfl rfl rfl rfl hS ?_
  clear hS
  intro w hS
  refine WL.nx ?_
  replace hS := hS.f3.drop
  refine WC.ret ?_
  have hl_159 := load_own_agg (P := Tryz.prog) (cs := [u_148]) Tryz.isAgg25 Tryz.sizeOf25 hS rfl
  replace hS := hS.drop
  exact leavec1 (il) rfl rfl hl_159 (.inl ⟨r_147, r_150, deep_7, heavy_9, u_148, H_152, hV, rfl, ((View.le.refl _).trans le_153), h_149, hr_151, hr_8, hS⟩)

theorem S_rtexts {w0 : World} {H : View} {L : Seg} {w : World} {a_1 : Str} {b_2 : Str} {Q : Int → Prop}  (hS : St w0 H (L) w) (hV : V_rtexts a_1 b_2 Q) :
 Calls Tryz.prog 54 #[sv a_1, sv b_2] w fun e w' => ∃ (r1 : Int), Q r1 ∧ e = .returned (i6 r1) ∧ I64 r1 ∧ St w0 H (L) w' := by
 unfold V_rtexts at hV
 refine enter Tryz.func54 rfl Tryz.ntmps54 rfl (lk_args_cons (d := 0) (v := sv a_1) rfl (lk_args_cons (d := 1) (v := sv b_2) rfl (lk_args_nil _))) (WC.sr (WL.ma rfl rfl (WL.nx (WC.seq (WC.sr (WL.mv rfl rfl (WL.mv rfl rfl ?_)))))))
 refine WL.run hS rfl rfl rfl (ex_s_lss rfl rfl) (WL.nx ?_)
 refine WC.cond rfl ?_ ?_
 intro hc_4
 replace hV := hV.1 hc_4
 refine WC.sr (WL.ma rfl rfl (WL.nx (WC.ret (WQ.pass nofun ?_))))
 exact leave1 rfl rfl (⟨(-1), hV, rfl, (show I64 ((-1) : Int) by unfold I64; omega), hS⟩)
 intro hc_4
 replace hV := hV.2 hc_4
 refine WC.skip (WQ.next (WC.seq (WC.sr (WL.mv rfl rfl (WL.mv rfl rfl (WL.run hS rfl rfl rfl (ex_s_gtr rfl rfl) (WL.nx ?_)))))))
 refine WC.cond rfl ?_ ?_
 intro hc_3
 replace hV := hV.1 hc_3
 refine WC.sr (WL.ma rfl rfl (WL.nx (WC.ret (WQ.pass nofun ?_))))
 exact leave1 rfl rfl (⟨(1 : Int), hV, rfl, (show I64 (1 : Int) by unfold I64; omega), hS⟩)
 intro hc_3
 replace hV := hV.2 hc_3
 refine WC.skip (WQ.next (WC.sr (WL.ma rfl rfl (WL.nx (WC.ret ?_)))))
 exact leave1 rfl rfl (⟨(0 : Int), hV, rfl, (show I64 (0 : Int) by unfold I64; omega), hS⟩)

def H_rCompare (G : RV → RV → (Int → Prop) → Prop) : Prop := ∀ {w0 : World} {H : View} {L : Seg} {w : World} {a_1 : RV} {v_2 : Value} {v_3 : Value} {b_8 : RV} {v_9 : Value} {v_10 : Value} {Q : Int → Prop} (hr_4 : I64 a_1.k) (hr_5 : I64 a_1.i) (h_6 : IsSl H cR v_2 a_1.ks) (h_7 : IsSl H cR v_3 a_1.vs) (hr_11 : I64 b_8.k) (hr_12 : I64 b_8.i) (h_13 : IsSl H cR v_9 b_8.ks) (h_14 : IsSl H cR v_10 b_8.vs) (hS : St w0 H (L) w) (hV : G a_1 b_8 Q), Calls Tryz.prog 20 #[.agg #[i6 a_1.k, i6 a_1.i, sv a_1.t, v_2, v_3], .agg #[i6 b_8.k, i6 b_8.i, sv b_8.t, v_9, v_10]] w fun e w' => ∃ (r1 : Int), Q r1 ∧ e = .returned (i6 r1) ∧ I64 r1 ∧ St w0 H (L) w'

theorem S_rlists {G : RV → RV → (Int → Prop) → Prop} (hG : H_rCompare G) {w0 : World} {H : View} {L : Seg} {w : World} {v_2 : Value} {a_1 : List RV} {v_5 : Value} {b_4 : List RV} {Q : Int → Prop} (h_3 : IsSl H cR v_2 a_1) (h_6 : IsSl H cR v_5 b_4) (hS : St w0 H (L) w) (hV : V_rlists G a_1 b_4 Q) :
 Calls Tryz.prog 55 #[v_2, v_5] w fun e w' => ∃ (r1 : Int), Q r1 ∧ e = .returned (i6 r1) ∧ I64 r1 ∧ St w0 H (L) w' := by
 unfold V_rlists at hV
 refine enter Tryz.func55 rfl Tryz.ntmps55 rfl (lk_args_cons (d := 0) (v := v_2) rfl (lk_args_cons (d := 1) (v := v_5) rfl (lk_args_nil _))) (WC.sr (WL.ma rfl rfl (WL.nx (WC.seq (WC.sr (WL.mv rfl rfl ?_))))))
 have hl_7 : Len a_1 := h_3.bound
 replace hV := hV hl_7
 refine WL.run hS rfl rfl rfl (ex_len_sl Tryz.underlying30 rfl h_3) (WL.mv rfl rfl ?_)
 have hl_8 : Len b_4 := h_6.bound
 replace hV := hV hl_8
 refine WL.run hS rfl rfl rfl (ex_len_sl Tryz.underlying30 rfl h_6) (WL.run hS rfl rfl rfl (ex_lss rfl rfl) (WL.nx ?_))
 refine WC.cond rfl ?_ ?_
 intro hc_164
 replace hV := hV.1 (of_decide_eq_true hc_164)
 refine WC.sr (WL.ma rfl rfl (WL.nx (WC.ret (WQ.pass nofun ?_))))
 exact leave1 rfl rfl (⟨(-1), hV, rfl, (show I64 ((-1) : Int) by unfold I64; omega), hS⟩)
 intro hc_164
 replace hV := hV.2 (of_decide_eq_false hc_164)
 refine WC.skip (WQ.next (WC.seq (WC.sr (WL.mv rfl rfl ?_))))
 have hl_10 : Len a_1 := h_3.bound
 replace hV := hV hl_10
 refine WL.run hS rfl rfl rfl (ex_len_sl Tryz.underlying30 rfl h_3) (WL.mv rfl rfl ?_)
 have hl_11 : Len b_4 := h_6.bound
 replace hV := hV hl_11
 refine WL.run hS rfl rfl rfl (ex_len_sl Tryz.underlying30 rfl h_6) (WL.run hS rfl rfl rfl (ex_gtr rfl rfl) (WL.nx (WC.sub (m := [(0, v_2), (1, v_5), (16, .bool (decide ((b_4.length : Int) < (a_1.length : Int))))]) ⟨rfl, rfl, rfl, trivial⟩ ?_)))
 refine WC.cond rfl ?_ ?_
 intro hc_163
 replace hV := hV.1 (of_decide_eq_true hc_163)
 refine WC.sr (WL.ma rfl rfl (WL.nx (WC.ret (WQ.pass nofun ?_))))
 exact leave1 rfl rfl (⟨(1 : Int), hV, rfl, (show I64 (1 : Int) by unfold I64; omega), hS⟩)
 intro hc_163
 replace hV := hV.2 (of_decide_eq_false hc_163)
 refine WC.skip (WQ.next (WC.seq (WC.sr (WL.ma rfl rfl (WL.nx (WC.block ?_))))))
 obtain ⟨I_111, mu_112, hI_162, hV⟩ := hV
 refine WC.loop (σ := Int) (fun s a w => ∃ (i_61 : Int), s = i_61 ∧ I_111 i_61 ∧ I64 i_61 ∧ St w0 H (L) w ∧ Fr 35 [(0, v_2), (1, v_5), (5, i6 i_61)] a) mu_112 (0 : Int) ?_ ?_
 exact fun a ha => ⟨(0 : Int), rfl, hI_162, (show I64 (0 : Int) by unfold I64; omega), hS, ha.of_sub ⟨rfl, rfl, rfl, trivial⟩⟩
 clear hS hI_162
 rintro i_61 a w ⟨_, rfl, hI, hr_62, hS, ha⟩
 refine in_frame ha ?_
 clear ha
 replace hV := hV _ hI
 clear hI
 refine WC.seq (WC.sr (WL.mv rfl rfl (WL.mv rfl rfl ?_)))
 have hl_114 : Len a_1 := h_3.bound
 replace hV := hV hl_114
 refine WL.run hS rfl rfl rfl (ex_len_sl Tryz.underlying30 rfl h_3) (WL.run hS rfl rfl rfl (ex_lss rfl rfl) (WL.nx ?_))
 refine WC.cond rfl ?_ ?_
 intro hc_161
 replace hV := hV.1 (of_decide_eq_true hc_161)
 refine WC.skip (WQ.next (WC.seq (WC.block (WC.seq (WC.drawn (σ := [0, 1, 2, 3, 4, 5, 6, 7, 8, 9]) (C := St w0 H (L)) [[], [], [0, 1], [0, 1, 2], [], [], [4, 5], [4, 5, 6], [0, 1, 2, 3, 4, 5, 6, 7], [0, 1, 2, 3, 4, 5, 6, 7, 8]] [8] Tryz.mixed (by kernel_rfl) (hS.drawn _) ?_)))))
 clear hS w
 refine Wd.run rfl rfl rfl rfl (fun _ => ex_move rfl) fun q_117 hq_116 => (Wd.run rfl rfl rfl rfl (fun _ => ex_move rfl) fun q_119 hq_118 => ?_)
 obtain ⟨hin_122, hV⟩ := hV
 refine Wd.runx rfl rfl rfl rfl (exAll (ex_index Tryz.underlying30 Tryz.sizeOf32 rfl rfl h_3 hin_122)) ?_
 intro p_123 hp_124
 intro q_121 hq_120
 refine Wd.runs (fp := ([] : Seg)) (L := L) rfl rfl rfl rfl (ex_load_agg_s Tryz.isAgg32 Tryz.sizeOf32 rfl hp_124) (fun _ h => h) ?_
 rintro u_127 ⟨_, rfl, hu⟩
 obtain ⟨v_128, v_129, rfl, hr_130, hr_131, h_132, h_133⟩ := cR_rep.1 hu
 replace hV := hV hr_130 hr_131
 intro q_126 hq_125
 refine Wd.run rfl rfl rfl rfl (fun _ => ex_move rfl) fun q_135 hq_134 => (Wd.run rfl rfl rfl rfl (fun _ => ex_move rfl) fun q_137 hq_136 => ?_)
 obtain ⟨hin_140, hV⟩ := hV
 refine Wd.runx rfl rfl rfl rfl (exAll (ex_index Tryz.underlying30 Tryz.sizeOf32 rfl rfl h_6 hin_140)) ?_
 intro p_141 hp_142
 intro q_139 hq_138
 refine Wd.runs (fp := ([] : Seg)) (L := L) rfl rfl rfl rfl (ex_load_agg_s Tryz.isAgg32 Tryz.sizeOf32 rfl hp_142) (fun _ h => h) ?_
 rintro u_145 ⟨_, rfl, hu⟩
 obtain ⟨v_146, v_147, rfl, hr_148, hr_149, h_150, h_151⟩ := cR_rep.1 hu
 replace hV := hV hr_148 hr_149
 intro q_144 hq_143
 refine Wd.turn rfl rfl rfl fun w hS => (WL.call rfl rfl rfl (enters0 (vs := [.agg #[i6 ((ix a_1 i_61).k), i6 ((ix a_1 i_61).i), sv ((ix a_1 i_61).t), v_128, v_129], .agg #[i6 ((ix b_4 i_61).k), i6 ((ix b_4 i_61).i), sv ((ix b_4 i_61).t), v_146, v_147]]) Tryz.call20 ⟨rfl, rfl, trivial⟩) (hG (a_1 := (ix a_1 i_61)) (b_8 := (ix b_4 i_61)) hr_130 hr_131 h_132 h_133 hr_148 hr_149 h_150 h_151 hS hV) ?_)
 clear hV hS
 rintro _ w ⟨r_152, hV, rfl, hr_153, hS⟩
 refine ⟨_, rfl, ?_⟩
 refine WL.nil (DQ.mk2 (C' := St w0 H (L)) hS ⟨il, il, il, il, il, il, il, il, trivial⟩ ?_)
 clear hS w
 refine Wd.run rfl rfl rfl rfl (fun _ => ex_assign rfl) fun q_156 hq_155 => (Wd.nil fun w hS => (WQ.next (WC.sub (m := [(0, v_2), (1, v_5), (5, i6 i_61), (6, i6 r_152)]) ⟨rfl, rfl, rfl, rfl, trivial⟩ (WC.sr (WL.mv rfl rfl (WL.run hS rfl rfl rfl (ex_neq rfl rfl) (WL.nx ?_)))))))
 refine WC.cond rfl ?_ ?_
 intro hc_160
 replace hV := hV.1 (of_decide_eq_true hc_160)
 refine WC.sr (WL.mv rfl rfl (WL.ma rfl rfl (WL.nx (WC.ret (WQ.out nofun (WQ.pass nofun (WQ.pass nofun ?_)))))))
 refine WQ.out nofun (WQ.pass nofun ?_)
 exact leave1 rfl rfl (⟨r_152, hV, rfl, hr_153, hS⟩)
 intro hc_160
 replace hV := hV.2 (of_decide_eq_false hc_160)
 refine WC.skip (WQ.out nofun (WQ.next (WC.region (WL.mv rfl rfl ?_))))
 obtain ⟨hi_159, hV⟩ := hV
 refine WL.run hS rfl rfl rfl (ex_add rfl rfl hi_159) (WL.ma rfl rfl (WL.nil ?_))
 exact WQ.there fun a ha => ⟨(i_61 + (1 : Int)), ⟨(i_61 + (1 : Int)), rfl, hV.1, hi_159, hS, ha.of_sub ⟨rfl, rfl, rfl, trivial⟩⟩, hV.2⟩
 intro hc_161
 replace hV := hV.2 (of_decide_eq_false hc_161)
 refine WC.exit (WQ.pass nofun (WQ.pass nofun (WQ.hit (WQ.next (WC.sr (WL.ma rfl rfl (WL.nx ?_)))))))
 refine WC.ret ?_
 exact leave1 rfl rfl (⟨(0 : Int), hV, rfl, (show I64 (0 : Int) by unfold I64; omega), hS⟩)

theorem S_rCompare (m0 : Nat) : ∀ {w0 : World} {H : View} {L : Seg} {w : World} {a_1 : RV} {v_2 : Value} {v_3 : Value} {b_8 : RV} {v_9 : Value} {v_10 : Value} {Q : Int → Prop} (hr_4 : I64 a_1.k) (hr_5 : I64 a_1.i) (h_6 : IsSl H cR v_2 a_1.ks) (h_7 : IsSl H cR v_3 a_1.vs) (hr_11 : I64 b_8.k) (hr_12 : I64 b_8.i) (h_13 : IsSl H cR v_9 b_8.ks) (h_14 : IsSl H cR v_10 b_8.vs) (hS : St w0 H (L) w) (hV : V_rCompare m0 a_1 b_8 Q),
 Calls Tryz.prog 20 #[.agg #[i6 a_1.k, i6 a_1.i, sv a_1.t, v_2, v_3], .agg #[i6 b_8.k, i6 b_8.i, sv b_8.t, v_9, v_10]] w fun e w' => ∃ (r1 : Int), Q r1 ∧ e = .returned (i6 r1) ∧ I64 r1 ∧ St w0 H (L) w' := by
 induction m0 with
 | zero => intro w0 H L w a_1 v_2 v_3 b_8 v_9 v_10 Q hr_4 hr_5 h_6 h_7 hr_11 hr_12 h_13 h_14 hS hV; exact hV.elim
 | succ m0 ih =>
  intro w0 H L w a_1 v_2 v_3 b_8 v_9 v_10 Q hr_4 hr_5 h_6 h_7 hr_11 hr_12 h_13 h_14 hS hV
  unfold V_rCompare at hV
  refine enter Tryz.func20 rfl Tryz.ntmps20 rfl (lk_args_cons (d := 0) (v := .agg #[i6 a_1.k, i6 a_1.i, sv a_1.t, v_2, v_3]) rfl (lk_args_cons (d := 1) (v := .agg #[i6 b_8.k, i6 b_8.i, sv b_8.t, v_9, v_10]) rfl (lk_args_nil _))) (WC.sr (WL.box (arr := #[i6 a_1.k, i6 a_1.i, sv a_1.t, v_2, v_3]) rfl rfl rfl hS ?_))
  clear hS
  intro b_15 w hS
  refine WL.box (arr := #[i6 b_8.k, i6 b_8.i, sv b_8.t, v_9, v_10]) rfl rfl rfl hS ?_
  clear hS
  intro b_17 w hS
  refine WL.ma rfl rfl (WL.nx (WC.seq (WC.sr (WL.run hS rfl rfl rfl (ex_fieldAddr (o' := 0) Tryz.underlying32 rfl Tryz.sizeOf3 rfl rfl) ?_))))
  replace hS := hS.f2
  refine WL.run hS rfl rfl rfl (ex_load_box Tryz.isAgg3 rfl rfl) (WL.run hS rfl rfl rfl (ex_fieldAddr (o' := 0) Tryz.underlying32 rfl Tryz.sizeOf3 rfl rfl) ?_)
  replace hS := hS.f2
  refine WL.run hS rfl rfl rfl (ex_load_box Tryz.isAgg3 rfl rfl) (WL.run hS rfl rfl rfl (ex_lss rfl rfl) (WL.nx ?_))
  refine WC.cond rfl ?_ ?_
  intro hc_57
  replace hV := hV.1 (of_decide_eq_true hc_57)
  refine WC.sr (WL.ma rfl rfl (WL.nx (WC.sub (m := [(4, i6 (-1))]) ⟨rfl, trivial⟩ ?_)))
  replace hS := hS.f2.drop
  replace hS := hS.drop
  refine WC.ret (WQ.pass nofun ?_)
  exact leave1 rfl rfl (⟨(-1), hV, rfl, (show I64 ((-1) : Int) by unfold I64; omega), hS⟩)
  intro hc_57
  replace hV := hV.2 (of_decide_eq_false hc_57)
  refine WC.skip (WQ.next (WC.seq (WC.sr (WL.run hS rfl rfl rfl (ex_fieldAddr (o' := 0) Tryz.underlying32 rfl Tryz.sizeOf3 rfl rfl) ?_))))
  replace hS := hS.f2
  refine WL.run hS rfl rfl rfl (ex_load_box Tryz.isAgg3 rfl rfl) (WL.run hS rfl rfl rfl (ex_fieldAddr (o' := 0) Tryz.underlying32 rfl Tryz.sizeOf3 rfl rfl) ?_)
  replace hS := hS.f2
  refine WL.run hS rfl rfl rfl (ex_load_box Tryz.isAgg3 rfl rfl) (WL.run hS rfl rfl rfl (ex_gtr rfl rfl) (WL.nx (WC.sub (m := [(2, (pq b_15)), (3, (pq b_17)), (15, .bool (decide (b_8.k < a_1.k)))]) ⟨rfl, rfl, rfl, trivial⟩ ?_)))
  refine WC.cond rfl ?_ ?_
  intro hc_56
  replace hV := hV.1 (of_decide_eq_true hc_56)
  refine WC.sr (WL.ma rfl rfl (WL.nx ?_))
  replace hS := hS.f2.drop
  replace hS := hS.drop
  refine WC.ret (WQ.pass nofun ?_)
  exact leave1 rfl rfl (⟨(1 : Int), hV, rfl, (show I64 (1 : Int) by unfold I64; omega), hS⟩)
  intro hc_56
  replace hV := hV.2 (of_decide_eq_false hc_56)
  refine WC.skip (WQ.next (WC.seq (WC.sr (WL.run hS rfl rfl rfl (ex_fieldAddr (o' := 1) Tryz.underlying32 rfl Tryz.sizeOf2 rfl rfl) ?_))))
  replace hS := hS.f2
  refine WL.run hS rfl rfl rfl (ex_load_box Tryz.isAgg2 rfl rfl) (WL.run hS rfl rfl rfl (ex_fieldAddr (o' := 1) Tryz.underlying32 rfl Tryz.sizeOf2 rfl rfl) ?_)
  replace hS := hS.f2
  refine WL.run hS rfl rfl rfl (ex_load_box Tryz.isAgg2 rfl rfl) (WL.run hS rfl rfl rfl (ex_lss rfl rfl) (WL.nx ?_))
  refine WC.cond rfl ?_ ?_
  intro hc_55
  replace hV := hV.1 (of_decide_eq_true hc_55)
  refine WC.sr (WL.ma rfl rfl (WL.nx ?_))
  replace hS := hS.f2.drop
  replace hS := hS.drop
  refine WC.ret (WQ.pass nofun ?_)
  exact leave1 rfl rfl (⟨(-1), hV, rfl, (show I64 ((-1) : Int) by unfold I64; omega), hS⟩)
  intro hc_55
  replace hV := hV.2 (of_decide_eq_false hc_55)
  refine WC.skip (WQ.next (WC.seq (WC.sr (WL.run hS rfl rfl rfl (ex_fieldAddr (o' := 1) Tryz.underlying32 rfl Tryz.sizeOf2 rfl rfl) ?_))))
  replace hS := hS.f2
  refine WL.run hS rfl rfl rfl (ex_load_box Tryz.isAgg2 rfl rfl) (WL.run hS rfl rfl rfl (ex_fieldAddr (o' := 1) Tryz.underlying32 rfl Tryz.sizeOf2 rfl rfl) ?_)
  replace hS := hS.f2
  refine WL.run hS rfl rfl rfl (ex_load_box Tryz.isAgg2 rfl rfl) (WL.run hS rfl rfl rfl (ex_gtr rfl rfl) (WL.nx (WC.sub (m := [(2, (pq b_15)), (3, (pq b_17)), (25, .bool (decide (b_8.i < a_1.i)))]) ⟨rfl, rfl, rfl, trivial⟩ ?_)))
  refine WC.cond rfl ?_ ?_
  intro hc_54
  replace hV := hV.1 (of_decide_eq_true hc_54)
  refine WC.sr (WL.ma rfl rfl (WL.nx ?_))
  replace hS := hS.f2.drop
  replace hS := hS.drop
  refine WC.ret (WQ.pass nofun ?_)
  exact leave1 rfl rfl (⟨(1 : Int), hV, rfl, (show I64 (1 : Int) by unfold I64; omega), hS⟩)
  intro hc_54
  replace hV := hV.2 (of_decide_eq_false hc_54)
  refine WC.skip (WQ.next (WC.sr (WL.run hS rfl rfl rfl (ex_fieldAddr (o' := 2) Tryz.underlying32 rfl Tryz.sizeOf9 rfl rfl) ?_)))
  replace hS := hS.f2
  refine WL.run hS rfl rfl rfl (ex_load_box Tryz.isAgg9 rfl rfl) (WL.run hS rfl rfl rfl (ex_fieldAddr (o' := 2) Tryz.underlying32 rfl Tryz.sizeOf9 rfl rfl) ?_)
  replace hS := hS.f2
  refine WL.run hS rfl rfl rfl (ex_load_box Tryz.isAgg9 rfl rfl) (WL.call rfl rfl rfl (enters0 (vs := [sv a_1.t, sv b_8.t]) Tryz.call54 ⟨rfl, rfl, trivial⟩) (S_rtexts  hS hV) ?_)
  clear hV hS
  rintro _ w ⟨r_23, hV, rfl, hr_24, hS⟩
  refine ⟨_, rfl, ?_⟩
  refine WL.ma rfl rfl (WL.nx ?_)
  obtain ⟨J_33, hJ_34, hV⟩ := hV
  refine WC.meet (fun a w => ∃ (c_31 : Int), J_33 c_31 ∧ I64 c_31 ∧ St w0 H ([(b_15, oc #[i6 a_1.k, i6 a_1.i, sv a_1.t, v_2, v_3] 32)] ++ ([(b_17, oc #[i6 b_8.k, i6 b_8.i, sv b_8.t, v_9, v_10] 32)] ++ L)) w ∧ Fr 46 [(2, (pq b_15)), (3, (pq b_17)), (5, i6 c_31)] a) ?_ ?_
  rintro a w ⟨c_31, hI, hr_32, hS, ha⟩
  refine in_frame ha ?_
  clear ha hV
  have hV := hJ_34 _ hI
  clear hI hJ_34
  obtain ⟨J_47, hJ_48, hV⟩ := hV
  refine WC.meet (fun a w => ∃ (c_45 : Int), J_47 c_45 ∧ I64 c_45 ∧ St w0 H (L) w ∧ Fr 46 [(5, i6 c_45)] a) ?_ ?_
  rintro a w ⟨c_45, hI, hr_46, hS, ha⟩
  refine in_frame ha ?_
  clear ha hV
  have hV := hJ_48 _ hI
  clear hI hJ_48
  refine WC.sr (WL.mv rfl rfl (WL.ma rfl rfl (WL.nx (WC.ret ?_))))
  exact leave1 rfl rfl (⟨c_45, hV, rfl, hr_46, hS⟩)
  clear hJ_48
  refine WC.sr (WL.mv rfl rfl (WL.run hS rfl rfl rfl (ex_eql rfl rfl) (WL.nx ?_)))
  refine WC.cond rfl ?_ ?_
  intro hc_53
  replace hV := hV.1 (of_decide_eq_true hc_53)
  refine WC.region (WL.run hS rfl rfl rfl (ex_fieldAddr (o' := 4) Tryz.underlying32 rfl Tryz.sizeOf30 rfl rfl) (WL.run hS rfl rfl rfl (ex_load_box Tryz.isAgg30 rfl rfl) (WL.run hS rfl rfl rfl (ex_fieldAddr (o' := 4) Tryz.underlying32 rfl Tryz.sizeOf30 rfl rfl) ?_)))
  replace hS := hS.f2
  refine WL.run hS rfl rfl rfl (ex_load_box Tryz.isAgg30 rfl rfl) (WL.call rfl rfl rfl (enters0 (vs := [v_3, v_10]) Tryz.call55 ⟨rfl, rfl, trivial⟩) (S_rlists (@ih) h_7 h_14 hS hV) ?_)
  clear hV hS
  rintro _ w ⟨r_50, hV, rfl, hr_51, hS⟩
  refine ⟨_, rfl, ?_⟩
  refine WL.ma rfl rfl (WL.nil ?_)
  replace hS := hS.drop
  replace hS := hS.drop
  exact WQ.there fun a ha => ⟨r_50, hV, hr_51, hS, ha.of_sub ⟨rfl, trivial⟩⟩
  intro hc_53
  replace hV := hV.2 (of_decide_eq_false hc_53)
  refine WC.skip ?_
  replace hS := hS.drop
  replace hS := hS.drop
  exact WQ.there fun a ha => ⟨c_31, hV, hr_32, hS, ha.of_sub ⟨rfl, trivial⟩⟩
  clear hJ_34
  refine WC.sr (WL.mv rfl rfl (WL.run hS rfl rfl rfl (ex_eql rfl rfl) (WL.nx ?_)))
  refine WC.cond rfl ?_ ?_
  intro hc_39
  replace hV := hV.1 (of_decide_eq_true hc_39)
  refine WC.region (WL.run hS rfl rfl rfl (ex_fieldAddr (o' := 3) Tryz.underlying32 rfl Tryz.sizeOf30 rfl rfl) ?_)
  replace hS := hS.f2
  refine WL.run hS rfl rfl rfl (ex_load_box Tryz.isAgg30 rfl rfl) (WL.run hS rfl rfl rfl (ex_fieldAddr (o' := 3) Tryz.underlying32 rfl Tryz.sizeOf30 rfl rfl) ?_)
  replace hS := hS.f2
  refine WL.run hS rfl rfl rfl (ex_load_box Tryz.isAgg30 rfl rfl) (WL.call rfl rfl rfl (enters0 (vs := [v_2, v_9]) Tryz.call55 ⟨rfl, rfl, trivial⟩) (S_rlists (@ih) h_6 h_13 hS hV) ?_)
  clear hV hS
  rintro _ w ⟨r_36, hV, rfl, hr_37, hS⟩
  refine ⟨_, rfl, ?_⟩
  refine WL.ma rfl rfl (WL.nil ?_)
  replace hS := hS.f2
  exact WQ.there fun a ha => ⟨r_36, hV, hr_37, hS, ha.of_sub ⟨rfl, rfl, rfl, trivial⟩⟩
  intro hc_39
  replace hV := hV.2 (of_decide_eq_false hc_39)
  refine WC.skip ?_
  replace hS := hS.f2
  exact WQ.there fun a ha => ⟨r_23, hV, hr_24, hS, ha.of_sub ⟨rfl, rfl, rfl, trivial⟩⟩

theorem S_rWeight (m0 : Nat) : ∀ {w0 : World} {H : View} {L : Seg} {w : World} {v_1 : RV} {v_2 : Value} {v_3 : Value} {Q : Int → Prop} (hr_4 : I64 v_1.k) (hr_5 : I64 v_1.i) (h_6 : IsSl H cR v_2 v_1.ks) (h_7 : IsSl H cR v_3 v_1.vs) (hS : St w0 H (L) w) (hV : V_rWeight m0 v_1 Q),
 Calls Tryz.prog 14 #[.agg #[i6 v_1.k, i6 v_1.i, sv v_1.t, v_2, v_3]] w fun e w' => ∃ (r1 : Int), Q r1 ∧ e = .returned (i6 r1) ∧ I64 r1 ∧ St w0 H (L) w' := by
 induction m0 with
 | zero => intro w0 H L w v_1 v_2 v_3 Q hr_4 hr_5 h_6 h_7 hS hV; exact hV.elim
 | succ m0 ih =>
  intro w0 H L w v_1 v_2 v_3 Q hr_4 hr_5 h_6 h_7 hS hV
  unfold V_rWeight at hV
  refine enter Tryz.func14 rfl Tryz.ntmps14 rfl (lk_args_cons (d := 0) (v := .agg #[i6 v_1.k, i6 v_1.i, sv v_1.t, v_2, v_3]) rfl (lk_args_nil _)) (WC.sr (WL.box (arr := #[i6 v_1.k, i6 v_1.i, sv v_1.t, v_2, v_3]) rfl rfl rfl hS ?_))
  clear hS
  intro b_8 w hS
  refine WL.ma rfl rfl (WL.nx (WC.sr (WL.ma rfl rfl (WL.nx (WC.seq (WC.sr (WL.ma rfl rfl ?_)))))))
  refine WL.nx (WC.block ?_)
  obtain ⟨I_54, mu_55, hI_145, hV⟩ := hV
  refine WC.loop (σ := Int × Int) (fun s a w => ∃ (n_30 : Int) (i_32 : Int), s = (n_30, i_32) ∧ I_54 (n_30, i_32) ∧ I64 n_30 ∧ I64 i_32 ∧ St w0 H ([(b_8, oc #[i6 v_1.k, i6 v_1.i, sv v_1.t, v_2, v_3] 32)] ++ L) w ∧ Fr 41 [(1, (pq b_8)), (3, i6 n_30), (4, i6 i_32)] a) mu_55 ((1 : Int), (0 : Int)) ?_ ?_
  exact fun a ha => ⟨(1 : Int), (0 : Int), rfl, hI_145, (show I64 (1 : Int) by unfold I64; omega), (show I64 (0 : Int) by unfold I64; omega), hS, ha.of_sub ⟨rfl, rfl, rfl, trivial⟩⟩
  clear hS hI_145
  rintro _ a w ⟨n_30, i_32, rfl, hI, hr_31, hr_33, hS, ha⟩
  refine in_frame ha ?_
  clear ha
  replace hV := hV _ hI
  clear hI
  refine WC.seq (WC.sr (WL.mv rfl rfl (WL.run hS rfl rfl rfl (ex_fieldAddr (o' := 3) Tryz.underlying32 rfl Tryz.sizeOf30 rfl rfl) (WL.run hS rfl rfl rfl (ex_load_box Tryz.isAgg30 rfl rfl) ?_))))
  have hl_57 : Len v_1.ks := h_6.bound
  replace hV := hV hl_57
  refine WL.run hS rfl rfl rfl (ex_len_sl Tryz.underlying30 rfl h_6) (WL.run hS rfl rfl rfl (ex_lss rfl rfl) (WL.nx ?_))
  refine WC.cond rfl ?_ ?_
  intro hc_144
  replace hV := hV.1 (of_decide_eq_true hc_144)
  refine WC.skip (WQ.next (WC.seq (WC.block (WC.sr (WL.run hS rfl rfl rfl (ex_fieldAddr (o' := 3) Tryz.underlying32 rfl Tryz.sizeOf30 rfl rfl) (WL.run hS rfl rfl rfl (ex_load_box Tryz.isAgg30 rfl rfl) (WL.mv rfl rfl ?_)))))))
  obtain ⟨hin_59, hV⟩ := hV
  refine WL.runx hS rfl rfl rfl (ex_index Tryz.underlying30 Tryz.sizeOf32 rfl rfl h_6 hin_59) ?_
  intro p_60 hp_61
  refine WL.runx hS rfl rfl rfl (ex_load_agg Tryz.isAgg32 Tryz.sizeOf32 rfl hp_61) ?_
  rintro u_62 ⟨_, rfl, hu⟩
  obtain ⟨v_63, v_64, rfl, hr_65, hr_66, h_67, h_68⟩ := cR_rep.1 hu
  replace hV := hV hr_65 hr_66
  refine WL.call rfl rfl rfl (enters0 (vs := [.agg #[i6 ((ix v_1.ks i_32).k), i6 ((ix v_1.ks i_32).i), sv ((ix v_1.ks i_32).t), v_63, v_64]]) Tryz.call14 ⟨rfl, trivial⟩) (ih (v_1 := (ix v_1.ks i_32)) hr_65 hr_66 h_67 h_68 hS hV) ?_
  clear hV hS
  rintro _ w ⟨r_69, hV, rfl, hr_70, hS⟩
  refine ⟨_, rfl, ?_⟩
  refine WL.ma rfl rfl (WL.nx (WC.sub (m := [(1, (pq b_8)), (3, i6 n_30), (4, i6 i_32), (5, i6 r_69)]) ⟨rfl, rfl, rfl, rfl, trivial⟩ (WC.region (WL.mv rfl rfl (WL.mv rfl rfl ?_)))))
  obtain ⟨hi_73, hV⟩ := hV
  refine WL.run hS rfl rfl rfl (ex_add rfl rfl hi_73) (WL.ma rfl rfl (WL.nil (WQ.out nofun (WQ.next (WC.region (WL.mv rfl rfl ?_))))))
  obtain ⟨hi_75, hV⟩ := hV
  refine WL.run hS rfl rfl rfl (ex_add rfl rfl hi_75) (WL.ma rfl rfl (WL.nil ?_))
  exact WQ.there fun a ha => ⟨((n_30 + r_69), (i_32 + (1 : Int))), ⟨(n_30 + r_69), (i_32 + (1 : Int)), rfl, hV.1, hi_73, hi_75, hS, ha.of_sub ⟨rfl, rfl, rfl, trivial⟩⟩, hV.2⟩
  intro hc_144
  replace hV := hV.2 (of_decide_eq_false hc_144)
  refine WC.exit (WQ.pass nofun (WQ.pass nofun (WQ.hit (WQ.next (WC.seq (WC.sr (WL.ma rfl rfl ?_)))))))
  refine WL.nx (WC.block ?_)
  obtain ⟨I_120, mu_121, hI_143, hV⟩ := hV
  refine WC.loop (σ := Int × Int) (fun s a w => ∃ (n_96 : Int) (i_98 : Int), s = (n_96, i_98) ∧ I_120 (n_96, i_98) ∧ I64 n_96 ∧ I64 i_98 ∧ St w0 H ([(b_8, oc #[i6 v_1.k, i6 v_1.i, sv v_1.t, v_2, v_3] 32)] ++ L) w ∧ Fr 41 [(1, (pq b_8)), (3, i6 n_96), (6, i6 i_98)] a) mu_121 (n_30, (0 : Int)) ?_ ?_
  exact fun a ha => ⟨n_30, (0 : Int), rfl, hI_143, hr_31, (show I64 (0 : Int) by unfold I64; omega), hS, ha.of_sub ⟨rfl, rfl, rfl, trivial⟩⟩
  clear hS hI_143
  rintro _ a w ⟨n_96, i_98, rfl, hI, hr_97, hr_99, hS, ha⟩
  refine in_frame ha ?_
  clear ha
  replace hV := hV _ hI
  clear hI
  refine WC.seq (WC.sr (WL.mv rfl rfl (WL.run hS rfl rfl rfl (ex_fieldAddr (o' := 4) Tryz.underlying32 rfl Tryz.sizeOf30 rfl rfl) (WL.run hS rfl rfl rfl (ex_load_box Tryz.isAgg30 rfl rfl) ?_))))
  have hl_123 : Len v_1.vs := h_7.bound
  replace hV := hV hl_123
  refine WL.run hS rfl rfl rfl (ex_len_sl Tryz.underlying30 rfl h_7) (WL.run hS rfl rfl rfl (ex_lss rfl rfl) (WL.nx ?_))
  refine WC.cond rfl ?_ ?_
  intro hc_142
  replace hV := hV.1 (of_decide_eq_true hc_142)
  refine WC.skip (WQ.next (WC.seq (WC.block (WC.sr (WL.run hS rfl rfl rfl (ex_fieldAddr (o' := 4) Tryz.underlying32 rfl Tryz.sizeOf30 rfl rfl) (WL.run hS rfl rfl rfl (ex_load_box Tryz.isAgg30 rfl rfl) (WL.mv rfl rfl ?_)))))))
  obtain ⟨hin_125, hV⟩ := hV
  refine WL.runx hS rfl rfl rfl (ex_index Tryz.underlying30 Tryz.sizeOf32 rfl rfl h_7 hin_125) ?_
  intro p_126 hp_127
  refine WL.runx hS rfl rfl rfl (ex_load_agg Tryz.isAgg32 Tryz.sizeOf32 rfl hp_127) ?_
  rintro u_128 ⟨_, rfl, hu⟩
  obtain ⟨v_129, v_130, rfl, hr_131, hr_132, h_133, h_134⟩ := cR_rep.1 hu
  replace hV := hV hr_131 hr_132
  refine WL.call rfl rfl rfl (enters0 (vs := [.agg #[i6 ((ix v_1.vs i_98).k), i6 ((ix v_1.vs i_98).i), sv ((ix v_1.vs i_98).t), v_129, v_130]]) Tryz.call14 ⟨rfl, trivial⟩) (ih (v_1 := (ix v_1.vs i_98)) hr_131 hr_132 h_133 h_134 hS hV) ?_
  clear hV hS
  rintro _ w ⟨r_135, hV, rfl, hr_136, hS⟩
  refine ⟨_, rfl, ?_⟩
  refine WL.ma rfl rfl (WL.nx (WC.sub (m := [(1, (pq b_8)), (3, i6 n_96), (6, i6 i_98), (7, i6 r_135)]) ⟨rfl, rfl, rfl, rfl, trivial⟩ (WC.region (WL.mv rfl rfl (WL.mv rfl rfl ?_)))))
  obtain ⟨hi_139, hV⟩ := hV
  refine WL.run hS rfl rfl rfl (ex_add rfl rfl hi_139) (WL.ma rfl rfl (WL.nil (WQ.out nofun (WQ.next (WC.region (WL.mv rfl rfl ?_))))))
  obtain ⟨hi_141, hV⟩ := hV
  refine WL.run hS rfl rfl rfl (ex_add rfl rfl hi_141) (WL.ma rfl rfl (WL.nil ?_))
  exact WQ.there fun a ha => ⟨((n_96 + r_135), (i_98 + (1 : Int))), ⟨(n_96 + r_135), (i_98 + (1 : Int)), rfl, hV.1, hi_139, hi_141, hS, ha.of_sub ⟨rfl, rfl, rfl, trivial⟩⟩, hV.2⟩
  intro hc_142
  replace hV := hV.2 (of_decide_eq_false hc_142)
  refine WC.exit (WQ.pass nofun (WQ.pass nofun (WQ.hit (WQ.next ?_))))
  replace hS := hS.drop
  refine WC.sr (WL.mv rfl rfl (WL.ma rfl rfl (WL.nx (WC.ret ?_))))
  exact leave1 rfl rfl (⟨n_96, hV, rfl, hr_97, hS⟩)

theorem S_rLight {w0 : World} {H : View} {L : Seg} {w : World} {v_1 : RV} {v_2 : Value} {v_3 : Value} {Q : RV → Prop} (hr_4 : I64 v_1.k) (hr_5 : I64 v_1.i) (h_6 : IsSl H cR v_2 v_1.ks) (h_7 : IsSl H cR v_3 v_1.vs) (hS : St w0 H (L) w) (hV : V_rLight v_1 Q) :
 Calls Tryz.prog 80 #[.agg #[i6 v_1.k, i6 v_1.i, sv v_1.t, v_2, v_3]] w fun e w' => ∃ (r1 : RV) (u1 : Value) (w1 : Value) (H' : View), Q r1 ∧ e = .returned (.agg #[i6 r1.k, i6 r1.i, sv r1.t, u1, w1]) ∧ View.le H H' ∧ I64 r1.k ∧ I64 r1.i ∧ IsSl H' cR u1 r1.ks ∧ IsSl H' cR w1 r1.vs ∧ St w0 H' (L) w' := by
 unfold V_rLight at hV
 refine enter Tryz.func80 rfl Tryz.ntmps80 rfl (lk_args_cons (d := 0) (v := .agg #[i6 v_1.k, i6 v_1.i, sv v_1.t, v_2, v_3]) rfl (lk_args_nil _)) (WC.sr (WL.box (arr := #[i6 v_1.k, i6 v_1.i, sv v_1.t, v_2, v_3]) rfl rfl rfl hS ?_))
 clear hS
 intro b_8 w hS
 refine WL.alloc (arr := #[i6 0, i6 0, sv ([] : Str), (.slice none 0 0), (.slice none 0 0)]) rfl Tryz.zeroValue32 rfl hS ?_
 clear hS
 intro b_10 w hS
 refine WL.nx (WC.sr ?_)
 replace hS := hS.f2
 refine WL.run hS rfl rfl rfl (ex_load_box_agg (cs := [i6 v_1.k, i6 v_1.i, sv v_1.t, v_2, v_3]) Tryz.isAgg32 Tryz.sizeOf32 rfl rfl rfl) ?_
 obtain ⟨mf, hV⟩ := hV
 refine WL.call rfl rfl rfl (enters0 (vs := [.agg #[i6 v_1.k, i6 v_1.i, sv v_1.t, v_2, v_3]]) Tryz.call14 ⟨rfl, trivial⟩) (S_rWeight mf (v_1 := v_1) hr_4 hr_5 h_6 h_7 hS hV) ?_
 clear hV hS
 rintro _ w ⟨r_14, hV, rfl, hr_15, hS⟩
 refine ⟨_, rfl, ?_⟩
 refine WL.ma rfl rfl (WL.nx (WC.seq (WC.sr (WL.mv rfl rfl (WL.run hS rfl rfl rfl (ex_gtr rfl rfl) (WL.nx ?_))))))
 refine WC.cond rfl ?_ ?_
 intro hc_22
 replace hV := hV.1 (of_decide_eq_true hc_22)
 refine WC.sr (WL.run hS rfl rfl rfl (ex_build (vs := []) (zc := #[i6 0, i6 0, sv ([] : Str), (.slice none 0 0), (.slice none 0 0)]) (cs := #[i6 0, i6 0, sv ([] : Str), (.slice none 0 0), (.slice none 0 0)]) (places := #[(0, 1), (1, 1), (2, 1), (3, 1), (4, 1)]) Tryz.underlying32 Tryz.zeroValue32 (fun w => by simp [Tryz.sizeOf2, Tryz.sizeOf3, Tryz.sizeOf30, Tryz.sizeOf9]) rfl trivial rfl (by simp [Instr.fill, cells_int, cells_bool, cells_iface, cells_niliface, cells_slice, str_cells])) ?_)
 replace hS := hS.f2
 refine WL.store_box (pre := []) (old := [i6 0, i6 0, sv ([] : Str), (.slice none 0 0), (.slice none 0 0)]) (rst := []) (cs := [i6 0, i6 0, sv ([] : Str), (.slice none 0 0), (.slice none 0 0)]) (arr' := #[i6 0, i6 0, sv ([] : Str), (.slice none 0 0), (.slice none 0 0)]) Tryz.sizeOf32 rfl rfl rfl ⟨rfl, rfl, rfl, rfl, rfl, trivial⟩ rfl rfl rfl rfl hS ?_
 clear hS
 intro w hS
 refine WL.nx ?_
 replace hS := hS.f2.drop
 refine WC.ret (WQ.pass nofun ?_)
 have hl_20 := load_own_agg (P := Tryz.prog) (cs := [i6 0, i6 0, sv ([] : Str), (.slice none 0 0), (.slice none 0 0)]) Tryz.isAgg32 Tryz.sizeOf32 hS rfl
 replace hS := hS.drop
 exact leavec1 (il) rfl rfl hl_20 (⟨(RV.mk 0 0 ([] : Str) ([] : List RV) ([] : List RV)), (.slice none 0 0), (.slice none 0 0), H, hV, rfl, (View.le.refl _), (show I64 0 by unfold I64; omega), (show I64 0 by unfold I64; omega), IsSl.nil, IsSl.nil, hS⟩)
 intro hc_22
 replace hV := hV.2 (of_decide_eq_false hc_22)
 refine WC.skip (WQ.next (WC.sr (WL.run hS rfl rfl rfl (ex_load_box_agg (cs := [i6 v_1.k, i6 v_1.i, sv v_1.t, v_2, v_3]) Tryz.isAgg32 Tryz.sizeOf32 rfl rfl rfl) ?_)))
 replace hS := hS.f2
 refine WL.store_box (pre := []) (old := [i6 0, i6 0, sv ([] : Str), (.slice none 0 0), (.slice none 0 0)]) (rst := []) (cs := [i6 v_1.k, i6 v_1.i, sv v_1.t, v_2, v_3]) (arr' := #[i6 v_1.k, i6 v_1.i, sv v_1.t, v_2, v_3]) Tryz.sizeOf32 rfl rfl rfl ⟨rfl, rfl, rfl, (IsSl.one h_6), (IsSl.one h_7), trivial⟩ rfl rfl rfl rfl hS ?_
 clear hS
 intro w hS
 refine WL.nx ?_
 replace hS := hS.f2.drop
 refine WC.ret ?_
 have hl_21 := load_own_agg (P := Tryz.prog) (cs := [i6 v_1.k, i6 v_1.i, sv v_1.t, v_2, v_3]) Tryz.isAgg32 Tryz.sizeOf32 hS rfl
 replace hS := hS.drop
 exact leavec1 (il) rfl rfl hl_21 (⟨v_1, v_2, v_3, H, hV, rfl, (View.le.refl _), hr_4, hr_5, h_6, h_7, hS⟩)

theorem S_rTruth {w0 : World} {H : View} {L : Seg} {w : World} {b_1 : Bool} {Q : RV → Prop}  (hS : St w0 H (L) w) (hV : V_rTruth b_1 Q) :
 Calls Tryz.prog 83 #[.bool b_1] w fun e w' => ∃ (r1 : RV) (u1 : Value) (w1 : Value) (H' : View), Q r1 ∧ e = .returned (.agg #[i6 r1.k, i6 r1.i, sv r1.t, u1, w1]) ∧ View.le H H' ∧ I64 r1.k ∧ I64 r1.i ∧ IsSl H' cR u1 r1.ks ∧ IsSl H' cR w1 r1.vs ∧ St w0 H' (L) w' := by
 unfold V_rTruth at hV
 refine enter Tryz.func83 rfl Tryz.ntmps83 rfl (lk_args_cons (d := 0) (v := .bool b_1) rfl (lk_args_nil _)) (WC.sr (WL.alloc (arr := #[i6 0, i6 0, sv ([] : Str), (.slice none 0 0), (.slice none 0 0)]) rfl Tryz.zeroValue32 rfl hS ?_))
 clear hS
 intro b_2 w hS
 refine WL.nx (WC.seq (WC.sr (WL.mv rfl rfl (WL.nx ?_))))
 refine WC.cond rfl ?_ ?_
 intro hc_12
 replace hV := hV.1 hc_12
 refine WC.sr (WL.run hS rfl rfl rfl (ex_build (vs := [i6 (1 : Int), i6 (1 : Int)]) (zc := #[i6 0, i6 0, sv ([] : Str), (.slice none 0 0), (.slice none 0 0)]) (cs := #[i6 (1 : Int), i6 (1 : Int), sv ([] : Str), (.slice none 0 0), (.slice none 0 0)]) (places := #[(0, 1), (1, 1), (2, 1), (3, 1), (4, 1)]) Tryz.underlying32 Tryz.zeroValue32 (fun w => by simp [Tryz.sizeOf2, Tryz.sizeOf3, Tryz.sizeOf30, Tryz.sizeOf9]) rfl ⟨rfl, rfl, trivial⟩ rfl (by simp [Instr.fill, cells_int, cells_bool, cells_iface, cells_niliface, cells_slice, str_cells])) (WL.store_box (pre := []) (old := [i6 0, i6 0, sv ([] : Str), (.slice none 0 0), (.slice none 0 0)]) (rst := []) (cs := [i6 (1 : Int), i6 (1 : Int), sv ([] : Str), (.slice none 0 0), (.slice none 0 0)]) (arr' := #[i6 (1 : Int), i6 (1 : Int), sv ([] : Str), (.slice none 0 0), (.slice none 0 0)]) Tryz.sizeOf32 rfl rfl rfl ⟨rfl, rfl, rfl, rfl, rfl, trivial⟩ rfl rfl rfl rfl hS ?_))
 clear hS
 intro w hS
 refine WL.nx (WC.ret (WQ.pass nofun ?_))
 have hl_8 := load_own_agg (P := Tryz.prog) (cs := [i6 (1 : Int), i6 (1 : Int), sv ([] : Str), (.slice none 0 0), (.slice none 0 0)]) Tryz.isAgg32 Tryz.sizeOf32 hS rfl
 replace hS := hS.drop
 exact leavec1 (il) rfl rfl hl_8 (⟨(RV.mk (1 : Int) (1 : Int) ([] : Str) ([] : List RV) ([] : List RV)), (.slice none 0 0), (.slice none 0 0), H, hV, rfl, (View.le.refl _), (show I64 (1 : Int) by unfold I64; omega), (show I64 (1 : Int) by unfold I64; omega), IsSl.nil, IsSl.nil, hS⟩)
 intro hc_12
 replace hV := hV.2 hc_12
 refine WC.skip (WQ.next (WC.sr (WL.run hS rfl rfl rfl (ex_build (vs := [i6 (1 : Int)]) (zc := #[i6 0, i6 0, sv ([] : Str), (.slice none 0 0), (.slice none 0 0)]) (cs := #[i6 (1 : Int), i6 0, sv ([] : Str), (.slice none 0 0), (.slice none 0 0)]) (places := #[(0, 1), (1, 1), (2, 1), (3, 1), (4, 1)]) Tryz.underlying32 Tryz.zeroValue32 (fun w => by simp [Tryz.sizeOf2, Tryz.sizeOf3, Tryz.sizeOf30, Tryz.sizeOf9]) rfl ⟨rfl, trivial⟩ rfl (by simp [Instr.fill, cells_int, cells_bool, cells_iface, cells_niliface, cells_slice, str_cells])) (WL.store_box (pre := []) (old := [i6 0, i6 0, sv ([] : Str), (.slice none 0 0), (.slice none 0 0)]) (rst := []) (cs := [i6 (1 : Int), i6 0, sv ([] : Str), (.slice none 0 0), (.slice none 0 0)]) (arr' := #[i6 (1 : Int), i6 0, sv ([] : Str), (.slice none 0 0), (.slice none 0 0)]) Tryz.sizeOf32 rfl rfl rfl ⟨rfl, rfl, rfl, rfl, rfl, trivial⟩ rfl rfl rfl rfl hS ?_))))
 clear hS
 intro w hS
 refine WL.nx (WC.ret ?_)
 have hl_11 := load_own_agg (P := Tryz.prog) (cs := [i6 (1 : Int), i6 0, sv ([] : Str), (.slice none 0 0), (.slice none 0 0)]) Tryz.isAgg32 Tryz.sizeOf32 hS rfl
 replace hS := hS.drop
 exact leavec1 (il) rfl rfl hl_11 (⟨(RV.mk (1 : Int) 0 ([] : Str) ([] : List RV) ([] : List RV)), (.slice none 0 0), (.slice none 0 0), H, hV, rfl, (View.le.refl _), (show I64 (1 : Int) by unfold I64; omega), (show I64 0 by unfold I64; omega), IsSl.nil, IsSl.nil, hS⟩)

theorem S_rNumber {w0 : World} {H : View} {L : Seg} {w : World} {n_1 : Int} {Q : RV → Prop} (hr_2 : I64 n_1) (hS : St w0 H (L) w) (hV : V_rNumber n_1 Q) :
 Calls Tryz.prog 81 #[i6 n_1] w fun e w' => ∃ (r1 : RV) (u1 : Value) (w1 : Value) (H' : View), Q r1 ∧ e = .returned (.agg #[i6 r1.k, i6 r1.i, sv r1.t, u1, w1]) ∧ View.le H H' ∧ I64 r1.k ∧ I64 r1.i ∧ IsSl H' cR u1 r1.ks ∧ IsSl H' cR w1 r1.vs ∧ St w0 H' (L) w' := by
 unfold V_rNumber at hV
 refine enter Tryz.func81 rfl Tryz.ntmps81 rfl (lk_args_cons (d := 0) (v := i6 n_1) rfl (lk_args_nil _)) (WC.sr (WL.alloc (arr := #[i6 0, i6 0, sv ([] : Str), (.slice none 0 0), (.slice none 0 0)]) rfl Tryz.zeroValue32 rfl hS ?_))
 clear hS
 intro b_3 w hS
 refine WL.nx (WC.sr (WL.mv rfl rfl (WL.run hS rfl rfl rfl (ex_build (vs := [i6 (2 : Int), i6 n_1]) (zc := #[i6 0, i6 0, sv ([] : Str), (.slice none 0 0), (.slice none 0 0)]) (cs := #[i6 (2 : Int), i6 n_1, sv ([] : Str), (.slice none 0 0), (.slice none 0 0)]) (places := #[(0, 1), (1, 1), (2, 1), (3, 1), (4, 1)]) Tryz.underlying32 Tryz.zeroValue32 (fun w => by simp [Tryz.sizeOf2, Tryz.sizeOf3, Tryz.sizeOf30, Tryz.sizeOf9]) rfl ⟨rfl, rfl, trivial⟩ rfl (by simp [Instr.fill, cells_int, cells_bool, cells_iface, cells_niliface, cells_slice, str_cells])) (WL.store_box (pre := []) (old := [i6 0, i6 0, sv ([] : Str), (.slice none 0 0), (.slice none 0 0)]) (rst := []) (cs := [i6 (2 : Int), i6 n_1, sv ([] : Str), (.slice none 0 0), (.slice none 0 0)]) (arr' := #[i6 (2 : Int), i6 n_1, sv ([] : Str), (.slice none 0 0), (.slice none 0 0)]) Tryz.sizeOf32 rfl rfl rfl ⟨rfl, rfl, rfl, rfl, rfl, trivial⟩ rfl rfl rfl rfl hS ?_))))
 clear hS
 intro w hS
 refine WL.nx (WC.ret ?_)
 have hl_9 := load_own_agg (P := Tryz.prog) (cs := [i6 (2 : Int), i6 n_1, sv ([] : Str), (.slice none 0 0), (.slice none 0 0)]) Tryz.isAgg32 Tryz.sizeOf32 hS rfl
 replace hS := hS.drop
 exact leavec1 (il) rfl rfl hl_9 (⟨(RV.mk (2 : Int) n_1 ([] : Str) ([] : List RV) ([] : List RV)), (.slice none 0 0), (.slice none 0 0), H, hV, rfl, (View.le.refl _), (show I64 (2 : Int) by unfold I64; omega), hr_2, IsSl.nil, IsSl.nil, hS⟩)

theorem S_rplace {w0 : World} {H : View} {L : Seg} {w : World} {v_2 : Value} {l_1 : List RV} {v_4 : RV} {v_5 : Value} {v_6 : Value} {Q : Int → Bool → Prop} (h_3 : IsSl H cR v_2 l_1) (hr_7 : I64 v_4.k) (hr_8 : I64 v_4.i) (h_9 : IsSl H cR v_5 v_4.ks) (h_10 : IsSl H cR v_6 v_4.vs) (hS : St w0 H (L) w) (hV : V_rplace l_1 v_4 Q) :
 Calls Tryz.prog 78 #[v_2, .agg #[i6 v_4.k, i6 v_4.i, sv v_4.t, v_5, v_6]] w fun e w' => ∃ (r1 : Int) (r2 : Bool), Q r1 r2 ∧ e = .returned (.tuple #[i6 r1, .bool r2]) ∧ I64 r1 ∧ St w0 H (L) w' := by
 unfold V_rplace at hV
 refine enter Tryz.func78 rfl Tryz.ntmps78 rfl (lk_args_cons (d := 0) (v := v_2) rfl (lk_args_cons (d := 1) (v := .agg #[i6 v_4.k, i6 v_4.i, sv v_4.t, v_5, v_6]) rfl (lk_args_nil _))) (WC.sr (WL.box (arr := #[i6 v_4.k, i6 v_4.i, sv v_4.t, v_5, v_6]) rfl rfl rfl hS ?_))
 clear hS
 intro b_11 w hS
 refine WL.ma rfl rfl (WL.ma rfl rfl (WL.nx (WC.sr (WL.ma rfl rfl (WL.nx (WC.sr (WL.mv rfl rfl ?_)))))))
 have hl_13 : Len l_1 := h_3.bound
 replace hV := hV hl_13
 refine WL.run hS rfl rfl rfl (ex_len_sl Tryz.underlying30 rfl h_3) (WL.ma rfl rfl (WL.nx (WC.seq (WC.block ?_))))
 obtain ⟨I_90, mu_91, hI_129, hV⟩ := hV
 refine WC.loop (σ := Int × Int) (fun s a w => ∃ (a_50 : Int) (b_52 : Int), s = (a_50, b_52) ∧ I_90 (a_50, b_52) ∧ I64 a_50 ∧ I64 b_52 ∧ St w0 H ([(b_11, oc #[i6 v_4.k, i6 v_4.i, sv v_4.t, v_5, v_6] 32)] ++ L) w ∧ Fr 34 [(0, v_2), (3, (pq b_11)), (6, i6 a_50), (7, i6 b_52)] a) mu_91 ((0 : Int), (l_1.length : Int)) ?_ ?_
 exact fun a ha => ⟨(0 : Int), (l_1.length : Int), rfl, hI_129, (show I64 (0 : Int) by unfold I64; omega), (Len.i64 hl_13), hS, ha.of_sub ⟨rfl, rfl, rfl, rfl, trivial⟩⟩
 clear hS hI_129
 rintro _ a w ⟨a_50, b_52, rfl, hI, hr_51, hr_53, hS, ha⟩
 refine in_frame ha ?_
 clear ha
 replace hV := hV _ hI
 clear hI
 refine WC.seq (WC.sr (WL.mv rfl rfl (WL.mv rfl rfl (WL.run hS rfl rfl rfl (ex_lss rfl rfl) (WL.nx ?_)))))
 refine WC.cond rfl ?_ ?_
 intro hc_128
 replace hV := hV.1 (of_decide_eq_true hc_128)
 refine WC.skip (WQ.next (WC.block (WC.sr (WL.mv rfl rfl (WL.mv rfl rfl ?_)))))
 obtain ⟨hi_95, hV⟩ := hV
 refine WL.run hS rfl rfl rfl (ex_add rfl rfl hi_95) ?_
 obtain ⟨hi_96, hV⟩ := hV
 refine WL.run hS rfl rfl rfl (ex_quo rfl rfl hi_96) (WL.ma rfl rfl (WL.nx (WC.seq (WC.drawn (σ := [0, 1, 2, 3, 4, 5, 6]) (C := St w0 H ([(b_11, oc #[i6 v_4.k, i6 v_4.i, sv v_4.t, v_5, v_6] 32)] ++ L)) [[], [], [0, 1], [0, 1, 2], [], [0, 1, 2, 3, 4], [0, 1, 2, 3, 4, 5]] [5] Tryz.mixed (by kernel_rfl) (hS.drawn _) ?_))))
 clear hS w
 refine Wd.run rfl rfl rfl rfl (fun _ => ex_move rfl) fun q_98 hq_97 => (Wd.run rfl rfl rfl rfl (fun _ => ex_move rfl) fun q_100 hq_99 => ?_)
 obtain ⟨hin_103, hV⟩ := hV
 refine Wd.runx rfl rfl rfl rfl (exAll (ex_index Tryz.underlying30 Tryz.sizeOf32 rfl rfl h_3 hin_103)) ?_
 intro p_104 hp_105
 intro q_102 hq_101
 refine Wd.runs (fp := ([] : Seg)) (L := [(b_11, oc #[i6 v_4.k, i6 v_4.i, sv v_4.t, v_5, v_6] 32)] ++ L) rfl rfl rfl rfl (ex_load_agg_s Tryz.isAgg32 Tryz.sizeOf32 rfl hp_105) (fun _ h => h) ?_
 rintro u_108 ⟨_, rfl, hu⟩
 obtain ⟨v_109, v_110, rfl, hr_111, hr_112, h_113, h_114⟩ := cR_rep.1 hu
 replace hV := hV hr_111 hr_112
 intro q_107 hq_106
 refine Wd.runbs (off := 0) (k := 5) (cs := [i6 v_4.k, i6 v_4.i, sv v_4.t, v_5, v_6]) rfl rfl rfl rfl (fun _ _ _ h => ex_load_box_agg Tryz.isAgg32 Tryz.sizeOf32 rfl h rfl) rfl (fun _ h => h) fun q_116 hq_115 => (Wd.turn rfl rfl rfl fun w hS => ?_)
 obtain ⟨mf, hV⟩ := hV
 refine WL.call rfl rfl rfl (enters0 (vs := [.agg #[i6 ((ix l_1 ((a_50 + b_52).tdiv (2 : Int))).k), i6 ((ix l_1 ((a_50 + b_52).tdiv (2 : Int))).i), sv ((ix l_1 ((a_50 + b_52).tdiv (2 : Int))).t), v_109, v_110], .agg #[i6 v_4.k, i6 v_4.i, sv v_4.t, v_5, v_6]]) Tryz.call20 ⟨rfl, rfl, trivial⟩) (S_rCompare mf (a_1 := (ix l_1 ((a_50 + b_52).tdiv (2 : Int)))) (b_8 := v_4) hr_111 hr_112 h_113 h_114 hr_7 hr_8 h_9 h_10 hS hV) ?_
 clear hV hS
 rintro _ w ⟨r_117, hV, rfl, hr_118, hS⟩
 refine ⟨_, rfl, ?_⟩
 refine WL.nil (DQ.mk2 (C' := St w0 H ([(b_11, oc #[i6 v_4.k, i6 v_4.i, sv v_4.t, v_5, v_6] 32)] ++ L)) hS ⟨il, il, il, il, il, trivial⟩ ?_)
 clear hS w
 refine Wd.run rfl rfl rfl rfl (fun _ => ex_assign rfl) fun q_121 hq_120 => (Wd.nil fun w hS => (WQ.next (WC.sub (m := [(0, v_2), (3, (pq b_11)), (6, i6 a_50), (7, i6 b_52), (8, i6 ((a_50 + b_52).tdiv (2 : Int))), (9, i6 r_117)]) ⟨rfl, rfl, rfl, rfl, rfl, rfl, trivial⟩ (WC.seq (WC.sr (WL.mv rfl rfl (WL.run hS rfl rfl rfl (ex_eql rfl rfl) ?_)))))))
 refine WL.nx ?_
 refine WC.cond rfl ?_ ?_
 intro hc_127
 replace hV := hV.1 (of_decide_eq_true hc_127)
 refine WC.sr (WL.mv rfl rfl (WL.ma rfl rfl (WL.ma rfl rfl (WL.nx ?_))))
 replace hS := hS.drop
 refine WC.ret (WQ.pass nofun (WQ.out nofun (WQ.pass nofun (WQ.out nofun (WQ.pass nofun ?_)))))
 exact leave2 rfl rfl rfl (⟨((a_50 + b_52).tdiv (2 : Int)), true, hV, rfl, hi_96.2, hS⟩)
 intro hc_127
 replace hV := hV.2 (of_decide_eq_false hc_127)
 refine WC.skip (WQ.next (WC.sr (WL.mv rfl rfl (WL.run hS rfl rfl rfl (ex_lss rfl rfl) (WL.nx ?_)))))
 refine WC.cond rfl ?_ ?_
 intro hc_126
 replace hV := hV.1 (of_decide_eq_true hc_126)
 refine WC.region (WL.mv rfl rfl ?_)
 obtain ⟨hi_125, hV⟩ := hV
 refine WL.run hS rfl rfl rfl (ex_add rfl rfl hi_125) (WL.ma rfl rfl (WL.nil (WQ.out nofun ?_)))
 exact WQ.there fun a ha => ⟨((((a_50 + b_52).tdiv (2 : Int)) + (1 : Int)), b_52), ⟨(((a_50 + b_52).tdiv (2 : Int)) + (1 : Int)), b_52, rfl, hV.1, hi_125, hr_53, hS, ha.of_sub ⟨rfl, rfl, rfl, rfl, trivial⟩⟩, hV.2⟩
 intro hc_126
 replace hV := hV.2 (of_decide_eq_false hc_126)
 refine WC.region (WL.mv rfl rfl (WL.ma rfl rfl (WL.nil (WQ.out nofun ?_))))
 exact WQ.there fun a ha => ⟨(a_50, ((a_50 + b_52).tdiv (2 : Int))), ⟨a_50, ((a_50 + b_52).tdiv (2 : Int)), rfl, hV.1, hr_51, hi_96.2, hS, ha.of_sub ⟨rfl, rfl, rfl, rfl, trivial⟩⟩, hV.2⟩
 intro hc_128
 replace hV := hV.2 (of_decide_eq_false hc_128)
 refine WC.exit (WQ.pass nofun (WQ.pass nofun (WQ.hit (WQ.next ?_))))
 replace hS := hS.drop
 refine WC.sr (WL.mv rfl rfl (WL.ma rfl rfl (WL.ma rfl rfl (WL.nx (WC.ret ?_)))))
 exact leave2 rfl rfl rfl (⟨a_50, false, hV, rfl, hr_51, hS⟩)

theorem S_rput {w0 : World} {H : View} {L : Seg} {w : World} {v_2 : Value} {l_1 : List RV} {fp_4 : Seg} {i_6 : Int} {v_8 : RV} {v_9 : Value} {v_10 : Value} {Q : (List RV) → Prop} (h_3 : OwnSl H cR 32 v_2 l_1 fp_4) (hr_7 : I64 i_6) (hr_11 : I64 v_8.k) (hr_12 : I64 v_8.i) (h_13 : IsSl H cR v_9 v_8.ks) (h_14 : IsSl H cR v_10 v_8.vs) (hS : St w0 H (fp_4 ++ L) w) (hV : V_rput l_1 i_6 v_8 Q) :
 Calls Tryz.prog 79 #[v_2, i6 i_6, .agg #[i6 v_8.k, i6 v_8.i, sv v_8.t, v_9, v_10]] w fun e w' => ∃ (r1 : List RV) (v1 : Value) (fp1 : Seg) (H' : View), Q r1 ∧ e = .returned (v1) ∧ View.le H H' ∧ OwnSl H' cR 32 v1 r1 fp1 ∧ St w0 H' (fp1 ++ L) w' := by
 unfold V_rput at hV
 refine enter Tryz.func79 rfl Tryz.ntmps79 rfl (lk_args_cons (d := 0) (v := v_2) rfl (lk_args_cons (d := 1) (v := i6 i_6) rfl (lk_args_cons (d := 2) (v := .agg #[i6 v_8.k, i6 v_8.i, sv v_8.t, v_9, v_10]) rfl (lk_args_nil _)))) (WC.sr (WL.box (arr := #[i6 v_8.k, i6 v_8.i, sv v_8.t, v_9, v_10]) rfl rfl rfl hS ?_))
 clear hS
 intro b_15 w hS
 refine WL.ma rfl rfl (WL.nx (WC.sr (WL.mv rfl rfl (WL.run hS rfl rfl rfl (ex_build (vs := []) (zc := #[i6 0, i6 0, sv ([] : Str), (.slice none 0 0), (.slice none 0 0)]) (cs := #[i6 0, i6 0, sv ([] : Str), (.slice none 0 0), (.slice none 0 0)]) (places := #[(0, 1), (1, 1), (2, 1), (3, 1), (4, 1)]) Tryz.underlying32 Tryz.zeroValue32 (fun w => by simp [Tryz.sizeOf2, Tryz.sizeOf3, Tryz.sizeOf30, Tryz.sizeOf9]) rfl trivial rfl (by simp [Instr.fill, cells_int, cells_bool, cells_iface, cells_niliface, cells_slice, str_cells])) (WL.builds (c := cR) (xs := [(RV.mk 0 0 ([] : Str) ([] : List RV) ([] : List RV))]) (vs := [.agg #[i6 0, i6 0, sv ([] : Str), (.slice none 0 0), (.slice none 0 0)]]) (css := [[i6 0, i6 0, sv ([] : Str), (.slice none 0 0), (.slice none 0 0)]]) rfl Tryz.underlying30 Tryz.info32 rfl ⟨rfl, trivial⟩ rfl (by decide) rfl (by simp; rfl) ⟨[i6 0, i6 0, sv ([] : Str), (.slice none 0 0), (.slice none 0 0)], _, rfl, (cR_rep.2 ⟨_, _, rfl, (show I64 0 by unfold I64; omega), (show I64 0 by unfold I64; omega), IsSl.nil, IsSl.nil⟩), rfl⟩ hS rfl (by decide) ?_)))))
 clear hS
 intro v_21 w fp_22 h_23 hS
 obtain ⟨hr_24, hV⟩ := hV
 replace hS := hS.f3
 refine WL.append (c := cR) (xs := l_1) (ys := ([(RV.mk 0 0 ([] : Str) ([] : List RV) ([] : List RV))])) rfl Tryz.underlying30 Tryz.info32 rfl rfl rfl hS h_3 (h_23.src hS.f2) hr_24.1 hr_24.2 ?_
 clear hS
 intro v_25 w fp_26 h_27 hS
 refine WL.ma rfl rfl (WL.nx ?_)
 replace hS := hS.f2.drop
 refine WC.seq (WC.sr (WL.mv rfl rfl ?_))
 have hl_29 : Len (l_1 ++ ([(RV.mk 0 0 ([] : Str) ([] : List RV) ([] : List RV))])) := h_27.bound
 replace hV := hV hl_29
 refine WL.run hS rfl rfl rfl (ex_len_own Tryz.underlying30 rfl h_27) ?_
 obtain ⟨hi_31, hV⟩ := hV
 refine WL.run hS rfl rfl rfl (ex_sub rfl rfl hi_31) (WL.ma rfl rfl (WL.nx (WC.block ?_)))
 replace hS := hS.f2.f2
 obtain ⟨I_81, mu_82, hI_110, hV⟩ := hV
 refine WC.loop (σ := (List RV) × Int) (fun s a w => ∃ (l_54 : List RV) (k_58 : Int) (v_55 : Value) (fp_56 : Seg), s = (l_54, k_58) ∧ I_81 (l_54, k_58) ∧ OwnSl H cR 32 v_55 l_54 fp_56 ∧ I64 k_58 ∧ St w0 H (fp_56 ++ ([(b_15, oc #[i6 v_8.k, i6 v_8.i, sv v_8.t, v_9, v_10] 32)] ++ L)) w ∧ Fr 33 [(0, v_55), (1, i6 i_6), (5, (pq b_15)), (7, i6 k_58)] a) mu_82 ((l_1 ++ ([(RV.mk 0 0 ([] : Str) ([] : List RV) ([] : List RV))])), (((l_1 ++ ([(RV.mk 0 0 ([] : Str) ([] : List RV) ([] : List RV))])).length : Int) - (1 : Int))) ?_ ?_
 exact fun a ha => ⟨(l_1 ++ ([(RV.mk 0 0 ([] : Str) ([] : List RV) ([] : List RV))])), (((l_1 ++ ([(RV.mk 0 0 ([] : Str) ([] : List RV) ([] : List RV))])).length : Int) - (1 : Int)), v_25, fp_26, rfl, hI_110, h_27, hi_31, hS, ha.of_sub ⟨rfl, rfl, rfl, rfl, trivial⟩⟩
 clear hS hI_110
 rintro _ a w ⟨l_54, k_58, v_55, fp_56, rfl, hI, h_57, hr_59, hS, ha⟩
 refine in_frame ha ?_
 clear ha
 replace hV := hV _ hI
 clear hI
 refine WC.seq (WC.sr (WL.mv rfl rfl (WL.mv rfl rfl (WL.run hS rfl rfl rfl (ex_gtr rfl rfl) (WL.nx ?_)))))
 refine WC.cond rfl ?_ ?_
 intro hc_109
 replace hV := hV.1 (of_decide_eq_true hc_109)
 refine WC.skip (WQ.next (WC.seq (WC.block (WC.region (WL.mv rfl rfl (WL.mv rfl rfl (WL.mv rfl rfl ?_)))))))
 refine WL.mv rfl rfl ?_
 obtain ⟨hi_86, hV⟩ := hV
 refine WL.run hS rfl rfl rfl (ex_sub rfl rfl hi_86) ?_
 obtain ⟨hin_87, hV⟩ := hV
 refine WL.runx hS rfl rfl rfl (ex_index_own Tryz.underlying30 Tryz.sizeOf32 rfl rfl h_57 hin_87) ?_
 intro p_88 hp_89
 refine WL.runx hS rfl rfl rfl (exNow (H := H) (L := [(b_15, oc #[i6 v_8.k, i6 v_8.i, sv v_8.t, v_9, v_10] 32)] ++ L) (ex_load_own_agg Tryz.isAgg32 Tryz.sizeOf32 rfl h_57 hp_89 hin_87)) ?_
 rintro u_90 ⟨_, rfl, hu⟩
 obtain ⟨v_91, v_92, rfl, hr_93, hr_94, h_95, h_96⟩ := cR_rep.1 hu
 replace hV := hV hr_93 hr_94
 obtain ⟨hin_97, hV⟩ := hV
 refine WL.runx hS rfl rfl rfl (ex_index_own Tryz.underlying30 Tryz.sizeOf32 rfl rfl h_57 hin_97) ?_
 intro p_98 hp_99
 refine WL.store_own_agg (c := cR) (z := (ix l_54 (k_58 - (1 : Int)))) (m' := [i6 ((ix l_54 (k_58 - (1 : Int))).k), i6 ((ix l_54 (k_58 - (1 : Int))).i), sv ((ix l_54 (k_58 - (1 : Int))).t), v_91, v_92]) Tryz.sizeOf32 rfl rfl rfl ⟨rfl, rfl, rfl, (IsSl.one h_95), (IsSl.one h_96), trivial⟩ (cR_rep.2 ⟨_, _, rfl, hr_93, hr_94, h_95, h_96⟩) hS h_57 hp_99 hin_97 ?_
 clear hS
 intro w fp_101 h_100 hS
 refine WL.nil (WQ.out nofun (WQ.next (WC.sub (m := [(0, v_55), (1, i6 i_6), (5, (pq b_15)), (7, i6 k_58)]) ⟨rfl, rfl, rfl, rfl, trivial⟩ (WC.region (WL.mv rfl rfl ?_)))))
 obtain ⟨hi_103, hV⟩ := hV
 refine WL.run hS rfl rfl rfl (ex_sub rfl rfl hi_103) (WL.ma rfl rfl (WL.nil ?_))
 replace hS := hS.f2.f2
 exact WQ.there fun a ha => ⟨((l_54.set k_58.toNat (ix l_54 (k_58 - (1 : Int)))), (k_58 - (1 : Int))), ⟨(l_54.set k_58.toNat (ix l_54 (k_58 - (1 : Int)))), (k_58 - (1 : Int)), v_55, fp_101, rfl, hV.1, h_100, hi_103, hS, ha.of_sub ⟨rfl, rfl, rfl, rfl, trivial⟩⟩, hV.2⟩
 intro hc_109
 replace hV := hV.2 (of_decide_eq_false hc_109)
 refine WC.exit (WQ.pass nofun (WQ.pass nofun (WQ.hit (WQ.next (WC.sr (WL.mv rfl rfl (WL.mv rfl rfl ?_)))))))
 replace hS := hS.f2
 refine WL.run hS rfl rfl rfl (ex_load_box_agg (cs := [i6 v_8.k, i6 v_8.i, sv v_8.t, v_9, v_10]) Tryz.isAgg32 Tryz.sizeOf32 rfl rfl rfl) ?_
 obtain ⟨hin_104, hV⟩ := hV
 refine WL.runx hS rfl rfl rfl (ex_index_own Tryz.underlying30 Tryz.sizeOf32 rfl rfl h_57 hin_104) ?_
 intro p_105 hp_106
 replace hS := hS.f2
 refine WL.store_own_agg (c := cR) (z := v_8) (m' := [i6 v_8.k, i6 v_8.i, sv v_8.t, v_9, v_10]) Tryz.sizeOf32 rfl rfl rfl ⟨rfl, rfl, rfl, (IsSl.one h_13), (IsSl.one h_14), trivial⟩ (cR_rep.2 ⟨_, _, rfl, hr_11, hr_12, h_13, h_14⟩) hS h_57 hp_106 hin_104 ?_
 clear hS
 intro w fp_108 h_107 hS
 refine WL.nx (WC.sub (m := [(0, v_55)]) ⟨rfl, trivial⟩ ?_)
 replace hS := hS.f2.drop
 refine WC.sr (WL.mv rfl rfl (WL.ma rfl rfl (WL.nx (WC.ret ?_))))
 exact leave1 rfl rfl (⟨(l_54.set i_6.toNat v_8), v_55, fp_108, H, hV, rfl, (View.le.refl _), h_107, hS⟩)

theorem S_rSetOf {w0 : World} {H : View} {L : Seg} {w : World} {v_2 : Value} {l_1 : List RV} {Q : RV → Prop} (h_3 : IsSl H cR v_2 l_1) (hS : St w0 H (L) w) (hV : V_rSetOf l_1 Q) :
 Calls Tryz.prog 36 #[v_2] w fun e w' => ∃ (r1 : RV) (u1 : Value) (w1 : Value) (H' : View), Q r1 ∧ e = .returned (.agg #[i6 r1.k, i6 r1.i, sv r1.t, u1, w1]) ∧ View.le H H' ∧ I64 r1.k ∧ I64 r1.i ∧ IsSl H' cR u1 r1.ks ∧ IsSl H' cR w1 r1.vs ∧ St w0 H' (L) w' := by
 unfold V_rSetOf at hV
 refine enter Tryz.func36 rfl Tryz.ntmps36 rfl (lk_args_cons (d := 0) (v := v_2) rfl (lk_args_nil _)) (WC.sr (WL.alloc (arr := #[i6 0, i6 0, sv ([] : Str), (.slice none 0 0), (.slice none 0 0)]) rfl Tryz.zeroValue32 rfl hS ?_))
 clear hS
 intro b_4 w hS
 refine WL.nx (WC.sr (WL.run hS rfl rfl rfl (ex_build (vs := [i6 (5 : Int)]) (zc := #[i6 0, i6 0, sv ([] : Str), (.slice none 0 0), (.slice none 0 0)]) (cs := #[i6 (5 : Int), i6 0, sv ([] : Str), (.slice none 0 0), (.slice none 0 0)]) (places := #[(0, 1), (1, 1), (2, 1), (3, 1), (4, 1)]) Tryz.underlying32 Tryz.zeroValue32 (fun w => by simp [Tryz.sizeOf2, Tryz.sizeOf3, Tryz.sizeOf30, Tryz.sizeOf9]) rfl ⟨rfl, trivial⟩ rfl (by simp [Instr.fill, cells_int, cells_bool, cells_iface, cells_niliface, cells_slice, str_cells])) (WL.alloc (arr := #[i6 0, i6 0, sv ([] : Str), (.slice none 0 0), (.slice none 0 0)]) rfl Tryz.zeroValue32 rfl hS ?_)))
 clear hS
 intro b_10 w hS
 refine WL.store_box (pre := []) (old := [i6 0, i6 0, sv ([] : Str), (.slice none 0 0), (.slice none 0 0)]) (rst := []) (cs := [i6 (5 : Int), i6 0, sv ([] : Str), (.slice none 0 0), (.slice none 0 0)]) (arr' := #[i6 (5 : Int), i6 0, sv ([] : Str), (.slice none 0 0), (.slice none 0 0)]) Tryz.sizeOf32 rfl rfl rfl ⟨rfl, rfl, rfl, rfl, rfl, trivial⟩ rfl rfl rfl rfl hS ?_
 clear hS
 intro w hS
 refine WL.nx (WC.seq (WC.sr (WL.ma rfl rfl (WL.nx (WC.block ?_)))))
 replace hS := hS.nilseg
 replace hS := hS.f2.f3
 obtain ⟨I_493, mu_494, hI_669, hV⟩ := hV
 refine WC.loop (σ := (List RV) × Int) (fun s a w => ∃ (c_327 : List RV) (i_331 : Int) (H_324 : View) (v_328 : Value) (fp_329 : Seg), s = (c_327, i_331) ∧ I_493 (c_327, i_331) ∧ View.le H H_324 ∧ OwnSl H_324 cR 32 v_328 c_327 fp_329 ∧ I64 i_331 ∧ St w0 H_324 ([(b_4, Obj.cells #[i6 0, i6 0, sv ([] : Str), (.slice none 0 0), (.slice none 0 0)] 32 (0, 0))] ++ ([(b_10, Obj.cells #[i6 (5 : Int), i6 0, sv ([] : Str), v_328, (.slice none 0 0)] 32 (0, 0))] ++ (fp_329 ++ L))) w ∧ Fr 37 [(0, v_2), (2, (pq b_4)), (3, (pq b_10)), (4, i6 i_331)] a) mu_494 (([] : List RV), (0 : Int)) ?_ ?_
 exact fun a ha => ⟨([] : List RV), (0 : Int), H, (.slice none 0 0), ([] : Seg), rfl, hI_669, (View.le.refl _), OwnSl.nil, (show I64 (0 : Int) by unfold I64; omega), hS, ha.of_sub ⟨rfl, rfl, rfl, rfl, trivial⟩⟩
 clear hS hI_669
 rintro _ a w ⟨c_327, i_331, H_324, v_328, fp_329, rfl, hI, le_325, h_330, hr_332, hS, ha⟩
 refine in_frame ha ?_
 clear ha
 replace hV := hV _ hI
 clear hI
 refine WC.seq (WC.sr (WL.mv rfl rfl (WL.mv rfl rfl ?_)))
 have hl_496 : Len l_1 := (h_3.mono le_325).bound
 replace hV := hV hl_496
 refine WL.run hS rfl rfl rfl (ex_len_sl Tryz.underlying30 rfl (h_3.mono le_325)) (WL.run hS rfl rfl rfl (ex_lss rfl rfl) (WL.nx ?_))
 refine WC.cond rfl ?_ ?_
 intro hc_668
 replace hV := hV.1 (of_decide_eq_true hc_668)
 refine WC.skip (WQ.next ?_)
 obtain ⟨J_578, hJ_579, hV⟩ := hV
 refine WC.meet (fun a w => ∃ (c_574 : List RV) (H_571 : View) (v_575 : Value) (fp_576 : Seg), J_578 c_574 ∧ View.le H_324 H_571 ∧ OwnSl H_571 cR 32 v_575 c_574 fp_576 ∧ St w0 H_571 ([(b_4, Obj.cells #[i6 0, i6 0, sv ([] : Str), (.slice none 0 0), (.slice none 0 0)] 32 (0, 0))] ++ ([(b_10, Obj.cells #[i6 (5 : Int), i6 0, sv ([] : Str), v_575, (.slice none 0 0)] 32 (0, 0))] ++ (fp_576 ++ L))) w ∧ Fr 37 [(0, v_2), (2, (pq b_4)), (3, (pq b_10)), (4, i6 i_331)] a) ?_ ?_
 rintro a w ⟨c_574, H_571, v_575, fp_576, hI, le_572, h_577, hS, ha⟩
 refine in_frame ha ?_
 clear ha hV
 have hV := hJ_579 _ hI
 clear hI hJ_579
 refine WC.region (WL.mv rfl rfl ?_)
 obtain ⟨hi_654, hV⟩ := hV
 refine WL.run hS rfl rfl rfl (ex_add rfl rfl hi_654) (WL.ma rfl rfl (WL.nil ?_))
 replace hS := hS.f3.f3.f3
 exact WQ.there fun a ha => ⟨(c_574, (i_331 + (1 : Int))), ⟨c_574, (i_331 + (1 : Int)), H_571, v_575, fp_576, rfl, hV.1, (((View.le.refl _).trans le_325).trans le_572), h_577, hi_654, hS, ha.of_sub ⟨rfl, rfl, rfl, rfl, trivial⟩⟩, hV.2⟩
 clear hJ_579
 refine WC.block (WC.seq (WC.drawn (σ := [0, 1, 2, 3, 4, 5, 6, 7, 8, 9, 10, 11]) (C := St w0 H_324 ([(b_4, Obj.cells #[i6 0, i6 0, sv ([] : Str), (.slice none 0 0), (.slice none 0 0)] 32 (0, 0))] ++ ([(b_10, Obj.cells #[i6 (5 : Int), i6 0, sv ([] : Str), v_328, (.slice none 0 0)] 32 (0, 0))] ++ (fp_329 ++ L)))) [[], [0], [], [], [2, 3], [2, 3, 4], [0, 1, 2, 3, 4, 5], [0, 1, 2, 3, 4, 5, 6], [0, 1, 2, 3, 4, 5, 6, 7], [0, 1, 2, 3, 4, 5, 6, 7], [0, 1, 2, 3, 4, 5, 6, 7, 8], [0, 1, 2, 3, 4, 5, 6, 7, 8, 9, 10]] [6] Tryz.mixed (by kernel_rfl) (hS.drawn _) ?_))
 clear hS w
 refine Wd.run rfl rfl rfl rfl (fun _ => ex_fieldAddr (o' := 3) Tryz.underlying32 rfl Tryz.sizeOf30 rfl rfl) fun q_581 hq_580 => (Wd.runb (off := 3) rfl rfl rfl rfl (fun _ _ _ h => ex_load_box Tryz.isAgg30 rfl h) rfl (fun _ h => St.f2 h) fun q_583 hq_582 => (Wd.run rfl rfl rfl rfl (fun _ => ex_move rfl) fun q_585 hq_584 => (Wd.run rfl rfl rfl rfl (fun _ => ex_move rfl) fun q_587 hq_586 => ?_)))
 obtain ⟨hin_590, hV⟩ := hV
 refine Wd.runx rfl rfl rfl rfl (exAll (ex_index Tryz.underlying30 Tryz.sizeOf32 rfl rfl (h_3.mono le_325) hin_590)) ?_
 intro p_591 hp_592
 intro q_589 hq_588
 refine Wd.runs (fp := ([] : Seg)) (L := [(b_4, Obj.cells #[i6 0, i6 0, sv ([] : Str), (.slice none 0 0), (.slice none 0 0)] 32 (0, 0))] ++ ([(b_10, Obj.cells #[i6 (5 : Int), i6 0, sv ([] : Str), v_328, (.slice none 0 0)] 32 (0, 0))] ++ (fp_329 ++ L))) rfl rfl rfl rfl (ex_load_agg_s Tryz.isAgg32 Tryz.sizeOf32 rfl hp_592) (fun _ h => h) ?_
 rintro u_595 ⟨_, rfl, hu⟩
 obtain ⟨v_596, v_597, rfl, hr_598, hr_599, h_600, h_601⟩ := cR_rep.1 hu
 replace hV := hV hr_598 hr_599
 intro q_594 hq_593
 refine Wd.turn rfl rfl rfl fun w hS => ?_
 replace hS := hS.f3
 have hL_602 := hS.freeze
 refine WL.call rfl rfl rfl (enters0 (vs := [v_328, .agg #[i6 ((ix l_1 i_331).k), i6 ((ix l_1 i_331).i), sv ((ix l_1 i_331).t), v_596, v_597]]) Tryz.call78 ⟨rfl, rfl, trivial⟩) (S_rplace (v_4 := (ix l_1 i_331)) (h_330.share hS.put_le) hr_598 hr_599 (by exact (h_600.mono hS.put_le)) (by exact (h_601.mono hS.put_le)) hL_602 hV) ?_
 clear hV
 rintro _ w ⟨r_603, r_605, hV, rfl, hr_604, hL_606⟩
 refine ⟨_, rfl, ?_⟩
 have hB_608 := hS.back hL_606
 replace hS := hB_608
 clear hL_606 hL_602 hB_608
 refine WL.nil (DQ.mk2 (C' := St w0 H_324 (fp_329 ++ ([(b_4, Obj.cells #[i6 0, i6 0, sv ([] : Str), (.slice none 0 0), (.slice none 0 0)] 32 (0, 0))] ++ ([(b_10, Obj.cells #[i6 (5 : Int), i6 0, sv ([] : Str), v_328, (.slice none 0 0)] 32 (0, 0))] ++ L)))) hS ⟨il, il, il, il, il, il, trivial⟩ ?_)
 clear hS w
 refine Wd.run rfl rfl rfl rfl (fun _ => ex_move rfl) fun q_610 hq_609 => (Wd.run rfl rfl rfl rfl (fun _ => ex_extract rfl rfl) fun q_612 hq_611 => (Wd.run rfl rfl rfl rfl (fun _ => ex_extract rfl rfl) fun q_614 hq_613 => (Wd.run rfl rfl rfl rfl (fun _ => ex_assign rfl) fun q_616 hq_615 => (Wd.run rfl rfl rfl rfl (fun _ => ex_assign rfl) fun q_618 hq_617 => (Wd.nil fun w hS => (WQ.next (WC.sub (m := [(0, v_2), (2, (pq b_4)), (3, (pq b_10)), (4, i6 i_331), (5, i6 r_603), (6, .bool r_605)]) ⟨rfl, rfl, rfl, rfl, rfl, rfl, trivial⟩ ?_)))))))
 refine WC.sr (WL.mv rfl rfl (WL.run hS rfl rfl rfl (ex_not rfl) (WL.nx ?_)))
 refine WC.cond rfl ?_ ?_
 intro hc_652
 replace hV := hV.1 hc_652
 refine WC.drawn (σ := [0, 1, 2, 3, 4, 5, 6, 7, 8, 9]) (C := St w0 H_324 (fp_329 ++ ([(b_4, Obj.cells #[i6 0, i6 0, sv ([] : Str), (.slice none 0 0), (.slice none 0 0)] 32 (0, 0))] ++ ([(b_10, Obj.cells #[i6 (5 : Int), i6 0, sv ([] : Str), v_328, (.slice none 0 0)] 32 (0, 0))] ++ L)))) [[], [0], [], [], [], [3, 4], [3, 4, 5], [0, 1, 2, 3, 4, 5, 6], [0, 1, 2, 3, 4, 5, 6, 7], [0, 1, 2, 3, 4, 5, 6, 7, 8]] [7, 9] Tryz.mixed (by kernel_rfl) (hS.drawn _) ?_
 clear hS w
 refine Wd.run rfl rfl rfl rfl (fun _ => ex_fieldAddr (o' := 3) Tryz.underlying32 rfl Tryz.sizeOf30 rfl rfl) fun q_620 hq_619 => (Wd.runb (off := 3) rfl rfl rfl rfl (fun _ _ _ h => ex_load_box Tryz.isAgg30 rfl h) rfl (fun _ h => St.f3 h) fun q_622 hq_621 => (Wd.run rfl rfl rfl rfl (fun _ => ex_move rfl) fun q_624 hq_623 => (Wd.run rfl rfl rfl rfl (fun _ => ex_move rfl) fun q_626 hq_625 => (Wd.run rfl rfl rfl rfl (fun _ => ex_move rfl) fun q_628 hq_627 => ?_))))
 obtain ⟨hin_631, hV⟩ := hV
 refine Wd.runx rfl rfl rfl rfl (exAll (ex_index Tryz.underlying30 Tryz.sizeOf32 rfl rfl (h_3.mono le_325) hin_631)) ?_
 intro p_632 hp_633
 intro q_630 hq_629
 refine Wd.runs (fp := ([] : Seg)) (L := fp_329 ++ ([(b_4, Obj.cells #[i6 0, i6 0, sv ([] : Str), (.slice none 0 0), (.slice none 0 0)] 32 (0, 0))] ++ ([(b_10, Obj.cells #[i6 (5 : Int), i6 0, sv ([] : Str), v_328, (.slice none 0 0)] 32 (0, 0))] ++ L))) rfl rfl rfl rfl (ex_load_agg_s Tryz.isAgg32 Tryz.sizeOf32 rfl hp_633) (fun _ h => h) ?_
 rintro u_636 ⟨_, rfl, hu⟩
 obtain ⟨v_637, v_638, rfl, hr_639, hr_640, h_641, h_642⟩ := cR_rep.1 hu
 replace hV := hV hr_639 hr_640
 intro q_635 hq_634
 refine Wd.turn rfl rfl rfl fun w hS => (WL.call rfl rfl rfl (enters0 (vs := [v_328, i6 r_603, .agg #[i6 ((ix l_1 i_331).k), i6 ((ix l_1 i_331).i), sv ((ix l_1 i_331).t), v_637, v_638]]) Tryz.call79 ⟨rfl, rfl, rfl, trivial⟩) (S_rput (v_8 := (ix l_1 i_331)) h_330 hr_604 hr_639 hr_640 h_641 h_642 hS hV) ?_)
 clear hV hS
 rintro _ w ⟨r_643, v_644, fp_645, H_648, hV, rfl, le_649, h_646, hS⟩
 refine ⟨_, rfl, ?_⟩
 refine WL.nil (DQ.mk2 (C' := St w0 H_648 (fp_645 ++ ([(b_4, Obj.cells #[i6 0, i6 0, sv ([] : Str), (.slice none 0 0), (.slice none 0 0)] 32 (0, 0))] ++ ([(b_10, Obj.cells #[i6 (5 : Int), i6 0, sv ([] : Str), v_328, (.slice none 0 0)] 32 (0, 0))] ++ L)))) hS ⟨il, il, il, il, il, il, il, trivial⟩ ?_)
 clear hS w
 refine Wd.run rfl rfl rfl rfl (fun _ => ex_fieldAddr (o' := 3) Tryz.underlying32 rfl Tryz.sizeOf30 rfl rfl) fun q_651 hq_650 => (Wd.turn rfl rfl rfl fun w hS => ?_)
 replace hS := hS.f3
 refine WL.store_box (pre := [i6 (5 : Int), i6 0, sv ([] : Str)]) (old := [v_328]) (rst := [(.slice none 0 0)]) (cs := [v_644]) (arr' := #[i6 (5 : Int), i6 0, sv ([] : Str), v_644, (.slice none 0 0)]) Tryz.sizeOf30 rfl rfl (congrArg Array.toList (cells_one (OwnSl.one h_646))) ⟨(OwnSl.one h_646), trivial⟩ rfl rfl rfl rfl hS ?_
 clear hS
 intro w hS
 refine WL.nil (DQ.mk2 (C' := St w0 H_648 ([(b_10, Obj.cells #[i6 (5 : Int), i6 0, sv ([] : Str), v_644, (.slice none 0 0)] 32 (0, 0))] ++ (fp_645 ++ ([(b_4, Obj.cells #[i6 0, i6 0, sv ([] : Str), (.slice none 0 0), (.slice none 0 0)] 32 (0, 0))] ++ L)))) hS ⟨il, il, il, il, il, il, il, il, trivial⟩ ?_)
 clear hS w
 refine Wd.nil fun w hS => (WQ.out nofun ?_)
 replace hS := hS.f2.f2.f3
 exact WQ.there fun a ha => ⟨r_643, H_648, v_644, fp_645, hV, ((View.le.refl _).trans le_649), h_646, hS, ha.of_sub ⟨rfl, rfl, rfl, rfl, trivial⟩⟩
 intro hc_652
 replace hV := hV.2 hc_652
 refine WC.skip (WQ.out nofun ?_)
 replace hS := hS.f3.f3
 exact WQ.there fun a ha => ⟨c_327, H_324, v_328, fp_329, hV, (View.le.refl _), h_330, hS, ha.of_sub ⟨rfl, rfl, rfl, rfl, trivial⟩⟩
 intro hc_668
 replace hV := hV.2 (of_decide_eq_false hc_668)
 refine WC.exit (WQ.pass nofun (WQ.pass nofun (WQ.hit (WQ.next (WC.sr ?_)))))
 replace hS := hS.f2
 refine WL.run hS rfl rfl rfl (ex_load_box_agg (cs := [i6 (5 : Int), i6 0, sv ([] : Str), v_328, (.slice none 0 0)]) Tryz.isAgg32 Tryz.sizeOf32 rfl rfl rfl) ?_
 replace hS := hS.f3
 obtain ⟨H_655, le_656, h_657, hS⟩ : ∃ K, View.le H_324 K ∧ IsSl K cR v_328 c_327 ∧ St w0 K ([(b_10, Obj.cells #[i6 (5 : Int), i6 0, sv ([] : Str), v_328, (.slice none 0 0)] 32 (0, 0))] ++ ([(b_4, Obj.cells #[i6 0, i6 0, sv ([] : Str), (.slice none 0 0), (.slice none 0 0)] 32 (0, 0))] ++ L)) w := ⟨_, hS.put_le, h_330.share hS.put_le, hS.freeze⟩
 refine WL.call rfl rfl rfl (enters0 (vs := [.agg #[i6 (5 : Int), i6 0, sv ([] : Str), v_328, (.slice none 0 0)]]) Tryz.call80 ⟨rfl, trivial⟩) (S_rLight (v_1 := (RV.mk (5 : Int) 0 ([] : Str) c_327 ([] : List RV))) (by exact (show I64 (5 : Int) by unfold I64; omega)) (by exact (show I64 0 by unfold I64; omega)) h_657 (by exact IsSl.nil) hS hV) ?_
 clear hV hS
 rintro _ w ⟨r_658, v_659, v_660, H_665, hV, rfl, le_666, hr_661, hr_662, h_663, h_664, hS⟩
 refine ⟨_, rfl, ?_⟩
 replace hS := hS.f2
 refine WL.store_box (pre := []) (old := [i6 0, i6 0, sv ([] : Str), (.slice none 0 0), (.slice none 0 0)]) (rst := []) (cs := [i6 r_658.k, i6 r_658.i, sv r_658.t, v_659, v_660]) (arr' := #[i6 r_658.k, i6 r_658.i, sv r_658.t, v_659, v_660]) Tryz.sizeOf32 rfl rfl rfl ⟨rfl, rfl, rfl, (IsSl.one h_663), (IsSl.one h_664), trivial⟩ rfl rfl rfl rfl hS ?_
 clear hS
 intro w hS
 refine WL.nx ?_
 replace hS := hS.f2.drop
 refine WC.ret ?_
 have hl_667 := load_own_agg (P := Tryz.prog) (cs := [i6 r_658.k, i6 r_658.i, sv r_658.t, v_659, v_660]) Tryz.isAgg32 Tryz.sizeOf32 hS rfl
 replace hS := hS.drop
 exact leavec1 (il) rfl rfl hl_667 (⟨r_658, v_659, v_660, H_665, hV, rfl, ((((View.le.refl _).trans le_325).trans le_656).trans le_666), hr_661, hr_662, h_663, h_664, hS⟩)

theorem S_rFunOf {w0 : World} {H : View} {L : Seg} {w : World} {v_2 : Value} {keys_1 : List RV} {v_5 : Value} {vals_4 : List RV} {Q : RV → Prop} (h_3 : IsSl H cR v_2 keys_1) (h_6 : IsSl H cR v_5 vals_4) (hS : St w0 H (L) w) (hV : V_rFunOf keys_1 vals_4 Q) :
 Calls Tryz.prog 71 #[v_2, v_5] w fun e w' => ∃ (r1 : RV) (u1 : Value) (w1 : Value) (H' : View), Q r1 ∧ e = .returned (.agg #[i6 r1.k, i6 r1.i, sv r1.t, u1, w1]) ∧ View.le H H' ∧ I64 r1.k ∧ I64 r1.i ∧ IsSl H' cR u1 r1.ks ∧ IsSl H' cR w1 r1.vs ∧ St w0 H' (L) w' := by
 unfold V_rFunOf at hV
 refine enter Tryz.func71 rfl Tryz.ntmps71 rfl (lk_args_cons (d := 0) (v := v_2) rfl (lk_args_cons (d := 1) (v := v_5) rfl (lk_args_nil _))) (WC.sr (WL.alloc (arr := #[i6 0, i6 0, sv ([] : Str), (.slice none 0 0), (.slice none 0 0)]) rfl Tryz.zeroValue32 rfl hS ?_))
 clear hS
 intro b_7 w hS
 refine WL.nx (WC.sr (WL.run hS rfl rfl rfl (ex_build (vs := [i6 (6 : Int)]) (zc := #[i6 0, i6 0, sv ([] : Str), (.slice none 0 0), (.slice none 0 0)]) (cs := #[i6 (6 : Int), i6 0, sv ([] : Str), (.slice none 0 0), (.slice none 0 0)]) (places := #[(0, 1), (1, 1), (2, 1), (3, 1), (4, 1)]) Tryz.underlying32 Tryz.zeroValue32 (fun w => by simp [Tryz.sizeOf2, Tryz.sizeOf3, Tryz.sizeOf30, Tryz.sizeOf9]) rfl ⟨rfl, trivial⟩ rfl (by simp [Instr.fill, cells_int, cells_bool, cells_iface, cells_niliface, cells_slice, str_cells])) (WL.alloc (arr := #[i6 0, i6 0, sv ([] : Str), (.slice none 0 0), (.slice none 0 0)]) rfl Tryz.zeroValue32 rfl hS ?_)))
 clear hS
 intro b_13 w hS
 refine WL.store_box (pre := []) (old := [i6 0, i6 0, sv ([] : Str), (.slice none 0 0), (.slice none 0 0)]) (rst := []) (cs := [i6 (6 : Int), i6 0, sv ([] : Str), (.slice none 0 0), (.slice none 0 0)]) (arr' := #[i6 (6 : Int), i6 0, sv ([] : Str), (.slice none 0 0), (.slice none 0 0)]) Tryz.sizeOf32 rfl rfl rfl ⟨rfl, rfl, rfl, rfl, rfl, trivial⟩ rfl rfl rfl rfl hS ?_
 clear hS
 intro w hS
 refine WL.nx (WC.seq (WC.sr (WL.ma rfl rfl (WL.nx (WC.block ?_)))))
 replace hS := hS.nilseg
 replace hS := hS.nilseg
 replace hS := hS.f2.f3.f4
 obtain ⟨I_714, mu_715, hI_964, hV⟩ := hV
 refine WC.loop (σ := (List RV) × (List RV) × Int) (fun s a w => ∃ (c_472 : List RV) (c_477 : List RV) (i_481 : Int) (H_469 : View) (v_473 : Value) (fp_474 : Seg) (v_478 : Value) (fp_479 : Seg), s = (c_472, c_477, i_481) ∧ I_714 (c_472, c_477, i_481) ∧ View.le H H_469 ∧ OwnSl H_469 cR 32 v_473 c_472 fp_474 ∧ OwnSl H_469 cR 32 v_478 c_477 fp_479 ∧ I64 i_481 ∧ St w0 H_469 ([(b_7, Obj.cells #[i6 0, i6 0, sv ([] : Str), (.slice none 0 0), (.slice none 0 0)] 32 (0, 0))] ++ ([(b_13, Obj.cells #[i6 (6 : Int), i6 0, sv ([] : Str), v_473, v_478] 32 (0, 0))] ++ (fp_474 ++ (fp_479 ++ L)))) w ∧ Fr 48 [(0, v_2), (1, v_5), (4, (pq b_7)), (5, (pq b_13)), (6, i6 i_481)] a) mu_715 (([] : List RV), ([] : List RV), (0 : Int)) ?_ ?_
 exact fun a ha => ⟨([] : List RV), ([] : List RV), (0 : Int), H, (.slice none 0 0), ([] : Seg), (.slice none 0 0), ([] : Seg), rfl, hI_964, (View.le.refl _), OwnSl.nil, OwnSl.nil, (show I64 (0 : Int) by unfold I64; omega), hS, ha.of_sub ⟨rfl, rfl, rfl, rfl, rfl, trivial⟩⟩
 clear hS hI_964
 rintro _ a w ⟨c_472, c_477, i_481, H_469, v_473, fp_474, v_478, fp_479, rfl, hI, le_470, h_475, h_480, hr_482, hS, ha⟩
 refine in_frame ha ?_
 clear ha
 replace hV := hV _ hI
 clear hI
 refine WC.seq (WC.sr (WL.mv rfl rfl (WL.mv rfl rfl ?_)))
 have hl_717 : Len keys_1 := (h_3.mono le_470).bound
 replace hV := hV hl_717
 refine WL.run hS rfl rfl rfl (ex_len_sl Tryz.underlying30 rfl (h_3.mono le_470)) (WL.run hS rfl rfl rfl (ex_lss rfl rfl) (WL.nx ?_))
 refine WC.cond rfl ?_ ?_
 intro hc_963
 replace hV := hV.1 (of_decide_eq_true hc_963)
 refine WC.skip (WQ.next ?_)
 obtain ⟨J_837, hJ_838, hV⟩ := hV
 refine WC.meet (fun a w => ∃ (c_828 : List RV) (c_833 : List RV) (H_825 : View) (v_829 : Value) (fp_830 : Seg) (v_834 : Value) (fp_835 : Seg), J_837 (c_828, c_833) ∧ View.le H_469 H_825 ∧ OwnSl H_825 cR 32 v_829 c_828 fp_830 ∧ OwnSl H_825 cR 32 v_834 c_833 fp_835 ∧ St w0 H_825 ([(b_7, Obj.cells #[i6 0, i6 0, sv ([] : Str), (.slice none 0 0), (.slice none 0 0)] 32 (0, 0))] ++ ([(b_13, Obj.cells #[i6 (6 : Int), i6 0, sv ([] : Str), v_829, v_834] 32 (0, 0))] ++ (fp_830 ++ (fp_835 ++ L)))) w ∧ Fr 48 [(0, v_2), (1, v_5), (4, (pq b_7)), (5, (pq b_13)), (6, i6 i_481)] a) ?_ ?_
 rintro a w ⟨c_828, c_833, H_825, v_829, fp_830, v_834, fp_835, hI, le_826, h_831, h_836, hS, ha⟩
 refine in_frame ha ?_
 clear ha hV
 have hV := hJ_838 _ hI
 clear hI hJ_838
 refine WC.region (WL.mv rfl rfl ?_)
 obtain ⟨hi_946, hV⟩ := hV
 refine WL.run hS rfl rfl rfl (ex_add rfl rfl hi_946) (WL.ma rfl rfl (WL.nil ?_))
 replace hS := hS.f4.f4.f4.f4
 exact WQ.there fun a ha => ⟨(c_828, c_833, (i_481 + (1 : Int))), ⟨c_828, c_833, (i_481 + (1 : Int)), H_825, v_829, fp_830, v_834, fp_835, rfl, hV.1, (((View.le.refl _).trans le_470).trans le_826), h_831, h_836, hi_946, hS, ha.of_sub ⟨rfl, rfl, rfl, rfl, rfl, trivial⟩⟩, hV.2⟩
 clear hJ_838
 refine WC.block (WC.seq (WC.drawn (σ := [0, 1, 2, 3, 4, 5, 6, 7, 8, 9, 10, 11]) (C := St w0 H_469 ([(b_7, Obj.cells #[i6 0, i6 0, sv ([] : Str), (.slice none 0 0), (.slice none 0 0)] 32 (0, 0))] ++ ([(b_13, Obj.cells #[i6 (6 : Int), i6 0, sv ([] : Str), v_473, v_478] 32 (0, 0))] ++ (fp_474 ++ (fp_479 ++ L))))) [[], [0], [], [], [2, 3], [2, 3, 4], [0, 1, 2, 3, 4, 5], [0, 1, 2, 3, 4, 5, 6], [0, 1, 2, 3, 4, 5, 6, 7], [0, 1, 2, 3, 4, 5, 6, 7], [0, 1, 2, 3, 4, 5, 6, 7, 8], [0, 1, 2, 3, 4, 5, 6, 7, 8, 9, 10]] [6] Tryz.mixed (by kernel_rfl) (hS.drawn _) ?_))
 clear hS w
 refine Wd.run rfl rfl rfl rfl (fun _ => ex_fieldAddr (o' := 3) Tryz.underlying32 rfl Tryz.sizeOf30 rfl rfl) fun q_840 hq_839 => (Wd.runb (off := 3) rfl rfl rfl rfl (fun _ _ _ h => ex_load_box Tryz.isAgg30 rfl h) rfl (fun _ h => St.f2 h) fun q_842 hq_841 => (Wd.run rfl rfl rfl rfl (fun _ => ex_move rfl) fun q_844 hq_843 => (Wd.run rfl rfl rfl rfl (fun _ => ex_move rfl) fun q_846 hq_845 => ?_)))
 obtain ⟨hin_849, hV⟩ := hV
 refine Wd.runx rfl rfl rfl rfl (exAll (ex_index Tryz.underlying30 Tryz.sizeOf32 rfl rfl (h_3.mono le_470) hin_849)) ?_
 intro p_850 hp_851
 intro q_848 hq_847
 refine Wd.runs (fp := ([] : Seg)) (L := [(b_7, Obj.cells #[i6 0, i6 0, sv ([] : Str), (.slice none 0 0), (.slice none 0 0)] 32 (0, 0))] ++ ([(b_13, Obj.cells #[i6 (6 : Int), i6 0, sv ([] : Str), v_473, v_478] 32 (0, 0))] ++ (fp_474 ++ (fp_479 ++ L)))) rfl rfl rfl rfl (ex_load_agg_s Tryz.isAgg32 Tryz.sizeOf32 rfl hp_851) (fun _ h => h) ?_
 rintro u_854 ⟨_, rfl, hu⟩
 obtain ⟨v_855, v_856, rfl, hr_857, hr_858, h_859, h_860⟩ := cR_rep.1 hu
 replace hV := hV hr_857 hr_858
 intro q_853 hq_852
 refine Wd.turn rfl rfl rfl fun w hS => ?_
 replace hS := hS.f3
 have hL_861 := hS.freeze
 refine WL.call rfl rfl rfl (enters0 (vs := [v_473, .agg #[i6 ((ix keys_1 i_481).k), i6 ((ix keys_1 i_481).i), sv ((ix keys_1 i_481).t), v_855, v_856]]) Tryz.call78 ⟨rfl, rfl, trivial⟩) (S_rplace (v_4 := (ix keys_1 i_481)) (h_475.share hS.put_le) hr_857 hr_858 (by exact (h_859.mono hS.put_le)) (by exact (h_860.mono hS.put_le)) hL_861 hV) ?_
 clear hV
 rintro _ w ⟨r_862, r_864, hV, rfl, hr_863, hL_865⟩
 refine ⟨_, rfl, ?_⟩
 have hB_867 := hS.back hL_865
 replace hS := hB_867
 clear hL_865 hL_861 hB_867
 refine WL.nil (DQ.mk2 (C' := St w0 H_469 (fp_474 ++ ([(b_7, Obj.cells #[i6 0, i6 0, sv ([] : Str), (.slice none 0 0), (.slice none 0 0)] 32 (0, 0))] ++ ([(b_13, Obj.cells #[i6 (6 : Int), i6 0, sv ([] : Str), v_473, v_478] 32 (0, 0))] ++ (fp_479 ++ L))))) hS ⟨il, il, il, il, il, il, trivial⟩ ?_)
 clear hS w
 refine Wd.run rfl rfl rfl rfl (fun _ => ex_move rfl) fun q_869 hq_868 => (Wd.run rfl rfl rfl rfl (fun _ => ex_extract rfl rfl) fun q_871 hq_870 => (Wd.run rfl rfl rfl rfl (fun _ => ex_extract rfl rfl) fun q_873 hq_872 => (Wd.run rfl rfl rfl rfl (fun _ => ex_assign rfl) fun q_875 hq_874 => (Wd.run rfl rfl rfl rfl (fun _ => ex_assign rfl) fun q_877 hq_876 => (Wd.nil fun w hS => (WQ.next (WC.sub (m := [(0, v_2), (1, v_5), (4, (pq b_7)), (5, (pq b_13)), (6, i6 i_481), (7, i6 r_862), (8, .bool r_864)]) ⟨rfl, rfl, rfl, rfl, rfl, rfl, rfl, trivial⟩ ?_)))))))
 refine WC.sr (WL.mv rfl rfl (WL.run hS rfl rfl rfl (ex_not rfl) (WL.nx ?_)))
 refine WC.cond rfl ?_ ?_
 intro hc_944
 replace hV := hV.1 hc_944
 refine WC.seq (WC.drawn (σ := [0, 1, 2, 3, 4, 5, 6, 7, 8, 9]) (C := St w0 H_469 (fp_474 ++ ([(b_7, Obj.cells #[i6 0, i6 0, sv ([] : Str), (.slice none 0 0), (.slice none 0 0)] 32 (0, 0))] ++ ([(b_13, Obj.cells #[i6 (6 : Int), i6 0, sv ([] : Str), v_473, v_478] 32 (0, 0))] ++ (fp_479 ++ L))))) [[], [0], [], [], [], [3, 4], [3, 4, 5], [0, 1, 2, 3, 4, 5, 6], [0, 1, 2, 3, 4, 5, 6, 7], [0, 1, 2, 3, 4, 5, 6, 7, 8]] [7, 9] Tryz.mixed (by kernel_rfl) (hS.drawn _) ?_)
 clear hS w
 refine Wd.run rfl rfl rfl rfl (fun _ => ex_fieldAddr (o' := 3) Tryz.underlying32 rfl Tryz.sizeOf30 rfl rfl) fun q_879 hq_878 => (Wd.runb (off := 3) rfl rfl rfl rfl (fun _ _ _ h => ex_load_box Tryz.isAgg30 rfl h) rfl (fun _ h => St.f3 h) fun q_881 hq_880 => (Wd.run rfl rfl rfl rfl (fun _ => ex_move rfl) fun q_883 hq_882 => (Wd.run rfl rfl rfl rfl (fun _ => ex_move rfl) fun q_885 hq_884 => (Wd.run rfl rfl rfl rfl (fun _ => ex_move rfl) fun q_887 hq_886 => ?_))))
 obtain ⟨hin_890, hV⟩ := hV
 refine Wd.runx rfl rfl rfl rfl (exAll (ex_index Tryz.underlying30 Tryz.sizeOf32 rfl rfl (h_3.mono le_470) hin_890)) ?_
 intro p_891 hp_892
 intro q_889 hq_888
 refine Wd.runs (fp := ([] : Seg)) (L := fp_474 ++ ([(b_7, Obj.cells #[i6 0, i6 0, sv ([] : Str), (.slice none 0 0), (.slice none 0 0)] 32 (0, 0))] ++ ([(b_13, Obj.cells #[i6 (6 : Int), i6 0, sv ([] : Str), v_473, v_478] 32 (0, 0))] ++ (fp_479 ++ L)))) rfl rfl rfl rfl (ex_load_agg_s Tryz.isAgg32 Tryz.sizeOf32 rfl hp_892) (fun _ h => h) ?_
 rintro u_895 ⟨_, rfl, hu⟩
 obtain ⟨v_896, v_897, rfl, hr_898, hr_899, h_900, h_901⟩ := cR_rep.1 hu
 replace hV := hV hr_898 hr_899
 intro q_894 hq_893
 refine Wd.turn rfl rfl rfl fun w hS => (WL.call rfl rfl rfl (enters0 (vs := [v_473, i6 r_862, .agg #[i6 ((ix keys_1 i_481).k), i6 ((ix keys_1 i_481).i), sv ((ix keys_1 i_481).t), v_896, v_897]]) Tryz.call79 ⟨rfl, rfl, rfl, trivial⟩) (S_rput (v_8 := (ix keys_1 i_481)) h_475 hr_863 hr_898 hr_899 h_900 h_901 hS hV) ?_)
 clear hV hS
 rintro _ w ⟨r_902, v_903, fp_904, H_907, hV, rfl, le_908, h_905, hS⟩
 refine ⟨_, rfl, ?_⟩
 refine WL.nil (DQ.mk2 (C' := St w0 H_907 (fp_904 ++ ([(b_7, Obj.cells #[i6 0, i6 0, sv ([] : Str), (.slice none 0 0), (.slice none 0 0)] 32 (0, 0))] ++ ([(b_13, Obj.cells #[i6 (6 : Int), i6 0, sv ([] : Str), v_473, v_478] 32 (0, 0))] ++ (fp_479 ++ L))))) hS ⟨il, il, il, il, il, il, il, trivial⟩ ?_)
 clear hS w
 refine Wd.run rfl rfl rfl rfl (fun _ => ex_fieldAddr (o' := 3) Tryz.underlying32 rfl Tryz.sizeOf30 rfl rfl) fun q_910 hq_909 => (Wd.turn rfl rfl rfl fun w hS => ?_)
 replace hS := hS.f3
 refine WL.store_box (pre := [i6 (6 : Int), i6 0, sv ([] : Str)]) (old := [v_473]) (rst := [v_478]) (cs := [v_903]) (arr' := #[i6 (6 : Int), i6 0, sv ([] : Str), v_903, v_478]) Tryz.sizeOf30 rfl rfl (congrArg Array.toList (cells_one (OwnSl.one h_905))) ⟨(OwnSl.one h_905), trivial⟩ rfl rfl rfl rfl hS ?_
 clear hS
 intro w hS
 refine WL.nil (DQ.mk2 (C' := St w0 H_907 ([(b_13, Obj.cells #[i6 (6 : Int), i6 0, sv ([] : Str), v_903, v_478] 32 (0, 0))] ++ (fp_904 ++ ([(b_7, Obj.cells #[i6 0, i6 0, sv ([] : Str), (.slice none 0 0), (.slice none 0 0)] 32 (0, 0))] ++ (fp_479 ++ L))))) hS ⟨il, il, il, il, il, il, il, il, trivial⟩ ?_)
 clear hS w
 refine Wd.nil fun w hS => (WQ.next (WC.sub (m := [(0, v_2), (1, v_5), (4, (pq b_7)), (5, (pq b_13)), (6, i6 i_481), (7, i6 r_862)]) ⟨rfl, rfl, rfl, rfl, rfl, rfl, trivial⟩ (WC.drawn (σ := [0, 1, 2, 3, 4, 5, 6, 7, 8, 9]) (C := St w0 H_907 ([(b_13, Obj.cells #[i6 (6 : Int), i6 0, sv ([] : Str), v_903, v_478] 32 (0, 0))] ++ (fp_904 ++ ([(b_7, Obj.cells #[i6 0, i6 0, sv ([] : Str), (.slice none 0 0), (.slice none 0 0)] 32 (0, 0))] ++ (fp_479 ++ L))))) [[], [0], [], [], [], [3, 4], [3, 4, 5], [0, 1, 2, 3, 4, 5, 6], [0, 1, 2, 3, 4, 5, 6, 7], [0, 1, 2, 3, 4, 5, 6, 7, 8]] [7, 9] Tryz.mixed (by kernel_rfl) (hS.drawn _) ?_)))
 clear hS w
 refine Wd.run rfl rfl rfl rfl (fun _ => ex_fieldAddr (o' := 4) Tryz.underlying32 rfl Tryz.sizeOf30 rfl rfl) fun q_912 hq_911 => (Wd.runb (off := 4) rfl rfl rfl rfl (fun _ _ _ h => ex_load_box Tryz.isAgg30 rfl h) rfl (fun _ h => h) fun q_914 hq_913 => (Wd.run rfl rfl rfl rfl (fun _ => ex_move rfl) fun q_916 hq_915 => (Wd.run rfl rfl rfl rfl (fun _ => ex_move rfl) fun q_918 hq_917 => (Wd.run rfl rfl rfl rfl (fun _ => ex_move rfl) fun q_920 hq_919 => ?_))))
 obtain ⟨hin_923, hV⟩ := hV
 refine Wd.runx rfl rfl rfl rfl (exAll (ex_index Tryz.underlying30 Tryz.sizeOf32 rfl rfl ((h_6.mono le_470).mono le_908) hin_923)) ?_
 intro p_924 hp_925
 intro q_922 hq_921
 refine Wd.runs (fp := ([] : Seg)) (L := [(b_13, Obj.cells #[i6 (6 : Int), i6 0, sv ([] : Str), v_903, v_478] 32 (0, 0))] ++ (fp_904 ++ ([(b_7, Obj.cells #[i6 0, i6 0, sv ([] : Str), (.slice none 0 0), (.slice none 0 0)] 32 (0, 0))] ++ (fp_479 ++ L)))) rfl rfl rfl rfl (ex_load_agg_s Tryz.isAgg32 Tryz.sizeOf32 rfl hp_925) (fun _ h => h) ?_
 rintro u_928 ⟨_, rfl, hu⟩
 obtain ⟨v_929, v_930, rfl, hr_931, hr_932, h_933, h_934⟩ := cR_rep.1 hu
 replace hV := hV hr_931 hr_932
 intro q_927 hq_926
 refine Wd.turn rfl rfl rfl fun w hS => ?_
 replace hS := hS.f4
 refine WL.call rfl rfl rfl (enters0 (vs := [v_478, i6 r_862, .agg #[i6 ((ix vals_4 i_481).k), i6 ((ix vals_4 i_481).i), sv ((ix vals_4 i_481).t), v_929, v_930]]) Tryz.call79 ⟨rfl, rfl, rfl, trivial⟩) (S_rput (v_8 := (ix vals_4 i_481)) (h_480.mono le_908) hr_863 hr_931 hr_932 h_933 h_934 hS hV) ?_
 clear hV hS
 rintro _ w ⟨r_935, v_936, fp_937, H_940, hV, rfl, le_941, h_938, hS⟩
 refine ⟨_, rfl, ?_⟩
 refine WL.nil (DQ.mk2 (C' := St w0 H_940 (fp_937 ++ ([(b_13, Obj.cells #[i6 (6 : Int), i6 0, sv ([] : Str), v_903, v_478] 32 (0, 0))] ++ (fp_904 ++ ([(b_7, Obj.cells #[i6 0, i6 0, sv ([] : Str), (.slice none 0 0), (.slice none 0 0)] 32 (0, 0))] ++ L))))) hS ⟨il, il, il, il, il, il, il, trivial⟩ ?_)
 clear hS w
 refine Wd.run rfl rfl rfl rfl (fun _ => ex_fieldAddr (o' := 4) Tryz.underlying32 rfl Tryz.sizeOf30 rfl rfl) fun q_943 hq_942 => (Wd.turn rfl rfl rfl fun w hS => ?_)
 replace hS := hS.f2
 refine WL.store_box (pre := [i6 (6 : Int), i6 0, sv ([] : Str), v_903]) (old := [v_478]) (rst := []) (cs := [v_936]) (arr' := #[i6 (6 : Int), i6 0, sv ([] : Str), v_903, v_936]) Tryz.sizeOf30 rfl rfl (congrArg Array.toList (cells_one (OwnSl.one h_938))) ⟨(OwnSl.one h_938), trivial⟩ rfl rfl rfl rfl hS ?_
 clear hS
 intro w hS
 refine WL.nil (DQ.mk2 (C' := St w0 H_940 ([(b_13, Obj.cells #[i6 (6 : Int), i6 0, sv ([] : Str), v_903, v_936] 32 (0, 0))] ++ (fp_937 ++ (fp_904 ++ ([(b_7, Obj.cells #[i6 0, i6 0, sv ([] : Str), (.slice none 0 0), (.slice none 0 0)] 32 (0, 0))] ++ L))))) hS ⟨il, il, il, il, il, il, il, il, trivial⟩ ?_)
 clear hS w
 refine Wd.nil fun w hS => (WQ.out nofun ?_)
 replace hS := hS.f2.f3.f3.f4
 exact WQ.there fun a ha => ⟨r_902, r_935, H_940, v_903, fp_904, v_936, fp_937, hV, (((View.le.refl _).trans le_908).trans le_941), (h_905.mono le_941), h_938, hS, ha.of_sub ⟨rfl, rfl, rfl, rfl, rfl, trivial⟩⟩
 intro hc_944
 replace hV := hV.2 hc_944
 refine WC.skip (WQ.out nofun ?_)
 replace hS := hS.f4.f2.f4.f4
 exact WQ.there fun a ha => ⟨c_472, c_477, H_469, v_473, fp_474, v_478, fp_479, hV, (View.le.refl _), h_475, h_480, hS, ha.of_sub ⟨rfl, rfl, rfl, rfl, rfl, trivial⟩⟩
 intro hc_963
 replace hV := hV.2 (of_decide_eq_false hc_963)
 refine WC.exit (WQ.pass nofun (WQ.pass nofun (WQ.hit (WQ.next (WC.sr ?_)))))
 replace hS := hS.f2
 refine WL.run hS rfl rfl rfl (ex_load_box_agg (cs := [i6 (6 : Int), i6 0, sv ([] : Str), v_473, v_478]) Tryz.isAgg32 Tryz.sizeOf32 rfl rfl rfl) ?_
 replace hS := hS.f3
 obtain ⟨H_947, le_948, h_949, hS⟩ : ∃ K, View.le H_469 K ∧ IsSl K cR v_473 c_472 ∧ St w0 K ([(b_13, Obj.cells #[i6 (6 : Int), i6 0, sv ([] : Str), v_473, v_478] 32 (0, 0))] ++ ([(b_7, Obj.cells #[i6 0, i6 0, sv ([] : Str), (.slice none 0 0), (.slice none 0 0)] 32 (0, 0))] ++ (fp_479 ++ L))) w := ⟨_, hS.put_le, h_475.share hS.put_le, hS.freeze⟩
 replace hS := hS.f3
 obtain ⟨H_950, le_951, h_952, hS⟩ : ∃ K, View.le H_947 K ∧ IsSl K cR v_478 c_477 ∧ St w0 K ([(b_13, Obj.cells #[i6 (6 : Int), i6 0, sv ([] : Str), v_473, v_478] 32 (0, 0))] ++ ([(b_7, Obj.cells #[i6 0, i6 0, sv ([] : Str), (.slice none 0 0), (.slice none 0 0)] 32 (0, 0))] ++ L)) w := ⟨_, hS.put_le, (h_480.mono le_948).share hS.put_le, hS.freeze⟩
 refine WL.call rfl rfl rfl (enters0 (vs := [.agg #[i6 (6 : Int), i6 0, sv ([] : Str), v_473, v_478]]) Tryz.call80 ⟨rfl, trivial⟩) (S_rLight (v_1 := (RV.mk (6 : Int) 0 ([] : Str) c_472 c_477)) (by exact (show I64 (6 : Int) by unfold I64; omega)) (by exact (show I64 0 by unfold I64; omega)) (by exact (h_949.mono le_951)) h_952 hS hV) ?_
 clear hV hS
 rintro _ w ⟨r_953, v_954, v_955, H_960, hV, rfl, le_961, hr_956, hr_957, h_958, h_959, hS⟩
 refine ⟨_, rfl, ?_⟩
 replace hS := hS.f2
 refine WL.store_box (pre := []) (old := [i6 0, i6 0, sv ([] : Str), (.slice none 0 0), (.slice none 0 0)]) (rst := []) (cs := [i6 r_953.k, i6 r_953.i, sv r_953.t, v_954, v_955]) (arr' := #[i6 r_953.k, i6 r_953.i, sv r_953.t, v_954, v_955]) Tryz.sizeOf32 rfl rfl rfl ⟨rfl, rfl, rfl, (IsSl.one h_958), (IsSl.one h_959), trivial⟩ rfl rfl rfl rfl hS ?_
 clear hS
 intro w hS
 refine WL.nx (WC.sub (m := [(4, (pq b_7))]) ⟨rfl, trivial⟩ ?_)
 replace hS := hS.f2.drop
 refine WC.ret ?_
 have hl_962 := load_own_agg (P := Tryz.prog) (cs := [i6 r_953.k, i6 r_953.i, sv r_953.t, v_954, v_955]) Tryz.isAgg32 Tryz.sizeOf32 hS rfl
 replace hS := hS.drop
 exact leavec1 (il) rfl rfl hl_962 (⟨r_953, v_954, v_955, H_960, hV, rfl, (((((View.le.refl _).trans le_470).trans le_948).trans le_951).trans le_961), hr_956, hr_957, h_958, h_959, hS⟩)

theorem S_rSeqOf {w0 : World} {H : View} {L : Seg} {w : World} {v_2 : Value} {l_1 : List RV} {Q : RV → Prop} (h_3 : IsSl H cR v_2 l_1) (hS : St w0 H (L) w) (hV : V_rSeqOf l_1 Q) :
 Calls Tryz.prog 37 #[v_2] w fun e w' => ∃ (r1 : RV) (u1 : Value) (w1 : Value) (H' : View), Q r1 ∧ e = .returned (.agg #[i6 r1.k, i6 r1.i, sv r1.t, u1, w1]) ∧ View.le H H' ∧ I64 r1.k ∧ I64 r1.i ∧ IsSl H' cR u1 r1.ks ∧ IsSl H' cR w1 r1.vs ∧ St w0 H' (L) w' := by
 unfold V_rSeqOf at hV
 refine enter Tryz.func37 rfl Tryz.ntmps37 rfl (lk_args_cons (d := 0) (v := v_2) rfl (lk_args_nil _)) (WC.sr (WL.alloc (arr := #[i6 0, i6 0, sv ([] : Str), (.slice none 0 0), (.slice none 0 0)]) rfl Tryz.zeroValue32 rfl hS ?_))
 clear hS
 intro b_4 w hS
 refine WL.nx (WC.sr (WL.run hS rfl rfl rfl (ex_build (vs := [i6 (6 : Int)]) (zc := #[i6 0, i6 0, sv ([] : Str), (.slice none 0 0), (.slice none 0 0)]) (cs := #[i6 (6 : Int), i6 0, sv ([] : Str), (.slice none 0 0), (.slice none 0 0)]) (places := #[(0, 1), (1, 1), (2, 1), (3, 1), (4, 1)]) Tryz.underlying32 Tryz.zeroValue32 (fun w => by simp [Tryz.sizeOf2, Tryz.sizeOf3, Tryz.sizeOf30, Tryz.sizeOf9]) rfl ⟨rfl, trivial⟩ rfl (by simp [Instr.fill, cells_int, cells_bool, cells_iface, cells_niliface, cells_slice, str_cells])) (WL.alloc (arr := #[i6 0, i6 0, sv ([] : Str), (.slice none 0 0), (.slice none 0 0)]) rfl Tryz.zeroValue32 rfl hS ?_)))
 clear hS
 intro b_10 w hS
 refine WL.store_box (pre := []) (old := [i6 0, i6 0, sv ([] : Str), (.slice none 0 0), (.slice none 0 0)]) (rst := []) (cs := [i6 (6 : Int), i6 0, sv ([] : Str), (.slice none 0 0), (.slice none 0 0)]) (arr' := #[i6 (6 : Int), i6 0, sv ([] : Str), (.slice none 0 0), (.slice none 0 0)]) Tryz.sizeOf32 rfl rfl rfl ⟨rfl, rfl, rfl, rfl, rfl, trivial⟩ rfl rfl rfl rfl hS ?_
 clear hS
 intro w hS
 refine WL.nx (WC.seq (WC.sr (WL.ma rfl rfl (WL.nx (WC.block ?_)))))
 replace hS := hS.nilseg
 replace hS := hS.nilseg
 replace hS := hS.f2.f3.f4
 obtain ⟨I_216, mu_217, hI_297, hV⟩ := hV
 refine WC.loop (σ := (List RV) × (List RV) × Int) (fun s a w => ∃ (c_143 : List RV) (c_148 : List RV) (i_152 : Int) (H_140 : View) (v_144 : Value) (fp_145 : Seg) (v_149 : Value) (fp_150 : Seg), s = (c_143, c_148, i_152) ∧ I_216 (c_143, c_148, i_152) ∧ View.le H H_140 ∧ OwnSl H_140 cR 32 v_144 c_143 fp_145 ∧ OwnSl H_140 cR 32 v_149 c_148 fp_150 ∧ I64 i_152 ∧ St w0 H_140 ([(b_4, Obj.cells #[i6 0, i6 0, sv ([] : Str), (.slice none 0 0), (.slice none 0 0)] 32 (0, 0))] ++ ([(b_10, Obj.cells #[i6 (6 : Int), i6 0, sv ([] : Str), v_144, v_149] 32 (0, 0))] ++ (fp_145 ++ (fp_150 ++ L)))) w ∧ Fr 33 [(0, v_2), (2, (pq b_4)), (3, (pq b_10)), (4, i6 i_152)] a) mu_217 (([] : List RV), ([] : List RV), (0 : Int)) ?_ ?_
 exact fun a ha => ⟨([] : List RV), ([] : List RV), (0 : Int), H, (.slice none 0 0), ([] : Seg), (.slice none 0 0), ([] : Seg), rfl, hI_297, (View.le.refl _), OwnSl.nil, OwnSl.nil, (show I64 (0 : Int) by unfold I64; omega), hS, ha.of_sub ⟨rfl, rfl, rfl, rfl, trivial⟩⟩
 clear hS hI_297
 rintro _ a w ⟨c_143, c_148, i_152, H_140, v_144, fp_145, v_149, fp_150, rfl, hI, le_141, h_146, h_151, hr_153, hS, ha⟩
 refine in_frame ha ?_
 clear ha
 replace hV := hV _ hI
 clear hI
 refine WC.seq (WC.sr (WL.mv rfl rfl (WL.mv rfl rfl ?_)))
 have hl_219 : Len l_1 := (h_3.mono le_141).bound
 replace hV := hV hl_219
 refine WL.run hS rfl rfl rfl (ex_len_sl Tryz.underlying30 rfl (h_3.mono le_141)) (WL.run hS rfl rfl rfl (ex_lss rfl rfl) (WL.nx ?_))
 refine WC.cond rfl ?_ ?_
 intro hc_296
 replace hV := hV.1 (of_decide_eq_true hc_296)
 refine WC.skip (WQ.next (WC.seq (WC.block (WC.sr (WL.mv rfl rfl ?_)))))
 obtain ⟨hi_222, hV⟩ := hV
 refine WL.run hS rfl rfl rfl (ex_add rfl rfl hi_222) (WL.call rfl rfl rfl (enters0 (vs := [i6 (i_152 + (1 : Int))]) Tryz.call81 ⟨rfl, trivial⟩) (S_rNumber hi_222 hS hV) ?_)
 clear hV hS
 rintro _ w ⟨r_223, v_224, v_225, H_230, hV, rfl, le_231, hr_226, hr_227, h_228, h_229, hS⟩
 refine ⟨_, rfl, ?_⟩
 refine WL.alloc (arr := #[i6 0, i6 0, sv ([] : Str), (.slice none 0 0), (.slice none 0 0)]) rfl Tryz.zeroValue32 rfl hS ?_
 clear hS
 intro b_232 w hS
 refine WL.store_box (pre := []) (old := [i6 0, i6 0, sv ([] : Str), (.slice none 0 0), (.slice none 0 0)]) (rst := []) (cs := [i6 r_223.k, i6 r_223.i, sv r_223.t, v_224, v_225]) (arr' := #[i6 r_223.k, i6 r_223.i, sv r_223.t, v_224, v_225]) Tryz.sizeOf32 rfl rfl rfl ⟨rfl, rfl, rfl, (IsSl.one h_228), (IsSl.one h_229), trivial⟩ rfl rfl rfl rfl hS ?_
 clear hS
 intro w hS
 refine WL.nx (WC.sr (WL.run hS rfl rfl rfl (ex_fieldAddr (o' := 3) Tryz.underlying32 rfl Tryz.sizeOf30 rfl rfl) ?_))
 replace hS := hS.f3
 refine WL.run hS rfl rfl rfl (ex_load_box Tryz.isAgg30 rfl rfl) ?_
 replace hS := hS.f2
 refine WL.run hS rfl rfl rfl (ex_load_box_agg (cs := [i6 r_223.k, i6 r_223.i, sv r_223.t, v_224, v_225]) Tryz.isAgg32 Tryz.sizeOf32 rfl rfl rfl) (WL.builds (c := cR) (xs := [r_223]) (vs := [.agg #[i6 r_223.k, i6 r_223.i, sv r_223.t, v_224, v_225]]) (css := [[i6 r_223.k, i6 r_223.i, sv r_223.t, v_224, v_225]]) rfl Tryz.underlying30 Tryz.info32 rfl ⟨rfl, trivial⟩ rfl (by decide) rfl (by simp; rfl) ⟨[i6 r_223.k, i6 r_223.i, sv r_223.t, v_224, v_225], _, rfl, (cR_rep.2 ⟨_, _, rfl, hr_226, hr_227, h_228, h_229⟩), rfl⟩ hS rfl (by decide) ?_)
 clear hS
 intro v_237 w fp_238 h_239 hS
 obtain ⟨hr_240, hV⟩ := hV
 replace hS := hS.f5
 refine WL.append (c := cR) (xs := c_143) (ys := ([r_223])) rfl Tryz.underlying30 Tryz.info32 rfl rfl rfl hS (h_146.mono le_231) (h_239.src hS.f2) hr_240.1 hr_240.2 ?_
 clear hS
 intro v_241 w fp_242 h_243 hS
 refine WL.run hS rfl rfl rfl (ex_fieldAddr (o' := 3) Tryz.underlying32 rfl Tryz.sizeOf30 rfl rfl) ?_
 replace hS := hS.f4
 refine WL.store_box (pre := [i6 (6 : Int), i6 0, sv ([] : Str)]) (old := [v_144]) (rst := [v_149]) (cs := [v_241]) (arr' := #[i6 (6 : Int), i6 0, sv ([] : Str), v_241, v_149]) Tryz.sizeOf30 rfl rfl (congrArg Array.toList (cells_one (OwnSl.one h_243))) ⟨(OwnSl.one h_243), trivial⟩ rfl rfl rfl rfl hS ?_
 clear hS
 intro w hS
 refine WL.nx (WC.sub (m := [(0, v_2), (2, (pq b_4)), (3, (pq b_10)), (4, i6 i_152)]) ⟨rfl, rfl, rfl, rfl, trivial⟩ ?_)
 replace hS := hS.f4.drop
 replace hS := hS.f3.drop
 refine WC.drawn (σ := [0, 1, 2, 3, 4, 5, 6, 7, 8, 9]) (C := St w0 H_230 ([(b_10, Obj.cells #[i6 (6 : Int), i6 0, sv ([] : Str), v_241, v_149] 32 (0, 0))] ++ (fp_242 ++ ([(b_4, Obj.cells #[i6 0, i6 0, sv ([] : Str), (.slice none 0 0), (.slice none 0 0)] 32 (0, 0))] ++ (fp_150 ++ L))))) [[], [0], [], [], [2, 3], [2, 3, 4], [2, 3, 4, 5], [0, 1, 2, 3, 4, 5, 6], [0, 1, 2, 3, 4, 5, 6, 7], [0, 1, 2, 3, 4, 5, 6, 7, 8]] [6, 7, 9] Tryz.mixed (by kernel_rfl) (hS.drawn _) ?_
 clear hS w
 refine Wd.run rfl rfl rfl rfl (fun _ => ex_fieldAddr (o' := 4) Tryz.underlying32 rfl Tryz.sizeOf30 rfl rfl) fun q_246 hq_245 => (Wd.runb (off := 4) rfl rfl rfl rfl (fun _ _ _ h => ex_load_box Tryz.isAgg30 rfl h) rfl (fun _ h => h) fun q_248 hq_247 => (Wd.run rfl rfl rfl rfl (fun _ => ex_move rfl) fun q_250 hq_249 => (Wd.run rfl rfl rfl rfl (fun _ => ex_move rfl) fun q_252 hq_251 => ?_)))
 obtain ⟨hin_255, hV⟩ := hV
 refine Wd.runx rfl rfl rfl rfl (exAll (ex_index Tryz.underlying30 Tryz.sizeOf32 rfl rfl ((h_3.mono le_141).mono le_231) hin_255)) ?_
 intro p_256 hp_257
 intro q_254 hq_253
 refine Wd.runs (fp := ([] : Seg)) (L := [(b_10, Obj.cells #[i6 (6 : Int), i6 0, sv ([] : Str), v_241, v_149] 32 (0, 0))] ++ (fp_242 ++ ([(b_4, Obj.cells #[i6 0, i6 0, sv ([] : Str), (.slice none 0 0), (.slice none 0 0)] 32 (0, 0))] ++ (fp_150 ++ L)))) rfl rfl rfl rfl (ex_load_agg_s Tryz.isAgg32 Tryz.sizeOf32 rfl hp_257) (fun _ h => h) ?_
 rintro u_260 ⟨_, rfl, hu⟩
 obtain ⟨v_261, v_262, rfl, hr_263, hr_264, h_265, h_266⟩ := cR_rep.1 hu
 replace hV := hV hr_263 hr_264
 intro q_259 hq_258
 refine Wd.turn rfl rfl rfl fun w hS => (WL.builds (c := cR) (xs := [(ix l_1 i_152)]) (vs := [.agg #[i6 ((ix l_1 i_152).k), i6 ((ix l_1 i_152).i), sv ((ix l_1 i_152).t), v_261, v_262]]) (css := [[i6 ((ix l_1 i_152).k), i6 ((ix l_1 i_152).i), sv ((ix l_1 i_152).t), v_261, v_262]]) rfl Tryz.underlying30 Tryz.info32 rfl ⟨rfl, trivial⟩ rfl (by decide) rfl (by simp; rfl) ⟨[i6 ((ix l_1 i_152).k), i6 ((ix l_1 i_152).i), sv ((ix l_1 i_152).t), v_261, v_262], _, rfl, (cR_rep.2 ⟨_, _, rfl, hr_263, hr_264, h_265, h_266⟩), rfl⟩ hS rfl (by decide) ?_)
 clear hS
 intro v_268 w fp_269 h_270 hS
 refine WL.nil (DQ.mk2 (C' := St w0 H_230 (fp_269 ++ ([(b_10, Obj.cells #[i6 (6 : Int), i6 0, sv ([] : Str), v_241, v_149] 32 (0, 0))] ++ (fp_242 ++ ([(b_4, Obj.cells #[i6 0, i6 0, sv ([] : Str), (.slice none 0 0), (.slice none 0 0)] 32 (0, 0))] ++ (fp_150 ++ L)))))) hS ⟨il, il, il, il, .inr (hq_247 H_230 (fp_269 ++ (fp_242 ++ ([(b_4, Obj.cells #[i6 0, i6 0, sv ([] : Str), (.slice none 0 0), (.slice none 0 0)] 32 (0, 0))] ++ (fp_150 ++ L)))) #[i6 (6 : Int), i6 0, sv ([] : Str), v_241, v_149] _ rfl (fun _ h => St.f2 h)), .inr (hq_245 _), trivial⟩ ?_)
 clear hS w
 refine Wd.turn rfl rfl rfl fun w hS => ?_
 obtain ⟨hr_271, hV⟩ := hV
 replace hS := hS.f5
 refine WL.append (c := cR) (xs := c_148) (ys := ([(ix l_1 i_152)])) rfl Tryz.underlying30 Tryz.info32 rfl rfl rfl hS (h_151.mono le_231) (h_270.src hS.f2) hr_271.1 hr_271.2 ?_
 clear hS
 intro v_272 w fp_273 h_274 hS
 refine WL.nil (DQ.mk2 (C' := St w0 H_230 (fp_273 ++ (fp_269 ++ ([(b_10, Obj.cells #[i6 (6 : Int), i6 0, sv ([] : Str), v_241, v_149] 32 (0, 0))] ++ (fp_242 ++ ([(b_4, Obj.cells #[i6 0, i6 0, sv ([] : Str), (.slice none 0 0), (.slice none 0 0)] 32 (0, 0))] ++ L)))))) hS ⟨il, il, il, il, il, il, trivial⟩ ?_)
 clear hS w
 refine Wd.run rfl rfl rfl rfl (fun _ => ex_fieldAddr (o' := 4) Tryz.underlying32 rfl Tryz.sizeOf30 rfl rfl) fun q_277 hq_276 => (Wd.turn rfl rfl rfl fun w hS => ?_)
 replace hS := hS.f3
 refine WL.store_box (pre := [i6 (6 : Int), i6 0, sv ([] : Str), v_241]) (old := [v_149]) (rst := []) (cs := [v_272]) (arr' := #[i6 (6 : Int), i6 0, sv ([] : Str), v_241, v_272]) Tryz.sizeOf30 rfl rfl (congrArg Array.toList (cells_one (OwnSl.one h_274))) ⟨(OwnSl.one h_274), trivial⟩ rfl rfl rfl rfl hS ?_
 clear hS
 intro w hS
 refine WL.nil (DQ.mk2 (C' := St w0 H_230 ([(b_10, Obj.cells #[i6 (6 : Int), i6 0, sv ([] : Str), v_241, v_272] 32 (0, 0))] ++ (fp_273 ++ (fp_269 ++ (fp_242 ++ ([(b_4, Obj.cells #[i6 0, i6 0, sv ([] : Str), (.slice none 0 0), (.slice none 0 0)] 32 (0, 0))] ++ L)))))) hS ⟨il, il, il, il, il, il, il, trivial⟩ ?_)
 clear hS w
 refine Wd.nil fun w hS => (WQ.out nofun (WQ.next ?_))
 replace hS := hS.f3.drop
 refine WC.region (WL.mv rfl rfl ?_)
 obtain ⟨hi_279, hV⟩ := hV
 refine WL.run hS rfl rfl rfl (ex_add rfl rfl hi_279) (WL.ma rfl rfl (WL.nil ?_))
 replace hS := hS.f2.f3.f3.f4
 exact WQ.there fun a ha => ⟨((c_143 ++ ([r_223])), (c_148 ++ ([(ix l_1 i_152)])), (i_152 + (1 : Int))), ⟨(c_143 ++ ([r_223])), (c_148 ++ ([(ix l_1 i_152)])), (i_152 + (1 : Int)), H_230, v_241, fp_242, v_272, fp_273, rfl, hV.1, (((View.le.refl _).trans le_141).trans le_231), h_243, h_274, hi_279, hS, ha.of_sub ⟨rfl, rfl, rfl, rfl, trivial⟩⟩, hV.2⟩
 intro hc_296
 replace hV := hV.2 (of_decide_eq_false hc_296)
 refine WC.exit (WQ.pass nofun (WQ.pass nofun (WQ.hit (WQ.next (WC.sr ?_)))))
 replace hS := hS.f2
 refine WL.run hS rfl rfl rfl (ex_load_box_agg (cs := [i6 (6 : Int), i6 0, sv ([] : Str), v_144, v_149]) Tryz.isAgg32 Tryz.sizeOf32 rfl rfl rfl) ?_
 replace hS := hS.f3
 obtain ⟨H_280, le_281, h_282, hS⟩ : ∃ K, View.le H_140 K ∧ IsSl K cR v_144 c_143 ∧ St w0 K ([(b_10, Obj.cells #[i6 (6 : Int), i6 0, sv ([] : Str), v_144, v_149] 32 (0, 0))] ++ ([(b_4, Obj.cells #[i6 0, i6 0, sv ([] : Str), (.slice none 0 0), (.slice none 0 0)] 32 (0, 0))] ++ (fp_150 ++ L))) w := ⟨_, hS.put_le, h_146.share hS.put_le, hS.freeze⟩
 replace hS := hS.f3
 obtain ⟨H_283, le_284, h_285, hS⟩ : ∃ K, View.le H_280 K ∧ IsSl K cR v_149 c_148 ∧ St w0 K ([(b_10, Obj.cells #[i6 (6 : Int), i6 0, sv ([] : Str), v_144, v_149] 32 (0, 0))] ++ ([(b_4, Obj.cells #[i6 0, i6 0, sv ([] : Str), (.slice none 0 0), (.slice none 0 0)] 32 (0, 0))] ++ L)) w := ⟨_, hS.put_le, (h_151.mono le_281).share hS.put_le, hS.freeze⟩
 refine WL.call rfl rfl rfl (enters0 (vs := [.agg #[i6 (6 : Int), i6 0, sv ([] : Str), v_144, v_149]]) Tryz.call80 ⟨rfl, trivial⟩) (S_rLight (v_1 := (RV.mk (6 : Int) 0 ([] : Str) c_143 c_148)) (by exact (show I64 (6 : Int) by unfold I64; omega)) (by exact (show I64 0 by unfold I64; omega)) (by exact (h_282.mono le_284)) h_285 hS hV) ?_
 clear hV hS
 rintro _ w ⟨r_286, v_287, v_288, H_293, hV, rfl, le_294, hr_289, hr_290, h_291, h_292, hS⟩
 refine ⟨_, rfl, ?_⟩
 replace hS := hS.f2
 refine WL.store_box (pre := []) (old := [i6 0, i6 0, sv ([] : Str), (.slice none 0 0), (.slice none 0 0)]) (rst := []) (cs := [i6 r_286.k, i6 r_286.i, sv r_286.t, v_287, v_288]) (arr' := #[i6 r_286.k, i6 r_286.i, sv r_286.t, v_287, v_288]) Tryz.sizeOf32 rfl rfl rfl ⟨rfl, rfl, rfl, (IsSl.one h_291), (IsSl.one h_292), trivial⟩ rfl rfl rfl rfl hS ?_
 clear hS
 intro w hS
 refine WL.nx ?_
 replace hS := hS.f2.drop
 refine WC.ret ?_
 have hl_295 := load_own_agg (P := Tryz.prog) (cs := [i6 r_286.k, i6 r_286.i, sv r_286.t, v_287, v_288]) Tryz.isAgg32 Tryz.sizeOf32 hS rfl
 replace hS := hS.drop
 exact leavec1 (il) rfl rfl hl_295 (⟨r_286, v_287, v_288, H_293, hV, rfl, (((((View.le.refl _).trans le_141).trans le_281).trans le_284).trans le_294), hr_289, hr_290, h_291, h_292, hS⟩)

end Go.Proofs.YtlhkfkecoekoeaaGreatDoor
