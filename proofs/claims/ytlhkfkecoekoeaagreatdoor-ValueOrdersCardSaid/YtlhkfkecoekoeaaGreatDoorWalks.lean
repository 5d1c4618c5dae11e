/- For each function: called, it does its work where its condition is so. Printed by program. -/
import Derived.Test.YtlhkfkecoekoeaaGreatDoorFacts
import Derived.Test.YtlhkfkecoekoeaaGreatDoorConds
import Derived.Test.YtlhkfkecoekoeaaGreatDoorShv
import Derived.Test.YtlhkfkecoekoeaaGreatDoorTold
import Derived.Test.YtlhkfkecoekoeaaGreatDoorWalks4
set_option linter.unusedVariables false
set_option linter.unusedSimpArgs false
set_option maxRecDepth 100000
set_option maxHeartbeats 1000000
namespace Go.Proofs.YtlhkfkecoekoeaaGreatDoor
open Go.Vc
theorem S_rRead {w0 : World} {H : View} {L : Seg} {w : World} {s_1 : Str} {Q : RV → Int → Int → Prop}  (hS : St w0 H (L) w) (hV : V_rRead s_1 Q) :
 Calls Tryz.prog 9 #[sv s_1] w fun e w' => ∃ (r1 : RV) (r2 : Int) (r3 : Int) (u1 : Value) (w1 : Value) (H' : View), Q r1 r2 r3 ∧ e = .returned (.tuple #[.agg #[i6 r1.k, i6 r1.i, sv r1.t, u1, w1], i6 r2, i6 r3]) ∧ View.le H H' ∧ I64 r1.k ∧ I64 r1.i ∧ IsSl H' cR u1 r1.ks ∧ IsSl H' cR w1 r1.vs ∧ I64 r2 ∧ I64 r3 ∧ St w0 H' (L) w' := by
 unfold V_rRead at hV
 refine enter Tryz.func9 rfl Tryz.ntmps9 rfl (lk_args_cons (d := 0) (v := sv s_1) rfl (lk_args_nil _)) (WC.sr (WL.alloc (arr := #[i6 0, i6 0, sv ([] : Str), (.slice none 0 0), (.slice none 0 0)]) rfl Tryz.zeroValue32 rfl hS ?_))
 clear hS
 intro b_2 w hS
 refine WL.ma rfl rfl (WL.ma rfl rfl (WL.nx (WC.seq (WC.sr (WL.mv rfl rfl ?_)))))
 obtain ⟨hl_6, hV⟩ := hV
 refine WL.run hS rfl rfl rfl (ex_s_len Tryz.underlying9 rfl) (WL.run hS rfl rfl rfl (ex_gtr rfl rfl) (WL.nx ?_))
 refine WC.cond rfl ?_ ?_
 intro hc_138
 replace hV := hV.1 (of_decide_eq_true hc_138)
 refine WC.sr (WL.run hS rfl rfl rfl (ex_build (vs := []) (zc := #[i6 0, i6 0, sv ([] : Str), (.slice none 0 0), (.slice none 0 0)]) (cs := #[i6 0, i6 0, sv ([] : Str), (.slice none 0 0), (.slice none 0 0)]) (places := #[(0, 1), (1, 1), (2, 1), (3, 1), (4, 1)]) Tryz.underlying32 Tryz.zeroValue32 (fun w => by simp [Tryz.sizeOf2, Tryz.sizeOf3, Tryz.sizeOf30, Tryz.sizeOf9]) rfl trivial rfl (by simp [Instr.fill, cells_int, cells_bool, cells_iface, cells_niliface, cells_slice, str_cells])) (WL.store_box (pre := []) (old := [i6 0, i6 0, sv ([] : Str), (.slice none 0 0), (.slice none 0 0)]) (rst := []) (cs := [i6 0, i6 0, sv ([] : Str), (.slice none 0 0), (.slice none 0 0)]) (arr' := #[i6 0, i6 0, sv ([] : Str), (.slice none 0 0), (.slice none 0 0)]) Tryz.sizeOf32 rfl rfl rfl ⟨rfl, rfl, rfl, rfl, rfl, trivial⟩ rfl rfl rfl rfl hS ?_))
 clear hS
 intro w hS
 refine WL.ma rfl rfl (WL.ma rfl rfl (WL.nx (WC.ret (WQ.pass nofun ?_))))
 have hl_10 := load_own_agg (P := Tryz.prog) (cs := [i6 0, i6 0, sv ([] : Str), (.slice none 0 0), (.slice none 0 0)]) Tryz.isAgg32 Tryz.sizeOf32 hS rfl
 replace hS := hS.drop
 exact leavectt (il) rfl rfl rfl rfl hl_10 (⟨(RV.mk 0 0 ([] : Str) ([] : List RV) ([] : List RV)), (0 : Int), (6 : Int), (.slice none 0 0), (.slice none 0 0), H, hV, rfl, (View.le.refl _), (show I64 0 by unfold I64; omega), (show I64 0 by unfold I64; omega), IsSl.nil, IsSl.nil, (show I64 (0 : Int) by unfold I64; omega), (show I64 (6 : Int) by unfold I64; omega), hS⟩)
 intro hc_138
 replace hV := hV.2 (of_decide_eq_false hc_138)
 refine WC.skip (WQ.next (WC.sr (WL.mv rfl rfl (WL.run hS rfl rfl rfl (ex_build (vs := [sv s_1]) (zc := #[sv ([] : Str), i6 0, i6 0, i6 0, i6 0, .bool false]) (cs := #[sv s_1, i6 0, i6 0, i6 0, i6 0, .bool false]) (places := #[(0, 1), (1, 1), (2, 1), (3, 1), (4, 1), (5, 1)]) Tryz.underlying67 Tryz.zeroValue67 (fun w => by simp [Tryz.sizeOf3, Tryz.sizeOf4, Tryz.sizeOf9]) rfl ⟨rfl, trivial⟩ rfl (by simp [Instr.fill, cells_int, cells_bool, cells_iface, cells_niliface, cells_slice, str_cells])) (WL.box (arr := #[sv s_1, i6 0, i6 0, i6 0, i6 0, .bool false]) rfl rfl rfl hS ?_)))))
 clear hS
 intro b_11 w hS
 refine WL.ma rfl rfl (WL.nx (WC.sr (WL.mv rfl rfl ?_)))
 obtain ⟨mf, hV⟩ := hV
 refine WL.call rfl rfl rfl (enters0 (vs := [(pq b_11)]) Tryz.call26 ⟨rfl, trivial⟩) (S_rvalue mf (show I64 0 by unfold I64; omega) (show I64 0 by unfold I64; omega) (show I64 0 by unfold I64; omega) (show I64 0 by unfold I64; omega) hS hV) ?_
 clear hV hS
 rintro _ w ⟨r_13, r_20, r_22, r_24, r_26, r_28, v_14, v_15, H_29, hV, rfl, le_30, hr_16, hr_17, h_18, h_19, hr_21, hr_23, hr_25, hr_27, hS⟩
 refine ⟨_, rfl, ?_⟩
 refine WL.alloc (arr := #[i6 0, i6 0, sv ([] : Str), (.slice none 0 0), (.slice none 0 0)]) rfl Tryz.zeroValue32 rfl hS ?_
 clear hS
 intro b_31 w hS
 refine WL.store_box (pre := []) (old := [i6 0, i6 0, sv ([] : Str), (.slice none 0 0), (.slice none 0 0)]) (rst := []) (cs := [i6 r_13.k, i6 r_13.i, sv r_13.t, v_14, v_15]) (arr' := #[i6 r_13.k, i6 r_13.i, sv r_13.t, v_14, v_15]) Tryz.sizeOf32 rfl rfl rfl ⟨rfl, rfl, rfl, (IsSl.one h_18), (IsSl.one h_19), trivial⟩ rfl rfl rfl rfl hS ?_
 clear hS
 intro w hS
 refine WL.nx (WC.sub (m := [(0, sv s_1), (2, (pq b_2)), (5, (pq b_11)), (6, (pq b_31))]) ⟨rfl, rfl, rfl, rfl, trivial⟩ (WC.sr (WL.mv rfl rfl ?_)))
 replace hS := hS.f2
 refine WL.call rfl rfl rfl (enters0 (vs := [(pq b_11)]) Tryz.call27 ⟨rfl, trivial⟩) (S_rskip hr_21 hr_23 hr_25 hr_27 hS hV) ?_
 clear hV hS
 rintro _ w ⟨r_35, hV, rfl, hr_36, hS⟩
 refine ⟨_, rfl, ?_⟩
 refine WL.nx ?_
 obtain ⟨J_59, hJ_60, hV⟩ := hV
 refine WC.meet (fun a w => ∃ (c_55 : Int) (c_57 : Int), J_59 (c_55, c_57) ∧ I64 c_55 ∧ I64 c_57 ∧ St w0 H_29 ([(b_2, Obj.cells #[i6 0, i6 0, sv ([] : Str), (.slice none 0 0), (.slice none 0 0)] 32 (0, 0))] ++ ([(b_11, oc #[sv s_1, i6 r_35, i6 r_22, i6 c_55, i6 c_57, .bool r_28] 67)] ++ ([(b_31, oc #[i6 r_13.k, i6 r_13.i, sv r_13.t, v_14, v_15] 32)] ++ L))) w ∧ Fr 66 [(2, (pq b_2)), (5, (pq b_11)), (6, (pq b_31))] a) ?_ ?_
 rintro a w ⟨c_55, c_57, hI, hr_56, hr_58, hS, ha⟩
 refine in_frame ha ?_
 clear ha hV
 have hV := hJ_60 _ hI
 clear hI hJ_60
 obtain ⟨J_95, hJ_96, hV⟩ := hV
 refine WC.meet (fun a w => ∃ (c_91 : Int) (c_93 : Int), J_95 (c_91, c_93) ∧ I64 c_91 ∧ I64 c_93 ∧ St w0 H_29 ([(b_2, Obj.cells #[i6 0, i6 0, sv ([] : Str), (.slice none 0 0), (.slice none 0 0)] 32 (0, 0))] ++ ([(b_11, oc #[sv s_1, i6 r_35, i6 r_22, i6 c_91, i6 c_93, .bool r_28] 67)] ++ ([(b_31, oc #[i6 r_13.k, i6 r_13.i, sv r_13.t, v_14, v_15] 32)] ++ L))) w ∧ Fr 66 [(2, (pq b_2)), (5, (pq b_11)), (6, (pq b_31))] a) ?_ ?_
 rintro a w ⟨c_91, c_93, hI, hr_92, hr_94, hS, ha⟩
 refine in_frame ha ?_
 clear ha hV
 have hV := hJ_96 _ hI
 clear hI hJ_96
 refine WC.seq (WC.sr (WL.mv rfl rfl (WL.run hS rfl rfl rfl (ex_nilCheck rfl) (WL.run hS rfl rfl rfl (ex_fieldAddr (o' := 3) Tryz.underlying67 rfl Tryz.sizeOf3 rfl rfl) ?_))))
 replace hS := hS.f2
 refine WL.run hS rfl rfl rfl (ex_load_box Tryz.isAgg3 rfl rfl) (WL.run hS rfl rfl rfl (ex_neq rfl rfl) (WL.nx ?_))
 refine WC.cond rfl ?_ ?_
 intro hc_137
 replace hV := hV.1 (of_decide_eq_true hc_137)
 refine WC.seq (WC.drawn (σ := [0, 1, 2, 3, 4, 5, 6, 7, 8, 9, 10, 11]) (C := St w0 H_29 ([(b_11, oc #[sv s_1, i6 r_35, i6 r_22, i6 c_91, i6 c_93, .bool r_28] 67)] ++ ([(b_2, Obj.cells #[i6 0, i6 0, sv ([] : Str), (.slice none 0 0), (.slice none 0 0)] 32 (0, 0))] ++ ([(b_31, oc #[i6 r_13.k, i6 r_13.i, sv r_13.t, v_14, v_15] 32)] ++ L)))) [[], [], [1], [1, 2], [1, 2, 3], [], [5], [5, 6], [5, 6, 7], [0], [0, 1, 2, 3, 4, 9], [0, 1, 2, 3, 4, 5, 6, 7, 8, 9, 10]] [9] Tryz.mixed (by kernel_rfl) (hS.drawn _) ?_)
 clear hS w
 refine Wd.run rfl rfl rfl rfl (fun _ => ex_build (vs := []) (zc := #[i6 0, i6 0, sv ([] : Str), (.slice none 0 0), (.slice none 0 0)]) (cs := #[i6 0, i6 0, sv ([] : Str), (.slice none 0 0), (.slice none 0 0)]) (places := #[(0, 1), (1, 1), (2, 1), (3, 1), (4, 1)]) Tryz.underlying32 Tryz.zeroValue32 (fun w => by simp [Tryz.sizeOf2, Tryz.sizeOf3, Tryz.sizeOf30, Tryz.sizeOf9]) rfl trivial rfl (by simp [Instr.fill, cells_int, cells_bool, cells_iface, cells_niliface, cells_slice, str_cells])) fun q_112 hq_111 => (Wd.run rfl rfl rfl rfl (fun _ => ex_move rfl) fun q_116 hq_115 => (Wd.run rfl rfl rfl rfl (fun _ => ex_nilCheck rfl) fun q_118 hq_117 => (Wd.run rfl rfl rfl rfl (fun _ => ex_fieldAddr (o' := 4) Tryz.underlying67 rfl Tryz.sizeOf3 rfl rfl) fun q_120 hq_119 => (Wd.runb (off := 4) rfl rfl rfl rfl (fun _ _ _ h => ex_load_box Tryz.isAgg3 rfl h) rfl (fun _ h => h) fun q_122 hq_121 => (Wd.run rfl rfl rfl rfl (fun _ => ex_move rfl) fun q_124 hq_123 => (Wd.run rfl rfl rfl rfl (fun _ => ex_nilCheck rfl) fun q_126 hq_125 => (Wd.run rfl rfl rfl rfl (fun _ => ex_fieldAddr (o' := 3) Tryz.underlying67 rfl Tryz.sizeOf3 rfl rfl) fun q_128 hq_127 => ?_)))))))
 refine Wd.runb (off := 3) rfl rfl rfl rfl (fun _ _ _ h => ex_load_box Tryz.isAgg3 rfl h) rfl (fun _ h => h) fun q_130 hq_129 => (Wd.turn rfl rfl rfl fun w hS => ?_)
 replace hS := hS.f2
 refine WL.store_box (pre := []) (old := [i6 0, i6 0, sv ([] : Str), (.slice none 0 0), (.slice none 0 0)]) (rst := []) (cs := [i6 0, i6 0, sv ([] : Str), (.slice none 0 0), (.slice none 0 0)]) (arr' := #[i6 0, i6 0, sv ([] : Str), (.slice none 0 0), (.slice none 0 0)]) Tryz.sizeOf32 rfl rfl rfl ⟨rfl, rfl, rfl, rfl, rfl, trivial⟩ rfl rfl rfl rfl hS ?_
 clear hS
 intro w hS
 refine WL.nil (DQ.mk2 (C' := St w0 H_29 ([(b_2, Obj.cells #[i6 0, i6 0, sv ([] : Str), (.slice none 0 0), (.slice none 0 0)] 32 (0, 0))] ++ ([(b_11, oc #[sv s_1, i6 r_35, i6 r_22, i6 c_91, i6 c_93, .bool r_28] 67)] ++ ([(b_31, oc #[i6 r_13.k, i6 r_13.i, sv r_13.t, v_14, v_15] 32)] ++ L)))) hS ⟨.inr (hq_129 H_29 ([(b_2, Obj.cells #[i6 0, i6 0, sv ([] : Str), (.slice none 0 0), (.slice none 0 0)] 32 (0, 0))] ++ ([(b_31, oc #[i6 r_13.k, i6 r_13.i, sv r_13.t, v_14, v_15] 32)] ++ L)) #[sv s_1, i6 r_35, i6 r_22, i6 c_91, i6 c_93, .bool r_28] _ rfl (fun _ h => St.f2 h)), .inr (hq_127 _), .inr (hq_125 _), .inr (hq_123 _), .inr (hq_121 H_29 ([(b_2, Obj.cells #[i6 0, i6 0, sv ([] : Str), (.slice none 0 0), (.slice none 0 0)] 32 (0, 0))] ++ ([(b_31, oc #[i6 r_13.k, i6 r_13.i, sv r_13.t, v_14, v_15] 32)] ++ L)) #[sv s_1, i6 r_35, i6 r_22, i6 c_91, i6 c_93, .bool r_28] _ rfl (fun _ h => St.f2 h)), .inr (hq_119 _), .inr (hq_117 _), .inr (hq_115 _), il, trivial⟩ ?_)
 clear hS w
 refine Wd.run rfl rfl rfl rfl (fun _ => ex_assign rfl) fun q_132 hq_131 => (Wd.run rfl rfl rfl rfl (fun _ => ex_assign rfl) fun q_134 hq_133 => (Wd.nil fun w hS => (WQ.next (WC.sub (m := [(2, (pq b_2)), (3, i6 c_93), (4, i6 c_91)]) ⟨rfl, rfl, rfl, trivial⟩ ?_))))
 replace hS := hS.f2.drop
 replace hS := hS.f2.drop
 refine WC.ret (WQ.pass nofun ?_)
 have hl_135 := load_own_agg (P := Tryz.prog) (cs := [i6 0, i6 0, sv ([] : Str), (.slice none 0 0), (.slice none 0 0)]) Tryz.isAgg32 Tryz.sizeOf32 hS rfl
 replace hS := hS.drop
 exact leavectt (il) rfl rfl rfl rfl hl_135 (⟨(RV.mk 0 0 ([] : Str) ([] : List RV) ([] : List RV)), c_93, c_91, (.slice none 0 0), (.slice none 0 0), H_29, hV, rfl, ((View.le.refl _).trans le_30), (show I64 0 by unfold I64; omega), (show I64 0 by unfold I64; omega), IsSl.nil, IsSl.nil, hr_94, hr_92, hS⟩)
 intro hc_137
 replace hV := hV.2 (of_decide_eq_false hc_137)
 refine WC.skip (WQ.next ?_)
 replace hS := hS.drop
 refine WC.sr ?_
 replace hS := hS.f2
 refine WL.run hS rfl rfl rfl (ex_load_box_agg (cs := [i6 r_13.k, i6 r_13.i, sv r_13.t, v_14, v_15]) Tryz.isAgg32 Tryz.sizeOf32 rfl rfl rfl) ?_
 replace hS := hS.f2
 refine WL.store_box (pre := []) (old := [i6 0, i6 0, sv ([] : Str), (.slice none 0 0), (.slice none 0 0)]) (rst := []) (cs := [i6 r_13.k, i6 r_13.i, sv r_13.t, v_14, v_15]) (arr' := #[i6 r_13.k, i6 r_13.i, sv r_13.t, v_14, v_15]) Tryz.sizeOf32 rfl rfl rfl ⟨rfl, rfl, rfl, (IsSl.one h_18), (IsSl.one h_19), trivial⟩ rfl rfl rfl rfl hS ?_
 clear hS
 intro w hS
 refine WL.ma rfl rfl (WL.ma rfl rfl (WL.nx ?_))
 replace hS := hS.f2.drop
 refine WC.ret ?_
 have hl_136 := load_own_agg (P := Tryz.prog) (cs := [i6 r_13.k, i6 r_13.i, sv r_13.t, v_14, v_15]) Tryz.isAgg32 Tryz.sizeOf32 hS rfl
 replace hS := hS.drop
 exact leavectt (il) rfl rfl rfl rfl hl_136 (⟨r_13, (0 : Int), (0 : Int), v_14, v_15, H_29, hV, rfl, ((View.le.refl _).trans le_30), hr_16, hr_17, h_18, h_19, (show I64 (0 : Int) by unfold I64; omega), (show I64 (0 : Int) by unfold I64; omega), hS⟩)
 clear hJ_96
 obtain ⟨J_100, hJ_101, hV⟩ := hV
 refine WC.meet (fun a w => ∃ (x_99 : Bool), J_100 x_99 ∧ St w0 H_29 ([(b_2, Obj.cells #[i6 0, i6 0, sv ([] : Str), (.slice none 0 0), (.slice none 0 0)] 32 (0, 0))] ++ ([(b_11, oc #[sv s_1, i6 r_35, i6 r_22, i6 c_55, i6 c_57, .bool r_28] 67)] ++ ([(b_31, oc #[i6 r_13.k, i6 r_13.i, sv r_13.t, v_14, v_15] 32)] ++ L))) w ∧ Fr 66 [(2, (pq b_2)), (5, (pq b_11)), (6, (pq b_31)), (48, .bool x_99)] a) ?_ ?_
 rintro a w ⟨x_99, hI, hS, ha⟩
 refine in_frame ha ?_
 clear ha hV
 have hV := hJ_101 _ hI
 clear hI hJ_101
 refine WC.cond rfl ?_ ?_
 intro hc_109
 replace hV := hV.1 hc_109
 refine WC.region (WL.mv rfl rfl ?_)
 replace hS := hS.f2
 refine WL.call rfl rfl rfl (enters0 (vs := [(pq b_11), i6 (6 : Int), i6 (0 : Int)]) Tryz.call28 ⟨rfl, rfl, rfl, trivial⟩) (S_rfail hr_36 hr_23 hr_56 hr_58 (show I64 (6 : Int) by unfold I64; omega) (show I64 (0 : Int) by unfold I64; omega) hS hV) ?_
 clear hV hS
 rintro _ w ⟨r_104, r_106, hV, rfl, hr_105, hr_107, hS⟩
 refine ⟨_, rfl, ?_⟩
 refine WL.nil ?_
 replace hS := hS.f3.f2.f3
 exact WQ.there fun a ha => ⟨r_104, r_106, hV, hr_105, hr_107, hS, ha.of_sub ⟨rfl, rfl, rfl, trivial⟩⟩
 intro hc_109
 replace hV := hV.2 hc_109
 refine WC.skip ?_
 replace hS := hS.f3.f3.f3
 exact WQ.there fun a ha => ⟨c_55, c_57, hV, hr_56, hr_58, hS, ha.of_sub ⟨rfl, rfl, rfl, trivial⟩⟩
 clear hJ_101
 refine WC.region (WL.mv rfl rfl (WL.run hS rfl rfl rfl (ex_nilCheck rfl) (WL.run hS rfl rfl rfl (ex_fieldAddr (o' := 3) Tryz.underlying67 rfl Tryz.sizeOf3 rfl rfl) ?_)))
 replace hS := hS.f2
 refine WL.run hS rfl rfl rfl (ex_load_box Tryz.isAgg3 rfl rfl) (WL.run hS rfl rfl rfl (ex_eql rfl rfl) (WL.mv rfl rfl ?_))
 rcases Bool.eq_false_or_eq_true (decide (c_55 = (0 : Int))) with hg_103 | hg_103
 replace hV := hV.1 (of_decide_eq_true hg_103)
 refine WL.unguard rfl rfl hg_103 (WL.mv rfl rfl (WL.unguard rfl rfl hg_103 (WL.run hS rfl rfl rfl (ex_nilCheck rfl) (WL.unguard rfl rfl hg_103 (WL.run hS rfl rfl rfl (ex_fieldAddr (o' := 5) Tryz.underlying67 rfl Tryz.sizeOf4 rfl rfl) (WL.unguard rfl rfl hg_103 (WL.run hS rfl rfl rfl (ex_load_box Tryz.isAgg4 rfl rfl) ?_)))))))
 refine WL.run hS rfl rfl rfl (ex_pick_t rfl hg_103 rfl) (WL.nil ?_)
 replace hS := hS.f3.f2.f3
 exact WQ.there fun a ha => ⟨r_28, hV, hS, ha.of_sub ⟨rfl, rfl, rfl, rfl, trivial⟩⟩
 replace hV := hV.2 (of_decide_eq_false hg_103)
 refine WL.skip_g rfl rfl rfl hg_103 rfl rfl (WL.skip_g rfl rfl rfl hg_103 rfl rfl (WL.skip_g rfl rfl rfl hg_103 rfl rfl (WL.skip_g rfl rfl rfl hg_103 rfl rfl (WL.run hS rfl rfl rfl (ex_pick_f rfl hg_103 rfl) (WL.nil ?_)))))
 replace hS := hS.f3.f2.f3
 exact WQ.there fun a ha => ⟨false, hV, hS, ha.of_sub ⟨rfl, rfl, rfl, rfl, trivial⟩⟩
 clear hJ_60
 obtain ⟨J_66, hJ_67, hV⟩ := hV
 refine WC.meet (fun a w => ∃ (x_65 : Bool), J_66 x_65 ∧ St w0 H_29 ([(b_2, Obj.cells #[i6 0, i6 0, sv ([] : Str), (.slice none 0 0), (.slice none 0 0)] 32 (0, 0))] ++ ([(b_11, oc #[sv s_1, i6 r_35, i6 r_22, i6 r_24, i6 r_26, .bool r_28] 67)] ++ ([(b_31, oc #[i6 r_13.k, i6 r_13.i, sv r_13.t, v_14, v_15] 32)] ++ L))) w ∧ Fr 66 [(2, (pq b_2)), (5, (pq b_11)), (6, (pq b_31)), (31, .bool x_65)] a) ?_ ?_
 rintro a w ⟨x_65, hI, hS, ha⟩
 refine in_frame ha ?_
 clear ha hV
 have hV := hJ_67 _ hI
 clear hI hJ_67
 refine WC.cond rfl ?_ ?_
 intro hc_77
 replace hV := hV.1 hc_77
 refine WC.region (WL.mv rfl rfl (WL.mv rfl rfl (WL.run hS rfl rfl rfl (ex_nilCheck rfl) (WL.run hS rfl rfl rfl (ex_fieldAddr (o' := 1) Tryz.underlying67 rfl Tryz.sizeOf3 rfl rfl) ?_))))
 replace hS := hS.f2
 refine WL.run hS rfl rfl rfl (ex_load_box Tryz.isAgg3 rfl rfl) (WL.call rfl rfl rfl (enters0 (vs := [(pq b_11), i6 (1 : Int), i6 r_35]) Tryz.call28 ⟨rfl, rfl, rfl, trivial⟩) (S_rfail hr_36 hr_23 hr_25 hr_27 (show I64 (1 : Int) by unfold I64; omega) hr_36 hS hV) ?_)
 clear hV hS
 rintro _ w ⟨r_72, r_74, hV, rfl, hr_73, hr_75, hS⟩
 refine ⟨_, rfl, ?_⟩
 refine WL.nil ?_
 replace hS := hS.f3.f2.f3
 exact WQ.there fun a ha => ⟨r_72, r_74, hV, hr_73, hr_75, hS, ha.of_sub ⟨rfl, rfl, rfl, trivial⟩⟩
 intro hc_77
 replace hV := hV.2 hc_77
 refine WC.skip ?_
 replace hS := hS.f3.f3.f3
 exact WQ.there fun a ha => ⟨r_24, r_26, hV, hr_25, hr_27, hS, ha.of_sub ⟨rfl, rfl, rfl, trivial⟩⟩
 clear hJ_67
 refine WC.region (WL.mv rfl rfl (WL.run hS rfl rfl rfl (ex_nilCheck rfl) (WL.run hS rfl rfl rfl (ex_fieldAddr (o' := 3) Tryz.underlying67 rfl Tryz.sizeOf3 rfl rfl) (WL.run hS rfl rfl rfl (ex_load_box Tryz.isAgg3 rfl rfl) (WL.run hS rfl rfl rfl (ex_eql rfl rfl) (WL.mv rfl rfl ?_))))))
 rcases Bool.eq_false_or_eq_true (decide (r_24 = (0 : Int))) with hg_69 | hg_69
 replace hV := hV.1 (of_decide_eq_true hg_69)
 refine WL.unguard rfl rfl hg_69 (WL.mv rfl rfl (WL.unguard rfl rfl hg_69 (WL.run hS rfl rfl rfl (ex_nilCheck rfl) (WL.unguard rfl rfl hg_69 (WL.run hS rfl rfl rfl (ex_fieldAddr (o' := 1) Tryz.underlying67 rfl Tryz.sizeOf3 rfl rfl) (WL.unguard rfl rfl hg_69 (WL.run hS rfl rfl rfl (ex_load_box Tryz.isAgg3 rfl rfl) ?_)))))))
 refine WL.unguard rfl rfl hg_69 (WL.mv rfl rfl (WL.unguard rfl rfl hg_69 ?_))
 obtain ⟨hl_70, hV⟩ := hV
 refine WL.run hS rfl rfl rfl (ex_s_len Tryz.underlying9 rfl) (WL.unguard rfl rfl hg_69 (WL.run hS rfl rfl rfl (ex_lss rfl rfl) (WL.run hS rfl rfl rfl (ex_pick_t rfl hg_69 rfl) (WL.nil ?_))))
 replace hS := hS.f2.f2.f3
 exact WQ.there fun a ha => ⟨decide (r_35 < (s_1.length : Int)), hV, hS, ha.of_sub ⟨rfl, rfl, rfl, rfl, trivial⟩⟩
 replace hV := hV.2 (of_decide_eq_false hg_69)
 refine WL.skip_g rfl rfl rfl hg_69 rfl rfl (WL.skip_g rfl rfl rfl hg_69 rfl rfl (WL.skip_g rfl rfl rfl hg_69 rfl rfl (WL.skip_g rfl rfl rfl hg_69 rfl rfl (WL.skip_g rfl rfl rfl hg_69 rfl rfl (WL.skip_g rfl rfl rfl hg_69 rfl rfl (WL.skip_g rfl rfl rfl hg_69 rfl rfl (WL.run hS rfl rfl rfl (ex_pick_f rfl hg_69 rfl) ?_)))))))
 refine WL.nil ?_
 replace hS := hS.f2.f2.f3
 exact WQ.there fun a ha => ⟨false, hV, hS, ha.of_sub ⟨rfl, rfl, rfl, rfl, trivial⟩⟩

theorem read_off_ret {w : World} {x y z : Value} : CallsD Tryz.prog 22 #[x, y, z] .returning w fun e u' w' => e = .returned (.tuple #[]) ∧ u' = .returning ∧ w' = w := by
  refine enterS (n := 18) (l := []) Tryz.func22 rfl rfl rfl (lk_args_nil _) fun c₀ cs a hu ha => (wpS_recover_none (by simp [recoverD, hu]) ?_)
  refine WC.inS ?_ (ha.put (d := 6) rfl .nilIface)
  refine WC.block (WC.sr (WL.run (C := fun _ => True) trivial rfl rfl rfl (ex_eqv (r := true) rfl rfl (fun w => by kernel_rfl) (fun w => by kernel_rfl)) (WL.nx (WC.cond_true rfl (WC.region (WL.ma rfl rfl (WL.nil ?_)))))))
  intro a ha
  exact ⟨ha.defers, .returning, by rw [← hu], _, results_none rfl _ _ _, rfl, rfl, rfl⟩
theorem read_off_panic {w0 : World} {H : View} {L : Seg} {w : World} {b_2 b_4 b_6 : Nat} {u i ev : Value} {e1 a1 : Int} (hS : St w0 H ([(b_2, Obj.cells #[u] 25 (0, 0))] ++ ([(b_4, Obj.cells #[i] 3 (0, 0))] ++ ([(b_6, Obj.cells #[ev] 27 (0, 0))] ++ L))) w) :
    CallsD Tryz.prog 22 #[.pointer (some ⟨b_2, 0, none⟩), .pointer (some ⟨b_4, 0, none⟩), .pointer (some ⟨b_6, 0, none⟩)] (.panicking (faultC e1 a1)) w fun e u' w' => e = .returned (.tuple #[]) ∧ settle u' = .returning ∧
      St w0 H ([(b_2, Obj.cells #[.nilIface] 25 (0, 0))] ++ ([(b_4, Obj.cells #[.int .i64 a1] 3 (0, 0))] ++ ([(b_6, Obj.cells #[.iface 57 (.int .i64 e1)] 27 (0, 0))] ++ L))) w' := by
  refine enterS (n := 18) (l := [(0, .pointer (some ⟨b_2, 0, none⟩)), (1, .pointer (some ⟨b_4, 0, none⟩)), (2, .pointer (some ⟨b_6, 0, none⟩))]) Tryz.func22 rfl rfl rfl (lk_args_cons rfl (lk_args_cons rfl (lk_args_cons rfl (lk_args_nil _)))) fun c₀ cs a hu ha => (wpS_recover_some (v := .iface 59 (.agg #[.int .i64 e1, .int .i64 a1])) (cs' := { c₀ with mode := .panicking [{ v := .iface 59 (.agg #[.int .i64 e1, .int .i64 a1]), recovered := true }] } :: cs) (by simp [recoverD, hu, faultC]) ?_)
  refine WC.inS ?_ (ha.put (d := 6) rfl _)
  refine WC.block (WC.sr (WL.run hS rfl rfl rfl (ex_eqv (r := false) rfl rfl (fun w => by kernel_rfl) (fun w => by kernel_rfl)) (WL.nx (WC.cond_false rfl (WC.sr ?_)))))
  refine WL.run hS rfl rfl rfl (v := .tuple #[.agg #[.int .i64 e1, .int .i64 a1], .bool true]) (fun w _ a ha => by
    have e1 := ha.eval (x := .tmp 6) rfl
    simp [execOp, e1, run_assert_ok (P := Tryz.prog) (at_ := 59) (by kernel_rfl) Tryz.zeroValue59]) ?_
  refine WL.run hS rfl rfl rfl (ex_extract rfl rfl) (WL.run hS rfl rfl rfl (ex_extract rfl rfl) (WL.nx (WC.cond_true rfl (WC.sr (WL.alloc (arr := #[.int .i64 0, .int .i64 0]) rfl Tryz.zeroValue59 rfl hS ?_)))))
  clear hS
  intro b_11 w hS
  refine WL.store_box (pre := []) (old := [.int .i64 0, .int .i64 0]) (rst := []) (cs := [.int .i64 e1, .int .i64 a1]) (arr' := #[.int .i64 e1, .int .i64 a1]) Tryz.sizeOf59 rfl rfl rfl ⟨rfl, rfl, trivial⟩ rfl rfl rfl rfl hS ?_
  clear hS
  intro w hS
  refine WL.nx ?_
  replace hS := hS.f3.f4.f3
  refine WC.drawn (σ := [0, 1, 2, 3, 4, 5, 6, 7, 8]) (C := St w0 H ([(b_11, Obj.cells #[.int .i64 e1, .int .i64 a1] 59 (0, 0))] ++ ([(b_6, Obj.cells #[ev] 27 (0, 0))] ++ ([(b_4, Obj.cells #[i] 3 (0, 0))] ++ ([(b_2, Obj.cells #[u] 25 (0, 0))] ++ L))))) [[], [], [1], [], [3], [3, 4], [0], [0, 1, 2, 6], [0, 1, 2, 3, 4, 5, 6, 7]] [6, 7, 8] Tryz.mixed (by kernel_rfl) (hS.drawn _) ?_
  clear hS w
  refine Wd.run rfl rfl rfl rfl (fun _ => ex_build (vs := []) (zc := #[.nilIface]) (cs := #[.nilIface]) (places := #[(0, 1)]) Tryz.underlying25 Tryz.zeroValue25 (fun w => by simp [Tryz.sizeOf23]) rfl trivial rfl (by simp [Instr.fill, cells_int, cells_bool, cells_iface, cells_niliface, cells_slice, str_cells])) fun q_14 hq_13 => (Wd.run rfl rfl rfl rfl (fun _ => ex_fieldAddr (o' := 1) Tryz.underlying59 rfl Tryz.sizeOf3 rfl rfl) fun q_16 hq_15 => (Wd.runb (off := 1) rfl rfl rfl rfl (fun _ _ _ h => ex_load_box Tryz.isAgg3 rfl h) rfl (fun _ h => h) fun q_18 hq_17 => (Wd.run rfl rfl rfl rfl (fun _ => ex_fieldAddr (o' := 0) Tryz.underlying59 rfl Tryz.sizeOf57 rfl rfl) fun q_20 hq_19 => (Wd.runb (off := 0) rfl rfl rfl rfl (fun _ _ _ h => ex_load_box Tryz.isAgg57 rfl h) rfl (fun _ h => h) fun q_22 hq_21 => (Wd.run rfl rfl rfl rfl (fun _ => ex_makeIface (by kernel_rfl) rfl) fun q_24 hq_23 => (Wd.turn rfl rfl rfl fun w hS => ?_))))))
  replace hS := hS.f4
  refine WL.store_box (pre := []) (old := [u]) (rst := []) (cs := [.nilIface]) (arr' := #[.nilIface]) Tryz.sizeOf25 rfl rfl rfl ⟨rfl, trivial⟩ rfl rfl rfl rfl hS ?_
  clear hS
  intro w hS
  refine WL.nil (DQ.mk2 (C' := St w0 H ([(b_2, Obj.cells #[.nilIface] 25 (0, 0))] ++ ([(b_11, Obj.cells #[.int .i64 e1, .int .i64 a1] 59 (0, 0))] ++ ([(b_6, Obj.cells #[ev] 27 (0, 0))] ++ ([(b_4, Obj.cells #[i] 3 (0, 0))] ++ L))))) hS ⟨.inr (hq_23 _), .inr (hq_21 H ([(b_2, Obj.cells #[.nilIface] 25 (0, 0))] ++ ([(b_6, Obj.cells #[ev] 27 (0, 0))] ++ ([(b_4, Obj.cells #[i] 3 (0, 0))] ++ L))) #[.int .i64 e1, .int .i64 a1] _ rfl (fun _ h => St.f2 h)), .inr (hq_19 _), .inr (hq_17 H ([(b_2, Obj.cells #[.nilIface] 25 (0, 0))] ++ ([(b_6, Obj.cells #[ev] 27 (0, 0))] ++ ([(b_4, Obj.cells #[i] 3 (0, 0))] ++ L))) #[.int .i64 e1, .int .i64 a1] _ rfl (fun _ h => St.f2 h)), .inr (hq_15 _), .inl rfl, trivial⟩ ?_)
  clear hS w
  refine Wd.turn rfl rfl rfl fun w hS => ?_
  replace hS := hS.f4
  refine WL.store_box (pre := []) (old := [i]) (rst := []) (cs := [.int .i64 a1]) (arr' := #[.int .i64 a1]) Tryz.sizeOf3 rfl rfl rfl ⟨rfl, trivial⟩ rfl rfl rfl rfl hS ?_
  clear hS
  intro w hS
  refine WL.nil (DQ.mk2 (C' := St w0 H ([(b_4, Obj.cells #[.int .i64 a1] 3 (0, 0))] ++ ([(b_2, Obj.cells #[.nilIface] 25 (0, 0))] ++ ([(b_11, Obj.cells #[.int .i64 e1, .int .i64 a1] 59 (0, 0))] ++ ([(b_6, Obj.cells #[ev] 27 (0, 0))] ++ L))))) hS ⟨.inr (hq_23 _), .inr (hq_21 H ([(b_4, Obj.cells #[.int .i64 a1] 3 (0, 0))] ++ ([(b_2, Obj.cells #[.nilIface] 25 (0, 0))] ++ ([(b_6, Obj.cells #[ev] 27 (0, 0))] ++ L))) #[.int .i64 e1, .int .i64 a1] _ rfl (fun _ h => St.f3 h)), .inr (hq_19 _), .inl rfl, .inl rfl, .inl rfl, trivial⟩ ?_)
  clear hS w
  refine Wd.turn rfl rfl rfl fun w hS => ?_
  replace hS := hS.f4
  refine WL.store_box (pre := []) (old := [ev]) (rst := []) (cs := [(.iface 57 (.int .i64 e1))]) (arr' := #[(.iface 57 (.int .i64 e1))]) Tryz.sizeOf27 rfl rfl rfl ⟨rfl, trivial⟩ rfl rfl rfl rfl hS ?_
  clear hS
  intro w hS
  refine WL.nil (DQ.mk2 (C' := St w0 H ([(b_6, Obj.cells #[(.iface 57 (.int .i64 e1))] 27 (0, 0))] ++ ([(b_4, Obj.cells #[.int .i64 a1] 3 (0, 0))] ++ ([(b_2, Obj.cells #[.nilIface] 25 (0, 0))] ++ ([(b_11, Obj.cells #[.int .i64 e1, .int .i64 a1] 59 (0, 0))] ++ L))))) hS ⟨.inl rfl, .inl rfl, .inl rfl, .inl rfl, .inl rfl, .inl rfl, trivial⟩ ?_)
  clear hS w
  refine Wd.nil fun w hS => (WQ.out nofun ?_)
  intro a ha
  exact ⟨ha.defers, _, rfl, _, results_none rfl _ _ _, rfl, rfl, hS.f4.drop.f3.f3.f2⟩
theorem read_results {w0 : World} {H : View} {L : Seg} {w : World} {b_2 b_4 b_6 : Nat} {u ev : Value} {i : Int} {n : Nat} {l : List (Nat × Value)} {a : Act} (hS : St w0 H ([(b_2, Obj.cells #[u] 25 (0, 0))] ++ ([(b_4, Obj.cells #[.int .i64 i] 3 (0, 0))] ++ ([(b_6, Obj.cells #[ev] 27 (0, 0))] ++ L))) w) (ha : Fr n l a)
    (h2 : lk l 2 = some (.pointer (some ⟨b_2, 0, none⟩))) (h4 : lk l 3 = some (.pointer (some ⟨b_4, 0, none⟩))) (h6 : lk l 4 = some (.pointer (some ⟨b_6, 0, none⟩))) : (results Tryz.f8 a.tmps).run Tryz.prog w = .ok (.tuple #[.agg #[u], .int .i64 i, ev]) w := by
  have e2 := ha.val 2 _ h2
  have e4 := ha.val 3 _ h4
  have e6 := ha.val 4 _ h6
  have l2 : (loadVar 25 ⟨b_2, 0, none⟩).run Tryz.prog w = .ok (.agg #[u]) w := load_own_agg (k := 1) (cs := [u]) (fun w => by kernel_rfl) (fun w => by kernel_rfl) hS rfl
  have l4 : (loadVar 3 ⟨b_4, 0, none⟩).run Tryz.prog w = .ok (.int .i64 i) w := load_own (fun w => by kernel_rfl) hS.f2
  have l6 : (loadVar 27 ⟨b_6, 0, none⟩).run Tryz.prog w = .ok ev w := load_own (fun w => by kernel_rfl) hS.f3
  have hr : Tryz.f8.results = #[.cell 2 25, .cell 3 3, .cell 4 27] := rfl
  simp [results, hr, Array.getD_eq_getD_getElem?, e2, e4, e6, asAddr, l2, l4, l6]
theorem S_Read {w0 : World} {H : View} {L : Seg} {w : World} {text_1 : Str} {Q : Val → Int → (Option Int) → Prop} (hN : GlobN w0 H) (hS : St w0 H (L) w) (hV : V_Read text_1 Q) :
    Calls Tryz.prog 8 #[sv text_1] w fun e w' => ∃ (r1 : Val) (r2 : Int) (r3 : Option Int) (u1 : Value) (H' : View), Q r1 r2 r3 ∧ e = .returned (.tuple #[.agg #[u1], .int .i64 r2, errV 57 r3]) ∧ View.le H H' ∧ IsW H' u1 r1 ∧ I64 r2 ∧ St w0 H' (L) w' := by
  obtain ⟨hl, hbig, hsm⟩ := hV
  refine enterD Tryz.func8 rfl Tryz.ntmps8 rfl (lk_args_cons (d := 0) (v := sv text_1) rfl (lk_args_nil _)) (WC.sr (WL.alloc (arr := #[.nilIface]) rfl Tryz.zeroValue25 rfl hS ?_))
  clear hS
  intro b_2 w hS
  refine WL.alloc (arr := #[.int .i64 0]) rfl Tryz.zeroValue3 rfl hS ?_
  clear hS
  intro b_4 w hS
  refine WL.alloc (arr := #[.nilIface]) rfl Tryz.zeroValue27 rfl hS ?_
  clear hS
  intro b_6 w hS
  refine WL.nx (WC.sr (WL.run hS rfl rfl rfl (ex_makeFunc (fn := .func 22) (xs := [.tmp 2, .tmp 3, .tmp 4]) (vs := [.pointer (some ⟨b_2, 0, none⟩), .pointer (some ⟨b_4, 0, none⟩), .pointer (some ⟨b_6, 0, none⟩)]) ⟨rfl, rfl, rfl, trivial⟩) ?_))
  refine WL.defer (f := 22) (cap := #[.pointer (some ⟨b_2, 0, none⟩), .pointer (some ⟨b_4, 0, none⟩), .pointer (some ⟨b_6, 0, none⟩)]) rfl (fun a ha => by
    have e6 : a.eval (.tmp 6) = .func (.func 22) #[] #[.pointer (some ⟨b_2, 0, none⟩), .pointer (some ⟨b_4, 0, none⟩), .pointer (some ⟨b_6, 0, none⟩)] := ha.eval rfl
    simp [execOp, resolve, Deferred.ofValue, e6]) ?_
  -- how it ends
  have fin : ∀ {w : World} {H' : View} {u ev : Value} {i : Int} {r1 : Val} {r3 : Option Int} {l : List (Nat × Value)} {a : Act} {e : Exit}, (e = .ret ∨ e = .normal) → St w0 H' ([(b_2, Obj.cells #[u] 25 (0, 0))] ++ ([(b_4, Obj.cells #[.int .i64 i] 3 (0, 0))] ++ ([(b_6, Obj.cells #[ev] 27 (0, 0))] ++ L))) w → View.le H H' → IsW H' u r1 → I64 i → ev = errV 57 r3 → Q r1 i r3 →
      lk l 2 = some (.pointer (some ⟨b_2, 0, none⟩)) → lk l 3 = some (.pointer (some ⟨b_4, 0, none⟩)) → lk l 4 = some (.pointer (some ⟨b_6, 0, none⟩)) → FrD [{ target := .fn (.func 22) #[.pointer (some ⟨b_2, 0, none⟩), .pointer (some ⟨b_4, 0, none⟩), .pointer (some ⟨b_6, 0, none⟩)], args := #[] }] 37 l a →
      bodyPostD Tryz.prog Tryz.f8 (fun e w' => ∃ (r1 : Val) (r2 : Int) (r3 : Option Int) (u1 : Value) (H' : View), Q r1 r2 r3 ∧ e = .returned (.tuple #[.agg #[u1], .int .i64 r2, errV 57 r3]) ∧ View.le H H' ∧ IsW H' u1 r1 ∧ I64 r2 ∧ St w0 H' (L) w') e a w := fun {w H' u ev i r1 r3 l a e} he hS hle hu hi hev hQ h2 h4 h6 ha => by
    have main : Leaves Tryz.prog Tryz.f8 a.tmps (fun e w' => ∃ (r1 : Val) (r2 : Int) (r3 : Option Int) (u1 : Value) (H' : View), Q r1 r2 r3 ∧ e = .returned (.tuple #[.agg #[u1], .int .i64 r2, errV 57 r3]) ∧ View.le H H' ∧ IsW H' u1 r1 ∧ I64 r2 ∧ St w0 H' (L) w') a.defers .returning w := by
      rw [ha.1]
      refine leaves_cons (by simp) (f := 22) (args := #[.pointer (some ⟨b_2, 0, none⟩), .pointer (some ⟨b_4, 0, none⟩), .pointer (some ⟨b_6, 0, none⟩)]) (by kernel_rfl) (read_off_ret.mono ?_)
      rintro e u' w' ⟨rfl, rfl, rfl⟩
      exact leaves_nil (read_results (a := { a with defers := [] }) hS ha.2 h2 h4 h6) ⟨r1, i, r3, u, H', hQ, by rw [hev], hle, hu, hi, hS.drop.drop.drop⟩
    rcases he with rfl | rfl <;> exact main
  have pan : ∀ {w : World} {H' : View} {u ev i : Value} {e1 a1 : Int} {l : List (Nat × Value)} {a : Act}, St w0 H' ([(b_2, Obj.cells #[u] 25 (0, 0))] ++ ([(b_4, Obj.cells #[i] 3 (0, 0))] ++ ([(b_6, Obj.cells #[ev] 27 (0, 0))] ++ L))) w → View.le H H' → I64 a1 → Q .nil a1 (some e1) →
      lk l 2 = some (.pointer (some ⟨b_2, 0, none⟩)) → lk l 3 = some (.pointer (some ⟨b_4, 0, none⟩)) → lk l 4 = some (.pointer (some ⟨b_6, 0, none⟩)) → Fr 37 l a →
      bodyPostD Tryz.prog Tryz.f8 (fun e w' => ∃ (r1 : Val) (r2 : Int) (r3 : Option Int) (u1 : Value) (H' : View), Q r1 r2 r3 ∧ e = .returned (.tuple #[.agg #[u1], .int .i64 r2, errV 57 r3]) ∧ View.le H H' ∧ IsW H' u1 r1 ∧ I64 r2 ∧ St w0 H' (L) w') (.panic (faultC e1 a1)) { a with defers := a.defers ++ [{ target := .fn (.func 22) #[.pointer (some ⟨b_2, 0, none⟩), .pointer (some ⟨b_4, 0, none⟩), .pointer (some ⟨b_6, 0, none⟩)], args := #[] }] } w := fun {w H' u ev i e1 a1 l a} hS hle hi hQ h2 h4 h6 ha => by
    show Leaves Tryz.prog Tryz.f8 a.tmps _ (a.defers ++ _) (.panicking (faultC e1 a1)) w
    rw [ha.defers, List.nil_append]
    refine leaves_cons (by simp) (f := 22) (args := #[.pointer (some ⟨b_2, 0, none⟩), .pointer (some ⟨b_4, 0, none⟩), .pointer (some ⟨b_6, 0, none⟩)]) (by kernel_rfl) ((read_off_panic hS).mono ?_)
    rintro e u' w' ⟨rfl, hu, hS⟩
    show Leaves _ _ _ _ [] (settle u') w'
    rw [hu]
    exact leaves_nil (read_results hS ha h2 h4 h6) ⟨.nil, a1, some e1, .nilIface, H', hQ, rfl, hle, IsW.nil, hi, hS.drop.drop.drop⟩
  refine WCD.seq (WCD.sr (WL.mv rfl rfl (WL.run hS rfl rfl rfl (ex_s_len Tryz.underlying9 rfl) (WL.run hS rfl rfl rfl (ex_gtr rfl rfl) (WL.nxD ?_)))))
  refine WCD.cond rfl ?_ ?_
  · intro hc_52
    have hQ := hbig (of_decide_eq_true hc_52)
    refine WCD.sr (WL.run hS rfl rfl rfl (ex_build (vs := []) (zc := #[.nilIface]) (cs := #[.nilIface]) (places := #[(0, 1)]) Tryz.underlying25 Tryz.zeroValue25 (fun w => by simp [Tryz.sizeOf23]) rfl trivial rfl (by simp [Instr.fill, cells_int, cells_bool, cells_iface, cells_niliface, cells_slice, str_cells])) (WL.run hS rfl rfl rfl (ex_makeIface (by kernel_rfl) rfl) ?_))
    replace hS := hS.f3
    refine WL.store_box (pre := []) (old := [.nilIface]) (rst := []) (cs := [.nilIface]) (arr' := #[.nilIface]) Tryz.sizeOf25 rfl rfl rfl ⟨rfl, trivial⟩ rfl rfl rfl rfl hS ?_
    clear hS
    intro w hS
    replace hS := hS.f3
    refine WL.store_box (pre := []) (old := [.int .i64 0]) (rst := []) (cs := [.int .i64 (0 : Int)]) (arr' := #[.int .i64 (0 : Int)]) Tryz.sizeOf3 rfl rfl rfl ⟨rfl, trivial⟩ rfl rfl rfl rfl hS ?_
    clear hS
    intro w hS
    replace hS := hS.f3
    refine WL.store_box (pre := []) (old := [.nilIface]) (rst := []) (cs := [(.iface 57 (.int .i64 (6 : Int)))]) (arr' := #[(.iface 57 (.int .i64 (6 : Int)))]) (by first | exact Tryz.sizeOf27 | exact fun w => by kernel_rfl) rfl rfl rfl ⟨rfl, trivial⟩ rfl rfl rfl rfl hS ?_
    clear hS
    intro w hS
    refine WL.nxD (WCD.ret (WQD.pass nofun ?_))
    exact fun a ha => fin (.inl rfl) hS.f2.f3 (View.le.refl _) IsW.nil (by unfold I64; omega) (r3 := some 6) rfl hQ rfl rfl rfl ha
  · intro hc_52
    obtain ⟨mf, hV⟩ := hsm (of_decide_eq_false hc_52)
    refine WCD.skip (WQD.next (WCD.sr (WL.mv rfl rfl (WL.run hS rfl rfl rfl (ex_build (vs := [sv text_1]) (zc := #[sv ([] : Str), .int .i64 0, .int .i64 0, .bool false]) (cs := #[sv text_1, .int .i64 0, .int .i64 0, .bool false]) (places := #[(0, 1), (1, 1), (2, 1), (3, 1)]) Tryz.underlying62 Tryz.zeroValue62 (fun w => by simp [Tryz.sizeOf3, Tryz.sizeOf4, Tryz.sizeOf9]) rfl ⟨rfl, trivial⟩ rfl (by simp [Instr.fill, cells_int, cells_bool, cells_iface, cells_niliface, cells_slice, str_cells])) (WL.box (arr := #[sv text_1, .int .i64 0, .int .i64 0, .bool false]) rfl rfl rfl hS ?_)))))
    clear hS
    intro b_10 w hS
    refine WL.ma rfl rfl (WL.nxD (WCD.sr (WL.mv rfl rfl (WL.callP rfl rfl rfl (enters0 (vs := [.pointer (some ⟨b_10, 0, none⟩)]) Tryz.call23 ⟨rfl, trivial⟩) (S_value mf (show I64 0 by unfold I64; omega) (show I64 0 by unfold I64; omega) hN hS hV) (by rintro _ w ⟨e_22, xat_23, hE_24, rfl, H_25, le_26, hS⟩; exact ⟨_, rfl, fun a ha => pan hS.f2.f3 le_26 hE_24.1 hE_24.2 rfl rfl rfl ha⟩) ?_))))
    clear hV hS
    rintro _ w ⟨r_12, r_15, r_17, r_19, u_13, H_20, hV, rfl, le_21, h_14, hr_16, hr_18, hS⟩
    refine ⟨_, rfl, ?_⟩
    replace hS := hS.f4
    refine WL.store_box (pre := []) (old := [.nilIface]) (rst := []) (cs := [u_13]) (arr' := #[u_13]) Tryz.sizeOf25 rfl rfl rfl ⟨(IsW.one h_14), trivial⟩ rfl rfl rfl rfl hS ?_
    clear hS
    intro w hS
    refine WL.nxD (WCD.sr (WL.mv rfl rfl ?_))
    replace hS := hS.f2
    refine WL.call rfl rfl rfl (enters0 (vs := [.pointer (some ⟨b_10, 0, none⟩)]) Tryz.call24 ⟨rfl, trivial⟩) (S_skip hr_16 hr_18 hS hV) ?_
    clear hV hS
    rintro _ w ⟨r_27, hV, rfl, hr_28, hS⟩
    refine ⟨_, rfl, ?_⟩
    refine WL.nxD (WCD.seq (WCD.block (WCD.sr (WL.mv rfl rfl (WL.run hS rfl rfl rfl (ex_nilCheck rfl) (WL.run hS rfl rfl rfl (ex_fieldAddr (o' := 1) Tryz.underlying62 rfl Tryz.sizeOf3 rfl rfl) (WL.run hS rfl rfl rfl (ex_load_box Tryz.isAgg3 rfl rfl) ?_)))))))
    refine WL.mv rfl rfl (WL.run hS rfl rfl rfl (ex_s_len Tryz.underlying9 rfl) (WL.run hS rfl rfl rfl (ex_lss rfl rfl) (WL.ma rfl rfl (WL.nxD ?_))))
    refine WCD.cond rfl ?_ ?_
    · intro hc_51
      have hQ := hV.1 (of_decide_eq_true hc_51)
      refine WCD.region (WL.mv rfl rfl ?_)
      have hF : V_fail text_1 r_27 r_17 r_19 (1 : Int) (fun e a => I64 a ∧ Q .nil a (some e)) False := ⟨hr_28, hQ⟩
      refine WL.callP rfl rfl rfl (enters0 (vs := [.pointer (some ⟨b_10, 0, none⟩), .int .i64 (1 : Int)]) Tryz.call25 ⟨rfl, rfl, trivial⟩) (S_fail hr_28 hr_18 (show I64 (1 : Int) by unfold I64; omega) hS hF) (by rintro _ w ⟨e_45, xat_46, hE_47, rfl, H_48, le_49, hS⟩; exact ⟨_, rfl, fun a ha => pan hS.f3.f2 (le_21.trans le_49) hE_47.1 hE_47.2 rfl rfl rfl ha⟩) ?_
      rintro _ w ⟨hV, rfl, hS⟩
      exact hV.elim
    · intro hc_51
      have hV2 := hV.2 (of_decide_eq_false hc_51)
      refine WCD.sr (WL.mv rfl rfl (WL.run hS rfl rfl rfl (ex_nilCheck rfl) (WL.run hS rfl rfl rfl (ex_fieldAddr (o' := 3) Tryz.underlying62 rfl Tryz.sizeOf4 rfl rfl) (WL.run hS rfl rfl rfl (ex_load_box Tryz.isAgg4 rfl rfl) (WL.ma rfl rfl (WL.nxD ?_))))))
      replace hS := hS.drop
      refine WCD.cond rfl ?_ ?_
      · intro hc_50
        have hQ := hV2.1 hc_50
        refine WCD.sr (WL.run hS rfl rfl rfl (ex_build (vs := []) (zc := #[.nilIface]) (cs := #[.nilIface]) (places := #[(0, 1)]) Tryz.underlying25 Tryz.zeroValue25 (fun w => by simp [Tryz.sizeOf23]) rfl trivial rfl (by simp [Instr.fill, cells_int, cells_bool, cells_iface, cells_niliface, cells_slice, str_cells])) (WL.run hS rfl rfl rfl (ex_makeIface (by kernel_rfl) rfl) (WL.store_box (pre := []) (old := [u_13]) (rst := []) (cs := [.nilIface]) (arr' := #[.nilIface]) Tryz.sizeOf25 rfl rfl rfl ⟨rfl, trivial⟩ rfl rfl rfl rfl hS ?_)))
        clear hS
        intro w hS
        replace hS := hS.f3
        refine WL.store_box (pre := []) (old := [.int .i64 0]) (rst := []) (cs := [.int .i64 (0 : Int)]) (arr' := #[.int .i64 (0 : Int)]) Tryz.sizeOf3 rfl rfl rfl ⟨rfl, trivial⟩ rfl rfl rfl rfl hS ?_
        clear hS
        intro w hS
        replace hS := hS.f3
        refine WL.store_box (pre := []) (old := [.nilIface]) (rst := []) (cs := [(.iface 57 (.int .i64 (6 : Int)))]) (arr' := #[(.iface 57 (.int .i64 (6 : Int)))]) (fun w => by kernel_rfl) rfl rfl rfl ⟨rfl, trivial⟩ rfl rfl rfl rfl hS ?_
        clear hS
        intro w hS
        refine WL.nxD (WCD.ret (WQD.out nofun (WQD.pass nofun ?_)))
        exact fun a ha => fin (.inl rfl) hS.f3.f3.f2 le_21 IsW.nil (by unfold I64; omega) (r3 := some 6) rfl hQ rfl rfl rfl ha
      · intro hc_50
        have hQ := hV2.2 hc_50
        refine WCD.skip (WQD.out nofun (WQD.next (WCD.sr (WL.run hS rfl rfl rfl (ex_load_box_agg (cs := [u_13]) Tryz.isAgg25 Tryz.sizeOf25 rfl rfl rfl) (WL.store_box (pre := []) (old := [u_13]) (rst := []) (cs := [u_13]) (arr' := #[u_13]) Tryz.sizeOf25 rfl rfl rfl ⟨(IsW.one h_14), trivial⟩ rfl rfl rfl rfl hS ?_)))))
        clear hS
        intro w hS
        replace hS := hS.f3
        refine WL.store_box (pre := []) (old := [.int .i64 0]) (rst := []) (cs := [.int .i64 (0 : Int)]) (arr' := #[.int .i64 (0 : Int)]) Tryz.sizeOf3 rfl rfl rfl ⟨rfl, trivial⟩ rfl rfl rfl rfl hS ?_
        clear hS
        intro w hS
        replace hS := hS.f3
        refine WL.store_box (pre := []) (old := [.nilIface]) (rst := []) (cs := [.nilIface]) (arr' := #[.nilIface]) (fun w => by kernel_rfl) rfl rfl rfl ⟨rfl, trivial⟩ rfl rfl rfl rfl hS ?_
        clear hS
        intro w hS
        refine WL.nxD (WCD.ret ?_)
        exact fun a ha => fin (.inl rfl) hS.f3.f3.f2 le_21 h_14 (by unfold I64; omega) (r3 := none) rfl hQ rfl rfl rfl ha


theorem S_lread {w0 : World} {H : View} {L : Seg} {w : World} {text_1 : Str} {Q : Val → RV → Prop} (hN : GlobN w0 H) (hS : St w0 H (L) w) (hV : V_lread text_1 Q) :
 Calls Tryz.prog 15 #[sv text_1] w fun e w' => ∃ (r1 : Val) (r2 : RV) (u1 : Value) (u2 : Value) (w2 : Value) (H' : View), Q r1 r2 ∧ e = .returned (.tuple #[.agg #[u1], .agg #[i6 r2.k, i6 r2.i, sv r2.t, u2, w2]]) ∧ View.le H H' ∧ IsW H' u1 r1 ∧ I64 r2.k ∧ I64 r2.i ∧ IsSl H' cR u2 r2.ks ∧ IsSl H' cR w2 r2.vs ∧ St w0 H' (L) w' := by
 unfold V_lread at hV
 refine enter Tryz.func15 rfl Tryz.ntmps15 rfl (lk_args_cons (d := 0) (v := sv text_1) rfl (lk_args_nil _)) (WC.sr (WL.alloc (arr := #[.nilIface]) rfl Tryz.zeroValue25 rfl hS ?_))
 clear hS
 intro b_2 w hS
 refine WL.alloc (arr := #[i6 0, i6 0, sv ([] : Str), (.slice none 0 0), (.slice none 0 0)]) rfl Tryz.zeroValue32 rfl hS ?_
 clear hS
 intro b_4 w hS
 refine WL.nx (WC.sr (WL.mv rfl rfl (WL.call rfl rfl rfl (enters0 (vs := [sv text_1]) Tryz.call8 ⟨rfl, trivial⟩) (S_Read hN hS hV) ?_)))
 clear hV hS
 rintro _ w ⟨r_8, r_11, r_13, u_9, H_14, hV, rfl, le_15, h_10, hr_12, hS⟩
 refine ⟨_, rfl, ?_⟩
 refine WL.mv rfl rfl (WL.run hS rfl rfl rfl (ex_extract rfl rfl) (WL.run hS rfl rfl rfl (ex_extract rfl rfl) (WL.run hS rfl rfl rfl (ex_extract rfl rfl) (WL.alloc (arr := #[.nilIface]) rfl Tryz.zeroValue25 rfl hS ?_))))
 clear hS
 intro b_16 w hS
 refine WL.store_box (pre := []) (old := [.nilIface]) (rst := []) (cs := [u_9]) (arr' := #[u_9]) Tryz.sizeOf25 rfl rfl rfl ⟨(IsW.one h_10), trivial⟩ rfl rfl rfl rfl hS ?_
 clear hS
 intro w hS
 refine WL.ma rfl rfl (WL.ma rfl rfl (WL.nx (WC.sr (WL.mv rfl rfl (WL.call rfl rfl rfl (enters0 (vs := [sv text_1]) Tryz.call9 ⟨rfl, trivial⟩) (S_rRead  hS hV) ?_)))))
 clear hV hS
 rintro _ w ⟨r_18, r_25, r_27, v_19, v_20, H_29, hV, rfl, le_30, hr_21, hr_22, h_23, h_24, hr_26, hr_28, hS⟩
 refine ⟨_, rfl, ?_⟩
 refine WL.mv rfl rfl (WL.run hS rfl rfl rfl (ex_extract rfl rfl) (WL.run hS rfl rfl rfl (ex_extract rfl rfl) (WL.run hS rfl rfl rfl (ex_extract rfl rfl) (WL.alloc (arr := #[i6 0, i6 0, sv ([] : Str), (.slice none 0 0), (.slice none 0 0)]) rfl Tryz.zeroValue32 rfl hS ?_))))
 clear hS
 intro b_31 w hS
 refine WL.store_box (pre := []) (old := [i6 0, i6 0, sv ([] : Str), (.slice none 0 0), (.slice none 0 0)]) (rst := []) (cs := [i6 r_18.k, i6 r_18.i, sv r_18.t, v_19, v_20]) (arr' := #[i6 r_18.k, i6 r_18.i, sv r_18.t, v_19, v_20]) Tryz.sizeOf32 rfl rfl rfl ⟨rfl, rfl, rfl, (IsSl.one h_23), (IsSl.one h_24), trivial⟩ rfl rfl rfl rfl hS ?_
 clear hS
 intro w hS
 refine WL.ma rfl rfl (WL.ma rfl rfl (WL.nx (WC.sub (m := [(2, (pq b_2)), (3, (pq b_4)), (4, (pq b_16)), (7, (pq b_31)), (9, i6 r_27)]) ⟨rfl, rfl, rfl, rfl, rfl, trivial⟩ ?_)))
 obtain ⟨J_50, hJ_51, hV⟩ := hV
 refine WC.meet (fun a w => ∃ (c_39 : Int) (c_41 : Int) (c_43 : Str) (c_44 : List RV) (c_47 : List RV) (v_45 : Value) (v_48 : Value), J_50 (c_39, c_41, c_43, c_44, c_47) ∧ I64 c_39 ∧ I64 c_41 ∧ IsSl H_29 cR v_45 c_44 ∧ IsSl H_29 cR v_48 c_47 ∧ St w0 H_29 ([(b_2, oc #[.nilIface] 25)] ++ ([(b_4, Obj.cells #[i6 0, i6 0, sv ([] : Str), (.slice none 0 0), (.slice none 0 0)] 32 (0, 0))] ++ ([(b_16, oc #[u_9] 25)] ++ ([(b_31, oc #[i6 c_39, i6 c_41, sv c_43, v_45, v_48] 32)] ++ L)))) w ∧ Fr 27 [(2, (pq b_2)), (3, (pq b_4)), (4, (pq b_16)), (7, (pq b_31))] a) ?_ ?_
 rintro a w ⟨c_39, c_41, c_43, c_44, c_47, v_45, v_48, hI, hr_40, hr_42, h_46, h_49, hS, ha⟩
 refine in_frame ha ?_
 clear ha hV
 have hV := hJ_51 _ hI
 clear hI hJ_51
 refine WC.seq (WC.drawn (σ := [0, 1, 2, 3]) (C := St w0 H_29 ([(b_2, oc #[.nilIface] 25)] ++ ([(b_4, Obj.cells #[i6 0, i6 0, sv ([] : Str), (.slice none 0 0), (.slice none 0 0)] 32 (0, 0))] ++ ([(b_16, oc #[u_9] 25)] ++ ([(b_31, oc #[i6 c_39, i6 c_41, sv c_43, v_45, v_48] 32)] ++ L))))) [[], [], [0], [0, 1, 2]] [2, 3] Tryz.mixed (by kernel_rfl) (hS.drawn _) ?_)
 clear hS w
 refine Wd.runbs (off := 0) (k := 1) (cs := [u_9]) rfl rfl rfl rfl (fun _ _ _ h => ex_load_box_agg Tryz.isAgg25 Tryz.sizeOf25 rfl h rfl) rfl (fun _ h => St.f3 h) fun q_57 hq_56 => (Wd.runbs (off := 0) (k := 5) (cs := [i6 c_39, i6 c_41, sv c_43, v_45, v_48]) rfl rfl rfl rfl (fun _ _ _ h => ex_load_box_agg Tryz.isAgg32 Tryz.sizeOf32 rfl h rfl) rfl (fun _ h => St.f4 h) fun q_59 hq_58 => (Wd.turn rfl rfl rfl fun w hS => (WL.store_box (pre := []) (old := [.nilIface]) (rst := []) (cs := [u_9]) (arr' := #[u_9]) Tryz.sizeOf25 rfl rfl rfl ⟨(IsW.one (h_10.mono le_30)), trivial⟩ rfl rfl rfl rfl hS ?_)))
 clear hS
 intro w hS
 refine WL.nil (DQ.mk2 (C' := St w0 H_29 ([(b_2, oc #[u_9] 25)] ++ ([(b_4, Obj.cells #[i6 0, i6 0, sv ([] : Str), (.slice none 0 0), (.slice none 0 0)] 32 (0, 0))] ++ ([(b_16, oc #[u_9] 25)] ++ ([(b_31, oc #[i6 c_39, i6 c_41, sv c_43, v_45, v_48] 32)] ++ L))))) hS ⟨.inr (hq_58 H_29 ([(b_2, oc #[u_9] 25)] ++ ([(b_4, Obj.cells #[i6 0, i6 0, sv ([] : Str), (.slice none 0 0), (.slice none 0 0)] 32 (0, 0))] ++ ([(b_16, oc #[u_9] 25)] ++ L))) #[i6 c_39, i6 c_41, sv c_43, v_45, v_48] _ rfl (fun _ h => St.f4 h)), il, trivial⟩ ?_)
 clear hS w
 refine Wd.turn rfl rfl rfl fun w hS => ?_
 replace hS := hS.f2
 refine WL.store_box (pre := []) (old := [i6 0, i6 0, sv ([] : Str), (.slice none 0 0), (.slice none 0 0)]) (rst := []) (cs := [i6 c_39, i6 c_41, sv c_43, v_45, v_48]) (arr' := #[i6 c_39, i6 c_41, sv c_43, v_45, v_48]) Tryz.sizeOf32 rfl rfl rfl ⟨rfl, rfl, rfl, (IsSl.one h_46), (IsSl.one h_49), trivial⟩ rfl rfl rfl rfl hS ?_
 clear hS
 intro w hS
 refine WL.nil (DQ.mk2 (C' := St w0 H_29 ([(b_4, oc #[i6 c_39, i6 c_41, sv c_43, v_45, v_48] 32)] ++ ([(b_2, oc #[u_9] 25)] ++ ([(b_16, oc #[u_9] 25)] ++ ([(b_31, oc #[i6 c_39, i6 c_41, sv c_43, v_45, v_48] 32)] ++ L))))) hS ⟨il, il, trivial⟩ ?_)
 clear hS w
 refine Wd.nil fun w hS => (WQ.next ?_)
 replace hS := hS.f3.drop
 replace hS := hS.f3.drop
 refine WC.ret ?_
 replace hS := hS.f2
 have hl_60 := load_own_agg (P := Tryz.prog) (cs := [u_9]) Tryz.isAgg25 Tryz.sizeOf25 hS rfl
 replace hS := hS.f2
 have hl_61 := load_own_agg (P := Tryz.prog) (cs := [i6 c_39, i6 c_41, sv c_43, v_45, v_48]) Tryz.isAgg32 Tryz.sizeOf32 hS rfl
 replace hS := hS.drop
 replace hS := hS.drop
 exact leavec2 (il) rfl rfl rfl hl_60 hl_61 (⟨r_8, (RV.mk c_39 c_41 c_43 c_44 c_47), u_9, v_45, v_48, H_29, hV, rfl, (((View.le.refl _).trans le_15).trans le_30), (h_10.mono le_30), hr_40, hr_42, h_46, h_49, hS⟩)
 clear hJ_51
 refine WC.sr (WL.mv rfl rfl (WL.run hS rfl rfl rfl (ex_neq rfl rfl) (WL.nx ?_)))
 refine WC.cond rfl ?_ ?_
 intro hc_55
 replace hV := hV.1 (of_decide_eq_true hc_55)
 refine WC.region (WL.run hS rfl rfl rfl (ex_build (vs := []) (zc := #[i6 0, i6 0, sv ([] : Str), (.slice none 0 0), (.slice none 0 0)]) (cs := #[i6 0, i6 0, sv ([] : Str), (.slice none 0 0), (.slice none 0 0)]) (places := #[(0, 1), (1, 1), (2, 1), (3, 1), (4, 1)]) Tryz.underlying32 Tryz.zeroValue32 (fun w => by simp [Tryz.sizeOf2, Tryz.sizeOf3, Tryz.sizeOf30, Tryz.sizeOf9]) rfl trivial rfl (by simp [Instr.fill, cells_int, cells_bool, cells_iface, cells_niliface, cells_slice, str_cells])) (WL.store_box (pre := []) (old := [i6 r_18.k, i6 r_18.i, sv r_18.t, v_19, v_20]) (rst := []) (cs := [i6 0, i6 0, sv ([] : Str), (.slice none 0 0), (.slice none 0 0)]) (arr' := #[i6 0, i6 0, sv ([] : Str), (.slice none 0 0), (.slice none 0 0)]) Tryz.sizeOf32 rfl rfl rfl ⟨rfl, rfl, rfl, rfl, rfl, trivial⟩ rfl rfl rfl rfl hS ?_))
 clear hS
 intro w hS
 refine WL.nil ?_
 replace hS := hS.f2.f3.f4
 exact WQ.there fun a ha => ⟨0, 0, ([] : Str), ([] : List RV), ([] : List RV), (.slice none 0 0), (.slice none 0 0), hV, (show I64 0 by unfold I64; omega), (show I64 0 by unfold I64; omega), IsSl.nil, IsSl.nil, hS, ha.of_sub ⟨rfl, rfl, rfl, rfl, trivial⟩⟩
 intro hc_55
 replace hV := hV.2 (of_decide_eq_false hc_55)
 refine WC.skip ?_
 replace hS := hS.f2.f3.f4
 exact WQ.there fun a ha => ⟨r_18.k, r_18.i, r_18.t, r_18.ks, r_18.vs, v_19, v_20, hV, hr_21, hr_22, h_23, h_24, hS, ha.of_sub ⟨rfl, rfl, rfl, rfl, trivial⟩⟩

theorem S_ValueOrders {w0 : World} {H : View} {L : Seg} {w : World} {a_1 : Str} {b_2 : Str} {Q : Bool → Prop} (hN : GlobN w0 H) (hS : St w0 H (L) w) (hV : V_ValueOrders a_1 b_2 Q) :
 Calls Tryz.prog 5 #[sv a_1, sv b_2] w fun e w' => ∃ (r1 : Bool), Q r1 ∧ e = .returned (.bool r1) ∧ St w0 H (L) w' := by
 unfold V_ValueOrders at hV
 refine enter Tryz.func5 rfl Tryz.ntmps5 rfl (lk_args_cons (d := 0) (v := sv a_1) rfl (lk_args_cons (d := 1) (v := sv b_2) rfl (lk_args_nil _))) (WC.sr (WL.ma rfl rfl (WL.nx (WC.sr (WL.mv rfl rfl (WL.call rfl rfl rfl (enters0 (vs := [sv a_1]) Tryz.call15 ⟨rfl, trivial⟩) (S_lread hN hS hV) ?_))))))
 clear hV hS
 rintro _ w ⟨r_3, r_6, u_4, v_7, v_8, H_13, hV, rfl, le_14, h_5, hr_9, hr_10, h_11, h_12, hS⟩
 refine ⟨_, rfl, ?_⟩
 refine WL.mv rfl rfl (WL.run hS rfl rfl rfl (ex_extract rfl rfl) (WL.run hS rfl rfl rfl (ex_extract rfl rfl) (WL.alloc (arr := #[.nilIface]) rfl Tryz.zeroValue25 rfl hS ?_)))
 clear hS
 intro b_15 w hS
 refine WL.alloc (arr := #[i6 0, i6 0, sv ([] : Str), (.slice none 0 0), (.slice none 0 0)]) rfl Tryz.zeroValue32 rfl hS ?_
 clear hS
 intro b_17 w hS
 replace hS := hS.f2
 refine WL.store_box (pre := []) (old := [.nilIface]) (rst := []) (cs := [u_4]) (arr' := #[u_4]) Tryz.sizeOf25 rfl rfl rfl ⟨(IsW.one h_5), trivial⟩ rfl rfl rfl rfl hS ?_
 clear hS
 intro w hS
 replace hS := hS.f2
 refine WL.store_box (pre := []) (old := [i6 0, i6 0, sv ([] : Str), (.slice none 0 0), (.slice none 0 0)]) (rst := []) (cs := [i6 r_6.k, i6 r_6.i, sv r_6.t, v_7, v_8]) (arr' := #[i6 r_6.k, i6 r_6.i, sv r_6.t, v_7, v_8]) Tryz.sizeOf32 rfl rfl rfl ⟨rfl, rfl, rfl, (IsSl.one h_11), (IsSl.one h_12), trivial⟩ rfl rfl rfl rfl hS ?_
 clear hS
 intro w hS
 refine WL.nx (WC.sr (WL.mv rfl rfl (WL.call rfl rfl rfl (enters0 (vs := [sv b_2]) Tryz.call15 ⟨rfl, trivial⟩) (S_lread (hN.mono le_14) hS hV) ?_)))
 clear hV hS
 rintro _ w ⟨r_21, r_24, u_22, v_25, v_26, H_31, hV, rfl, le_32, h_23, hr_27, hr_28, h_29, h_30, hS⟩
 refine ⟨_, rfl, ?_⟩
 refine WL.mv rfl rfl (WL.run hS rfl rfl rfl (ex_extract rfl rfl) (WL.run hS rfl rfl rfl (ex_extract rfl rfl) (WL.alloc (arr := #[.nilIface]) rfl Tryz.zeroValue25 rfl hS ?_)))
 clear hS
 intro b_33 w hS
 refine WL.alloc (arr := #[i6 0, i6 0, sv ([] : Str), (.slice none 0 0), (.slice none 0 0)]) rfl Tryz.zeroValue32 rfl hS ?_
 clear hS
 intro b_35 w hS
 replace hS := hS.f2
 refine WL.store_box (pre := []) (old := [.nilIface]) (rst := []) (cs := [u_22]) (arr' := #[u_22]) Tryz.sizeOf25 rfl rfl rfl ⟨(IsW.one h_23), trivial⟩ rfl rfl rfl rfl hS ?_
 clear hS
 intro w hS
 replace hS := hS.f2
 refine WL.store_box (pre := []) (old := [i6 0, i6 0, sv ([] : Str), (.slice none 0 0), (.slice none 0 0)]) (rst := []) (cs := [i6 r_24.k, i6 r_24.i, sv r_24.t, v_25, v_26]) (arr' := #[i6 r_24.k, i6 r_24.i, sv r_24.t, v_25, v_26]) Tryz.sizeOf32 rfl rfl rfl ⟨rfl, rfl, rfl, (IsSl.one h_29), (IsSl.one h_30), trivial⟩ rfl rfl rfl rfl hS ?_
 clear hS
 intro w hS
 refine WL.nx (WC.sub (m := [(5, (pq b_15)), (6, (pq b_17)), (7, (pq b_33)), (8, (pq b_35))]) ⟨rfl, rfl, rfl, rfl, trivial⟩ (WC.sr ?_))
 replace hS := hS.f4
 refine WL.run hS rfl rfl rfl (ex_load_box_agg (cs := [u_4]) Tryz.isAgg25 Tryz.sizeOf25 rfl rfl rfl) ?_
 replace hS := hS.f3
 refine WL.run hS rfl rfl rfl (ex_load_box_agg (cs := [u_22]) Tryz.isAgg25 Tryz.sizeOf25 rfl rfl rfl) ?_
 obtain ⟨mf, hV⟩ := hV
 refine WL.call rfl rfl rfl (enters0 (vs := [.agg #[u_4], .agg #[u_22]]) Tryz.call19 ⟨rfl, rfl, trivial⟩) (S_Compare mf (h_5.mono le_32) h_23 hS hV) ?_
 clear hV hS
 rintro _ w ⟨r_39, hV, rfl, hr_40, hS⟩
 refine ⟨_, rfl, ?_⟩
 refine WL.ma rfl rfl (WL.nx (WC.sr (WL.run hS rfl rfl rfl (ex_load_box_agg (cs := [u_22]) Tryz.isAgg25 Tryz.sizeOf25 rfl rfl rfl) ?_)))
 replace hS := hS.f2
 refine WL.run hS rfl rfl rfl (ex_load_box_agg (cs := [u_4]) Tryz.isAgg25 Tryz.sizeOf25 rfl rfl rfl) ?_
 obtain ⟨mf, hV⟩ := hV
 refine WL.call rfl rfl rfl (enters0 (vs := [.agg #[u_22], .agg #[u_4]]) Tryz.call19 ⟨rfl, rfl, trivial⟩) (S_Compare mf h_23 (h_5.mono le_32) hS hV) ?_
 clear hV hS
 rintro _ w ⟨r_42, hV, rfl, hr_43, hS⟩
 refine ⟨_, rfl, ?_⟩
 refine WL.ma rfl rfl (WL.nx ?_)
 replace hS := hS.drop
 replace hS := hS.drop
 refine WC.sr ?_
 replace hS := hS.f2
 refine WL.run hS rfl rfl rfl (ex_load_box_agg (cs := [i6 r_6.k, i6 r_6.i, sv r_6.t, v_7, v_8]) Tryz.isAgg32 Tryz.sizeOf32 rfl rfl rfl) ?_
 replace hS := hS.f2
 refine WL.run hS rfl rfl rfl (ex_load_box_agg (cs := [i6 r_24.k, i6 r_24.i, sv r_24.t, v_25, v_26]) Tryz.isAgg32 Tryz.sizeOf32 rfl rfl rfl) ?_
 obtain ⟨mf, hV⟩ := hV
 refine WL.call rfl rfl rfl (enters0 (vs := [.agg #[i6 r_6.k, i6 r_6.i, sv r_6.t, v_7, v_8], .agg #[i6 r_24.k, i6 r_24.i, sv r_24.t, v_25, v_26]]) Tryz.call20 ⟨rfl, rfl, trivial⟩) (S_rCompare mf (a_1 := r_6) (b_8 := r_24) hr_9 hr_10 (by exact (h_11.mono le_32)) (by exact (h_12.mono le_32)) hr_27 hr_28 h_29 h_30 hS hV) ?_
 clear hV hS
 rintro _ w ⟨r_45, hV, rfl, hr_46, hS⟩
 refine ⟨_, rfl, ?_⟩
 refine WL.ma rfl rfl (WL.nx (WC.sub (m := [(9, i6 r_39), (10, i6 r_42), (11, i6 r_45)]) ⟨rfl, rfl, rfl, trivial⟩ ?_))
 replace hS := hS.f2.drop
 replace hS := hS.drop
 obtain ⟨J_53, hJ_54, hV⟩ := hV
 refine WC.meet (fun a w => ∃ (x_52 : Bool), J_53 x_52 ∧ St w0 H_31 (L) w ∧ Fr 40 [(4, .bool x_52)] a) ?_ ?_
 rintro a w ⟨x_52, hI, hS, ha⟩
 refine in_frame ha ?_
 clear ha hV
 have hV := hJ_54 _ hI
 clear hI hJ_54
 refine WC.ret ?_
 exact leave1 rfl rfl (⟨x_52, hV, rfl, (hS.weaken (((View.le.refl _).trans le_14).trans le_32))⟩)
 clear hJ_54
 refine WC.region (WL.mv rfl rfl (WL.mv rfl rfl (WL.run hS rfl rfl rfl (ex_eql rfl rfl) (WL.mv rfl rfl ?_))))
 rcases Bool.eq_false_or_eq_true (decide (r_39 = r_45)) with hg_56 | hg_56
 replace hV := hV.1 (of_decide_eq_true hg_56)
 refine WL.unguard rfl rfl hg_56 (WL.mv rfl rfl (WL.unguard rfl rfl hg_56 (WL.mv rfl rfl (WL.unguard rfl rfl hg_56 ?_))))
 obtain ⟨hi_57, hV⟩ := hV
 refine WL.run hS rfl rfl rfl (ex_neg rfl hi_57) (WL.unguard rfl rfl hg_56 (WL.run hS rfl rfl rfl (ex_eql rfl rfl) (WL.run hS rfl rfl rfl (ex_pick_t rfl hg_56 rfl) (WL.ma rfl rfl (WL.nil ?_)))))
 exact WQ.there fun a ha => ⟨decide (r_42 = (-r_45)), hV, hS, ha.of_sub ⟨rfl, trivial⟩⟩
 replace hV := hV.2 (of_decide_eq_false hg_56)
 refine WL.skip_g rfl rfl rfl hg_56 rfl rfl (WL.skip_g rfl rfl rfl hg_56 rfl rfl (WL.skip_g rfl rfl rfl hg_56 rfl rfl (WL.skip_g rfl rfl rfl hg_56 rfl rfl (WL.run hS rfl rfl rfl (ex_pick_f rfl hg_56 rfl) (WL.ma rfl rfl (WL.nil ?_))))))
 exact WQ.there fun a ha => ⟨false, hV, hS, ha.of_sub ⟨rfl, trivial⟩⟩

end Go.Proofs.YtlhkfkecoekoeaaGreatDoor
