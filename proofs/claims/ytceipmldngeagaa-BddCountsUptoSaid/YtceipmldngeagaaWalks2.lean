/- For each function: called, it does its work where its condition is so. Printed by program. -/
import Derived.Test.YtceipmldngeagaaFacts
import Derived.Test.YtceipmldngeagaaConds
import Derived.Test.YtceipmldngeagaaManB
import Derived.Test.YtceipmldngeagaaWalks1
set_option linter.unusedVariables false
set_option linter.unusedSimpArgs false
set_option maxRecDepth 100000
namespace Go.Proofs.Ytceipmldngeagaa
open Go.Vc
theorem S_Count1 (m0 : Nat) : ∀ {w0 : World} {H : View} {L : Seg} {w : World} {f_1 : Int} {b_4 : Nat} {v_7 : Value} {c_3_6 : M1} {fp_9 : Seg} {b_12 : Nat} {b_15 : Nat} {v_18 : Value} {nodes_17 : N3} {fp_20 : Seg} {v_23 : Value} {free_22 : LI} {fp_25 : Seg} {v_28 : Value} {xby_27 : M3} {fp_30 : Seg} {v_33 : Value} {order_32 : LI} {fp_35 : Seg} {v_38 : Value} {level_37 : LI} {fp_40 : Seg} {v_43 : Value} {memo_42 : M3} {fp_45 : Seg} {b_48 : Nat} {Q : Int → M1 → Prop} (hr_2 : I64 f_1) (h_8 : OwnMp H kInt (cInt .i64) v_7 c_3_6 fp_9) (h_19 : OwnSl H (cPair (cInt .i64) (cPair (cInt .i64) (cInt .i64))) 81 v_18 nodes_17 fp_20) (h_24 : OwnSl H (cInt .i64) 32 v_23 free_22 fp_25) (h_29 : OwnMp H kTri (cInt .i64) v_28 xby_27 fp_30) (h_34 : OwnSl H (cInt .i64) 3 v_33 order_32 fp_35) (h_39 : OwnSl H (cInt .i64) 3 v_38 level_37 fp_40) (h_44 : OwnMp H kTri (cInt .i64) v_43 memo_42 fp_45) (hS : St w0 H ([(b_4, oc #[v_7] 87)] ++ (fp_9 ++ ([(b_12, oc #[(pq b_15)] 36)] ++ ([(b_15, oc #[v_18, v_23, v_28, v_33, v_38, v_43] 79)] ++ (fp_20 ++ (fp_25 ++ (fp_30 ++ (fp_35 ++ (fp_40 ++ (fp_45 ++ ([(b_48, Obj.cells #[.func (.func 72) #[] #[(pq b_4), (pq b_12), (pq b_48)]] 68 (0, 0))] ++ L))))))))))) w) (hV : V_Count1 m0 f_1 c_3_6 nodes_17 free_22 xby_27 order_32 level_37 memo_42 Q),
 Calls Try.prog 72 #[i6 f_1, (pq b_4), (pq b_12), (pq b_48)] w fun e w' => ∃ (r1 : Int) (r2 : M1) (fp2 : Seg), Q r1 r2 ∧ e = .returned (i6 r1) ∧ I64 r1 ∧ OwnMp H kInt (cInt .i64) v_7 r2 fp2 ∧ St w0 H ([(b_4, oc #[v_7] 87)] ++ (fp2 ++ ([(b_12, oc #[(pq b_15)] 36)] ++ ([(b_15, oc #[v_18, v_23, v_28, v_33, v_38, v_43] 79)] ++ (fp_20 ++ (fp_25 ++ (fp_30 ++ (fp_35 ++ (fp_40 ++ (fp_45 ++ ([(b_48, Obj.cells #[.func (.func 72) #[] #[(pq b_4), (pq b_12), (pq b_48)]] 68 (0, 0))] ++ L))))))))))) w' := by
 induction m0 with
 | zero => intro w0 H L w f_1 b_4 v_7 c_3_6 fp_9 b_12 b_15 v_18 nodes_17 fp_20 v_23 free_22 fp_25 v_28 xby_27 fp_30 v_33 order_32 fp_35 v_38 level_37 fp_40 v_43 memo_42 fp_45 b_48 Q hr_2 h_8 h_19 h_24 h_29 h_34 h_39 h_44 hS hV; exact hV.elim
 | succ m0 ih =>
  intro w0 H L w f_1 b_4 v_7 c_3_6 fp_9 b_12 b_15 v_18 nodes_17 fp_20 v_23 free_22 fp_25 v_28 xby_27 fp_30 v_33 order_32 fp_35 v_38 level_37 fp_40 v_43 memo_42 fp_45 b_48 Q hr_2 h_8 h_19 h_24 h_29 h_34 h_39 h_44 hS hV
  unfold V_Count1 at hV
  refine enter Try.func72 rfl Try.ntmps72 rfl (lk_args_cons (d := 0) (v := i6 f_1) rfl (lk_args_cons (d := 1) (v := (pq b_4)) rfl (lk_args_cons (d := 2) (v := (pq b_12)) rfl (lk_args_cons (d := 3) (v := (pq b_48)) rfl (lk_args_nil _))))) ?_
  refine WC.sr ?_
  refine WL.ma rfl rfl ?_
  refine WL.nx ?_
  refine WC.seq ?_
  refine WC.sr ?_
  refine WL.mv rfl rfl ?_
  refine WL.run hS rfl rfl rfl (ex_leq rfl rfl) ?_
  refine WL.nx ?_
  refine WC.cond rfl ?_ ?_
  intro hc_151
  replace hV := hV.1 (of_decide_eq_true hc_151)
  refine WC.sr ?_
  refine WL.mv rfl rfl ?_
  refine WL.ma rfl rfl ?_
  refine WL.nx ?_
  refine WC.ret ?_
  refine WQ.pass nofun ?_
  replace hS := hS.f11.f11.f11.f11.f11.f11.f11.f11.f11.f11.f11
  exact leave1 rfl rfl ⟨f_1, c_3_6, fp_9, hV, rfl, hr_2, h_8, hS⟩
  intro hc_151
  replace hV := hV.2 (of_decide_eq_false hc_151)
  refine WC.skip ?_
  refine WQ.next ?_
  refine WC.seq ?_
  refine WC.sr ?_
  refine WL.run hS rfl rfl rfl (ex_load_box Try.isAgg87 rfl rfl) ?_
  refine WL.mv rfl rfl ?_
  replace hS := hS.f2
  refine WL.runx hS rfl rfl rfl (exNow (H := H) (L := [(b_4, oc #[v_7] 87)] ++ ([(b_12, oc #[(pq b_15)] 36)] ++ ([(b_15, oc #[v_18, v_23, v_28, v_33, v_38, v_43] 79)] ++ (fp_20 ++ (fp_25 ++ (fp_30 ++ (fp_35 ++ (fp_40 ++ (fp_45 ++ ([(b_48, Obj.cells #[.func (.func 72) #[] #[(pq b_4), (pq b_12), (pq b_48)]] 68 (0, 0))] ++ L)))))))))) (ex_lookup_ok (c := (cInt .i64)) (k := f_1) (d := 0) Try.underlying87 Try.key32 Try.zeroValue3 ⟨rfl, I64.has (by unfold I64; omega)⟩ rfl rfl h_8)) ?_
  rintro _ ⟨u_55, rfl, hu_56⟩
  obtain ⟨rfl, hr_57⟩ := cInt_rep hu_56
  replace hr_57 := has_I64 hr_57
  replace hV := hV hr_57
  refine WL.mv rfl rfl ?_
  refine WL.run hS rfl rfl rfl (ex_extract rfl rfl) ?_
  refine WL.run hS rfl rfl rfl (ex_extract rfl rfl) ?_
  refine WL.ma rfl rfl ?_
  refine WL.ma rfl rfl ?_
  refine WL.nx ?_
  refine WC.sr ?_
  refine WL.mv rfl rfl ?_
  refine WL.nx ?_
  refine WC.sub (m := [(0, i6 f_1), (1, (pq b_4)), (2, (pq b_12)), (3, (pq b_48)), (6, i6 (mgetD c_3_6 f_1 0)), (20, .bool (mhas c_3_6 f_1))]) ⟨rfl, rfl, rfl, rfl, rfl, rfl, trivial⟩ ?_
  refine WC.cond rfl ?_ ?_
  intro hc_150
  replace hV := hV.1 hc_150
  refine WC.sr ?_
  refine WL.mv rfl rfl ?_
  refine WL.ma rfl rfl ?_
  refine WL.nx ?_
  refine WC.ret ?_
  refine WQ.pass nofun ?_
  replace hS := hS.f11.f11.f11.f11.f11.f11.f11.f11.f11.f10.f11
  exact leave1 rfl rfl ⟨(mgetD c_3_6 f_1 0), c_3_6, fp_9, hV, rfl, hr_57, h_8, hS⟩
  intro hc_150
  replace hV := hV.2 hc_150
  refine WC.skip ?_
  refine WQ.next ?_
  refine WC.sr ?_
  replace hS := hS.f3
  refine WL.run hS rfl rfl rfl (ex_load_box Try.isAgg36 rfl rfl) ?_
  refine WL.run hS rfl rfl rfl (ex_nilCheck rfl) ?_
  refine WL.run hS rfl rfl rfl (ex_fieldAddr (o' := 0) Try.underlying79 rfl Try.sizeOf75 rfl rfl) ?_
  replace hS := hS.f4
  refine WL.run hS rfl rfl rfl (ex_load_box Try.isAgg75 rfl rfl) ?_
  refine WL.mv rfl rfl ?_
  obtain ⟨hin_58, hV⟩ := hV
  refine WL.runx hS rfl rfl rfl (ex_index_own Try.underlying75 Try.sizeOf81 rfl rfl h_19 hin_58) ?_
  intro p_59 hp_60
  replace hS := hS.f5
  refine WL.runx hS rfl rfl rfl (exNow (H := H) (L := [(b_15, oc #[v_18, v_23, v_28, v_33, v_38, v_43] 79)] ++ ([(b_12, oc #[(pq b_15)] 36)] ++ (fp_9 ++ ([(b_4, oc #[v_7] 87)] ++ (fp_25 ++ (fp_30 ++ (fp_35 ++ (fp_40 ++ (fp_45 ++ ([(b_48, Obj.cells #[.func (.func 72) #[] #[(pq b_4), (pq b_12), (pq b_48)]] 68 (0, 0))] ++ L)))))))))) (ex_load_own_agg Try.isAgg81 Try.sizeOf81 rfl h_19 hp_60 hin_58)) ?_
  rintro u_61 ⟨_, rfl, hu⟩
  obtain ⟨_, _, rfl, hu_62, hu_63⟩ := hu
  obtain ⟨rfl, hr_64⟩ := hu_62
  replace hr_64 := has_I64 hr_64
  replace hV := hV hr_64
  obtain ⟨_, _, rfl, hu_65, hu_66⟩ := hu_63
  obtain ⟨rfl, hr_67⟩ := hu_65
  replace hr_67 := has_I64 hr_67
  replace hV := hV hr_67
  obtain ⟨rfl, hr_68⟩ := hu_66
  replace hr_68 := has_I64 hr_68
  replace hV := hV hr_68
  refine WL.alloc (arr := #[i6 0, i6 0, i6 0]) rfl Try.zeroValue81 rfl hS ?_
  clear hS
  intro b_69 w hS
  refine WL.store_box (pre := []) (old := [i6 0, i6 0, i6 0]) (rst := []) (cs := [i6 ((ix nodes_17 f_1).1), i6 ((ix nodes_17 f_1).2.1), i6 ((ix nodes_17 f_1).2.2)]) (arr' := #[i6 ((ix nodes_17 f_1).1), i6 ((ix nodes_17 f_1).2.1), i6 ((ix nodes_17 f_1).2.2)]) Try.sizeOf81 rfl rfl rfl ⟨rfl, rfl, rfl, trivial⟩ rfl rfl rfl rfl hS ?_
  clear hS
  intro w hS
  refine WL.nx ?_
  refine WC.sr ?_
  replace hS := hS.f4
  refine WL.run hS rfl rfl rfl (ex_load_box Try.isAgg36 rfl rfl) ?_
  refine WL.mv rfl rfl ?_
  replace hS := hS.f11.f11.f11.f11.f11.f8.f9
  refine WL.call rfl rfl rfl (enters0 (vs := [(pq b_15), i6 f_1]) Try.call65 ⟨rfl, rfl, trivial⟩) (S_depth  h_19 h_24 h_29 h_34 h_39 h_44 hr_2 hS hV) ?_
  clear hV hS
  rintro _ w ⟨r_71, hV, rfl, hr_72, hS⟩
  refine ⟨_, rfl, ?_⟩
  refine WL.ma rfl rfl ?_
  refine WL.nx ?_
  refine WC.sub (m := [(0, i6 f_1), (1, (pq b_4)), (2, (pq b_12)), (3, (pq b_48)), (8, (pq b_69)), (9, i6 r_71)]) ⟨rfl, rfl, rfl, rfl, rfl, rfl, trivial⟩ ?_
  refine WC.seq ?_
  refine WC.drawn (σ := [0, 1, 2, 4, 5, 6, 8, 12, 13, 14, 16, 17, 18, 20, 3, 7, 9, 10, 11, 15, 19, 21, 22, 23, 24, 25]) (C := St w0 H ([(b_15, oc #[v_18, v_23, v_28, v_33, v_38, v_43] 79)] ++ (fp_20 ++ (fp_25 ++ (fp_30 ++ (fp_35 ++ (fp_40 ++ (fp_45 ++ ([(b_12, oc #[(pq b_15)] 36)] ++ ([(b_69, oc #[i6 ((ix nodes_17 f_1).1), i6 ((ix nodes_17 f_1).2.1), i6 ((ix nodes_17 f_1).2.2)] 81)] ++ (fp_9 ++ ([(b_4, oc #[v_7] 87)] ++ ([(b_48, Obj.cells #[.func (.func 72) #[] #[(pq b_4), (pq b_12), (pq b_48)]] 68 (0, 0))] ++ L))))))))))))) [[], [], [1], [0, 1, 2], [], [], [5], [0, 1, 2, 3, 4, 5, 6], [], [0, 1, 2, 3, 4, 5, 6, 7, 8], [0, 1, 2, 3, 4, 5, 6, 7, 8, 9], [0, 1, 2, 3, 4, 5, 6, 7, 8, 9, 10], [], [], [13], [0, 1, 2, 3, 4, 5, 6, 7, 12, 13, 14], [], [], [17], [0, 1, 2, 3, 4, 5, 6, 7, 12, 13, 14, 15, 16, 17, 18], [], [0, 1, 2, 3, 4, 5, 6, 7, 12, 13, 14, 15, 16, 17, 18, 19, 20], [0, 1, 2, 3, 4, 5, 6, 7, 12, 13, 14, 15, 16, 17, 18, 19, 20, 21], [0, 1, 2, 3, 4, 5, 6, 7, 12, 13, 14, 15, 16, 17, 18, 19, 20, 21, 22], [0, 1, 2, 3, 4, 5, 6, 7, 8, 9, 10, 11, 12, 13, 14, 15, 16, 17, 18, 19, 20, 21, 22, 23], [0, 1, 2, 3, 4, 5, 6, 7, 8, 9, 10, 11, 12, 13, 14, 15, 16, 17, 18, 19, 20, 21, 22, 23, 24]] [3, 7, 15, 19] Try.mixed (by kernel_rfl) (hS.drawn _) ?_
  clear hS w
  refine Wd.runb (off := 0) rfl rfl rfl rfl (fun _ _ _ h => ex_load_box Try.isAgg68 rfl h) rfl (fun _ h => St.f12 h) fun q_75 hq_74 => ?_
  refine Wd.run rfl rfl rfl rfl (fun _ => ex_fieldAddr (o' := 1) Try.underlying81 rfl Try.sizeOf32 rfl rfl) fun q_77 hq_76 => ?_
  refine Wd.runb (off := 1) rfl rfl rfl rfl (fun _ _ _ h => ex_load_box Try.isAgg32 rfl h) rfl (fun _ h => St.f9 h) fun q_79 hq_78 => ?_
  refine Wd.runb (off := 0) rfl rfl rfl rfl (fun _ _ _ h => ex_load_box Try.isAgg36 rfl h) rfl (fun _ h => St.f8 h) fun q_81 hq_80 => ?_
  refine Wd.run rfl rfl rfl rfl (fun _ => ex_fieldAddr (o' := 1) Try.underlying81 rfl Try.sizeOf32 rfl rfl) fun q_83 hq_82 => ?_
  refine Wd.runb (off := 1) rfl rfl rfl rfl (fun _ _ _ h => ex_load_box Try.isAgg32 rfl h) rfl (fun _ h => St.f9 h) fun q_85 hq_84 => ?_
  refine Wd.run rfl rfl rfl rfl (fun _ => ex_move rfl) fun q_87 hq_86 => ?_
  refine Wd.runb (off := 0) rfl rfl rfl rfl (fun _ _ _ h => ex_load_box Try.isAgg68 rfl h) rfl (fun _ h => St.f12 h) fun q_89 hq_88 => ?_
  refine Wd.run rfl rfl rfl rfl (fun _ => ex_fieldAddr (o' := 2) Try.underlying81 rfl Try.sizeOf32 rfl rfl) fun q_91 hq_90 => ?_
  refine Wd.runb (off := 2) rfl rfl rfl rfl (fun _ _ _ h => ex_load_box Try.isAgg32 rfl h) rfl (fun _ h => St.f9 h) fun q_93 hq_92 => ?_
  refine Wd.runb (off := 0) rfl rfl rfl rfl (fun _ _ _ h => ex_load_box Try.isAgg36 rfl h) rfl (fun _ h => St.f8 h) fun q_95 hq_94 => ?_
  refine Wd.run rfl rfl rfl rfl (fun _ => ex_fieldAddr (o' := 2) Try.underlying81 rfl Try.sizeOf32 rfl rfl) fun q_97 hq_96 => ?_
  refine Wd.runb (off := 2) rfl rfl rfl rfl (fun _ _ _ h => ex_load_box Try.isAgg32 rfl h) rfl (fun _ h => St.f9 h) fun q_99 hq_98 => ?_
  refine Wd.run rfl rfl rfl rfl (fun _ => ex_move rfl) fun q_101 hq_100 => ?_
  refine Wd.turn rfl rfl rfl fun w hS => ?_
  replace hS := hS.f12.f8.f8.f8.f8.f8.f8.f8.f9.f11.f12
  refine WL.call rfl rfl rfl (enters_c (vs := [i6 ((ix nodes_17 f_1).2.1)]) (caps := [(pq b_4), (pq b_12), (pq b_48)]) rfl Try.call72 ⟨rfl, trivial⟩) (ih  hr_67 h_8 h_19 h_24 h_29 h_34 h_39 h_44 hS hV) ?_
  clear hV hS
  rintro _ w ⟨r_102, m_104, fp_105, hV, rfl, hr_103, h_106, hS⟩
  refine ⟨_, rfl, ?_⟩
  refine WL.nil (DQ.mk2 (C' := St w0 H ([(b_4, oc #[v_7] 87)] ++ (fp_105 ++ ([(b_12, oc #[(pq b_15)] 36)] ++ ([(b_15, oc #[v_18, v_23, v_28, v_33, v_38, v_43] 79)] ++ (fp_20 ++ (fp_25 ++ (fp_30 ++ (fp_35 ++ (fp_40 ++ (fp_45 ++ ([(b_48, Obj.cells #[.func (.func 72) #[] #[(pq b_4), (pq b_12), (pq b_48)]] 68 (0, 0))] ++ ([(b_69, oc #[i6 ((ix nodes_17 f_1).1), i6 ((ix nodes_17 f_1).2.1), i6 ((ix nodes_17 f_1).2.2)] 81)] ++ L))))))))))))) hS ⟨.inr (hq_100 _), .inr (hq_98 H ([(b_4, oc #[v_7] 87)] ++ (fp_105 ++ ([(b_12, oc #[(pq b_15)] 36)] ++ ([(b_15, oc #[v_18, v_23, v_28, v_33, v_38, v_43] 79)] ++ (fp_20 ++ (fp_25 ++ (fp_30 ++ (fp_35 ++ (fp_40 ++ (fp_45 ++ ([(b_48, Obj.cells #[.func (.func 72) #[] #[(pq b_4), (pq b_12), (pq b_48)]] 68 (0, 0))] ++ L))))))))))) #[i6 ((ix nodes_17 f_1).1), i6 ((ix nodes_17 f_1).2.1), i6 ((ix nodes_17 f_1).2.2)] _ rfl (fun _ h => St.f12 h)), .inr (hq_96 _), .inr (hq_94 H ([(b_4, oc #[v_7] 87)] ++ (fp_105 ++ ([(b_15, oc #[v_18, v_23, v_28, v_33, v_38, v_43] 79)] ++ (fp_20 ++ (fp_25 ++ (fp_30 ++ (fp_35 ++ (fp_40 ++ (fp_45 ++ ([(b_48, Obj.cells #[.func (.func 72) #[] #[(pq b_4), (pq b_12), (pq b_48)]] 68 (0, 0))] ++ ([(b_69, oc #[i6 ((ix nodes_17 f_1).1), i6 ((ix nodes_17 f_1).2.1), i6 ((ix nodes_17 f_1).2.2)] 81)] ++ L))))))))))) #[(pq b_15)] _ rfl (fun _ h => St.f3 h)), .inr (hq_92 H ([(b_4, oc #[v_7] 87)] ++ (fp_105 ++ ([(b_12, oc #[(pq b_15)] 36)] ++ ([(b_15, oc #[v_18, v_23, v_28, v_33, v_38, v_43] 79)] ++ (fp_20 ++ (fp_25 ++ (fp_30 ++ (fp_35 ++ (fp_40 ++ (fp_45 ++ ([(b_48, Obj.cells #[.func (.func 72) #[] #[(pq b_4), (pq b_12), (pq b_48)]] 68 (0, 0))] ++ L))))))))))) #[i6 ((ix nodes_17 f_1).1), i6 ((ix nodes_17 f_1).2.1), i6 ((ix nodes_17 f_1).2.2)] _ rfl (fun _ h => St.f12 h)), .inr (hq_90 _), .inr (hq_88 H ([(b_4, oc #[v_7] 87)] ++ (fp_105 ++ ([(b_12, oc #[(pq b_15)] 36)] ++ ([(b_15, oc #[v_18, v_23, v_28, v_33, v_38, v_43] 79)] ++ (fp_20 ++ (fp_25 ++ (fp_30 ++ (fp_35 ++ (fp_40 ++ (fp_45 ++ ([(b_69, oc #[i6 ((ix nodes_17 f_1).1), i6 ((ix nodes_17 f_1).2.1), i6 ((ix nodes_17 f_1).2.2)] 81)] ++ L))))))))))) #[.func (.func 72) #[] #[(pq b_4), (pq b_12), (pq b_48)]] _ rfl (fun _ h => St.f11 h)), .inr (hq_86 _), .inr (hq_84 H ([(b_4, oc #[v_7] 87)] ++ (fp_105 ++ ([(b_12, oc #[(pq b_15)] 36)] ++ ([(b_15, oc #[v_18, v_23, v_28, v_33, v_38, v_43] 79)] ++ (fp_20 ++ (fp_25 ++ (fp_30 ++ (fp_35 ++ (fp_40 ++ (fp_45 ++ ([(b_48, Obj.cells #[.func (.func 72) #[] #[(pq b_4), (pq b_12), (pq b_48)]] 68 (0, 0))] ++ L))))))))))) #[i6 ((ix nodes_17 f_1).1), i6 ((ix nodes_17 f_1).2.1), i6 ((ix nodes_17 f_1).2.2)] _ rfl (fun _ h => St.f12 h)), .inr (hq_82 _), .inr (hq_80 H ([(b_4, oc #[v_7] 87)] ++ (fp_105 ++ ([(b_15, oc #[v_18, v_23, v_28, v_33, v_38, v_43] 79)] ++ (fp_20 ++ (fp_25 ++ (fp_30 ++ (fp_35 ++ (fp_40 ++ (fp_45 ++ ([(b_48, Obj.cells #[.func (.func 72) #[] #[(pq b_4), (pq b_12), (pq b_48)]] 68 (0, 0))] ++ ([(b_69, oc #[i6 ((ix nodes_17 f_1).1), i6 ((ix nodes_17 f_1).2.1), i6 ((ix nodes_17 f_1).2.2)] 81)] ++ L))))))))))) #[(pq b_15)] _ rfl (fun _ h => St.f3 h)), il, il, il, trivial⟩ ?_)
  clear hS w
  refine Wd.turn rfl rfl rfl fun w hS => ?_
  replace hS := hS.f10.f10.f10.f10.f10.f10.f10
  refine WL.call rfl rfl rfl (enters0 (vs := [(pq b_15), i6 ((ix nodes_17 f_1).2.1)]) Try.call65 ⟨rfl, rfl, trivial⟩) (S_depth  h_19 h_24 h_29 h_34 h_39 h_44 hr_67 hS hV) ?_
  clear hV hS
  rintro _ w ⟨r_108, hV, rfl, hr_109, hS⟩
  refine ⟨_, rfl, ?_⟩
  refine WL.nil (DQ.mk2 (C' := St w0 H ([(b_15, oc #[v_18, v_23, v_28, v_33, v_38, v_43] 79)] ++ (fp_20 ++ (fp_25 ++ (fp_30 ++ (fp_35 ++ (fp_40 ++ (fp_45 ++ ([(b_4, oc #[v_7] 87)] ++ (fp_105 ++ ([(b_12, oc #[(pq b_15)] 36)] ++ ([(b_48, Obj.cells #[.func (.func 72) #[] #[(pq b_4), (pq b_12), (pq b_48)]] 68 (0, 0))] ++ ([(b_69, oc #[i6 ((ix nodes_17 f_1).1), i6 ((ix nodes_17 f_1).2.1), i6 ((ix nodes_17 f_1).2.2)] 81)] ++ L))))))))))))) hS ⟨.inr (hq_100 _), .inr (hq_98 H ([(b_15, oc #[v_18, v_23, v_28, v_33, v_38, v_43] 79)] ++ (fp_20 ++ (fp_25 ++ (fp_30 ++ (fp_35 ++ (fp_40 ++ (fp_45 ++ ([(b_4, oc #[v_7] 87)] ++ (fp_105 ++ ([(b_12, oc #[(pq b_15)] 36)] ++ ([(b_48, Obj.cells #[.func (.func 72) #[] #[(pq b_4), (pq b_12), (pq b_48)]] 68 (0, 0))] ++ L))))))))))) #[i6 ((ix nodes_17 f_1).1), i6 ((ix nodes_17 f_1).2.1), i6 ((ix nodes_17 f_1).2.2)] _ rfl (fun _ h => St.f12 h)), .inr (hq_96 _), .inr (hq_94 H ([(b_15, oc #[v_18, v_23, v_28, v_33, v_38, v_43] 79)] ++ (fp_20 ++ (fp_25 ++ (fp_30 ++ (fp_35 ++ (fp_40 ++ (fp_45 ++ ([(b_4, oc #[v_7] 87)] ++ (fp_105 ++ ([(b_48, Obj.cells #[.func (.func 72) #[] #[(pq b_4), (pq b_12), (pq b_48)]] 68 (0, 0))] ++ ([(b_69, oc #[i6 ((ix nodes_17 f_1).1), i6 ((ix nodes_17 f_1).2.1), i6 ((ix nodes_17 f_1).2.2)] 81)] ++ L))))))))))) #[(pq b_15)] _ rfl (fun _ h => St.f10 h)), .inr (hq_92 H ([(b_15, oc #[v_18, v_23, v_28, v_33, v_38, v_43] 79)] ++ (fp_20 ++ (fp_25 ++ (fp_30 ++ (fp_35 ++ (fp_40 ++ (fp_45 ++ ([(b_4, oc #[v_7] 87)] ++ (fp_105 ++ ([(b_12, oc #[(pq b_15)] 36)] ++ ([(b_48, Obj.cells #[.func (.func 72) #[] #[(pq b_4), (pq b_12), (pq b_48)]] 68 (0, 0))] ++ L))))))))))) #[i6 ((ix nodes_17 f_1).1), i6 ((ix nodes_17 f_1).2.1), i6 ((ix nodes_17 f_1).2.2)] _ rfl (fun _ h => St.f12 h)), .inr (hq_90 _), .inr (hq_88 H ([(b_15, oc #[v_18, v_23, v_28, v_33, v_38, v_43] 79)] ++ (fp_20 ++ (fp_25 ++ (fp_30 ++ (fp_35 ++ (fp_40 ++ (fp_45 ++ ([(b_4, oc #[v_7] 87)] ++ (fp_105 ++ ([(b_12, oc #[(pq b_15)] 36)] ++ ([(b_69, oc #[i6 ((ix nodes_17 f_1).1), i6 ((ix nodes_17 f_1).2.1), i6 ((ix nodes_17 f_1).2.2)] 81)] ++ L))))))))))) #[.func (.func 72) #[] #[(pq b_4), (pq b_12), (pq b_48)]] _ rfl (fun _ h => St.f11 h)), .inr (hq_86 _), il, il, il, il, il, il, trivial⟩ ?_)
  clear hS w
  obtain ⟨hi_114, hV⟩ := hV
  refine Wd.run rfl rfl rfl rfl (fun _ => ex_sub rfl rfl hi_114) fun q_112 hq_111 => ?_
  obtain ⟨hi_118, hV⟩ := hV
  refine Wd.run rfl rfl rfl rfl (fun _ => ex_sub rfl rfl hi_118) fun q_116 hq_115 => ?_
  obtain ⟨hi_121, hV⟩ := hV
  refine Wd.run rfl rfl rfl rfl (fun _ => ex_shl rfl rfl hi_121) fun q_120 hq_119 => ?_
  refine Wd.turn rfl rfl rfl fun w hS => ?_
  replace hS := hS.f11.f8.f8.f8.f8.f8.f8.f8.f11.f11.f11
  refine WL.call rfl rfl rfl (enters_c (vs := [i6 ((ix nodes_17 f_1).2.2)]) (caps := [(pq b_4), (pq b_12), (pq b_48)]) rfl Try.call72 ⟨rfl, trivial⟩) (ih  hr_68 h_106 h_19 h_24 h_29 h_34 h_39 h_44 hS hV) ?_
  clear hV hS
  rintro _ w ⟨r_122, m_124, fp_125, hV, rfl, hr_123, h_126, hS⟩
  refine ⟨_, rfl, ?_⟩
  refine WL.nil (DQ.mk2 (C' := St w0 H ([(b_4, oc #[v_7] 87)] ++ (fp_125 ++ ([(b_12, oc #[(pq b_15)] 36)] ++ ([(b_15, oc #[v_18, v_23, v_28, v_33, v_38, v_43] 79)] ++ (fp_20 ++ (fp_25 ++ (fp_30 ++ (fp_35 ++ (fp_40 ++ (fp_45 ++ ([(b_48, Obj.cells #[.func (.func 72) #[] #[(pq b_4), (pq b_12), (pq b_48)]] 68 (0, 0))] ++ ([(b_69, oc #[i6 ((ix nodes_17 f_1).1), i6 ((ix nodes_17 f_1).2.1), i6 ((ix nodes_17 f_1).2.2)] 81)] ++ L))))))))))))) hS ⟨.inr (hq_119 _), .inr (hq_115 _), .inr (hq_111 _), .inr (hq_100 _), .inr (hq_98 H ([(b_4, oc #[v_7] 87)] ++ (fp_125 ++ ([(b_12, oc #[(pq b_15)] 36)] ++ ([(b_15, oc #[v_18, v_23, v_28, v_33, v_38, v_43] 79)] ++ (fp_20 ++ (fp_25 ++ (fp_30 ++ (fp_35 ++ (fp_40 ++ (fp_45 ++ ([(b_48, Obj.cells #[.func (.func 72) #[] #[(pq b_4), (pq b_12), (pq b_48)]] 68 (0, 0))] ++ L))))))))))) #[i6 ((ix nodes_17 f_1).1), i6 ((ix nodes_17 f_1).2.1), i6 ((ix nodes_17 f_1).2.2)] _ rfl (fun _ h => St.f12 h)), .inr (hq_96 _), .inr (hq_94 H ([(b_4, oc #[v_7] 87)] ++ (fp_125 ++ ([(b_15, oc #[v_18, v_23, v_28, v_33, v_38, v_43] 79)] ++ (fp_20 ++ (fp_25 ++ (fp_30 ++ (fp_35 ++ (fp_40 ++ (fp_45 ++ ([(b_48, Obj.cells #[.func (.func 72) #[] #[(pq b_4), (pq b_12), (pq b_48)]] 68 (0, 0))] ++ ([(b_69, oc #[i6 ((ix nodes_17 f_1).1), i6 ((ix nodes_17 f_1).2.1), i6 ((ix nodes_17 f_1).2.2)] 81)] ++ L))))))))))) #[(pq b_15)] _ rfl (fun _ h => St.f3 h)), il, il, il, .inr (hq_86 _), il, il, il, il, il, il, trivial⟩ ?_)
  clear hS w
  refine Wd.turn rfl rfl rfl fun w hS => ?_
  replace hS := hS.f10.f10.f10.f10.f10.f10.f10
  refine WL.call rfl rfl rfl (enters0 (vs := [(pq b_15), i6 ((ix nodes_17 f_1).2.2)]) Try.call65 ⟨rfl, rfl, trivial⟩) (S_depth  h_19 h_24 h_29 h_34 h_39 h_44 hr_68 hS hV) ?_
  clear hV hS
  rintro _ w ⟨r_128, hV, rfl, hr_129, hS⟩
  refine ⟨_, rfl, ?_⟩
  refine WL.nil (DQ.mk2 (C' := St w0 H ([(b_15, oc #[v_18, v_23, v_28, v_33, v_38, v_43] 79)] ++ (fp_20 ++ (fp_25 ++ (fp_30 ++ (fp_35 ++ (fp_40 ++ (fp_45 ++ ([(b_4, oc #[v_7] 87)] ++ (fp_125 ++ ([(b_12, oc #[(pq b_15)] 36)] ++ ([(b_48, Obj.cells #[.func (.func 72) #[] #[(pq b_4), (pq b_12), (pq b_48)]] 68 (0, 0))] ++ ([(b_69, oc #[i6 ((ix nodes_17 f_1).1), i6 ((ix nodes_17 f_1).2.1), i6 ((ix nodes_17 f_1).2.2)] 81)] ++ L))))))))))))) hS ⟨.inr (hq_119 _), .inr (hq_115 _), .inr (hq_111 _), .inr (hq_100 _), il, il, il, il, il, il, .inr (hq_86 _), il, il, il, il, il, il, trivial⟩ ?_)
  clear hS w
  obtain ⟨hi_134, hV⟩ := hV
  refine Wd.run rfl rfl rfl rfl (fun _ => ex_sub rfl rfl hi_134) fun q_132 hq_131 => ?_
  obtain ⟨hi_138, hV⟩ := hV
  refine Wd.run rfl rfl rfl rfl (fun _ => ex_sub rfl rfl hi_138) fun q_136 hq_135 => ?_
  obtain ⟨hi_141, hV⟩ := hV
  refine Wd.run rfl rfl rfl rfl (fun _ => ex_shl rfl rfl hi_141) fun q_140 hq_139 => ?_
  obtain ⟨hi_145, hV⟩ := hV
  refine Wd.run rfl rfl rfl rfl (fun _ => ex_add rfl rfl hi_145) fun q_143 hq_142 => ?_
  refine Wd.run rfl rfl rfl rfl (fun _ => ex_assign rfl) fun q_147 hq_146 => ?_
  refine Wd.nil fun w hS => ?_
  refine WQ.next ?_
  refine WC.sub (m := [(0, i6 f_1), (1, (pq b_4)), (10, i6 (((r_102 : Int) * 2 ^ ((r_108 - r_71) - 1).toNat) + ((r_122 : Int) * 2 ^ ((r_128 - r_71) - 1).toNat)))]) ⟨rfl, rfl, rfl, trivial⟩ ?_
  replace hS := hS.f12.drop
  refine WC.sr ?_
  replace hS := hS.f8
  refine WL.run hS rfl rfl rfl (ex_load_box Try.isAgg87 rfl rfl) ?_
  refine WL.mv rfl rfl ?_
  refine WL.mv rfl rfl ?_
  replace hS := hS.f9
  refine WL.mapUpdate (k := f_1) (e := (((r_102 : Int) * 2 ^ ((r_108 - r_71) - 1).toNat) + ((r_122 : Int) * 2 ^ ((r_128 - r_71) - 1).toNat))) Try.underlying87 Try.key32 hr_2 (cInt_mk (I64.has hi_145)) rfl rfl rfl hS h_126 ?_
  clear hS
  intro w fp_148 h_149 hS
  refine WL.nx ?_
  refine WC.sr ?_
  refine WL.mv rfl rfl ?_
  refine WL.ma rfl rfl ?_
  refine WL.nx ?_
  refine WC.ret ?_
  replace hS := hS.f11.f10.f10.f10.f10.f10.f10.f10.f11.f10.f11
  exact leave1 rfl rfl ⟨(((r_102 : Int) * 2 ^ ((r_108 - r_71) - 1).toNat) + ((r_122 : Int) * 2 ^ ((r_128 - r_71) - 1).toNat)), (mset m_124 f_1 (((r_102 : Int) * 2 ^ ((r_108 - r_71) - 1).toNat) + ((r_122 : Int) * 2 ^ ((r_128 - r_71) - 1).toNat))), fp_148, hV, rfl, hi_145, h_149, hS⟩

theorem S_Count {w0 : World} {H : View} {L : Seg} {w : World} {b_2 : Nat} {v_5 : Value} {nodes_4 : N3} {fp_7 : Seg} {v_10 : Value} {free_9 : LI} {fp_12 : Seg} {v_15 : Value} {xby_14 : M3} {fp_17 : Seg} {v_20 : Value} {order_19 : LI} {fp_22 : Seg} {v_25 : Value} {level_24 : LI} {fp_27 : Seg} {v_30 : Value} {memo_29 : M3} {fp_32 : Seg} {f_34 : Int} {Q : Int → Prop} (h_6 : OwnSl H (cPair (cInt .i64) (cPair (cInt .i64) (cInt .i64))) 81 v_5 nodes_4 fp_7) (h_11 : OwnSl H (cInt .i64) 32 v_10 free_9 fp_12) (h_16 : OwnMp H kTri (cInt .i64) v_15 xby_14 fp_17) (h_21 : OwnSl H (cInt .i64) 3 v_20 order_19 fp_22) (h_26 : OwnSl H (cInt .i64) 3 v_25 level_24 fp_27) (h_31 : OwnMp H kTri (cInt .i64) v_30 memo_29 fp_32) (hr_35 : I64 f_34) (hS : St w0 H ([(b_2, oc #[v_5, v_10, v_15, v_20, v_25, v_30] 79)] ++ (fp_7 ++ (fp_12 ++ (fp_17 ++ (fp_22 ++ (fp_27 ++ (fp_32 ++ L))))))) w) (hV : V_Count nodes_4 free_9 xby_14 order_19 level_24 memo_29 f_34 Q) :
 Calls Try.prog 42 #[(pq b_2), i6 f_34] w fun e w' => ∃ (r1 : Int), Q r1 ∧ e = .returned (i6 r1) ∧ I64 r1 ∧ St w0 H ([(b_2, oc #[v_5, v_10, v_15, v_20, v_25, v_30] 79)] ++ (fp_7 ++ (fp_12 ++ (fp_17 ++ (fp_22 ++ (fp_27 ++ (fp_32 ++ L))))))) w' := by
 unfold V_Count at hV
 refine enter Try.func42 rfl Try.ntmps42 rfl (lk_args_cons (d := 0) (v := (pq b_2)) rfl (lk_args_cons (d := 1) (v := i6 f_34) rfl (lk_args_nil _))) ?_
 refine WC.sr ?_
 refine WL.box (arr := #[(pq b_2)]) rfl rfl rfl hS ?_
 clear hS
 intro b_36 w hS
 refine WL.ma rfl rfl ?_
 refine WL.nx ?_
 refine WC.sr ?_
 refine WL.makeMap (κ := Int) (ν := Int) (kc := kInt) (c := (cInt .i64)) rfl hS ?_
 clear hS
 intro v_38 w fp_39 h_40 hS
 refine WL.alloc (arr := #[.map none]) rfl Try.zeroValue87 rfl hS ?_
 clear hS
 intro b_42 w hS
 refine WL.store_box (pre := []) (old := [.map none]) (rst := []) (cs := [v_38]) (arr' := #[v_38]) Try.sizeOf87 rfl rfl (congrArg Array.toList (cells_one (OwnMp.one h_40))) ⟨(OwnMp.one h_40), trivial⟩ rfl rfl rfl rfl hS ?_
 clear hS
 intro w hS
 refine WL.nx ?_
 refine WC.sr ?_
 refine WL.alloc (arr := #[.nilFunc]) rfl Try.zeroValue68 rfl hS ?_
 clear hS
 intro b_44 w hS
 refine WL.nx ?_
 refine WC.sr ?_
 refine WL.run hS rfl rfl rfl (ex_makeFunc (vs := [(pq b_42), (pq b_36), (pq b_44)]) ⟨rfl, rfl, rfl, trivial⟩) ?_
 refine WL.store_box (pre := []) (old := [.nilFunc]) (rst := []) (cs := [.func (.func 72) #[] #[(pq b_42), (pq b_36), (pq b_44)]]) (arr' := #[.func (.func 72) #[] #[(pq b_42), (pq b_36), (pq b_44)]]) Try.sizeOf68 rfl rfl rfl ⟨rfl, trivial⟩ rfl rfl rfl rfl hS ?_
 clear hS
 intro w hS
 refine WL.nx ?_
 refine WC.seq ?_
 refine WC.drawn (σ := [0, 1, 3, 4, 2, 5, 6, 7]) (C := St w0 H ([(b_44, Obj.cells #[.func (.func 72) #[] #[(pq b_42), (pq b_36), (pq b_44)]] 68 (0, 0))] ++ ([(b_42, oc #[v_38] 87)] ++ (fp_39 ++ ([(b_36, oc #[(pq b_2)] 36)] ++ ([(b_2, oc #[v_5, v_10, v_15, v_20, v_25, v_30] 79)] ++ (fp_7 ++ (fp_12 ++ (fp_17 ++ (fp_22 ++ (fp_27 ++ (fp_32 ++ L)))))))))))) [[], [], [0, 1], [], [], [0, 1, 2, 3, 4], [0, 1, 2, 3, 4, 5], [0, 1, 2, 3, 4, 5, 6]] [2, 5] Try.mixed (by kernel_rfl) (hS.drawn _) ?_
 clear hS w
 refine Wd.runb (off := 0) rfl rfl rfl rfl (fun _ _ _ h => ex_load_box Try.isAgg68 rfl h) rfl (fun _ h => h) fun q_47 hq_46 => ?_
 refine Wd.run rfl rfl rfl rfl (fun _ => ex_move rfl) fun q_49 hq_48 => ?_
 refine Wd.runb (off := 0) rfl rfl rfl rfl (fun _ _ _ h => ex_load_box Try.isAgg36 rfl h) rfl (fun _ h => St.f4 h) fun q_51 hq_50 => ?_
 refine Wd.run rfl rfl rfl rfl (fun _ => ex_move rfl) fun q_53 hq_52 => ?_
 refine Wd.turn rfl rfl rfl fun w hS => ?_
 replace hS := hS.f11.f11.f11.f11.f11.f11.f11.f11.f11.f11
 obtain ⟨mf, hV⟩ := hV
 refine WL.call rfl rfl rfl (enters_c (vs := [i6 f_34]) (caps := [(pq b_42), (pq b_36), (pq b_44)]) rfl Try.call72 ⟨rfl, trivial⟩) (S_Count1 mf  hr_35 h_40 h_6 h_11 h_16 h_21 h_26 h_31 hS hV) ?_
 clear hV hS
 rintro _ w ⟨r_54, m_56, fp_57, hV, rfl, hr_55, h_58, hS⟩
 refine ⟨_, rfl, ?_⟩
 refine WL.nil (DQ.mk2 (C' := St w0 H ([(b_42, oc #[v_38] 87)] ++ (fp_57 ++ ([(b_36, oc #[(pq b_2)] 36)] ++ ([(b_2, oc #[v_5, v_10, v_15, v_20, v_25, v_30] 79)] ++ (fp_7 ++ (fp_12 ++ (fp_17 ++ (fp_22 ++ (fp_27 ++ (fp_32 ++ ([(b_44, Obj.cells #[.func (.func 72) #[] #[(pq b_42), (pq b_36), (pq b_44)]] 68 (0, 0))] ++ L)))))))))))) hS ⟨.inr (hq_52 _), .inr (hq_50 H ([(b_42, oc #[v_38] 87)] ++ (fp_57 ++ ([(b_2, oc #[v_5, v_10, v_15, v_20, v_25, v_30] 79)] ++ (fp_7 ++ (fp_12 ++ (fp_17 ++ (fp_22 ++ (fp_27 ++ (fp_32 ++ ([(b_44, Obj.cells #[.func (.func 72) #[] #[(pq b_42), (pq b_36), (pq b_44)]] 68 (0, 0))] ++ L)))))))))) #[(pq b_2)] _ rfl (fun _ h => St.f3 h)), il, il, trivial⟩ ?_)
 clear hS w
 refine Wd.turn rfl rfl rfl fun w hS => ?_
 replace hS := hS.f10.f10.f10.f10.f10.f10.f10
 refine WL.call rfl rfl rfl (enters0 (vs := [(pq b_2), i6 f_34]) Try.call65 ⟨rfl, rfl, trivial⟩) (S_depth  h_6 h_11 h_16 h_21 h_26 h_31 hr_35 hS hV) ?_
 clear hV hS
 rintro _ w ⟨r_60, hV, rfl, hr_61, hS⟩
 refine ⟨_, rfl, ?_⟩
 refine WL.nil (DQ.mk2 (C' := St w0 H ([(b_2, oc #[v_5, v_10, v_15, v_20, v_25, v_30] 79)] ++ (fp_7 ++ (fp_12 ++ (fp_17 ++ (fp_22 ++ (fp_27 ++ (fp_32 ++ ([(b_42, oc #[v_38] 87)] ++ (fp_57 ++ ([(b_36, oc #[(pq b_2)] 36)] ++ ([(b_44, Obj.cells #[.func (.func 72) #[] #[(pq b_42), (pq b_36), (pq b_44)]] 68 (0, 0))] ++ L)))))))))))) hS ⟨il, il, il, il, trivial⟩ ?_)
 clear hS w
 obtain ⟨hi_65, hV⟩ := hV
 refine Wd.run rfl rfl rfl rfl (fun _ => ex_shl rfl rfl hi_65) fun q_64 hq_63 => ?_
 refine Wd.run rfl rfl rfl rfl (fun _ => ex_assign rfl) fun q_67 hq_66 => ?_
 refine Wd.nil fun w hS => ?_
 refine WQ.next ?_
 refine WC.sub (m := [(4, i6 ((r_54 : Int) * 2 ^ r_60.toNat))]) ⟨rfl, trivial⟩ ?_
 replace hS := hS.f10.drop
 replace hS := hS.f9.drop
 replace hS := hS.f8.drop
 replace hS := hS.f8.drop
 refine WC.ret ?_
 replace hS := hS.f7.f7.f7.f7.f7.f7.f7
 exact leave1 rfl rfl ⟨((r_54 : Int) * 2 ^ r_60.toNat), hV, rfl, hi_65.2.2, hS⟩

theorem S_First {w0 : World} {H : View} {L : Seg} {w : World} {b_2 : Nat} {v_5 : Value} {nodes_4 : N3} {fp_7 : Seg} {v_10 : Value} {free_9 : LI} {fp_12 : Seg} {v_15 : Value} {xby_14 : M3} {fp_17 : Seg} {v_20 : Value} {order_19 : LI} {fp_22 : Seg} {v_25 : Value} {level_24 : LI} {fp_27 : Seg} {v_30 : Value} {memo_29 : M3} {fp_32 : Seg} {f_34 : Int} {Q : (List Bool) → Bool → N3 → LI → M3 → M3 → Prop} (h_6 : OwnSl H (cPair (cInt .i64) (cPair (cInt .i64) (cInt .i64))) 81 v_5 nodes_4 fp_7) (h_11 : OwnSl H (cInt .i64) 32 v_10 free_9 fp_12) (h_16 : OwnMp H kTri (cInt .i64) v_15 xby_14 fp_17) (h_21 : OwnSl H (cInt .i64) 3 v_20 order_19 fp_22) (h_26 : OwnSl H (cInt .i64) 3 v_25 level_24 fp_27) (h_31 : OwnMp H kTri (cInt .i64) v_30 memo_29 fp_32) (hr_35 : I64 f_34) (hS : St w0 H ([(b_2, oc #[v_5, v_10, v_15, v_20, v_25, v_30] 79)] ++ (fp_7 ++ (fp_12 ++ (fp_17 ++ (fp_22 ++ (fp_27 ++ (fp_32 ++ L))))))) w) (hV : V_First nodes_4 free_9 xby_14 order_19 level_24 memo_29 f_34 Q) :
 Calls Try.prog 44 #[(pq b_2), i6 f_34] w fun e w' => ∃ (r1 : List Bool) (r2 : Bool) (r3 : N3) (r4 : LI) (r5 : M3) (r6 : M3) (v1 : Value) (fp1 : Seg) (v3 : Value) (fp3 : Seg) (v4 : Value) (fp4 : Seg) (fp5 : Seg) (fp6 : Seg), Q r1 r2 r3 r4 r5 r6 ∧ e = .returned (.tuple #[v1, .bool r2]) ∧ OwnSl H cBool 4 v1 r1 fp1 ∧ OwnSl H (cPair (cInt .i64) (cPair (cInt .i64) (cInt .i64))) 81 v3 r3 fp3 ∧ OwnSl H (cInt .i64) 32 v4 r4 fp4 ∧ OwnMp H kTri (cInt .i64) v_15 r5 fp5 ∧ OwnMp H kTri (cInt .i64) v_30 r6 fp6 ∧ St w0 H (fp1 ++ ([(b_2, oc #[v3, v4, v_15, v_20, v_25, v_30] 79)] ++ (fp3 ++ (fp4 ++ (fp5 ++ (fp_22 ++ (fp_27 ++ (fp6 ++ L)))))))) w' := by
 unfold V_First at hV
 refine enter Try.func44 rfl Try.ntmps44 rfl (lk_args_cons (d := 0) (v := (pq b_2)) rfl (lk_args_cons (d := 1) (v := i6 f_34) rfl (lk_args_nil _))) ?_
 refine WC.sr ?_
 refine WL.ma rfl rfl ?_
 refine WL.ma rfl rfl ?_
 refine WL.nx ?_
 refine WC.seq ?_
 refine WC.sr ?_
 refine WL.mv rfl rfl ?_
 refine WL.run hS rfl rfl rfl (ex_eql rfl rfl) ?_
 refine WL.nx ?_
 refine WC.cond rfl ?_ ?_
 intro hc_432
 replace hV := hV.1 (of_decide_eq_true hc_432)
 refine WC.sr ?_
 refine WL.ma rfl rfl ?_
 refine WL.ma rfl rfl ?_
 refine WL.nx ?_
 refine WC.ret ?_
 refine WQ.pass nofun ?_
 replace hS := hS.nilseg
 replace hS := hS.f8.f8.f8.f8.f8.f8.f8.f8
 exact leave2 rfl rfl rfl ⟨([] : List Bool), false, nodes_4, free_9, xby_14, memo_29, (.slice none 0 0), ([] : Seg), v_5, fp_7, v_10, fp_12, fp_17, fp_32, hV, rfl, OwnSl.nil, h_6, h_11, h_16, h_31, hS⟩
 intro hc_432
 replace hV := hV.2 (of_decide_eq_false hc_432)
 refine WC.skip ?_
 refine WQ.next ?_
 refine WC.sr ?_
 refine WL.mv rfl rfl ?_
 refine WL.run hS rfl rfl rfl (ex_nilCheck rfl) ?_
 refine WL.run hS rfl rfl rfl (ex_fieldAddr (o' := 3) Try.underlying79 rfl Try.sizeOf27 rfl rfl) ?_
 refine WL.run hS rfl rfl rfl (ex_load_box Try.isAgg27 rfl rfl) ?_
 have hl_39 : Len order_19 := h_21.bound
 replace hV := hV hl_39
 refine WL.run hS rfl rfl rfl (ex_len_own Try.underlying27 rfl h_21) ?_
 obtain ⟨hm_44, hV⟩ := hV
 refine WL.make (c := cBool) (z0 := false) rfl Try.underlying28 Try.info4 rfl rfl rfl rfl hm_44.1 hm_44.2.1 hm_44.2.2 hS ?_
 clear hS
 intro v_41 w fp_42 h_43 hS
 refine WL.ma rfl rfl ?_
 refine WL.nx ?_
 refine WC.sub (m := [(0, (pq b_2)), (1, i6 f_34), (6, v_41)]) ⟨rfl, rfl, rfl, trivial⟩ ?_
 refine WC.seq ?_
 refine WC.sr ?_
 refine WL.mv rfl rfl ?_
 have hl_45 : Len (List.replicate (order_19.length : Int).toNat false) := h_43.bound
 replace hV := hV hl_45
 refine WL.run hS rfl rfl rfl (ex_len_own Try.underlying28 rfl h_43) ?_
 refine WL.mv rfl rfl ?_
 refine WL.nx ?_
 refine WC.block ?_
 replace hS := hS.f8.f8.f8.f8.f8.f8.f8
 obtain ⟨I_309, mu_310, hI_431, hV⟩ := hV
 refine WC.loop (σ := N3 × LI × M3 × M3 × Int × (List Bool) × Int) (fun s a w => ∃ (c_166 : N3) (c_171 : LI) (c_175 : M3) (c_178 : M3) (f_181 : Int) (out_184 : List Bool) (x_188 : Int) (v_167 : Value) (fp_168 : Seg) (v_172 : Value) (fp_173 : Seg) (fp_176 : Seg) (fp_179 : Seg) (v_185 : Value) (fp_186 : Seg), s = (c_166, c_171, c_175, c_178, f_181, out_184, x_188) ∧ I_309 (c_166, c_171, c_175, c_178, f_181, out_184, x_188) ∧ OwnSl H (cPair (cInt .i64) (cPair (cInt .i64) (cInt .i64))) 81 v_167 c_166 fp_168 ∧ OwnSl H (cInt .i64) 32 v_172 c_171 fp_173 ∧ OwnMp H kTri (cInt .i64) v_15 c_175 fp_176 ∧ OwnMp H kTri (cInt .i64) v_30 c_178 fp_179 ∧ I64 f_181 ∧ OwnSl H cBool 4 v_185 out_184 fp_186 ∧ I64 x_188 ∧ St w0 H ([(b_2, oc #[v_167, v_172, v_15, v_20, v_25, v_30] 79)] ++ (fp_168 ++ (fp_173 ++ (fp_176 ++ (fp_22 ++ (fp_27 ++ (fp_179 ++ (fp_186 ++ L)))))))) w ∧ Fr 38 [(0, (pq b_2)), (1, i6 f_181), (6, v_185), (18, i6 ((List.replicate (order_19.length : Int).toNat false).length : Int)), (19, i6 x_188)] a) mu_310 (nodes_4, free_9, xby_14, memo_29, f_34, (List.replicate (order_19.length : Int).toNat false), 0) ?_ ?_
 exact fun a ha => ⟨nodes_4, free_9, xby_14, memo_29, f_34, (List.replicate (order_19.length : Int).toNat false), 0, v_5, fp_7, v_10, fp_12, fp_17, fp_32, v_41, fp_42, rfl, hI_431, h_6, h_11, h_16, h_31, hr_35, h_43, (by unfold I64; omega), hS, ha.of_sub ⟨rfl, rfl, rfl, rfl, rfl, trivial⟩⟩
 clear hS hI_431
 rintro _ a w ⟨c_166, c_171, c_175, c_178, f_181, out_184, x_188, v_167, fp_168, v_172, fp_173, fp_176, fp_179, v_185, fp_186, rfl, hI, h_169, h_174, h_177, h_180, hr_182, h_187, hr_189, hS, ha⟩
 refine in_frame ha ?_
 clear ha
 replace hV := hV _ hI
 clear hI
 refine WC.sr ?_
 refine WL.run hS rfl rfl rfl (ex_lss rfl rfl) ?_
 refine WL.nx ?_
 refine WC.seq ?_
 refine WC.cond rfl ?_ ?_
 intro hc_430
 replace hV := hV.1 (of_decide_eq_true hc_430)
 refine WC.skip ?_
 refine WQ.next ?_
 obtain ⟨J_381, hJ_382, hV⟩ := hV
 refine WC.meet (fun a w => ∃ (c_359 : N3) (c_364 : LI) (c_368 : M3) (c_371 : M3) (f_374 : Int) (out_377 : List Bool) (v_360 : Value) (fp_361 : Seg) (v_365 : Value) (fp_366 : Seg) (fp_369 : Seg) (fp_372 : Seg) (v_378 : Value) (fp_379 : Seg), J_381 (c_359, c_364, c_368, c_371, f_374, out_377) ∧ OwnSl H (cPair (cInt .i64) (cPair (cInt .i64) (cInt .i64))) 81 v_360 c_359 fp_361 ∧ OwnSl H (cInt .i64) 32 v_365 c_364 fp_366 ∧ OwnMp H kTri (cInt .i64) v_15 c_368 fp_369 ∧ OwnMp H kTri (cInt .i64) v_30 c_371 fp_372 ∧ I64 f_374 ∧ OwnSl H cBool 4 v_378 out_377 fp_379 ∧ St w0 H ([(b_2, oc #[v_360, v_365, v_15, v_20, v_25, v_30] 79)] ++ (fp_361 ++ (fp_366 ++ (fp_369 ++ (fp_22 ++ (fp_27 ++ (fp_372 ++ (fp_379 ++ L)))))))) w ∧ Fr 38 [(0, (pq b_2)), (1, i6 f_374), (6, v_378), (18, i6 ((List.replicate (order_19.length : Int).toNat false).length : Int)), (19, i6 x_188)] a) ?_ ?_
 rintro a w ⟨c_359, c_364, c_368, c_371, f_374, out_377, v_360, fp_361, v_365, fp_366, fp_369, fp_372, v_378, fp_379, hI, h_362, h_367, h_370, h_373, hr_375, h_380, hS, ha⟩
 refine in_frame ha ?_
 clear ha hV
 have hV := hJ_382 _ hI
 clear hI hJ_382
 refine WC.region ?_
 obtain ⟨hi_429, hV⟩ := hV
 refine WL.run hS rfl rfl rfl (ex_add rfl rfl hi_429) ?_
 refine WL.mv rfl rfl ?_
 refine WL.nil ?_
 replace hS := hS.f8.f8.f8.f8.f8.f8.f8.f8
 exact WQ.there fun a ha => ⟨(c_359, c_364, c_368, c_371, f_374, out_377, (x_188 + 1)), ⟨c_359, c_364, c_368, c_371, f_374, out_377, (x_188 + 1), v_360, fp_361, v_365, fp_366, fp_369, fp_372, v_378, fp_379, rfl, hV.1, h_362, h_367, h_370, h_373, hr_375, h_380, hi_429, hS, ha.of_sub ⟨rfl, rfl, rfl, rfl, rfl, trivial⟩⟩, hV.2⟩
 clear hJ_382
 refine WC.block ?_
 refine WC.sr ?_
 refine WL.mv rfl rfl ?_
 refine WL.ma rfl rfl ?_
 refine WL.nx ?_
 refine WC.sr ?_
 refine WL.mv rfl rfl ?_
 refine WL.mv rfl rfl ?_
 refine WL.mv rfl rfl ?_
 replace hS := hS.f7.f7.f7.f7.f7.f7.f7
 refine WL.call rfl rfl rfl (enters0 (vs := [(pq b_2), i6 f_181, i6 x_188, i6 0]) Try.call38 ⟨rfl, rfl, rfl, rfl, trivial⟩) (S_Let  h_169 h_174 h_177 h_21 h_26 h_180 hr_182 hr_189 (by unfold I64; omega) hS hV) ?_
 clear hV hS
 rintro _ w ⟨r_383, c_385, c_389, m_393, m_396, v_386, fp_387, v_390, fp_391, fp_394, fp_397, hV, rfl, hr_384, h_388, h_392, h_395, h_398, hS⟩
 refine ⟨_, rfl, ?_⟩
 refine WL.ma rfl rfl ?_
 refine WL.nx ?_
 refine WC.sr ?_
 refine WL.mv rfl rfl ?_
 refine WL.run hS rfl rfl rfl (ex_neq rfl rfl) ?_
 refine WL.nx ?_
 refine WC.cond rfl ?_ ?_
 intro hc_427
 replace hV := hV.1 (of_decide_eq_true hc_427)
 refine WC.region ?_
 refine WL.mv rfl rfl ?_
 refine WL.ma rfl rfl ?_
 refine WL.nil ?_
 refine WQ.out nofun ?_
 replace hS := hS.f8.f8.f8.f8.f8.f8.f8.f8
 exact WQ.there fun a ha => ⟨c_385, c_389, m_393, m_396, r_383, out_184, v_386, fp_387, v_390, fp_391, fp_394, fp_397, v_185, fp_186, hV, h_388, h_392, h_395, h_398, hr_384, h_187, hS, ha.of_sub ⟨rfl, rfl, rfl, rfl, rfl, trivial⟩⟩
 intro hc_427
 replace hV := hV.2 (of_decide_eq_false hc_427)
 refine WC.sr ?_
 refine WL.mv rfl rfl ?_
 refine WL.mv rfl rfl ?_
 obtain ⟨hin_403, hV⟩ := hV
 refine WL.runx hS rfl rfl rfl (ex_index_own Try.underlying28 Try.sizeOf4 rfl rfl h_187 hin_403) ?_
 intro p_404 hp_405
 replace hS := hS.f8
 refine WL.store_own Try.sizeOf4 rfl rfl rfl cBool_mk hS h_187 hp_405 hin_403 ?_
 clear hS
 intro w fp_407 h_406 hS
 refine WL.nx ?_
 refine WC.sub (m := [(0, (pq b_2)), (1, i6 f_181), (6, v_185), (7, i6 x_188), (18, i6 ((List.replicate (order_19.length : Int).toNat false).length : Int)), (19, i6 x_188)]) ⟨rfl, rfl, rfl, rfl, rfl, rfl, trivial⟩ ?_
 refine WC.region ?_
 refine WL.mv rfl rfl ?_
 refine WL.mv rfl rfl ?_
 refine WL.mv rfl rfl ?_
 replace hS := hS.f8.f8.f8.f8.f8.f8.f8
 refine WL.call rfl rfl rfl (enters0 (vs := [(pq b_2), i6 f_181, i6 x_188, i6 1]) Try.call38 ⟨rfl, rfl, rfl, rfl, trivial⟩) (S_Let  h_388 h_392 h_395 h_21 h_26 h_398 hr_182 hr_189 (by unfold I64; omega) hS hV) ?_
 clear hV hS
 rintro _ w ⟨r_408, c_410, c_414, m_418, m_421, v_411, fp_412, v_415, fp_416, fp_419, fp_422, hV, rfl, hr_409, h_413, h_417, h_420, h_423, hS⟩
 refine ⟨_, rfl, ?_⟩
 refine WL.ma rfl rfl ?_
 refine WL.nil ?_
 refine WQ.out nofun ?_
 replace hS := hS.f8.f8.f8.f8.f8.f8.f8.f8
 exact WQ.there fun a ha => ⟨c_410, c_414, m_418, m_421, r_408, (out_184.set x_188.toNat true), v_411, fp_412, v_415, fp_416, fp_419, fp_422, v_185, fp_407, hV, h_413, h_417, h_420, h_423, hr_409, h_406, hS, ha.of_sub ⟨rfl, rfl, rfl, rfl, rfl, trivial⟩⟩
 intro hc_430
 replace hV := hV.2 (of_decide_eq_false hc_430)
 refine WC.exit ?_
 refine WQ.pass nofun ?_
 refine WQ.pass nofun ?_
 refine WQ.hit ?_
 refine WQ.next ?_
 refine WC.sr ?_
 refine WL.mv rfl rfl ?_
 refine WL.ma rfl rfl ?_
 refine WL.ma rfl rfl ?_
 refine WL.nx ?_
 refine WC.ret ?_
 replace hS := hS.f7.f7.f7.f7.f7.f7.f7.f8
 exact leave2 rfl rfl rfl ⟨out_184, true, c_166, c_171, c_175, c_178, v_185, fp_186, v_167, fp_168, v_172, fp_173, fp_176, fp_179, hV, rfl, h_187, h_169, h_174, h_177, h_180, hS⟩

theorem S_Keep1 {w0 : World} {H : View} {L : Seg} {w : World} {n_1 : Int} {b_4 : Nat} {v_7 : Value} {c_3_6 : M1} {fp_9 : Seg} {Q : Bool → Prop} (hr_2 : I64 n_1) (h_8 : OwnMp H kInt (cInt .i64) v_7 c_3_6 fp_9) (hS : St w0 H ([(b_4, oc #[v_7] 87)] ++ (fp_9 ++ L)) w) (hV : V_Keep1 n_1 c_3_6 Q) :
 Calls Try.prog 62 #[i6 n_1, (pq b_4)] w fun e w' => ∃ (r1 : Bool), Q r1 ∧ e = .returned (.bool r1) ∧ St w0 H ([(b_4, oc #[v_7] 87)] ++ (fp_9 ++ L)) w' := by
 unfold V_Keep1 at hV
 refine enter Try.func62 rfl Try.ntmps62 rfl (lk_args_cons (d := 0) (v := i6 n_1) rfl (lk_args_cons (d := 1) (v := (pq b_4)) rfl (lk_args_nil _))) ?_
 refine WC.sr ?_
 refine WL.ma rfl rfl ?_
 refine WL.nx ?_
 refine WC.sr ?_
 refine WL.run hS rfl rfl rfl (ex_load_box Try.isAgg87 rfl rfl) ?_
 refine WL.mv rfl rfl ?_
 replace hS := hS.f2
 refine WL.runx hS rfl rfl rfl (exNow (H := H) (L := [(b_4, oc #[v_7] 87)] ++ L) (ex_lookup (c := (cInt .i64)) (k := n_1) (d := 0) Try.underlying87 Try.key32 Try.zeroValue3 ⟨rfl, I64.has (by unfold I64; omega)⟩ rfl rfl h_8)) ?_
 intro u_11 hu_12
 obtain ⟨rfl, hr_13⟩ := cInt_rep hu_12
 replace hr_13 := has_I64 hr_13
 replace hV := hV hr_13
 refine WL.run hS rfl rfl rfl (ex_eql rfl rfl) ?_
 refine WL.ma rfl rfl ?_
 refine WL.nx ?_
 refine WC.ret ?_
 replace hS := hS.f2
 exact leave1 rfl rfl ⟨decide ((mgetD c_3_6 n_1 0) = 0), hV, rfl, hS⟩

theorem S_Sift2 {w0 : World} {H : View} {L : Seg} {w : World} {n_1 : Int} {b_4 : Nat} {v_7 : Value} {c_3_6 : M1} {fp_9 : Seg} {Q : Bool → Prop} (hr_2 : I64 n_1) (h_8 : OwnMp H kInt (cInt .i64) v_7 c_3_6 fp_9) (hS : St w0 H ([(b_4, oc #[v_7] 87)] ++ (fp_9 ++ L)) w) (hV : V_Sift2 n_1 c_3_6 Q) :
 Calls Try.prog 58 #[i6 n_1, (pq b_4)] w fun e w' => ∃ (r1 : Bool), Q r1 ∧ e = .returned (.bool r1) ∧ St w0 H ([(b_4, oc #[v_7] 87)] ++ (fp_9 ++ L)) w' := by
 unfold V_Sift2 at hV
 refine enter Try.func58 rfl Try.ntmps58 rfl (lk_args_cons (d := 0) (v := i6 n_1) rfl (lk_args_cons (d := 1) (v := (pq b_4)) rfl (lk_args_nil _))) ?_
 refine WC.sr ?_
 refine WL.ma rfl rfl ?_
 refine WL.nx ?_
 refine WC.sr ?_
 refine WL.run hS rfl rfl rfl (ex_load_box Try.isAgg87 rfl rfl) ?_
 refine WL.mv rfl rfl ?_
 replace hS := hS.f2
 refine WL.runx hS rfl rfl rfl (exNow (H := H) (L := [(b_4, oc #[v_7] 87)] ++ L) (ex_lookup (c := (cInt .i64)) (k := n_1) (d := 0) Try.underlying87 Try.key32 Try.zeroValue3 ⟨rfl, I64.has (by unfold I64; omega)⟩ rfl rfl h_8)) ?_
 intro u_11 hu_12
 obtain ⟨rfl, hr_13⟩ := cInt_rep hu_12
 replace hr_13 := has_I64 hr_13
 replace hV := hV hr_13
 refine WL.run hS rfl rfl rfl (ex_eql rfl rfl) ?_
 refine WL.ma rfl rfl ?_
 refine WL.nx ?_
 refine WC.ret ?_
 replace hS := hS.f2
 exact leave1 rfl rfl ⟨decide ((mgetD c_3_6 n_1 0) = 0), hV, rfl, hS⟩

theorem S_forgetK {w0 : World} {H : View} {L : Seg} {w : World} {b_2 : Nat} {v_5 : Value} {nodes_4 : N3} {fp_7 : Seg} {v_10 : Value} {free_9 : LI} {fp_12 : Seg} {v_15 : Value} {xby_14 : M3} {fp_17 : Seg} {v_20 : Value} {order_19 : LI} {fp_22 : Seg} {v_25 : Value} {level_24 : LI} {fp_27 : Seg} {v_30 : Value} {memo_29 : M3} {fp_32 : Seg} {b_36 : Nat} {v_39 : Value} {c_35_38 : M1} {fp_41 : Seg} {Q : LI → M3 → M3 → Prop} (h_6 : OwnSl H (cPair (cInt .i64) (cPair (cInt .i64) (cInt .i64))) 81 v_5 nodes_4 fp_7) (h_11 : OwnSl H (cInt .i64) 32 v_10 free_9 fp_12) (h_16 : OwnMp H kTri (cInt .i64) v_15 xby_14 fp_17) (h_21 : OwnSl H (cInt .i64) 3 v_20 order_19 fp_22) (h_26 : OwnSl H (cInt .i64) 3 v_25 level_24 fp_27) (h_31 : OwnMp H kTri (cInt .i64) v_30 memo_29 fp_32) (h_40 : OwnMp H kInt (cInt .i64) v_39 c_35_38 fp_41) (hS : St w0 H ([(b_2, oc #[v_5, v_10, v_15, v_20, v_25, v_30] 79)] ++ (fp_7 ++ (fp_12 ++ (fp_17 ++ (fp_22 ++ (fp_27 ++ (fp_32 ++ ([(b_36, oc #[v_39] 87)] ++ (fp_41 ++ L))))))))) w) (hV : V_forgetK nodes_4 free_9 xby_14 order_19 level_24 memo_29 c_35_38 Q) :
 Calls Try.prog 57 #[(pq b_2), .func (.func 62) #[] #[(pq b_36)]] w fun e w' => ∃ (r1 : LI) (r2 : M3) (r3 : M3) (v1 : Value) (fp1 : Seg) (fp2 : Seg) (fp3 : Seg), Q r1 r2 r3 ∧ e = .returned (.tuple #[]) ∧ OwnSl H (cInt .i64) 32 v1 r1 fp1 ∧ OwnMp H kTri (cInt .i64) v_15 r2 fp2 ∧ OwnMp H kTri (cInt .i64) v_30 r3 fp3 ∧ St w0 H ([(b_2, oc #[v_5, v1, v_15, v_20, v_25, v_30] 79)] ++ (fp_7 ++ (fp1 ++ (fp2 ++ (fp_22 ++ (fp_27 ++ (fp3 ++ ([(b_36, oc #[v_39] 87)] ++ (fp_41 ++ L))))))))) w' := by
 unfold V_forgetK at hV
 refine enter Try.func57 rfl Try.ntmps57 rfl (lk_args_cons (d := 0) (v := (pq b_2)) rfl (lk_args_cons (d := 1) (v := .func (.func 62) #[] #[(pq b_36)]) rfl (lk_args_nil _))) ?_
 refine WC.seq ?_
 refine WC.sr ?_
 refine WL.mv rfl rfl ?_
 refine WL.run hS rfl rfl rfl (ex_nilCheck rfl) ?_
 refine WL.run hS rfl rfl rfl (ex_fieldAddr (o' := 2) Try.underlying79 rfl Try.sizeOf76 rfl rfl) ?_
 refine WL.run hS rfl rfl rfl (ex_load_box Try.isAgg76 rfl rfl) ?_
 replace hS := hS.f4
 refine WL.range rfl Try.underlying76 rfl hS h_16 ?_
 clear hS
 intro b_43 w fp_44 h_45 hS
 refine WL.nx ?_
 refine WC.block ?_
 replace hS := hS.f10.f10.f10.f10.f10.f7.f10.f10.f10
 obtain ⟨I_113, mu_114, hI_363, hV⟩ := hV
 refine WC.loop (σ := M3 × N3) (fun s a w => ∃ (c_77 : M3) (sn_80 : N3) (fp_78 : Seg) (fp_81 : Seg), s = (c_77, sn_80) ∧ I_113 (c_77, sn_80) ∧ OwnMp H kTri (cInt .i64) v_15 c_77 fp_78 ∧ ItOk kTri fp_78 ((pq b_43)) fp_81 sn_80 ∧ St w0 H ([(b_2, oc #[v_5, v_10, v_15, v_20, v_25, v_30] 79)] ++ (fp_7 ++ (fp_12 ++ (fp_78 ++ (fp_22 ++ (fp_27 ++ (fp_32 ++ ([(b_36, oc #[v_39] 87)] ++ (fp_41 ++ (fp_81 ++ L)))))))))) w ∧ Fr 83 [(0, (pq b_2)), (1, .func (.func 62) #[] #[(pq b_36)]), (14, (pq b_43))] a) mu_114 (xby_14, ([] : N3)) ?_ ?_
 exact fun a ha => ⟨xby_14, ([] : N3), fp_17, fp_44, rfl, hI_363, h_16, h_45, hS, ha.of_sub ⟨rfl, rfl, rfl, trivial⟩⟩
 clear hS hI_363
 rintro _ a w ⟨c_77, sn_80, fp_78, fp_81, rfl, hI, h_79, h_82, hS, ha⟩
 refine in_frame ha ?_
 clear ha
 replace hV := hV _ hI
 clear hI
 refine WC.sr ?_
 replace hS := hS.f4.f10
 refine WL.next (sn := sn_80) rfl rfl rfl hS h_79 h_82 ?_ ?_
 clear hS
 intro hh_116 w hS
 replace hV := hV.1 hh_116
 refine WL.run hS rfl rfl rfl (ex_extract rfl rfl) ?_
 refine WL.nx ?_
 refine WC.seq ?_
 refine WC.cond_false rfl ?_
 refine WC.exit ?_
 refine WQ.pass nofun ?_
 refine WQ.pass nofun ?_
 refine WQ.hit ?_
 refine WQ.next ?_
 replace hS := hS.drop
 refine WC.sr ?_
 refine WL.mv rfl rfl ?_
 refine WL.run hS rfl rfl rfl (ex_nilCheck rfl) ?_
 refine WL.run hS rfl rfl rfl (ex_fieldAddr (o' := 5) Try.underlying79 rfl Try.sizeOf77 rfl rfl) ?_
 replace hS := hS.f2
 refine WL.run hS rfl rfl rfl (ex_load_box Try.isAgg77 rfl rfl) ?_
 replace hS := hS.f7
 refine WL.clearmap Try.underlying77 rfl hS h_31 ?_
 clear hS
 intro w fp_117 h_118 hS
 refine WL.nx ?_
 refine WC.sr ?_
 refine WL.mv rfl rfl ?_
 refine WL.mv rfl rfl ?_
 refine WL.run hS rfl rfl rfl (ex_nilCheck rfl) ?_
 refine WL.run hS rfl rfl rfl (ex_fieldAddr (o' := 1) Try.underlying79 rfl Try.sizeOf35 rfl rfl) ?_
 replace hS := hS.f2
 refine WL.run hS rfl rfl rfl (ex_load_box Try.isAgg35 rfl rfl) ?_
 obtain ⟨hb_119, hV⟩ := hV
 refine WL.runx hS rfl rfl rfl (ex_slice_hi_own2 Try.underlying35 Try.sizeOf32 rfl rfl h_11 hb_119) ?_
 rintro v_120 ⟨h_121, ht_122⟩
 refine WL.run hS rfl rfl rfl (ex_nilCheck rfl) ?_
 refine WL.run hS rfl rfl rfl (ex_fieldAddr (o' := 1) Try.underlying79 rfl Try.sizeOf35 rfl rfl) ?_
 refine WL.store_box (pre := [v_5]) (old := [v_10]) (rst := [v_15, v_20, v_25, v_30]) (cs := [v_120]) (arr' := #[v_5, v_120, v_15, v_20, v_25, v_30]) Try.sizeOf35 rfl rfl (congrArg Array.toList (cells_one (OwnSl.one ht_122))) ⟨(OwnSl.one ht_122), trivial⟩ rfl rfl rfl rfl hS ?_
 clear hS
 intro w hS
 refine WL.nx ?_
 refine WC.sub (m := [(0, (pq b_2))]) ⟨rfl, trivial⟩ ?_
 refine WC.sr ?_
 refine WL.mv rfl rfl ?_
 refine WL.run hS rfl rfl rfl (ex_nilCheck rfl) ?_
 refine WL.run hS rfl rfl rfl (ex_fieldAddr (o' := 0) Try.underlying79 rfl Try.sizeOf75 rfl rfl) ?_
 refine WL.run hS rfl rfl rfl (ex_load_box Try.isAgg75 rfl rfl) ?_
 have hl_124 : Len nodes_4 := h_6.bound
 replace hV := hV hl_124
 refine WL.run hS rfl rfl rfl (ex_len_own Try.underlying75 rfl h_6) ?_
 obtain ⟨hm_129, hV⟩ := hV
 refine WL.make (c := cBool) (z0 := false) rfl Try.underlying28 Try.info4 rfl rfl rfl rfl hm_129.1 hm_129.2.1 hm_129.2.2 hS ?_
 clear hS
 intro v_126 w fp_127 h_128 hS
 refine WL.ma rfl rfl ?_
 refine WL.nx ?_
 refine WC.seq ?_
 refine WC.sr ?_
 refine WL.mv rfl rfl ?_
 refine WL.run hS rfl rfl rfl (ex_nilCheck rfl) ?_
 refine WL.run hS rfl rfl rfl (ex_fieldAddr (o' := 2) Try.underlying79 rfl Try.sizeOf76 rfl rfl) ?_
 replace hS := hS.f2
 refine WL.run hS rfl rfl rfl (ex_load_box Try.isAgg76 rfl rfl) ?_
 replace hS := hS.f4
 refine WL.range rfl Try.underlying76 rfl hS h_79 ?_
 clear hS
 intro b_130 w fp_131 h_132 hS
 refine WL.nx ?_
 refine WC.sub (m := [(0, (pq b_2)), (6, v_126), (50, (pq b_130))]) ⟨rfl, rfl, rfl, trivial⟩ ?_
 refine WC.block ?_
 replace hS := hS.f11.f11.f3.f6.f7.f11.f11.f8.f11.f11.f11
 obtain ⟨I_176, mu_177, hI_333, hV⟩ := hV
 refine WC.loop (σ := (List Bool) × N3) (fun s a w => ∃ (used_152 : List Bool) (sn_156 : N3) (v_153 : Value) (fp_154 : Seg) (fp_157 : Seg), s = (used_152, sn_156) ∧ I_176 (used_152, sn_156) ∧ OwnSl H cBool 4 v_153 used_152 fp_154 ∧ ItOk kTri fp_78 ((pq b_130)) fp_157 sn_156 ∧ St w0 H ([(b_2, oc #[v_5, v_120, v_15, v_20, v_25, v_30] 79)] ++ (fp_7 ++ (fp_12 ++ (fp_78 ++ (fp_22 ++ (fp_27 ++ (fp_117 ++ (fp_154 ++ (fp_157 ++ ([(b_36, oc #[v_39] 87)] ++ (fp_41 ++ L))))))))))) w ∧ Fr 83 [(0, (pq b_2)), (6, v_153), (50, (pq b_130))] a) mu_177 ((List.replicate (nodes_4.length : Int).toNat false), ([] : N3)) ?_ ?_
 exact fun a ha => ⟨(List.replicate (nodes_4.length : Int).toNat false), ([] : N3), v_126, fp_127, fp_131, rfl, hI_333, h_128, h_132, hS, ha.of_sub ⟨rfl, rfl, rfl, trivial⟩⟩
 clear hS hI_333
 rintro _ a w ⟨used_152, sn_156, v_153, fp_154, fp_157, rfl, hI, h_155, h_158, hS, ha⟩
 refine in_frame ha ?_
 clear ha
 replace hV := hV _ hI
 clear hI
 refine WC.sr ?_
 replace hS := hS.f4.f9
 refine WL.next (sn := sn_156) rfl rfl rfl hS h_79 h_158 ?_ ?_
 clear hS
 intro hh_179 w hS
 replace hV := hV.1 hh_179
 refine WL.run hS rfl rfl rfl (ex_extract rfl rfl) ?_
 refine WL.nx ?_
 refine WC.seq ?_
 refine WC.cond_false rfl ?_
 refine WC.exit ?_
 refine WQ.pass nofun ?_
 refine WQ.pass nofun ?_
 refine WQ.hit ?_
 refine WQ.next ?_
 replace hS := hS.drop
 refine WC.sr ?_
 refine WL.mv rfl rfl ?_
 refine WL.run hS rfl rfl rfl (ex_nilCheck rfl) ?_
 refine WL.run hS rfl rfl rfl (ex_fieldAddr (o' := 0) Try.underlying79 rfl Try.sizeOf75 rfl rfl) ?_
 replace hS := hS.f2
 refine WL.run hS rfl rfl rfl (ex_load_box Try.isAgg75 rfl rfl) ?_
 have hl_180 : Len nodes_4 := h_6.bound
 replace hV := hV hl_180
 refine WL.run hS rfl rfl rfl (ex_len_own Try.underlying75 rfl h_6) ?_
 obtain ⟨hi_182, hV⟩ := hV
 refine WL.run hS rfl rfl rfl (ex_sub rfl rfl hi_182) ?_
 refine WL.ma rfl rfl ?_
 refine WL.nx ?_
 refine WC.block ?_
 replace hS := hS.f10.f10.f10.f10.f10.f10.f8.f10.f10.f10
 obtain ⟨I_272, mu_273, hI_316, hV⟩ := hV
 refine WC.loop (σ := LI × Int) (fun s a w => ∃ (c_225 : LI) (n_229 : Int) (v_226 : Value) (fp_227 : Seg), s = (c_225, n_229) ∧ I_272 (c_225, n_229) ∧ OwnSl H (cInt .i64) 32 v_226 c_225 fp_227 ∧ I64 n_229 ∧ St w0 H ([(b_2, oc #[v_5, v_226, v_15, v_20, v_25, v_30] 79)] ++ (fp_7 ++ (fp_227 ++ (fp_78 ++ (fp_22 ++ (fp_27 ++ (fp_117 ++ (fp_154 ++ ([(b_36, oc #[v_39] 87)] ++ (fp_41 ++ L)))))))))) w ∧ Fr 83 [(0, (pq b_2)), (6, v_153), (9, i6 n_229)] a) mu_273 ((free_9.take (0 : Int).toNat), ((nodes_4.length : Int) - 1)) ?_ ?_
 exact fun a ha => ⟨(free_9.take (0 : Int).toNat), ((nodes_4.length : Int) - 1), v_120, fp_12, rfl, hI_316, ht_122, hi_182, hS, ha.of_sub ⟨rfl, rfl, rfl, trivial⟩⟩
 clear hS hI_316
 rintro _ a w ⟨c_225, n_229, v_226, fp_227, rfl, hI, h_228, hr_230, hS, ha⟩
 refine in_frame ha ?_
 clear ha
 replace hV := hV _ hI
 clear hI
 refine WC.seq ?_
 refine WC.sr ?_
 refine WL.mv rfl rfl ?_
 refine WL.run hS rfl rfl rfl (ex_gtr rfl rfl) ?_
 refine WL.nx ?_
 refine WC.cond rfl ?_ ?_
 intro hc_315
 replace hV := hV.1 (of_decide_eq_true hc_315)
 refine WC.skip ?_
 refine WQ.next ?_
 obtain ⟨J_296, hJ_297, hV⟩ := hV
 refine WC.meet (fun a w => ∃ (c_292 : LI) (v_293 : Value) (fp_294 : Seg), J_296 c_292 ∧ OwnSl H (cInt .i64) 32 v_293 c_292 fp_294 ∧ St w0 H ([(b_2, oc #[v_5, v_293, v_15, v_20, v_25, v_30] 79)] ++ (fp_7 ++ (fp_294 ++ (fp_78 ++ (fp_22 ++ (fp_27 ++ (fp_117 ++ (fp_154 ++ ([(b_36, oc #[v_39] 87)] ++ (fp_41 ++ L)))))))))) w ∧ Fr 83 [(0, (pq b_2)), (6, v_153), (9, i6 n_229)] a) ?_ ?_
 rintro a w ⟨c_292, v_293, fp_294, hI, h_295, hS, ha⟩
 refine in_frame ha ?_
 clear ha hV
 have hV := hJ_297 _ hI
 clear hI hJ_297
 refine WC.region ?_
 refine WL.mv rfl rfl ?_
 obtain ⟨hi_314, hV⟩ := hV
 refine WL.run hS rfl rfl rfl (ex_sub rfl rfl hi_314) ?_
 refine WL.ma rfl rfl ?_
 refine WL.nil ?_
 replace hS := hS.f10.f10.f10.f10.f10.f10.f10.f10.f10.f10
 exact WQ.there fun a ha => ⟨(c_292, (n_229 - 1)), ⟨c_292, (n_229 - 1), v_293, fp_294, rfl, hV.1, h_295, hi_314, hS, ha.of_sub ⟨rfl, rfl, rfl, trivial⟩⟩, hV.2⟩
 clear hJ_297
 refine WC.block ?_
 refine WC.sr ?_
 refine WL.mv rfl rfl ?_
 refine WL.mv rfl rfl ?_
 obtain ⟨hin_298, hV⟩ := hV
 refine WL.runx hS rfl rfl rfl (ex_index_own Try.underlying28 Try.sizeOf4 rfl rfl h_155 hin_298) ?_
 intro p_299 hp_300
 replace hS := hS.f8
 refine WL.runx hS rfl rfl rfl (exNow (H := H) (L := [(b_2, oc #[v_5, v_226, v_15, v_20, v_25, v_30] 79)] ++ (fp_7 ++ (fp_227 ++ (fp_78 ++ (fp_22 ++ (fp_27 ++ (fp_117 ++ ([(b_36, oc #[v_39] 87)] ++ (fp_41 ++ L))))))))) (ex_load_own_s Try.isAgg4 rfl rfl h_155 hp_300 hin_298)) ?_
 intro u_301 hu_302
 obtain rfl := cBool_rep hu_302
 refine WL.run hS rfl rfl rfl (ex_not rfl) ?_
 refine WL.nx ?_
 refine WC.cond rfl ?_ ?_
 intro hc_312
 replace hV := hV.1 hc_312
 refine WC.region ?_
 refine WL.mv rfl rfl ?_
 refine WL.mv rfl rfl ?_
 refine WL.run hS rfl rfl rfl (ex_nilCheck rfl) ?_
 refine WL.run hS rfl rfl rfl (ex_fieldAddr (o' := 1) Try.underlying79 rfl Try.sizeOf35 rfl rfl) ?_
 replace hS := hS.f2
 refine WL.run hS rfl rfl rfl (ex_load_box Try.isAgg35 rfl rfl) ?_
 refine WL.mv rfl rfl ?_
 refine WL.build1 (c := (cInt .i64)) rfl Try.underlying35 Try.info32 rfl rfl (cInt_mk (I64.has hr_230)) hS ?_
 clear hS
 intro v_304 w fp_305 h_306 hS
 obtain ⟨hr_307, hV⟩ := hV
 replace hS := hS.f5
 refine WL.append (c := (cInt .i64)) (xs := c_225) (ys := ([n_229])) rfl Try.underlying35 Try.info32 rfl rfl rfl hS h_228 (h_306.src hS.f2) hr_307.1 hr_307.2 ?_
 clear hS
 intro v_308 w fp_309 h_310 hS
 refine WL.run hS rfl rfl rfl (ex_nilCheck rfl) ?_
 refine WL.run hS rfl rfl rfl (ex_fieldAddr (o' := 1) Try.underlying79 rfl Try.sizeOf35 rfl rfl) ?_
 replace hS := hS.f3
 refine WL.store_box (pre := [v_5]) (old := [v_226]) (rst := [v_15, v_20, v_25, v_30]) (cs := [v_308]) (arr' := #[v_5, v_308, v_15, v_20, v_25, v_30]) Try.sizeOf35 rfl rfl (congrArg Array.toList (cells_one (OwnSl.one h_310))) ⟨(OwnSl.one h_310), trivial⟩ rfl rfl rfl rfl hS ?_
 clear hS
 intro w hS
 refine WL.nil ?_
 refine WQ.out nofun ?_
 replace hS := hS.f3.drop
 replace hS := hS.f10.f10.f5.f10.f10.f10.f10.f9.f10.f10
 exact WQ.there fun a ha => ⟨(c_225 ++ ([n_229])), v_308, fp_309, hV, h_310, hS, ha.of_sub ⟨rfl, rfl, rfl, trivial⟩⟩
 intro hc_312
 replace hV := hV.2 hc_312
 refine WC.skip ?_
 refine WQ.out nofun ?_
 replace hS := hS.f10.f10.f3.f10.f10.f10.f10.f10.f10.f10
 exact WQ.there fun a ha => ⟨c_225, v_226, fp_227, hV, h_228, hS, ha.of_sub ⟨rfl, rfl, rfl, trivial⟩⟩
 intro hc_315
 replace hV := hV.2 (of_decide_eq_false hc_315)
 refine WC.exit ?_
 refine WQ.pass nofun ?_
 refine WQ.pass nofun ?_
 refine WQ.hit ?_
 replace hS := hS.f8.drop
 replace hS := hS.f9.f9.f9.f9.f9.f9.f9.f9.f9
 exact leave0 (.inr rfl) rfl ⟨c_225, c_77, ([] : M3), v_226, fp_227, fp_78, fp_117, hV, rfl, h_228, h_79, h_118, hS⟩
 clear hS
 intro k_317 e_318 u_319 w fp_320 h_321 h_322 h_323 h_324 h_325 h_326 hS
 obtain ⟨rfl, hr_327⟩ := cInt_rep h_324
 replace hr_327 := has_I64 hr_327
 replace hV := hV.2 k_317 e_318 h_321 h_322 h_323 hr_327
 refine WL.run hS rfl rfl rfl (ex_extract rfl rfl) ?_
 refine WL.nx ?_
 refine WC.seq ?_
 refine WC.cond_true rfl ?_
 refine WC.skip ?_
 refine WQ.next ?_
 refine WC.block ?_
 refine WC.sr ?_
 replace hS := hS.f2.f2
 refine WL.run hS rfl rfl rfl (ex_entry (H := H) rfl h_325 h_326) ?_
 refine WL.run hS rfl rfl rfl (ex_extract rfl rfl) ?_
 refine WL.ma rfl rfl ?_
 refine WL.nx ?_
 refine WC.region ?_
 refine WL.mv rfl rfl ?_
 refine WL.mv rfl rfl ?_
 obtain ⟨hin_328, hV⟩ := hV
 refine WL.runx hS rfl rfl rfl (ex_index_own Try.underlying28 Try.sizeOf4 rfl rfl h_155 hin_328) ?_
 intro p_329 hp_330
 replace hS := hS.f9
 refine WL.store_own Try.sizeOf4 rfl rfl rfl cBool_mk hS h_155 hp_330 hin_328 ?_
 clear hS
 intro w fp_332 h_331 hS
 refine WL.nil ?_
 refine WQ.out nofun ?_
 replace hS := hS.f11.f11.f4.f4.f11.f11.f11.f8.f11.f11.f11
 exact WQ.there fun a ha => ⟨((used_152.set e_318.toNat true), (k_317 :: sn_156)), ⟨(used_152.set e_318.toNat true), (k_317 :: sn_156), v_153, fp_332, fp_320, rfl, hV.1, h_331, h_325, hS, ha.of_sub ⟨rfl, rfl, rfl, trivial⟩⟩, hV.2⟩
 clear hS
 intro k_334 e_335 u_336 w fp_337 h_338 h_339 h_340 h_341 h_342 h_343 hS
 obtain ⟨rfl, hr_344⟩ := cInt_rep h_341
 replace hr_344 := has_I64 hr_344
 replace hV := hV.2 k_334 e_335 h_338 h_339 h_340 hr_344
 refine WL.run hS rfl rfl rfl (ex_extract rfl rfl) ?_
 refine WL.nx ?_
 refine WC.seq ?_
 refine WC.cond_true rfl ?_
 refine WC.skip ?_
 refine WQ.next ?_
 refine WC.block ?_
 refine WC.sr ?_
 replace hS := hS.f2.f2
 refine WL.run hS rfl rfl rfl (ex_entry (H := H) rfl h_342 h_343) ?_
 refine WL.run hS rfl rfl rfl (ex_extract rfl rfl) ?_
 refine WL.run hS rfl rfl rfl (ex_extract rfl rfl) ?_
 refine WL.alloc (arr := #[i6 0, i6 0, i6 0]) rfl Try.zeroValue81 rfl hS ?_
 clear hS
 intro b_345 w hS
 refine WL.store_box (pre := []) (old := [i6 0, i6 0, i6 0]) (rst := []) (cs := [i6 k_334.1, i6 k_334.2.1, i6 k_334.2.2]) (arr' := #[i6 k_334.1, i6 k_334.2.1, i6 k_334.2.2]) Try.sizeOf81 rfl rfl rfl ⟨rfl, rfl, rfl, trivial⟩ rfl rfl rfl rfl hS ?_
 clear hS
 intro w hS
 refine WL.ma rfl rfl ?_
 refine WL.nx ?_
 refine WC.sr ?_
 refine WL.mv rfl rfl ?_
 refine WL.mv rfl rfl ?_
 replace hS := hS.f11.f11
 refine WL.call rfl rfl rfl (enters_c (vs := [i6 e_335]) (caps := [(pq b_36)]) rfl Try.call62 ⟨rfl, trivial⟩) (S_Keep1  hr_344 h_40 hS hV) ?_
 clear hV hS
 rintro _ w ⟨r_347, hV, rfl, hS⟩
 refine ⟨_, rfl, ?_⟩
 refine WL.nx ?_
 refine WC.cond rfl ?_ ?_
 intro hc_362
 replace hV := hV.1 hc_362
 refine WC.drawn (σ := [0, 1, 2, 3, 4, 5]) (C := St w0 H ([(b_36, oc #[v_39] 87)] ++ (fp_41 ++ ([(b_345, oc #[i6 k_334.1, i6 k_334.2.1, i6 k_334.2.2] 81)] ++ (fp_337 ++ (fp_78 ++ ([(b_2, oc #[v_5, v_10, v_15, v_20, v_25, v_30] 79)] ++ (fp_7 ++ (fp_12 ++ (fp_22 ++ (fp_27 ++ (fp_32 ++ L)))))))))))) [[], [0], [0, 1], [0, 1, 2], [], [0, 1, 2, 3, 4]] [5] Try.mixed (by kernel_rfl) (hS.drawn _) ?_
 clear hS w
 refine Wd.run rfl rfl rfl rfl (fun _ => ex_move rfl) fun q_350 hq_349 => ?_
 refine Wd.run rfl rfl rfl rfl (fun _ => ex_nilCheck rfl) fun q_352 hq_351 => ?_
 refine Wd.run rfl rfl rfl rfl (fun _ => ex_fieldAddr (o' := 2) Try.underlying79 rfl Try.sizeOf76 rfl rfl) fun q_354 hq_353 => ?_
 refine Wd.runb (off := 2) rfl rfl rfl rfl (fun _ _ _ h => ex_load_box Try.isAgg76 rfl h) rfl (fun _ h => St.f6 h) fun q_356 hq_355 => ?_
 refine Wd.runbs (off := 0) (k := 3) (cs := [i6 k_334.1, i6 k_334.2.1, i6 k_334.2.2]) rfl rfl rfl rfl (fun _ _ _ h => ex_load_box_agg Try.isAgg81 Try.sizeOf81 rfl h rfl) rfl (fun _ h => St.f3 h) fun q_358 hq_357 => ?_
 refine Wd.turn rfl rfl rfl fun w hS => ?_
 replace hS := hS.f5
 refine WL.delete (k := (k_334.1, k_334.2.1, k_334.2.2)) Try.underlying76 Try.key81 rfl rfl hS h_79 ?_
 clear hS
 intro w fp_359 h_360 hit_361 hS
 refine WL.nil (DQ.mk2 (C' := St w0 H (fp_359 ++ ([(b_36, oc #[v_39] 87)] ++ (fp_41 ++ ([(b_345, oc #[i6 k_334.1, i6 k_334.2.1, i6 k_334.2.2] 81)] ++ (fp_337 ++ ([(b_2, oc #[v_5, v_10, v_15, v_20, v_25, v_30] 79)] ++ (fp_7 ++ (fp_12 ++ (fp_22 ++ (fp_27 ++ (fp_32 ++ L)))))))))))) hS ⟨il, il, il, il, il, trivial⟩ ?_)
 clear hS w
 refine Wd.nil fun w hS => ?_
 refine WQ.out nofun ?_
 replace hS := hS.f4.drop
 replace hS := hS.f4.f4.f4.f10.f10.f10.f7.f10.f10.f10
 exact WQ.there fun a ha => ⟨((mdel c_77 (k_334.1, k_334.2.1, k_334.2.2)), (k_334 :: sn_80)), ⟨(mdel c_77 (k_334.1, k_334.2.1, k_334.2.2)), (k_334 :: sn_80), fp_359, fp_337, rfl, hV.1, h_360, (hit_361 _ _ _ h_342), hS, ha.of_sub ⟨rfl, rfl, rfl, trivial⟩⟩, hV.2⟩
 intro hc_362
 replace hV := hV.2 hc_362
 refine WC.skip ?_
 refine WQ.out nofun ?_
 replace hS := hS.f3.drop
 replace hS := hS.f3.f3.f3.f10.f10.f10.f7.f10.f10.f10
 exact WQ.there fun a ha => ⟨(c_77, (k_334 :: sn_80)), ⟨c_77, (k_334 :: sn_80), fp_78, fp_337, rfl, hV.1, h_79, h_342, hS, ha.of_sub ⟨rfl, rfl, rfl, trivial⟩⟩, hV.2⟩

theorem S_forgetS {w0 : World} {H : View} {L : Seg} {w : World} {b_2 : Nat} {v_5 : Value} {nodes_4 : N3} {fp_7 : Seg} {v_10 : Value} {free_9 : LI} {fp_12 : Seg} {v_15 : Value} {xby_14 : M3} {fp_17 : Seg} {v_20 : Value} {order_19 : LI} {fp_22 : Seg} {v_25 : Value} {level_24 : LI} {fp_27 : Seg} {v_30 : Value} {memo_29 : M3} {fp_32 : Seg} {b_36 : Nat} {v_39 : Value} {c_35_38 : M1} {fp_41 : Seg} {Q : LI → M3 → M3 → Prop} (h_6 : OwnSl H (cPair (cInt .i64) (cPair (cInt .i64) (cInt .i64))) 81 v_5 nodes_4 fp_7) (h_11 : OwnSl H (cInt .i64) 32 v_10 free_9 fp_12) (h_16 : OwnMp H kTri (cInt .i64) v_15 xby_14 fp_17) (h_21 : OwnSl H (cInt .i64) 3 v_20 order_19 fp_22) (h_26 : OwnSl H (cInt .i64) 3 v_25 level_24 fp_27) (h_31 : OwnMp H kTri (cInt .i64) v_30 memo_29 fp_32) (h_40 : OwnMp H kInt (cInt .i64) v_39 c_35_38 fp_41) (hS : St w0 H ([(b_2, oc #[v_5, v_10, v_15, v_20, v_25, v_30] 79)] ++ (fp_7 ++ (fp_12 ++ (fp_17 ++ (fp_22 ++ (fp_27 ++ (fp_32 ++ ([(b_36, oc #[v_39] 87)] ++ (fp_41 ++ L))))))))) w) (hV : V_forgetS nodes_4 free_9 xby_14 order_19 level_24 memo_29 c_35_38 Q) :
 Calls Try.prog 57 #[(pq b_2), .func (.func 58) #[] #[(pq b_36)]] w fun e w' => ∃ (r1 : LI) (r2 : M3) (r3 : M3) (v1 : Value) (fp1 : Seg) (fp2 : Seg) (fp3 : Seg), Q r1 r2 r3 ∧ e = .returned (.tuple #[]) ∧ OwnSl H (cInt .i64) 32 v1 r1 fp1 ∧ OwnMp H kTri (cInt .i64) v_15 r2 fp2 ∧ OwnMp H kTri (cInt .i64) v_30 r3 fp3 ∧ St w0 H ([(b_2, oc #[v_5, v1, v_15, v_20, v_25, v_30] 79)] ++ (fp_7 ++ (fp1 ++ (fp2 ++ (fp_22 ++ (fp_27 ++ (fp3 ++ ([(b_36, oc #[v_39] 87)] ++ (fp_41 ++ L))))))))) w' := by
 unfold V_forgetS at hV
 refine enter Try.func57 rfl Try.ntmps57 rfl (lk_args_cons (d := 0) (v := (pq b_2)) rfl (lk_args_cons (d := 1) (v := .func (.func 58) #[] #[(pq b_36)]) rfl (lk_args_nil _))) ?_
 refine WC.seq ?_
 refine WC.sr ?_
 refine WL.mv rfl rfl ?_
 refine WL.run hS rfl rfl rfl (ex_nilCheck rfl) ?_
 refine WL.run hS rfl rfl rfl (ex_fieldAddr (o' := 2) Try.underlying79 rfl Try.sizeOf76 rfl rfl) ?_
 refine WL.run hS rfl rfl rfl (ex_load_box Try.isAgg76 rfl rfl) ?_
 replace hS := hS.f4
 refine WL.range rfl Try.underlying76 rfl hS h_16 ?_
 clear hS
 intro b_43 w fp_44 h_45 hS
 refine WL.nx ?_
 refine WC.block ?_
 replace hS := hS.f10.f10.f10.f10.f10.f7.f10.f10.f10
 obtain ⟨I_113, mu_114, hI_363, hV⟩ := hV
 refine WC.loop (σ := M3 × N3) (fun s a w => ∃ (c_77 : M3) (sn_80 : N3) (fp_78 : Seg) (fp_81 : Seg), s = (c_77, sn_80) ∧ I_113 (c_77, sn_80) ∧ OwnMp H kTri (cInt .i64) v_15 c_77 fp_78 ∧ ItOk kTri fp_78 ((pq b_43)) fp_81 sn_80 ∧ St w0 H ([(b_2, oc #[v_5, v_10, v_15, v_20, v_25, v_30] 79)] ++ (fp_7 ++ (fp_12 ++ (fp_78 ++ (fp_22 ++ (fp_27 ++ (fp_32 ++ ([(b_36, oc #[v_39] 87)] ++ (fp_41 ++ (fp_81 ++ L)))))))))) w ∧ Fr 83 [(0, (pq b_2)), (1, .func (.func 58) #[] #[(pq b_36)]), (14, (pq b_43))] a) mu_114 (xby_14, ([] : N3)) ?_ ?_
 exact fun a ha => ⟨xby_14, ([] : N3), fp_17, fp_44, rfl, hI_363, h_16, h_45, hS, ha.of_sub ⟨rfl, rfl, rfl, trivial⟩⟩
 clear hS hI_363
 rintro _ a w ⟨c_77, sn_80, fp_78, fp_81, rfl, hI, h_79, h_82, hS, ha⟩
 refine in_frame ha ?_
 clear ha
 replace hV := hV _ hI
 clear hI
 refine WC.sr ?_
 replace hS := hS.f4.f10
 refine WL.next (sn := sn_80) rfl rfl rfl hS h_79 h_82 ?_ ?_
 clear hS
 intro hh_116 w hS
 replace hV := hV.1 hh_116
 refine WL.run hS rfl rfl rfl (ex_extract rfl rfl) ?_
 refine WL.nx ?_
 refine WC.seq ?_
 refine WC.cond_false rfl ?_
 refine WC.exit ?_
 refine WQ.pass nofun ?_
 refine WQ.pass nofun ?_
 refine WQ.hit ?_
 refine WQ.next ?_
 replace hS := hS.drop
 refine WC.sr ?_
 refine WL.mv rfl rfl ?_
 refine WL.run hS rfl rfl rfl (ex_nilCheck rfl) ?_
 refine WL.run hS rfl rfl rfl (ex_fieldAddr (o' := 5) Try.underlying79 rfl Try.sizeOf77 rfl rfl) ?_
 replace hS := hS.f2
 refine WL.run hS rfl rfl rfl (ex_load_box Try.isAgg77 rfl rfl) ?_
 replace hS := hS.f7
 refine WL.clearmap Try.underlying77 rfl hS h_31 ?_
 clear hS
 intro w fp_117 h_118 hS
 refine WL.nx ?_
 refine WC.sr ?_
 refine WL.mv rfl rfl ?_
 refine WL.mv rfl rfl ?_
 refine WL.run hS rfl rfl rfl (ex_nilCheck rfl) ?_
 refine WL.run hS rfl rfl rfl (ex_fieldAddr (o' := 1) Try.underlying79 rfl Try.sizeOf35 rfl rfl) ?_
 replace hS := hS.f2
 refine WL.run hS rfl rfl rfl (ex_load_box Try.isAgg35 rfl rfl) ?_
 obtain ⟨hb_119, hV⟩ := hV
 refine WL.runx hS rfl rfl rfl (ex_slice_hi_own2 Try.underlying35 Try.sizeOf32 rfl rfl h_11 hb_119) ?_
 rintro v_120 ⟨h_121, ht_122⟩
 refine WL.run hS rfl rfl rfl (ex_nilCheck rfl) ?_
 refine WL.run hS rfl rfl rfl (ex_fieldAddr (o' := 1) Try.underlying79 rfl Try.sizeOf35 rfl rfl) ?_
 refine WL.store_box (pre := [v_5]) (old := [v_10]) (rst := [v_15, v_20, v_25, v_30]) (cs := [v_120]) (arr' := #[v_5, v_120, v_15, v_20, v_25, v_30]) Try.sizeOf35 rfl rfl (congrArg Array.toList (cells_one (OwnSl.one ht_122))) ⟨(OwnSl.one ht_122), trivial⟩ rfl rfl rfl rfl hS ?_
 clear hS
 intro w hS
 refine WL.nx ?_
 refine WC.sub (m := [(0, (pq b_2))]) ⟨rfl, trivial⟩ ?_
 refine WC.sr ?_
 refine WL.mv rfl rfl ?_
 refine WL.run hS rfl rfl rfl (ex_nilCheck rfl) ?_
 refine WL.run hS rfl rfl rfl (ex_fieldAddr (o' := 0) Try.underlying79 rfl Try.sizeOf75 rfl rfl) ?_
 refine WL.run hS rfl rfl rfl (ex_load_box Try.isAgg75 rfl rfl) ?_
 have hl_124 : Len nodes_4 := h_6.bound
 replace hV := hV hl_124
 refine WL.run hS rfl rfl rfl (ex_len_own Try.underlying75 rfl h_6) ?_
 obtain ⟨hm_129, hV⟩ := hV
 refine WL.make (c := cBool) (z0 := false) rfl Try.underlying28 Try.info4 rfl rfl rfl rfl hm_129.1 hm_129.2.1 hm_129.2.2 hS ?_
 clear hS
 intro v_126 w fp_127 h_128 hS
 refine WL.ma rfl rfl ?_
 refine WL.nx ?_
 refine WC.seq ?_
 refine WC.sr ?_
 refine WL.mv rfl rfl ?_
 refine WL.run hS rfl rfl rfl (ex_nilCheck rfl) ?_
 refine WL.run hS rfl rfl rfl (ex_fieldAddr (o' := 2) Try.underlying79 rfl Try.sizeOf76 rfl rfl) ?_
 replace hS := hS.f2
 refine WL.run hS rfl rfl rfl (ex_load_box Try.isAgg76 rfl rfl) ?_
 replace hS := hS.f4
 refine WL.range rfl Try.underlying76 rfl hS h_79 ?_
 clear hS
 intro b_130 w fp_131 h_132 hS
 refine WL.nx ?_
 refine WC.sub (m := [(0, (pq b_2)), (6, v_126), (50, (pq b_130))]) ⟨rfl, rfl, rfl, trivial⟩ ?_
 refine WC.block ?_
 replace hS := hS.f11.f11.f3.f6.f7.f11.f11.f8.f11.f11.f11
 obtain ⟨I_176, mu_177, hI_333, hV⟩ := hV
 refine WC.loop (σ := (List Bool) × N3) (fun s a w => ∃ (used_152 : List Bool) (sn_156 : N3) (v_153 : Value) (fp_154 : Seg) (fp_157 : Seg), s = (used_152, sn_156) ∧ I_176 (used_152, sn_156) ∧ OwnSl H cBool 4 v_153 used_152 fp_154 ∧ ItOk kTri fp_78 ((pq b_130)) fp_157 sn_156 ∧ St w0 H ([(b_2, oc #[v_5, v_120, v_15, v_20, v_25, v_30] 79)] ++ (fp_7 ++ (fp_12 ++ (fp_78 ++ (fp_22 ++ (fp_27 ++ (fp_117 ++ (fp_154 ++ (fp_157 ++ ([(b_36, oc #[v_39] 87)] ++ (fp_41 ++ L))))))))))) w ∧ Fr 83 [(0, (pq b_2)), (6, v_153), (50, (pq b_130))] a) mu_177 ((List.replicate (nodes_4.length : Int).toNat false), ([] : N3)) ?_ ?_
 exact fun a ha => ⟨(List.replicate (nodes_4.length : Int).toNat false), ([] : N3), v_126, fp_127, fp_131, rfl, hI_333, h_128, h_132, hS, ha.of_sub ⟨rfl, rfl, rfl, trivial⟩⟩
 clear hS hI_333
 rintro _ a w ⟨used_152, sn_156, v_153, fp_154, fp_157, rfl, hI, h_155, h_158, hS, ha⟩
 refine in_frame ha ?_
 clear ha
 replace hV := hV _ hI
 clear hI
 refine WC.sr ?_
 replace hS := hS.f4.f9
 refine WL.next (sn := sn_156) rfl rfl rfl hS h_79 h_158 ?_ ?_
 clear hS
 intro hh_179 w hS
 replace hV := hV.1 hh_179
 refine WL.run hS rfl rfl rfl (ex_extract rfl rfl) ?_
 refine WL.nx ?_
 refine WC.seq ?_
 refine WC.cond_false rfl ?_
 refine WC.exit ?_
 refine WQ.pass nofun ?_
 refine WQ.pass nofun ?_
 refine WQ.hit ?_
 refine WQ.next ?_
 replace hS := hS.drop
 refine WC.sr ?_
 refine WL.mv rfl rfl ?_
 refine WL.run hS rfl rfl rfl (ex_nilCheck rfl) ?_
 refine WL.run hS rfl rfl rfl (ex_fieldAddr (o' := 0) Try.underlying79 rfl Try.sizeOf75 rfl rfl) ?_
 replace hS := hS.f2
 refine WL.run hS rfl rfl rfl (ex_load_box Try.isAgg75 rfl rfl) ?_
 have hl_180 : Len nodes_4 := h_6.bound
 replace hV := hV hl_180
 refine WL.run hS rfl rfl rfl (ex_len_own Try.underlying75 rfl h_6) ?_
 obtain ⟨hi_182, hV⟩ := hV
 refine WL.run hS rfl rfl rfl (ex_sub rfl rfl hi_182) ?_
 refine WL.ma rfl rfl ?_
 refine WL.nx ?_
 refine WC.block ?_
 replace hS := hS.f10.f10.f10.f10.f10.f10.f8.f10.f10.f10
 obtain ⟨I_272, mu_273, hI_316, hV⟩ := hV
 refine WC.loop (σ := LI × Int) (fun s a w => ∃ (c_225 : LI) (n_229 : Int) (v_226 : Value) (fp_227 : Seg), s = (c_225, n_229) ∧ I_272 (c_225, n_229) ∧ OwnSl H (cInt .i64) 32 v_226 c_225 fp_227 ∧ I64 n_229 ∧ St w0 H ([(b_2, oc #[v_5, v_226, v_15, v_20, v_25, v_30] 79)] ++ (fp_7 ++ (fp_227 ++ (fp_78 ++ (fp_22 ++ (fp_27 ++ (fp_117 ++ (fp_154 ++ ([(b_36, oc #[v_39] 87)] ++ (fp_41 ++ L)))))))))) w ∧ Fr 83 [(0, (pq b_2)), (6, v_153), (9, i6 n_229)] a) mu_273 ((free_9.take (0 : Int).toNat), ((nodes_4.length : Int) - 1)) ?_ ?_
 exact fun a ha => ⟨(free_9.take (0 : Int).toNat), ((nodes_4.length : Int) - 1), v_120, fp_12, rfl, hI_316, ht_122, hi_182, hS, ha.of_sub ⟨rfl, rfl, rfl, trivial⟩⟩
 clear hS hI_316
 rintro _ a w ⟨c_225, n_229, v_226, fp_227, rfl, hI, h_228, hr_230, hS, ha⟩
 refine in_frame ha ?_
 clear ha
 replace hV := hV _ hI
 clear hI
 refine WC.seq ?_
 refine WC.sr ?_
 refine WL.mv rfl rfl ?_
 refine WL.run hS rfl rfl rfl (ex_gtr rfl rfl) ?_
 refine WL.nx ?_
 refine WC.cond rfl ?_ ?_
 intro hc_315
 replace hV := hV.1 (of_decide_eq_true hc_315)
 refine WC.skip ?_
 refine WQ.next ?_
 obtain ⟨J_296, hJ_297, hV⟩ := hV
 refine WC.meet (fun a w => ∃ (c_292 : LI) (v_293 : Value) (fp_294 : Seg), J_296 c_292 ∧ OwnSl H (cInt .i64) 32 v_293 c_292 fp_294 ∧ St w0 H ([(b_2, oc #[v_5, v_293, v_15, v_20, v_25, v_30] 79)] ++ (fp_7 ++ (fp_294 ++ (fp_78 ++ (fp_22 ++ (fp_27 ++ (fp_117 ++ (fp_154 ++ ([(b_36, oc #[v_39] 87)] ++ (fp_41 ++ L)))))))))) w ∧ Fr 83 [(0, (pq b_2)), (6, v_153), (9, i6 n_229)] a) ?_ ?_
 rintro a w ⟨c_292, v_293, fp_294, hI, h_295, hS, ha⟩
 refine in_frame ha ?_
 clear ha hV
 have hV := hJ_297 _ hI
 clear hI hJ_297
 refine WC.region ?_
 refine WL.mv rfl rfl ?_
 obtain ⟨hi_314, hV⟩ := hV
 refine WL.run hS rfl rfl rfl (ex_sub rfl rfl hi_314) ?_
 refine WL.ma rfl rfl ?_
 refine WL.nil ?_
 replace hS := hS.f10.f10.f10.f10.f10.f10.f10.f10.f10.f10
 exact WQ.there fun a ha => ⟨(c_292, (n_229 - 1)), ⟨c_292, (n_229 - 1), v_293, fp_294, rfl, hV.1, h_295, hi_314, hS, ha.of_sub ⟨rfl, rfl, rfl, trivial⟩⟩, hV.2⟩
 clear hJ_297
 refine WC.block ?_
 refine WC.sr ?_
 refine WL.mv rfl rfl ?_
 refine WL.mv rfl rfl ?_
 obtain ⟨hin_298, hV⟩ := hV
 refine WL.runx hS rfl rfl rfl (ex_index_own Try.underlying28 Try.sizeOf4 rfl rfl h_155 hin_298) ?_
 intro p_299 hp_300
 replace hS := hS.f8
 refine WL.runx hS rfl rfl rfl (exNow (H := H) (L := [(b_2, oc #[v_5, v_226, v_15, v_20, v_25, v_30] 79)] ++ (fp_7 ++ (fp_227 ++ (fp_78 ++ (fp_22 ++ (fp_27 ++ (fp_117 ++ ([(b_36, oc #[v_39] 87)] ++ (fp_41 ++ L))))))))) (ex_load_own_s Try.isAgg4 rfl rfl h_155 hp_300 hin_298)) ?_
 intro u_301 hu_302
 obtain rfl := cBool_rep hu_302
 refine WL.run hS rfl rfl rfl (ex_not rfl) ?_
 refine WL.nx ?_
 refine WC.cond rfl ?_ ?_
 intro hc_312
 replace hV := hV.1 hc_312
 refine WC.region ?_
 refine WL.mv rfl rfl ?_
 refine WL.mv rfl rfl ?_
 refine WL.run hS rfl rfl rfl (ex_nilCheck rfl) ?_
 refine WL.run hS rfl rfl rfl (ex_fieldAddr (o' := 1) Try.underlying79 rfl Try.sizeOf35 rfl rfl) ?_
 replace hS := hS.f2
 refine WL.run hS rfl rfl rfl (ex_load_box Try.isAgg35 rfl rfl) ?_
 refine WL.mv rfl rfl ?_
 refine WL.build1 (c := (cInt .i64)) rfl Try.underlying35 Try.info32 rfl rfl (cInt_mk (I64.has hr_230)) hS ?_
 clear hS
 intro v_304 w fp_305 h_306 hS
 obtain ⟨hr_307, hV⟩ := hV
 replace hS := hS.f5
 refine WL.append (c := (cInt .i64)) (xs := c_225) (ys := ([n_229])) rfl Try.underlying35 Try.info32 rfl rfl rfl hS h_228 (h_306.src hS.f2) hr_307.1 hr_307.2 ?_
 clear hS
 intro v_308 w fp_309 h_310 hS
 refine WL.run hS rfl rfl rfl (ex_nilCheck rfl) ?_
 refine WL.run hS rfl rfl rfl (ex_fieldAddr (o' := 1) Try.underlying79 rfl Try.sizeOf35 rfl rfl) ?_
 replace hS := hS.f3
 refine WL.store_box (pre := [v_5]) (old := [v_226]) (rst := [v_15, v_20, v_25, v_30]) (cs := [v_308]) (arr' := #[v_5, v_308, v_15, v_20, v_25, v_30]) Try.sizeOf35 rfl rfl (congrArg Array.toList (cells_one (OwnSl.one h_310))) ⟨(OwnSl.one h_310), trivial⟩ rfl rfl rfl rfl hS ?_
 clear hS
 intro w hS
 refine WL.nil ?_
 refine WQ.out nofun ?_
 replace hS := hS.f3.drop
 replace hS := hS.f10.f10.f5.f10.f10.f10.f10.f9.f10.f10
 exact WQ.there fun a ha => ⟨(c_225 ++ ([n_229])), v_308, fp_309, hV, h_310, hS, ha.of_sub ⟨rfl, rfl, rfl, trivial⟩⟩
 intro hc_312
 replace hV := hV.2 hc_312
 refine WC.skip ?_
 refine WQ.out nofun ?_
 replace hS := hS.f10.f10.f3.f10.f10.f10.f10.f10.f10.f10
 exact WQ.there fun a ha => ⟨c_225, v_226, fp_227, hV, h_228, hS, ha.of_sub ⟨rfl, rfl, rfl, trivial⟩⟩
 intro hc_315
 replace hV := hV.2 (of_decide_eq_false hc_315)
 refine WC.exit ?_
 refine WQ.pass nofun ?_
 refine WQ.pass nofun ?_
 refine WQ.hit ?_
 replace hS := hS.f8.drop
 replace hS := hS.f9.f9.f9.f9.f9.f9.f9.f9.f9
 exact leave0 (.inr rfl) rfl ⟨c_225, c_77, ([] : M3), v_226, fp_227, fp_78, fp_117, hV, rfl, h_228, h_79, h_118, hS⟩
 clear hS
 intro k_317 e_318 u_319 w fp_320 h_321 h_322 h_323 h_324 h_325 h_326 hS
 obtain ⟨rfl, hr_327⟩ := cInt_rep h_324
 replace hr_327 := has_I64 hr_327
 replace hV := hV.2 k_317 e_318 h_321 h_322 h_323 hr_327
 refine WL.run hS rfl rfl rfl (ex_extract rfl rfl) ?_
 refine WL.nx ?_
 refine WC.seq ?_
 refine WC.cond_true rfl ?_
 refine WC.skip ?_
 refine WQ.next ?_
 refine WC.block ?_
 refine WC.sr ?_
 replace hS := hS.f2.f2
 refine WL.run hS rfl rfl rfl (ex_entry (H := H) rfl h_325 h_326) ?_
 refine WL.run hS rfl rfl rfl (ex_extract rfl rfl) ?_
 refine WL.ma rfl rfl ?_
 refine WL.nx ?_
 refine WC.region ?_
 refine WL.mv rfl rfl ?_
 refine WL.mv rfl rfl ?_
 obtain ⟨hin_328, hV⟩ := hV
 refine WL.runx hS rfl rfl rfl (ex_index_own Try.underlying28 Try.sizeOf4 rfl rfl h_155 hin_328) ?_
 intro p_329 hp_330
 replace hS := hS.f9
 refine WL.store_own Try.sizeOf4 rfl rfl rfl cBool_mk hS h_155 hp_330 hin_328 ?_
 clear hS
 intro w fp_332 h_331 hS
 refine WL.nil ?_
 refine WQ.out nofun ?_
 replace hS := hS.f11.f11.f4.f4.f11.f11.f11.f8.f11.f11.f11
 exact WQ.there fun a ha => ⟨((used_152.set e_318.toNat true), (k_317 :: sn_156)), ⟨(used_152.set e_318.toNat true), (k_317 :: sn_156), v_153, fp_332, fp_320, rfl, hV.1, h_331, h_325, hS, ha.of_sub ⟨rfl, rfl, rfl, trivial⟩⟩, hV.2⟩
 clear hS
 intro k_334 e_335 u_336 w fp_337 h_338 h_339 h_340 h_341 h_342 h_343 hS
 obtain ⟨rfl, hr_344⟩ := cInt_rep h_341
 replace hr_344 := has_I64 hr_344
 replace hV := hV.2 k_334 e_335 h_338 h_339 h_340 hr_344
 refine WL.run hS rfl rfl rfl (ex_extract rfl rfl) ?_
 refine WL.nx ?_
 refine WC.seq ?_
 refine WC.cond_true rfl ?_
 refine WC.skip ?_
 refine WQ.next ?_
 refine WC.block ?_
 refine WC.sr ?_
 replace hS := hS.f2.f2
 refine WL.run hS rfl rfl rfl (ex_entry (H := H) rfl h_342 h_343) ?_
 refine WL.run hS rfl rfl rfl (ex_extract rfl rfl) ?_
 refine WL.run hS rfl rfl rfl (ex_extract rfl rfl) ?_
 refine WL.alloc (arr := #[i6 0, i6 0, i6 0]) rfl Try.zeroValue81 rfl hS ?_
 clear hS
 intro b_345 w hS
 refine WL.store_box (pre := []) (old := [i6 0, i6 0, i6 0]) (rst := []) (cs := [i6 k_334.1, i6 k_334.2.1, i6 k_334.2.2]) (arr' := #[i6 k_334.1, i6 k_334.2.1, i6 k_334.2.2]) Try.sizeOf81 rfl rfl rfl ⟨rfl, rfl, rfl, trivial⟩ rfl rfl rfl rfl hS ?_
 clear hS
 intro w hS
 refine WL.ma rfl rfl ?_
 refine WL.nx ?_
 refine WC.sr ?_
 refine WL.mv rfl rfl ?_
 refine WL.mv rfl rfl ?_
 replace hS := hS.f11.f11
 refine WL.call rfl rfl rfl (enters_c (vs := [i6 e_335]) (caps := [(pq b_36)]) rfl Try.call58 ⟨rfl, trivial⟩) (S_Sift2  hr_344 h_40 hS hV) ?_
 clear hV hS
 rintro _ w ⟨r_347, hV, rfl, hS⟩
 refine ⟨_, rfl, ?_⟩
 refine WL.nx ?_
 refine WC.cond rfl ?_ ?_
 intro hc_362
 replace hV := hV.1 hc_362
 refine WC.drawn (σ := [0, 1, 2, 3, 4, 5]) (C := St w0 H ([(b_36, oc #[v_39] 87)] ++ (fp_41 ++ ([(b_345, oc #[i6 k_334.1, i6 k_334.2.1, i6 k_334.2.2] 81)] ++ (fp_337 ++ (fp_78 ++ ([(b_2, oc #[v_5, v_10, v_15, v_20, v_25, v_30] 79)] ++ (fp_7 ++ (fp_12 ++ (fp_22 ++ (fp_27 ++ (fp_32 ++ L)))))))))))) [[], [0], [0, 1], [0, 1, 2], [], [0, 1, 2, 3, 4]] [5] Try.mixed (by kernel_rfl) (hS.drawn _) ?_
 clear hS w
 refine Wd.run rfl rfl rfl rfl (fun _ => ex_move rfl) fun q_350 hq_349 => ?_
 refine Wd.run rfl rfl rfl rfl (fun _ => ex_nilCheck rfl) fun q_352 hq_351 => ?_
 refine Wd.run rfl rfl rfl rfl (fun _ => ex_fieldAddr (o' := 2) Try.underlying79 rfl Try.sizeOf76 rfl rfl) fun q_354 hq_353 => ?_
 refine Wd.runb (off := 2) rfl rfl rfl rfl (fun _ _ _ h => ex_load_box Try.isAgg76 rfl h) rfl (fun _ h => St.f6 h) fun q_356 hq_355 => ?_
 refine Wd.runbs (off := 0) (k := 3) (cs := [i6 k_334.1, i6 k_334.2.1, i6 k_334.2.2]) rfl rfl rfl rfl (fun _ _ _ h => ex_load_box_agg Try.isAgg81 Try.sizeOf81 rfl h rfl) rfl (fun _ h => St.f3 h) fun q_358 hq_357 => ?_
 refine Wd.turn rfl rfl rfl fun w hS => ?_
 replace hS := hS.f5
 refine WL.delete (k := (k_334.1, k_334.2.1, k_334.2.2)) Try.underlying76 Try.key81 rfl rfl hS h_79 ?_
 clear hS
 intro w fp_359 h_360 hit_361 hS
 refine WL.nil (DQ.mk2 (C' := St w0 H (fp_359 ++ ([(b_36, oc #[v_39] 87)] ++ (fp_41 ++ ([(b_345, oc #[i6 k_334.1, i6 k_334.2.1, i6 k_334.2.2] 81)] ++ (fp_337 ++ ([(b_2, oc #[v_5, v_10, v_15, v_20, v_25, v_30] 79)] ++ (fp_7 ++ (fp_12 ++ (fp_22 ++ (fp_27 ++ (fp_32 ++ L)))))))))))) hS ⟨il, il, il, il, il, trivial⟩ ?_)
 clear hS w
 refine Wd.nil fun w hS => ?_
 refine WQ.out nofun ?_
 replace hS := hS.f4.drop
 replace hS := hS.f4.f4.f4.f10.f10.f10.f7.f10.f10.f10
 exact WQ.there fun a ha => ⟨((mdel c_77 (k_334.1, k_334.2.1, k_334.2.2)), (k_334 :: sn_80)), ⟨(mdel c_77 (k_334.1, k_334.2.1, k_334.2.2)), (k_334 :: sn_80), fp_359, fp_337, rfl, hV.1, h_360, (hit_361 _ _ _ h_342), hS, ha.of_sub ⟨rfl, rfl, rfl, trivial⟩⟩, hV.2⟩
 intro hc_362
 replace hV := hV.2 hc_362
 refine WC.skip ?_
 refine WQ.out nofun ?_
 replace hS := hS.f3.drop
 replace hS := hS.f3.f3.f3.f10.f10.f10.f7.f10.f10.f10
 exact WQ.there fun a ha => ⟨(c_77, (k_334 :: sn_80)), ⟨c_77, (k_334 :: sn_80), fp_78, fp_337, rfl, hV.1, h_79, h_342, hS, ha.of_sub ⟨rfl, rfl, rfl, trivial⟩⟩, hV.2⟩

theorem S_Keep {w0 : World} {H : View} {L : Seg} {w : World} {b_2 : Nat} {v_5 : Value} {nodes_4 : N3} {fp_7 : Seg} {v_10 : Value} {free_9 : LI} {fp_12 : Seg} {v_15 : Value} {xby_14 : M3} {fp_17 : Seg} {v_20 : Value} {order_19 : LI} {fp_22 : Seg} {v_25 : Value} {level_24 : LI} {fp_27 : Seg} {v_30 : Value} {memo_29 : M3} {fp_32 : Seg} {v_35 : Value} {fs_34 : LI} {Q : LI → M3 → M3 → Prop} (h_6 : OwnSl H (cPair (cInt .i64) (cPair (cInt .i64) (cInt .i64))) 81 v_5 nodes_4 fp_7) (h_11 : OwnSl H (cInt .i64) 32 v_10 free_9 fp_12) (h_16 : OwnMp H kTri (cInt .i64) v_15 xby_14 fp_17) (h_21 : OwnSl H (cInt .i64) 3 v_20 order_19 fp_22) (h_26 : OwnSl H (cInt .i64) 3 v_25 level_24 fp_27) (h_31 : OwnMp H kTri (cInt .i64) v_30 memo_29 fp_32) (h_36 : IsSl H (cInt .i64) v_35 fs_34) (hS : St w0 H ([(b_2, oc #[v_5, v_10, v_15, v_20, v_25, v_30] 79)] ++ (fp_7 ++ (fp_12 ++ (fp_17 ++ (fp_22 ++ (fp_27 ++ (fp_32 ++ L))))))) w) (hV : V_Keep nodes_4 free_9 xby_14 order_19 level_24 memo_29 fs_34 Q) :
 Calls Try.prog 21 #[(pq b_2), v_35] w fun e w' => ∃ (r1 : LI) (r2 : M3) (r3 : M3) (v1 : Value) (fp1 : Seg) (fp2 : Seg) (fp3 : Seg), Q r1 r2 r3 ∧ e = .returned (.tuple #[]) ∧ OwnSl H (cInt .i64) 32 v1 r1 fp1 ∧ OwnMp H kTri (cInt .i64) v_15 r2 fp2 ∧ OwnMp H kTri (cInt .i64) v_30 r3 fp3 ∧ St w0 H ([(b_2, oc #[v_5, v1, v_15, v_20, v_25, v_30] 79)] ++ (fp_7 ++ (fp1 ++ (fp2 ++ (fp_22 ++ (fp_27 ++ (fp3 ++ L))))))) w' := by
 unfold V_Keep at hV
 refine enter Try.func21 rfl Try.ntmps21 rfl (lk_args_cons (d := 0) (v := (pq b_2)) rfl (lk_args_cons (d := 1) (v := v_35) rfl (lk_args_nil _))) ?_
 refine WC.sr ?_
 refine WL.mv rfl rfl ?_
 refine WL.mv rfl rfl ?_
 replace hS := hS.f7.f7.f7.f7.f7.f7.f7
 refine WL.call rfl rfl rfl (enters0 (vs := [(pq b_2), v_35]) Try.call52 ⟨rfl, rfl, trivial⟩) (S_all  h_6 h_11 h_16 h_21 h_26 h_31 h_36 hS hV) ?_
 clear hV hS
 rintro _ w ⟨r_37, v_38, fp_39, hV, rfl, h_40, hS⟩
 refine ⟨_, rfl, ?_⟩
 refine WL.alloc (arr := #[.map none]) rfl Try.zeroValue87 rfl hS ?_
 clear hS
 intro b_43 w hS
 refine WL.store_box (pre := []) (old := [.map none]) (rst := []) (cs := [v_38]) (arr' := #[v_38]) Try.sizeOf87 rfl rfl (congrArg Array.toList (cells_one (OwnMp.one h_40))) ⟨(OwnMp.one h_40), trivial⟩ rfl rfl rfl rfl hS ?_
 clear hS
 intro w hS
 refine WL.nx ?_
 refine WC.region ?_
 refine WL.mv rfl rfl ?_
 refine WL.run hS rfl rfl rfl (ex_makeFunc (vs := [(pq b_43)]) ⟨rfl, trivial⟩) ?_
 replace hS := hS.f2.f2.f9.f9.f9.f9.f9.f9.f9
 refine WL.call rfl rfl rfl (enters0 (vs := [(pq b_2), .func (.func 62) #[] #[(pq b_43)]]) Try.call57 ⟨rfl, rfl, trivial⟩) (S_forgetK  h_6 h_11 h_16 h_21 h_26 h_31 h_40 hS hV) ?_
 clear hV hS
 rintro _ w ⟨c_45, m_49, m_52, v_46, fp_47, fp_50, fp_53, hV, rfl, h_48, h_51, h_54, hS⟩
 refine ⟨_, rfl, ?_⟩
 refine WL.nil ?_
 replace hS := hS.f8.drop
 replace hS := hS.f8.drop
 replace hS := hS.f7.f7.f7.f7.f7.f7.f7
 exact leave0 (.inr rfl) rfl ⟨c_45, m_49, m_52, v_46, fp_47, fp_50, fp_53, hV, rfl, h_48, h_51, h_54, hS⟩

theorem S_CloneI {w0 : World} {H : View} {L : Seg} {w : World} {v_2 : Value} {s_1 : LI} {Q : LI → Prop} (h_3 : IsSl H (cInt .i64) v_2 s_1) (hS : St w0 H (L) w) (hV : V_CloneI s_1 Q) :
 Calls Try.prog 63 #[v_2] w fun e w' => ∃ (r1 : LI) (v1 : Value) (fp1 : Seg), Q r1 ∧ e = .returned (v1) ∧ OwnSl H (cInt .i64) 3 v1 r1 fp1 ∧ St w0 H (fp1 ++ L) w' := by
 unfold V_CloneI at hV
 refine enter Try.func63 rfl Try.ntmps63 rfl (lk_args_cons (d := 0) (v := v_2) rfl (lk_args_nil _)) ?_
 refine WC.sr ?_
 refine WL.ma rfl rfl ?_
 refine WL.nx ?_
 refine WC.seq ?_
 refine WC.sr ?_
 refine WL.mv rfl rfl ?_
 refine WL.runx hS rfl rfl rfl (ex_nil_eql Try.underlying27 rfl h_3) ?_
 rintro u_9 ⟨b_7, rfl, hn_8⟩
 replace hV := hV b_7 hn_8
 refine WL.nx ?_
 refine WC.cond rfl ?_ ?_
 intro hc_20
 replace hV := hV.1 hc_20
 refine WC.sr ?_
 refine WL.ma rfl rfl ?_
 refine WL.nx ?_
 refine WC.ret ?_
 refine WQ.pass nofun ?_
 replace hS := hS.nilseg
 exact leave1 rfl rfl ⟨([] : LI), (.slice none 0 0), ([] : Seg), hV, rfl, OwnSl.nil, hS⟩
 intro hc_20
 replace hV := hV.2 hc_20
 refine WC.skip ?_
 refine WQ.next ?_
 refine WC.sr ?_
 refine WL.build0 (α := Int) (c := (cInt .i64)) rfl Try.underlying27 Try.sizeOf3 hS ?_
 clear hS
 intro v_12 w fp_13 h_14 hS
 refine WL.mv rfl rfl ?_
 obtain ⟨hr_15, hV⟩ := hV
 refine WL.append (c := (cInt .i64)) (xs := ([] : LI)) (ys := s_1) rfl Try.underlying27 Try.info3 rfl rfl rfl hS h_14 (h_3.src hS) hr_15.1 hr_15.2 ?_
 clear hS
 intro v_16 w fp_17 h_18 hS
 rw [List.nil_append] at h_18
 refine WL.ma rfl rfl ?_
 refine WL.nx ?_
 refine WC.ret ?_
 exact leave1 rfl rfl ⟨s_1, v_16, fp_17, hV, rfl, h_18, hS⟩

theorem S_Order {w0 : World} {H : View} {L : Seg} {w : World} {b_2 : Nat} {v_5 : Value} {nodes_4 : N3} {fp_7 : Seg} {v_10 : Value} {free_9 : LI} {fp_12 : Seg} {v_15 : Value} {xby_14 : M3} {fp_17 : Seg} {v_20 : Value} {order_19 : LI} {fp_22 : Seg} {v_25 : Value} {level_24 : LI} {fp_27 : Seg} {v_30 : Value} {memo_29 : M3} {fp_32 : Seg} {Q : LI → Prop} (h_6 : OwnSl H (cPair (cInt .i64) (cPair (cInt .i64) (cInt .i64))) 81 v_5 nodes_4 fp_7) (h_11 : OwnSl H (cInt .i64) 32 v_10 free_9 fp_12) (h_16 : OwnMp H kTri (cInt .i64) v_15 xby_14 fp_17) (h_21 : OwnSl H (cInt .i64) 3 v_20 order_19 fp_22) (h_26 : OwnSl H (cInt .i64) 3 v_25 level_24 fp_27) (h_31 : OwnMp H kTri (cInt .i64) v_30 memo_29 fp_32) (hS : St w0 H ([(b_2, oc #[v_5, v_10, v_15, v_20, v_25, v_30] 79)] ++ (fp_7 ++ (fp_12 ++ (fp_17 ++ (fp_22 ++ (fp_27 ++ (fp_32 ++ L))))))) w) (hV : V_Order nodes_4 free_9 xby_14 order_19 level_24 memo_29 Q) :
 Calls Try.prog 24 #[(pq b_2)] w fun e w' => ∃ (r1 : LI) (v1 : Value) (fp1 : Seg), Q r1 ∧ e = .returned (v1) ∧ OwnSl H (cInt .i64) 3 v1 r1 fp1 ∧ St w0 H (fp1 ++ ([(b_2, oc #[v_5, v_10, v_15, v_20, v_25, v_30] 79)] ++ (fp_7 ++ (fp_12 ++ (fp_17 ++ (fp_22 ++ (fp_27 ++ (fp_32 ++ L)))))))) w' := by
 unfold V_Order at hV
 refine enter Try.func24 rfl Try.ntmps24 rfl (lk_args_cons (d := 0) (v := (pq b_2)) rfl (lk_args_nil _)) ?_
 refine WC.sr ?_
 refine WL.ma rfl rfl ?_
 refine WL.nx ?_
 refine WC.sr ?_
 refine WL.mv rfl rfl ?_
 refine WL.run hS rfl rfl rfl (ex_nilCheck rfl) ?_
 refine WL.run hS rfl rfl rfl (ex_fieldAddr (o' := 3) Try.underlying79 rfl Try.sizeOf27 rfl rfl) ?_
 refine WL.run hS rfl rfl rfl (ex_load_box Try.isAgg27 rfl rfl) ?_
 replace hS := hS.f5
 have hL_35 := hS.freeze
 refine WL.call rfl rfl rfl (enters0 (vs := [v_20]) Try.call63 ⟨rfl, trivial⟩) (S_CloneI  (h_21.share hS.put_le) hL_35 hV) ?_
 clear hV
 rintro _ w ⟨r_36, v_37, fp_38, hV, rfl, h_39, hL_41⟩
 refine ⟨_, rfl, ?_⟩
 have hB_43 := hS.back hL_41
 replace hS := hB_43
 clear hL_41 hL_35 hB_43
 replace h_39 := rep_own (K := H) h_39 (fun _ _ h => h)
 refine WL.ma rfl rfl ?_
 refine WL.nx ?_
 refine WC.ret ?_
 replace hS := hS.f8.f8.f3.f8.f8.f8.f8.f8
 exact leave1 rfl rfl ⟨r_36, v_37, fp_38, hV, rfl, h_39, hS⟩

theorem S_asks {w0 : World} {H : View} {L : Seg} {w : World} {b_2 : Nat} {v_5 : Value} {nodes_4 : N3} {fp_7 : Seg} {v_10 : Value} {free_9 : LI} {fp_12 : Seg} {v_15 : Value} {xby_14 : M3} {fp_17 : Seg} {v_20 : Value} {order_19 : LI} {fp_22 : Seg} {v_25 : Value} {level_24 : LI} {fp_27 : Seg} {v_30 : Value} {memo_29 : M3} {fp_32 : Seg} {f_34 : Int} {xat_36 : Int} {Q : Bool → Prop} (h_6 : OwnSl H (cPair (cInt .i64) (cPair (cInt .i64) (cInt .i64))) 81 v_5 nodes_4 fp_7) (h_11 : OwnSl H (cInt .i64) 32 v_10 free_9 fp_12) (h_16 : OwnMp H kTri (cInt .i64) v_15 xby_14 fp_17) (h_21 : OwnSl H (cInt .i64) 3 v_20 order_19 fp_22) (h_26 : OwnSl H (cInt .i64) 3 v_25 level_24 fp_27) (h_31 : OwnMp H kTri (cInt .i64) v_30 memo_29 fp_32) (hr_35 : I64 f_34) (hr_37 : I64 xat_36) (hS : St w0 H ([(b_2, oc #[v_5, v_10, v_15, v_20, v_25, v_30] 79)] ++ (fp_7 ++ (fp_12 ++ (fp_17 ++ (fp_22 ++ (fp_27 ++ (fp_32 ++ L))))))) w) (hV : V_asks nodes_4 free_9 xby_14 order_19 level_24 memo_29 f_34 xat_36 Q) :
 Calls Try.prog 48 #[(pq b_2), i6 f_34, i6 xat_36] w fun e w' => ∃ (r1 : Bool), Q r1 ∧ e = .returned (.bool r1) ∧ St w0 H ([(b_2, oc #[v_5, v_10, v_15, v_20, v_25, v_30] 79)] ++ (fp_7 ++ (fp_12 ++ (fp_17 ++ (fp_22 ++ (fp_27 ++ (fp_32 ++ L))))))) w' := by
 unfold V_asks at hV
 refine enter Try.func48 rfl Try.ntmps48 rfl (lk_args_cons (d := 0) (v := (pq b_2)) rfl (lk_args_cons (d := 1) (v := i6 f_34) rfl (lk_args_cons (d := 2) (v := i6 xat_36) rfl (lk_args_nil _)))) ?_
 refine WC.sr ?_
 refine WL.ma rfl rfl ?_
 refine WL.nx ?_
 obtain ⟨J_50, hJ_51, hV⟩ := hV
 refine WC.meet (fun a w => ∃ (x_49 : Bool), J_50 x_49 ∧ St w0 H ([(b_2, oc #[v_5, v_10, v_15, v_20, v_25, v_30] 79)] ++ (fp_7 ++ (fp_12 ++ (fp_17 ++ (fp_22 ++ (fp_27 ++ (fp_32 ++ L))))))) w ∧ Fr 21 [(6, .bool x_49)] a) ?_ ?_
 rintro a w ⟨x_49, hI, hS, ha⟩
 refine in_frame ha ?_
 clear ha hV
 have hV := hJ_51 _ hI
 clear hI hJ_51
 refine WC.ret ?_
 replace hS := hS.f7.f7.f7.f7.f7.f7.f7
 exact leave1 rfl rfl ⟨x_49, hV, rfl, hS⟩
 clear hJ_51
 refine WC.region ?_
 refine WL.mv rfl rfl ?_
 refine WL.run hS rfl rfl rfl (ex_gtr rfl rfl) ?_
 refine WL.mv rfl rfl ?_
 rcases Bool.eq_false_or_eq_true (decide (1 < f_34)) with hg_53 | hg_53
 replace hV := hV.1 (of_decide_eq_true hg_53)
 refine WL.unguard rfl rfl hg_53 ?_
 refine WL.mv rfl rfl ?_
 refine WL.unguard rfl rfl hg_53 ?_
 refine WL.run hS rfl rfl rfl (ex_nilCheck rfl) ?_
 refine WL.unguard rfl rfl hg_53 ?_
 refine WL.run hS rfl rfl rfl (ex_fieldAddr (o' := 0) Try.underlying79 rfl Try.sizeOf75 rfl rfl) ?_
 refine WL.unguard rfl rfl hg_53 ?_
 refine WL.run hS rfl rfl rfl (ex_load_box Try.isAgg75 rfl rfl) ?_
 refine WL.unguard rfl rfl hg_53 ?_
 refine WL.mv rfl rfl ?_
 refine WL.unguard rfl rfl hg_53 ?_
 obtain ⟨hin_54, hV⟩ := hV
 refine WL.runx hS rfl rfl rfl (ex_index_own Try.underlying75 Try.sizeOf81 rfl rfl h_6 hin_54) ?_
 intro p_55 hp_56
 refine WL.unguard rfl rfl hg_53 ?_
 refine WL.runx hS rfl rfl rfl (ex_fieldAddr_own Try.underlying81 rfl Try.sizeOf3 rfl hp_56) ?_
 intro p_58 hp_57
 refine WL.unguard rfl rfl hg_53 ?_
 replace hS := hS.f2
 refine WL.runx hS rfl rfl rfl (exNow (H := H) (L := [(b_2, oc #[v_5, v_10, v_15, v_20, v_25, v_30] 79)] ++ (fp_12 ++ (fp_17 ++ (fp_22 ++ (fp_27 ++ (fp_32 ++ L)))))) (ex_load_ownpart (d := (cInt .i64)) Try.isAgg3 rfl rfl h_6 hp_57 hin_54 Part.fst)) ?_
 intro u_59 hu_60
 obtain ⟨rfl, hr_61⟩ := cInt_rep hu_60
 replace hr_61 := has_I64 hr_61
 replace hV := hV hr_61
 refine WL.unguard rfl rfl hg_53 ?_
 refine WL.mv rfl rfl ?_
 refine WL.unguard rfl rfl hg_53 ?_
 refine WL.run hS rfl rfl rfl (ex_eql rfl rfl) ?_
 refine WL.run hS rfl rfl rfl (ex_pick_t rfl hg_53 rfl) ?_
 refine WL.ma rfl rfl ?_
 refine WL.nil ?_
 replace hS := hS.f7.f7.f7.f7.f7.f6.f7
 exact WQ.there fun a ha => ⟨decide (((ix nodes_4 f_34).1) = xat_36), hV, hS, ha.of_sub ⟨rfl, trivial⟩⟩
 replace hV := hV.2 (of_decide_eq_false hg_53)
 refine WL.skip_g rfl rfl rfl hg_53 rfl rfl ?_
 refine WL.skip_g rfl rfl rfl hg_53 rfl rfl ?_
 refine WL.skip_g rfl rfl rfl hg_53 rfl rfl ?_
 refine WL.skip_g rfl rfl rfl hg_53 rfl rfl ?_
 refine WL.skip_g rfl rfl rfl hg_53 rfl rfl ?_
 refine WL.skip_g rfl rfl rfl hg_53 rfl rfl ?_
 refine WL.skip_g rfl rfl rfl hg_53 rfl rfl ?_
 refine WL.skip_g rfl rfl rfl hg_53 rfl rfl ?_
 refine WL.skip_g rfl rfl rfl hg_53 rfl rfl ?_
 refine WL.skip_g rfl rfl rfl hg_53 rfl rfl ?_
 refine WL.run hS rfl rfl rfl (ex_pick_f rfl hg_53 rfl) ?_
 refine WL.ma rfl rfl ?_
 refine WL.nil ?_
 replace hS := hS.f7.f7.f7.f7.f7.f7.f7
 exact WQ.there fun a ha => ⟨false, hV, hS, ha.of_sub ⟨rfl, trivial⟩⟩

theorem S_under {w0 : World} {H : View} {L : Seg} {w : World} {b_2 : Nat} {v_5 : Value} {nodes_4 : N3} {fp_7 : Seg} {v_10 : Value} {free_9 : LI} {fp_12 : Seg} {v_15 : Value} {xby_14 : M3} {fp_17 : Seg} {v_20 : Value} {order_19 : LI} {fp_22 : Seg} {v_25 : Value} {level_24 : LI} {fp_27 : Seg} {v_30 : Value} {memo_29 : M3} {fp_32 : Seg} {f_34 : Int} {xat_36 : Int} {Q : Int → Int → Prop} (h_6 : OwnSl H (cPair (cInt .i64) (cPair (cInt .i64) (cInt .i64))) 81 v_5 nodes_4 fp_7) (h_11 : OwnSl H (cInt .i64) 32 v_10 free_9 fp_12) (h_16 : OwnMp H kTri (cInt .i64) v_15 xby_14 fp_17) (h_21 : OwnSl H (cInt .i64) 3 v_20 order_19 fp_22) (h_26 : OwnSl H (cInt .i64) 3 v_25 level_24 fp_27) (h_31 : OwnMp H kTri (cInt .i64) v_30 memo_29 fp_32) (hr_35 : I64 f_34) (hr_37 : I64 xat_36) (hS : St w0 H ([(b_2, oc #[v_5, v_10, v_15, v_20, v_25, v_30] 79)] ++ (fp_7 ++ (fp_12 ++ (fp_17 ++ (fp_22 ++ (fp_27 ++ (fp_32 ++ L))))))) w) (hV : V_under nodes_4 free_9 xby_14 order_19 level_24 memo_29 f_34 xat_36 Q) :
 Calls Try.prog 50 #[(pq b_2), i6 f_34, i6 xat_36] w fun e w' => ∃ (r1 : Int) (r2 : Int), Q r1 r2 ∧ e = .returned (.tuple #[i6 r1, i6 r2]) ∧ I64 r1 ∧ I64 r2 ∧ St w0 H ([(b_2, oc #[v_5, v_10, v_15, v_20, v_25, v_30] 79)] ++ (fp_7 ++ (fp_12 ++ (fp_17 ++ (fp_22 ++ (fp_27 ++ (fp_32 ++ L))))))) w' := by
 unfold V_under at hV
 refine enter Try.func50 rfl Try.ntmps50 rfl (lk_args_cons (d := 0) (v := (pq b_2)) rfl (lk_args_cons (d := 1) (v := i6 f_34) rfl (lk_args_cons (d := 2) (v := i6 xat_36) rfl (lk_args_nil _)))) ?_
 refine WC.sr ?_
 refine WL.ma rfl rfl ?_
 refine WL.ma rfl rfl ?_
 refine WL.nx ?_
 refine WC.seq ?_
 refine WC.sr ?_
 refine WL.mv rfl rfl ?_
 refine WL.mv rfl rfl ?_
 refine WL.mv rfl rfl ?_
 replace hS := hS.f7.f7.f7.f7.f7.f7.f7
 refine WL.call rfl rfl rfl (enters0 (vs := [(pq b_2), i6 f_34, i6 xat_36]) Try.call48 ⟨rfl, rfl, rfl, trivial⟩) (S_asks  h_6 h_11 h_16 h_21 h_26 h_31 hr_35 hr_37 hS hV) ?_
 clear hV hS
 rintro _ w ⟨r_38, hV, rfl, hS⟩
 refine ⟨_, rfl, ?_⟩
 refine WL.nx ?_
 refine WC.cond rfl ?_ ?_
 intro hc_56
 replace hV := hV.1 hc_56
 refine WC.seq ?_
 refine WC.quiet (C := St w0 H ([(b_2, oc #[v_5, v_10, v_15, v_20, v_25, v_30] 79)] ++ (fp_7 ++ (fp_12 ++ (fp_17 ++ (fp_22 ++ (fp_27 ++ (fp_32 ++ L)))))))) Try.mixed (by kernel_rfl) (hS.drawn _) ?_
 clear hS w
 refine Wq.run rfl rfl rfl (ex_move rfl) ?_
 refine Wq.run rfl rfl rfl (ex_nilCheck rfl) ?_
 refine Wq.run rfl rfl rfl (ex_fieldAddr (o' := 0) Try.underlying79 rfl Try.sizeOf75 rfl rfl) ?_
 refine Wq.run rfl rfl rfl (ex_load_box Try.isAgg75 rfl rfl) ?_
 refine Wq.run rfl rfl rfl (ex_move rfl) ?_
 obtain ⟨hin_40, hV⟩ := hV
 refine Wq.runx rfl rfl rfl (ex_index_own Try.underlying75 Try.sizeOf81 rfl rfl h_6 hin_40) ?_
 intro p_41 hp_42
 refine Wq.runx rfl rfl rfl (ex_fieldAddr_own Try.underlying81 rfl Try.sizeOf32 rfl hp_42) ?_
 intro p_44 hp_43
 refine Wq.runx rfl rfl rfl (exQ (ex_load_ownpart (d := (cInt .i64)) Try.isAgg32 rfl rfl h_6 hp_43 hin_40 (Part.next Part.fst)) _ (fun _ h => St.f2 h)) ?_
 intro u_45 hu_46
 obtain ⟨rfl, hr_47⟩ := cInt_rep hu_46
 replace hr_47 := has_I64 hr_47
 replace hV := hV hr_47
 refine Wq.run rfl rfl rfl (ex_move rfl) ?_
 refine Wq.run rfl rfl rfl (ex_nilCheck rfl) ?_
 refine Wq.run rfl rfl rfl (ex_fieldAddr (o' := 0) Try.underlying79 rfl Try.sizeOf75 rfl rfl) ?_
 refine Wq.run rfl rfl rfl (ex_load_box Try.isAgg75 rfl rfl) ?_
 refine Wq.run rfl rfl rfl (ex_move rfl) ?_
 obtain ⟨hin_48, hV⟩ := hV
 refine Wq.runx rfl rfl rfl (ex_index_own Try.underlying75 Try.sizeOf81 rfl rfl h_6 hin_48) ?_
 intro p_49 hp_50
 refine Wq.runx rfl rfl rfl (ex_fieldAddr_own Try.underlying81 rfl Try.sizeOf32 rfl hp_50) ?_
 intro p_52 hp_51
 refine Wq.runx rfl rfl rfl (exQ (ex_load_ownpart (d := (cInt .i64)) Try.isAgg32 rfl rfl h_6 hp_51 hin_48 (Part.next Part.snd)) _ (fun _ h => St.f2 h)) ?_
 intro u_53 hu_54
 obtain ⟨rfl, hr_55⟩ := cInt_rep hu_54
 replace hr_55 := has_I64 hr_55
 replace hV := hV hr_55
 refine Wq.run rfl rfl rfl (ex_assign rfl) ?_
 refine Wq.run rfl rfl rfl (ex_assign rfl) ?_
 refine Wq.nil fun w hS => ?_
 refine WQ.next ?_
 refine WC.sub (m := [(6, i6 ((ix nodes_4 f_34).2.1)), (7, i6 ((ix nodes_4 f_34).2.2))]) ⟨rfl, rfl, trivial⟩ ?_
 refine WC.ret ?_
 refine WQ.pass nofun ?_
 replace hS := hS.f7.f7.f7.f7.f7.f7.f7
 exact leave2 rfl rfl rfl ⟨((ix nodes_4 f_34).2.1), ((ix nodes_4 f_34).2.2), hV, rfl, hr_47, hr_55, hS⟩
 intro hc_56
 replace hV := hV.2 hc_56
 refine WC.skip ?_
 refine WQ.next ?_
 refine WC.sr ?_
 refine WL.mv rfl rfl ?_
 refine WL.mv rfl rfl ?_
 refine WL.ma rfl rfl ?_
 refine WL.ma rfl rfl ?_
 refine WL.nx ?_
 refine WC.sub (m := [(6, i6 f_34), (7, i6 f_34)]) ⟨rfl, rfl, trivial⟩ ?_
 refine WC.ret ?_
 replace hS := hS.f7.f7.f7.f7.f7.f7.f7
 exact leave2 rfl rfl rfl ⟨f_34, f_34, hV, rfl, hr_35, hr_35, hS⟩

theorem S_Swap {w0 : World} {H : View} {L : Seg} {w : World} {b_2 : Nat} {v_5 : Value} {nodes_4 : N3} {fp_7 : Seg} {v_10 : Value} {free_9 : LI} {fp_12 : Seg} {v_15 : Value} {xby_14 : M3} {fp_17 : Seg} {v_20 : Value} {order_19 : LI} {fp_22 : Seg} {v_25 : Value} {level_24 : LI} {fp_27 : Seg} {v_30 : Value} {memo_29 : M3} {fp_32 : Seg} {level_34 : Int} {Q : Bool → N3 → LI → M3 → LI → LI → M3 → Prop} (h_6 : OwnSl H (cPair (cInt .i64) (cPair (cInt .i64) (cInt .i64))) 81 v_5 nodes_4 fp_7) (h_11 : OwnSl H (cInt .i64) 32 v_10 free_9 fp_12) (h_16 : OwnMp H kTri (cInt .i64) v_15 xby_14 fp_17) (h_21 : OwnSl H (cInt .i64) 3 v_20 order_19 fp_22) (h_26 : OwnSl H (cInt .i64) 3 v_25 level_24 fp_27) (h_31 : OwnMp H kTri (cInt .i64) v_30 memo_29 fp_32) (hr_35 : I64 level_34) (hS : St w0 H ([(b_2, oc #[v_5, v_10, v_15, v_20, v_25, v_30] 79)] ++ (fp_7 ++ (fp_12 ++ (fp_17 ++ (fp_22 ++ (fp_27 ++ (fp_32 ++ L))))))) w) (hV : V_Swap nodes_4 free_9 xby_14 order_19 level_24 memo_29 level_34 Q) :
 Calls Try.prog 18 #[(pq b_2), i6 level_34] w fun e w' => ∃ (r1 : Bool) (r2 : N3) (r3 : LI) (r4 : M3) (r5 : LI) (r6 : LI) (r7 : M3) (v2 : Value) (fp2 : Seg) (v3 : Value) (fp3 : Seg) (fp4 : Seg) (v5 : Value) (fp5 : Seg) (v6 : Value) (fp6 : Seg) (fp7 : Seg), Q r1 r2 r3 r4 r5 r6 r7 ∧ e = .returned (.bool r1) ∧ OwnSl H (cPair (cInt .i64) (cPair (cInt .i64) (cInt .i64))) 81 v2 r2 fp2 ∧ OwnSl H (cInt .i64) 32 v3 r3 fp3 ∧ OwnMp H kTri (cInt .i64) v_15 r4 fp4 ∧ OwnSl H (cInt .i64) 3 v5 r5 fp5 ∧ OwnSl H (cInt .i64) 3 v6 r6 fp6 ∧ OwnMp H kTri (cInt .i64) v_30 r7 fp7 ∧ St w0 H ([(b_2, oc #[v2, v3, v_15, v5, v6, v_30] 79)] ++ (fp2 ++ (fp3 ++ (fp4 ++ (fp5 ++ (fp6 ++ (fp7 ++ L))))))) w' := by
 unfold V_Swap at hV
 refine enter Try.func18 rfl Try.ntmps18 rfl (lk_args_cons (d := 0) (v := (pq b_2)) rfl (lk_args_cons (d := 1) (v := i6 level_34) rfl (lk_args_nil _))) ?_
 refine WC.sr ?_
 refine WL.ma rfl rfl ?_
 refine WL.nx ?_
 refine WC.seq ?_
 obtain ⟨J_43, hJ_44, hV⟩ := hV
 refine WC.meet (fun a w => ∃ (x_42 : Bool), J_43 x_42 ∧ St w0 H ([(b_2, oc #[v_5, v_10, v_15, v_20, v_25, v_30] 79)] ++ (fp_7 ++ (fp_12 ++ (fp_17 ++ (fp_22 ++ (fp_27 ++ (fp_32 ++ L))))))) w ∧ Fr 196 [(0, (pq b_2)), (1, i6 level_34), (32, .bool x_42)] a) ?_ ?_
 rintro a w ⟨x_42, hI, hS, ha⟩
 refine in_frame ha ?_
 clear ha hV
 have hV := hJ_44 _ hI
 clear hI hJ_44
 refine WC.cond rfl ?_ ?_
 intro hc_784
 replace hV := hV.1 hc_784
 refine WC.sr ?_
 refine WL.ma rfl rfl ?_
 refine WL.nx ?_
 refine WC.ret ?_
 refine WQ.pass nofun ?_
 replace hS := hS.f7.f7.f7.f7.f7.f7.f7
 exact leave1 rfl rfl ⟨false, nodes_4, free_9, xby_14, order_19, level_24, memo_29, v_5, fp_7, v_10, fp_12, fp_17, v_20, fp_22, v_25, fp_27, fp_32, hV, rfl, h_6, h_11, h_16, h_21, h_26, h_31, hS⟩
 intro hc_784
 replace hV := hV.2 hc_784
 refine WC.skip ?_
 refine WQ.next ?_
 refine WC.seq ?_
 refine WC.quiet (C := St w0 H ([(b_2, oc #[v_5, v_10, v_15, v_20, v_25, v_30] 79)] ++ (fp_7 ++ (fp_12 ++ (fp_17 ++ (fp_22 ++ (fp_27 ++ (fp_32 ++ L)))))))) Try.mixed (by kernel_rfl) (hS.drawn _) ?_
 clear hS w
 refine Wq.run rfl rfl rfl (ex_move rfl) ?_
 refine Wq.run rfl rfl rfl (ex_nilCheck rfl) ?_
 refine Wq.run rfl rfl rfl (ex_fieldAddr (o' := 3) Try.underlying79 rfl Try.sizeOf27 rfl rfl) ?_
 refine Wq.run rfl rfl rfl (ex_load_box Try.isAgg27 rfl rfl) ?_
 refine Wq.run rfl rfl rfl (ex_move rfl) ?_
 obtain ⟨hin_51, hV⟩ := hV
 refine Wq.runx rfl rfl rfl (ex_index_own Try.underlying27 Try.sizeOf3 rfl rfl h_21 hin_51) ?_
 intro p_52 hp_53
 refine Wq.runx rfl rfl rfl (exQ (ex_load_own_s Try.isAgg3 rfl rfl h_21 hp_53 hin_51) _ (fun _ h => St.f5 h)) ?_
 intro u_54 hu_55
 obtain ⟨rfl, hr_56⟩ := cInt_rep hu_55
 replace hr_56 := has_I64 hr_56
 replace hV := hV hr_56
 refine Wq.run rfl rfl rfl (ex_move rfl) ?_
 refine Wq.run rfl rfl rfl (ex_nilCheck rfl) ?_
 refine Wq.run rfl rfl rfl (ex_fieldAddr (o' := 3) Try.underlying79 rfl Try.sizeOf27 rfl rfl) ?_
 refine Wq.run rfl rfl rfl (ex_load_box Try.isAgg27 rfl rfl) ?_
 refine Wq.run rfl rfl rfl (ex_move rfl) ?_
 obtain ⟨hi_58, hV⟩ := hV
 refine Wq.run rfl rfl rfl (ex_add rfl rfl hi_58) ?_
 obtain ⟨hin_59, hV⟩ := hV
 refine Wq.runx rfl rfl rfl (ex_index_own Try.underlying27 Try.sizeOf3 rfl rfl h_21 hin_59) ?_
 intro p_60 hp_61
 refine Wq.runx rfl rfl rfl (exQ (ex_load_own_s Try.isAgg3 rfl rfl h_21 hp_61 hin_59) _ (fun _ h => St.f5 h)) ?_
 intro u_62 hu_63
 obtain ⟨rfl, hr_64⟩ := cInt_rep hu_63
 replace hr_64 := has_I64 hr_64
 replace hV := hV hr_64
 refine Wq.run rfl rfl rfl (ex_assign rfl) ?_
 refine Wq.run rfl rfl rfl (ex_assign rfl) ?_
 refine Wq.nil fun w hS => ?_
 refine WQ.next ?_
 refine WC.sub (m := [(0, (pq b_2)), (1, i6 level_34), (5, i6 (ix order_19 level_34)), (6, i6 (ix order_19 (level_34 + 1)))]) ⟨rfl, rfl, rfl, rfl, trivial⟩ ?_
 refine WC.sr ?_
 refine WL.ma rfl rfl ?_
 refine WL.nx ?_
 refine WC.seq ?_
 refine WC.sr ?_
 refine WL.mv rfl rfl ?_
 refine WL.run hS rfl rfl rfl (ex_nilCheck rfl) ?_
 refine WL.run hS rfl rfl rfl (ex_fieldAddr (o' := 2) Try.underlying79 rfl Try.sizeOf76 rfl rfl) ?_
 refine WL.run hS rfl rfl rfl (ex_load_box Try.isAgg76 rfl rfl) ?_
 replace hS := hS.f4
 refine WL.range rfl Try.underlying76 rfl hS h_16 ?_
 clear hS
 intro b_66 w fp_67 h_68 hS
 refine WL.nx ?_
 refine WC.block ?_
 replace hS := hS.nilseg
 replace hS := hS.f2.f2.f9.f9.f9.f6.f9.f9.f9
 obtain ⟨I_160, mu_161, hI_783, hV⟩ := hV
 refine WC.loop (σ := LI × N3) (fun s a w => ∃ (ask_112 : LI) (sn_116 : N3) (v_113 : Value) (fp_114 : Seg) (fp_117 : Seg), s = (ask_112, sn_116) ∧ I_160 (ask_112, sn_116) ∧ OwnSl H (cInt .i64) 32 v_113 ask_112 fp_114 ∧ ItOk kTri fp_17 ((pq b_66)) fp_117 sn_116 ∧ St w0 H ([(b_2, oc #[v_5, v_10, v_15, v_20, v_25, v_30] 79)] ++ (fp_7 ++ (fp_12 ++ (fp_17 ++ (fp_22 ++ (fp_27 ++ (fp_32 ++ (fp_114 ++ (fp_117 ++ L))))))))) w ∧ Fr 196 [(0, (pq b_2)), (1, i6 level_34), (5, i6 (ix order_19 level_34)), (6, i6 (ix order_19 (level_34 + 1))), (7, v_113), (52, (pq b_66))] a) mu_161 (([] : LI), ([] : N3)) ?_ ?_
 exact fun a ha => ⟨([] : LI), ([] : N3), (.slice none 0 0), ([] : Seg), fp_67, rfl, hI_783, OwnSl.nil, h_68, hS, ha.of_sub ⟨rfl, rfl, rfl, rfl, rfl, rfl, trivial⟩⟩
 clear hS hI_783
 rintro _ a w ⟨ask_112, sn_116, v_113, fp_114, fp_117, rfl, hI, h_115, h_118, hS, ha⟩
 refine in_frame ha ?_
 clear ha
 replace hV := hV _ hI
 clear hI
 refine WC.sr ?_
 replace hS := hS.f4.f9
 refine WL.next (sn := sn_116) rfl rfl rfl hS h_16 h_118 ?_ ?_
 clear hS
 intro hh_163 w hS
 replace hV := hV.1 hh_163
 refine WL.run hS rfl rfl rfl (ex_extract rfl rfl) ?_
 refine WL.nx ?_
 refine WC.seq ?_
 refine WC.cond_false rfl ?_
 refine WC.exit ?_
 refine WQ.pass nofun ?_
 refine WQ.pass nofun ?_
 refine WQ.hit ?_
 refine WQ.next ?_
 replace hS := hS.drop
 refine WC.sr ?_
 refine WL.mv rfl rfl ?_
 replace hS := hS.f8
 refine WL.call rfl rfl rfl (enters0 (vs := [v_113]) Try.call49 ⟨rfl, trivial⟩) (S_SortN  h_115 hS hV) ?_
 clear hV hS
 rintro _ w ⟨c_164, fp_165, hV, rfl, h_166, hS⟩
 refine ⟨_, rfl, ?_⟩
 refine WL.nx ?_
 refine WC.seq ?_
 refine WC.sr ?_
 refine WL.mv rfl rfl ?_
 have hl_168 : Len c_164 := h_166.bound
 replace hV := hV hl_168
 refine WL.run hS rfl rfl rfl (ex_len_own Try.underlying35 rfl h_166) ?_
 refine WL.mv rfl rfl ?_
 refine WL.nx ?_
 refine WC.block ?_
 replace hS := hS.f8.f8.f8.f5.f8.f8.f8
 obtain ⟨I_266, mu_267, hI_742, hV⟩ := hV
 refine WC.loop (σ := M3 × Int) (fun s a w => ∃ (c_215 : M3) (x_218 : Int) (fp_216 : Seg), s = (c_215, x_218) ∧ I_266 (c_215, x_218) ∧ OwnMp H kTri (cInt .i64) v_15 c_215 fp_216 ∧ I64 x_218 ∧ St w0 H ([(b_2, oc #[v_5, v_10, v_15, v_20, v_25, v_30] 79)] ++ (fp_7 ++ (fp_12 ++ (fp_216 ++ (fp_22 ++ (fp_27 ++ (fp_32 ++ (fp_165 ++ L)))))))) w ∧ Fr 196 [(0, (pq b_2)), (1, i6 level_34), (5, i6 (ix order_19 level_34)), (6, i6 (ix order_19 (level_34 + 1))), (7, v_113), (82, v_113), (83, i6 (c_164.length : Int)), (84, i6 x_218)] a) mu_267 (xby_14, 0) ?_ ?_
 exact fun a ha => ⟨xby_14, 0, fp_17, rfl, hI_742, h_16, (by unfold I64; omega), hS, ha.of_sub ⟨rfl, rfl, rfl, rfl, rfl, rfl, rfl, rfl, trivial⟩⟩
 clear hS hI_742
 rintro _ a w ⟨c_215, x_218, fp_216, rfl, hI, h_217, hr_219, hS, ha⟩
 refine in_frame ha ?_
 clear ha
 replace hV := hV _ hI
 clear hI
 refine WC.sr ?_
 refine WL.run hS rfl rfl rfl (ex_lss rfl rfl) ?_
 refine WL.nx ?_
 refine WC.seq ?_
 refine WC.cond rfl ?_ ?_
 intro hc_741
 replace hV := hV.1 (of_decide_eq_true hc_741)
 refine WC.skip ?_
 refine WQ.next ?_
 refine WC.seq ?_
 refine WC.block ?_
 refine WC.sr ?_
 obtain ⟨hin_270, hV⟩ := hV
 refine WL.runx hS rfl rfl rfl (ex_index_own Try.underlying35 Try.sizeOf32 rfl rfl h_166 hin_270) ?_
 intro p_271 hp_272
 replace hS := hS.f8
 refine WL.runx hS rfl rfl rfl (exNow (H := H) (L := [(b_2, oc #[v_5, v_10, v_15, v_20, v_25, v_30] 79)] ++ (fp_7 ++ (fp_12 ++ (fp_216 ++ (fp_22 ++ (fp_27 ++ (fp_32 ++ L))))))) (ex_load_own_s Try.isAgg32 rfl rfl h_166 hp_272 hin_270)) ?_
 intro u_273 hu_274
 obtain ⟨rfl, hr_275⟩ := cInt_rep hu_274
 replace hr_275 := has_I64 hr_275
 replace hV := hV hr_275
 refine WL.ma rfl rfl ?_
 refine WL.nx ?_
 refine WC.drawn (σ := [0, 1, 2, 3, 4, 5, 6, 7, 8, 9, 10, 11]) (C := St w0 H (fp_165 ++ ([(b_2, oc #[v_5, v_10, v_15, v_20, v_25, v_30] 79)] ++ (fp_7 ++ (fp_12 ++ (fp_216 ++ (fp_22 ++ (fp_27 ++ (fp_32 ++ L))))))))) [[], [0], [0, 1], [0, 1, 2], [], [4], [4, 5], [4, 5, 6], [], [4, 5, 6, 7, 8], [4, 5, 6, 7, 8, 9], [0, 1, 2, 3, 4, 5, 6, 7, 8, 9, 10]] [11] Try.mixed (by kernel_rfl) (hS.drawn _) ?_
 clear hS w
 refine Wd.run rfl rfl rfl rfl (fun _ => ex_move rfl) fun q_277 hq_276 => ?_
 refine Wd.run rfl rfl rfl rfl (fun _ => ex_nilCheck rfl) fun q_279 hq_278 => ?_
 refine Wd.run rfl rfl rfl rfl (fun _ => ex_fieldAddr (o' := 2) Try.underlying79 rfl Try.sizeOf76 rfl rfl) fun q_281 hq_280 => ?_
 refine Wd.runb (off := 2) rfl rfl rfl rfl (fun _ _ _ h => ex_load_box Try.isAgg76 rfl h) rfl (fun _ h => St.f2 h) fun q_283 hq_282 => ?_
 refine Wd.run rfl rfl rfl rfl (fun _ => ex_move rfl) fun q_285 hq_284 => ?_
 refine Wd.run rfl rfl rfl rfl (fun _ => ex_nilCheck rfl) fun q_287 hq_286 => ?_
 refine Wd.run rfl rfl rfl rfl (fun _ => ex_fieldAddr (o' := 0) Try.underlying79 rfl Try.sizeOf75 rfl rfl) fun q_289 hq_288 => ?_
 refine Wd.runb (off := 0) rfl rfl rfl rfl (fun _ _ _ h => ex_load_box Try.isAgg75 rfl h) rfl (fun _ h => St.f2 h) fun q_291 hq_290 => ?_
 refine Wd.run rfl rfl rfl rfl (fun _ => ex_move rfl) fun q_293 hq_292 => ?_
 obtain ⟨hin_296, hV⟩ := hV
 refine Wd.runx rfl rfl rfl rfl (exAll (ex_index_own Try.underlying75 Try.sizeOf81 rfl rfl h_6 hin_296)) ?_
 intro p_297 hp_298
 intro q_295 hq_294
 refine Wd.runs (fp := fp_7) rfl rfl rfl rfl (ex_load_own_agg Try.isAgg81 Try.sizeOf81 rfl h_6 hp_298 hin_296) (fun _ h => St.f3 h) ?_
 rintro u_301 ⟨_, rfl, hu⟩
 obtain ⟨_, _, rfl, hu_302, hu_303⟩ := hu
 obtain ⟨rfl, hr_304⟩ := hu_302
 replace hr_304 := has_I64 hr_304
 replace hV := hV hr_304
 obtain ⟨_, _, rfl, hu_305, hu_306⟩ := hu_303
 obtain ⟨rfl, hr_307⟩ := hu_305
 replace hr_307 := has_I64 hr_307
 replace hV := hV hr_307
 obtain ⟨rfl, hr_308⟩ := hu_306
 replace hr_308 := has_I64 hr_308
 replace hV := hV hr_308
 intro q_300 hq_299
 refine Wd.turn rfl rfl rfl fun w hS => ?_
 replace hS := hS.f5
 refine WL.delete (k := ((ix nodes_4 (ix c_164 x_218)).1, (ix nodes_4 (ix c_164 x_218)).2.1, (ix nodes_4 (ix c_164 x_218)).2.2)) Try.underlying76 Try.key81 rfl rfl hS h_217 ?_
 clear hS
 intro w fp_309 h_310 hit_311 hS
 refine WL.nil (DQ.mk2 (C' := St w0 H (fp_309 ++ (fp_165 ++ ([(b_2, oc #[v_5, v_10, v_15, v_20, v_25, v_30] 79)] ++ (fp_7 ++ (fp_12 ++ (fp_22 ++ (fp_27 ++ (fp_32 ++ L))))))))) hS ⟨il, il, il, il, il, il, il, il, il, il, il, trivial⟩ ?_)
 clear hS w
 refine Wd.nil fun w hS => ?_
 refine WQ.out nofun ?_
 refine WQ.next ?_
 refine WC.sub (m := [(0, (pq b_2)), (1, i6 level_34), (5, i6 (ix order_19 level_34)), (6, i6 (ix order_19 (level_34 + 1))), (7, v_113), (82, v_113), (83, i6 (c_164.length : Int)), (84, i6 x_218)]) ⟨rfl, rfl, rfl, rfl, rfl, rfl, rfl, rfl, trivial⟩ ?_
 refine WC.region ?_
 obtain ⟨hi_313, hV⟩ := hV
 refine WL.run hS rfl rfl rfl (ex_add rfl rfl hi_313) ?_
 refine WL.mv rfl rfl ?_
 refine WL.nil ?_
 replace hS := hS.f2.f8.f8.f8.f5.f8.f8.f8
 exact WQ.there fun a ha => ⟨((mdel c_215 ((ix nodes_4 (ix c_164 x_218)).1, (ix nodes_4 (ix c_164 x_218)).2.1, (ix nodes_4 (ix c_164 x_218)).2.2)), (x_218 + 1)), ⟨(mdel c_215 ((ix nodes_4 (ix c_164 x_218)).1, (ix nodes_4 (ix c_164 x_218)).2.1, (ix nodes_4 (ix c_164 x_218)).2.2)), (x_218 + 1), fp_309, rfl, hV.1, h_310, hi_313, hS, ha.of_sub ⟨rfl, rfl, rfl, rfl, rfl, rfl, rfl, rfl, trivial⟩⟩, hV.2⟩
 intro hc_741
 replace hV := hV.2 (of_decide_eq_false hc_741)
 refine WC.exit ?_
 refine WQ.pass nofun ?_
 refine WQ.pass nofun ?_
 refine WQ.hit ?_
 refine WQ.next ?_
 refine WC.seq ?_
 refine WC.drawn (σ := [0, 1, 2, 3, 4, 5, 6, 7, 8, 9, 10, 11, 12, 13, 14, 15, 16]) (C := St w0 H ([(b_2, oc #[v_5, v_10, v_15, v_20, v_25, v_30] 79)] ++ (fp_7 ++ (fp_12 ++ (fp_216 ++ (fp_22 ++ (fp_27 ++ (fp_32 ++ (fp_165 ++ L))))))))) [[], [0], [0, 1], [0, 1, 2], [], [], [5], [5, 6], [5, 6, 7], [], [9], [], [], [0, 1, 2, 3, 4, 5, 6, 7, 8, 11], [0, 1, 2, 3, 4, 5, 6, 7, 8, 11, 13], [0, 1, 2, 3, 4, 5, 6, 7, 8, 9, 10, 11, 12, 13, 14], [0, 1, 2, 3, 4, 5, 6, 7, 8, 9, 10, 11, 12, 13, 14, 15]] [14, 16] Try.mixed (by kernel_rfl) (hS.drawn _) ?_
 clear hS w
 refine Wd.run rfl rfl rfl rfl (fun _ => ex_move rfl) fun q_315 hq_314 => ?_
 refine Wd.run rfl rfl rfl rfl (fun _ => ex_nilCheck rfl) fun q_317 hq_316 => ?_
 refine Wd.run rfl rfl rfl rfl (fun _ => ex_fieldAddr (o' := 3) Try.underlying79 rfl Try.sizeOf27 rfl rfl) fun q_319 hq_318 => ?_
 refine Wd.runb (off := 3) rfl rfl rfl rfl (fun _ _ _ h => ex_load_box Try.isAgg27 rfl h) rfl (fun _ h => h) fun q_321 hq_320 => ?_
 refine Wd.run rfl rfl rfl rfl (fun _ => ex_move rfl) fun q_323 hq_322 => ?_
 refine Wd.run rfl rfl rfl rfl (fun _ => ex_move rfl) fun q_325 hq_324 => ?_
 refine Wd.run rfl rfl rfl rfl (fun _ => ex_nilCheck rfl) fun q_327 hq_326 => ?_
 refine Wd.run rfl rfl rfl rfl (fun _ => ex_fieldAddr (o' := 3) Try.underlying79 rfl Try.sizeOf27 rfl rfl) fun q_329 hq_328 => ?_
 refine Wd.runb (off := 3) rfl rfl rfl rfl (fun _ _ _ h => ex_load_box Try.isAgg27 rfl h) rfl (fun _ h => h) fun q_331 hq_330 => ?_
 refine Wd.run rfl rfl rfl rfl (fun _ => ex_move rfl) fun q_333 hq_332 => ?_
 obtain ⟨hi_337, hV⟩ := hV
 refine Wd.run rfl rfl rfl rfl (fun _ => ex_add rfl rfl hi_337) fun q_335 hq_334 => ?_
 refine Wd.run rfl rfl rfl rfl (fun _ => ex_move rfl) fun q_339 hq_338 => ?_
 refine Wd.run rfl rfl rfl rfl (fun _ => ex_move rfl) fun q_341 hq_340 => ?_
 obtain ⟨hin_344, hV⟩ := hV
 refine Wd.runx rfl rfl rfl rfl (exAll (ex_index_own Try.underlying27 Try.sizeOf3 rfl rfl h_21 hin_344)) ?_
 intro p_345 hp_346
 intro q_343 hq_342
 refine Wd.turn rfl rfl rfl fun w hS => ?_
 replace hS := hS.f5
 refine WL.store_own Try.sizeOf3 rfl rfl rfl (cInt_mk (I64.has hr_64)) hS h_21 hp_346 hin_344 ?_
 clear hS
 intro w fp_348 h_347 hS
 refine WL.nil (DQ.mk2 (C' := St w0 H (fp_348 ++ ([(b_2, oc #[v_5, v_10, v_15, v_20, v_25, v_30] 79)] ++ (fp_7 ++ (fp_12 ++ (fp_216 ++ (fp_27 ++ (fp_32 ++ (fp_165 ++ L))))))))) hS ⟨il, .inr (hq_340 _), il, .inr (hq_334 _), .inr (hq_332 _), il, il, il, il, il, il, il, il, il, trivial⟩ ?_)
 clear hS w
 obtain ⟨hin_351, hV⟩ := hV
 refine Wd.runx rfl rfl rfl rfl (exAll (ex_index_own Try.underlying27 Try.sizeOf3 rfl rfl h_347 hin_351)) ?_
 intro p_352 hp_353
 intro q_350 hq_349
 refine Wd.turn rfl rfl rfl fun w hS => ?_
 refine WL.store_own Try.sizeOf3 rfl rfl rfl (cInt_mk (I64.has hr_56)) hS h_347 hp_353 hin_351 ?_
 clear hS
 intro w fp_355 h_354 hS
 refine WL.nil (DQ.mk2 (C' := St w0 H (fp_355 ++ ([(b_2, oc #[v_5, v_10, v_15, v_20, v_25, v_30] 79)] ++ (fp_7 ++ (fp_12 ++ (fp_216 ++ (fp_27 ++ (fp_32 ++ (fp_165 ++ L))))))))) hS ⟨il, il, il, il, il, il, il, il, il, il, il, il, il, il, il, trivial⟩ ?_)
 clear hS w
 refine Wd.nil fun w hS => ?_
 refine WQ.next ?_
 refine WC.sub (m := [(0, (pq b_2)), (1, i6 level_34), (5, i6 (ix order_19 level_34)), (6, i6 (ix order_19 (level_34 + 1))), (7, v_113)]) ⟨rfl, rfl, rfl, rfl, rfl, trivial⟩ ?_
 refine WC.seq ?_
 refine WC.drawn (σ := [0, 1, 2, 3, 4, 5, 6, 7, 8, 9, 10, 11, 12, 13, 14, 15, 16]) (C := St w0 H (fp_355 ++ ([(b_2, oc #[v_5, v_10, v_15, v_20, v_25, v_30] 79)] ++ (fp_7 ++ (fp_12 ++ (fp_216 ++ (fp_27 ++ (fp_32 ++ (fp_165 ++ L))))))))) [[], [0], [0, 1], [0, 1, 2], [], [], [5], [5, 6], [5, 6, 7], [], [], [10], [], [0, 1, 2, 3, 4, 5, 6, 7, 8, 10, 11], [0, 1, 2, 3, 4, 5, 6, 7, 8, 10, 11, 13], [0, 1, 2, 3, 4, 5, 6, 7, 8, 9, 10, 11, 12, 13, 14], [0, 1, 2, 3, 4, 5, 6, 7, 8, 9, 10, 11, 12, 13, 14, 15]] [14, 16] Try.mixed (by kernel_rfl) (hS.drawn _) ?_
 clear hS w
 refine Wd.run rfl rfl rfl rfl (fun _ => ex_move rfl) fun q_357 hq_356 => ?_
 refine Wd.run rfl rfl rfl rfl (fun _ => ex_nilCheck rfl) fun q_359 hq_358 => ?_
 refine Wd.run rfl rfl rfl rfl (fun _ => ex_fieldAddr (o' := 4) Try.underlying79 rfl Try.sizeOf27 rfl rfl) fun q_361 hq_360 => ?_
 refine Wd.runb (off := 4) rfl rfl rfl rfl (fun _ _ _ h => ex_load_box Try.isAgg27 rfl h) rfl (fun _ h => St.f2 h) fun q_363 hq_362 => ?_
 refine Wd.run rfl rfl rfl rfl (fun _ => ex_move rfl) fun q_365 hq_364 => ?_
 refine Wd.run rfl rfl rfl rfl (fun _ => ex_move rfl) fun q_367 hq_366 => ?_
 refine Wd.run rfl rfl rfl rfl (fun _ => ex_nilCheck rfl) fun q_369 hq_368 => ?_
 refine Wd.run rfl rfl rfl rfl (fun _ => ex_fieldAddr (o' := 4) Try.underlying79 rfl Try.sizeOf27 rfl rfl) fun q_371 hq_370 => ?_
 refine Wd.runb (off := 4) rfl rfl rfl rfl (fun _ _ _ h => ex_load_box Try.isAgg27 rfl h) rfl (fun _ h => St.f2 h) fun q_373 hq_372 => ?_
 refine Wd.run rfl rfl rfl rfl (fun _ => ex_move rfl) fun q_375 hq_374 => ?_
 refine Wd.run rfl rfl rfl rfl (fun _ => ex_move rfl) fun q_377 hq_376 => ?_
 obtain ⟨hi_381, hV⟩ := hV
 refine Wd.run rfl rfl rfl rfl (fun _ => ex_add rfl rfl hi_381) fun q_379 hq_378 => ?_
 refine Wd.run rfl rfl rfl rfl (fun _ => ex_move rfl) fun q_383 hq_382 => ?_
 obtain ⟨hin_386, hV⟩ := hV
 refine Wd.runx rfl rfl rfl rfl (exAll (ex_index_own Try.underlying27 Try.sizeOf3 rfl rfl h_26 hin_386)) ?_
 intro p_387 hp_388
 intro q_385 hq_384
 refine Wd.turn rfl rfl rfl fun w hS => ?_
 replace hS := hS.f6
 refine WL.store_own Try.sizeOf3 rfl rfl rfl (cInt_mk (I64.has hi_381)) hS h_26 hp_388 hin_386 ?_
 clear hS
 intro w fp_390 h_389 hS
 refine WL.nil (DQ.mk2 (C' := St w0 H (fp_390 ++ (fp_355 ++ ([(b_2, oc #[v_5, v_10, v_15, v_20, v_25, v_30] 79)] ++ (fp_7 ++ (fp_12 ++ (fp_216 ++ (fp_32 ++ (fp_165 ++ L))))))))) hS ⟨il, .inr (hq_382 _), il, il, .inr (hq_374 _), il, il, il, il, il, il, il, il, il, trivial⟩ ?_)
 clear hS w
 obtain ⟨hin_393, hV⟩ := hV
 refine Wd.runx rfl rfl rfl rfl (exAll (ex_index_own Try.underlying27 Try.sizeOf3 rfl rfl h_389 hin_393)) ?_
 intro p_394 hp_395
 intro q_392 hq_391
 refine Wd.turn rfl rfl rfl fun w hS => ?_
 refine WL.store_own Try.sizeOf3 rfl rfl rfl (cInt_mk (I64.has hr_35)) hS h_389 hp_395 hin_393 ?_
 clear hS
 intro w fp_397 h_396 hS
 refine WL.nil (DQ.mk2 (C' := St w0 H (fp_397 ++ (fp_355 ++ ([(b_2, oc #[v_5, v_10, v_15, v_20, v_25, v_30] 79)] ++ (fp_7 ++ (fp_12 ++ (fp_216 ++ (fp_32 ++ (fp_165 ++ L))))))))) hS ⟨il, il, il, il, il, il, il, il, il, il, il, il, il, il, il, trivial⟩ ?_)
 clear hS w
 refine Wd.nil fun w hS => ?_
 refine WQ.next ?_
 refine WC.sub (m := [(0, (pq b_2)), (5, i6 (ix order_19 level_34)), (6, i6 (ix order_19 (level_34 + 1))), (7, v_113)]) ⟨rfl, rfl, rfl, rfl, trivial⟩ ?_
 refine WC.seq ?_
 refine WC.sr ?_
 refine WL.mv rfl rfl ?_
 have hl_398 : Len c_164 := h_166.bound
 replace hV := hV hl_398
 refine WL.run hS rfl rfl rfl (ex_len_own Try.underlying35 rfl h_166) ?_
 refine WL.mv rfl rfl ?_
 refine WL.nx ?_
 refine WC.block ?_
 replace hS := hS.f8.f8.f3.f4.f8.f8.f8.f8
 obtain ⟨I_628, mu_629, hI_740, hV⟩ := hV
 refine WC.loop (σ := N3 × LI × M3 × Int) (fun s a w => ∃ (c_507 : N3) (c_512 : LI) (c_516 : M3) (x_519 : Int) (v_508 : Value) (fp_509 : Seg) (v_513 : Value) (fp_514 : Seg) (fp_517 : Seg), s = (c_507, c_512, c_516, x_519) ∧ I_628 (c_507, c_512, c_516, x_519) ∧ OwnSl H (cPair (cInt .i64) (cPair (cInt .i64) (cInt .i64))) 81 v_508 c_507 fp_509 ∧ OwnSl H (cInt .i64) 32 v_513 c_512 fp_514 ∧ OwnMp H kTri (cInt .i64) v_15 c_516 fp_517 ∧ I64 x_519 ∧ St w0 H ([(b_2, oc #[v_508, v_513, v_15, v_20, v_25, v_30] 79)] ++ (fp_509 ++ (fp_514 ++ (fp_517 ++ (fp_355 ++ (fp_397 ++ (fp_32 ++ (fp_165 ++ L)))))))) w ∧ Fr 196 [(0, (pq b_2)), (5, i6 (ix order_19 level_34)), (6, i6 (ix order_19 (level_34 + 1))), (130, v_113), (131, i6 (c_164.length : Int)), (132, i6 x_519)] a) mu_629 (nodes_4, free_9, c_215, 0) ?_ ?_
 exact fun a ha => ⟨nodes_4, free_9, c_215, 0, v_5, fp_7, v_10, fp_12, fp_216, rfl, hI_740, h_6, h_11, h_217, (by unfold I64; omega), hS, ha.of_sub ⟨rfl, rfl, rfl, rfl, rfl, rfl, trivial⟩⟩
 clear hS hI_740
 rintro _ a w ⟨c_507, c_512, c_516, x_519, v_508, fp_509, v_513, fp_514, fp_517, rfl, hI, h_510, h_515, h_518, hr_520, hS, ha⟩
 refine in_frame ha ?_
 clear ha
 replace hV := hV _ hI
 clear hI
 refine WC.sr ?_
 refine WL.run hS rfl rfl rfl (ex_lss rfl rfl) ?_
 refine WL.nx ?_
 refine WC.seq ?_
 refine WC.cond rfl ?_ ?_
 intro hc_739
 replace hV := hV.1 (of_decide_eq_true hc_739)
 refine WC.skip ?_
 refine WQ.next ?_
 refine WC.seq ?_
 refine WC.block ?_
 refine WC.sr ?_
 obtain ⟨hin_632, hV⟩ := hV
 refine WL.runx hS rfl rfl rfl (ex_index_own Try.underlying35 Try.sizeOf32 rfl rfl h_166 hin_632) ?_
 intro p_633 hp_634
 replace hS := hS.f8
 refine WL.runx hS rfl rfl rfl (exNow (H := H) (L := [(b_2, oc #[v_508, v_513, v_15, v_20, v_25, v_30] 79)] ++ (fp_509 ++ (fp_514 ++ (fp_517 ++ (fp_355 ++ (fp_397 ++ (fp_32 ++ L))))))) (ex_load_own_s Try.isAgg32 rfl rfl h_166 hp_634 hin_632)) ?_
 intro u_635 hu_636
 obtain ⟨rfl, hr_637⟩ := cInt_rep hu_636
 replace hr_637 := has_I64 hr_637
 replace hV := hV hr_637
 refine WL.ma rfl rfl ?_
 refine WL.nx ?_
 refine WC.sr ?_
 refine WL.mv rfl rfl ?_
 refine WL.run hS rfl rfl rfl (ex_nilCheck rfl) ?_
 refine WL.run hS rfl rfl rfl (ex_fieldAddr (o' := 0) Try.underlying79 rfl Try.sizeOf75 rfl rfl) ?_
 replace hS := hS.f2
 refine WL.run hS rfl rfl rfl (ex_load_box Try.isAgg75 rfl rfl) ?_
 refine WL.mv rfl rfl ?_
 obtain ⟨hin_638, hV⟩ := hV
 refine WL.runx hS rfl rfl rfl (ex_index_own Try.underlying75 Try.sizeOf81 rfl rfl h_510 hin_638) ?_
 intro p_639 hp_640
 replace hS := hS.f3
 refine WL.runx hS rfl rfl rfl (exNow (H := H) (L := [(b_2, oc #[v_508, v_513, v_15, v_20, v_25, v_30] 79)] ++ (fp_165 ++ (fp_514 ++ (fp_517 ++ (fp_355 ++ (fp_397 ++ (fp_32 ++ L))))))) (ex_load_own_agg Try.isAgg81 Try.sizeOf81 rfl h_510 hp_640 hin_638)) ?_
 rintro u_641 ⟨_, rfl, hu⟩
 obtain ⟨_, _, rfl, hu_642, hu_643⟩ := hu
 obtain ⟨rfl, hr_644⟩ := hu_642
 replace hr_644 := has_I64 hr_644
 replace hV := hV hr_644
 obtain ⟨_, _, rfl, hu_645, hu_646⟩ := hu_643
 obtain ⟨rfl, hr_647⟩ := hu_645
 replace hr_647 := has_I64 hr_647
 replace hV := hV hr_647
 obtain ⟨rfl, hr_648⟩ := hu_646
 replace hr_648 := has_I64 hr_648
 replace hV := hV hr_648
 refine WL.alloc (arr := #[i6 0, i6 0, i6 0]) rfl Try.zeroValue81 rfl hS ?_
 clear hS
 intro b_649 w hS
 refine WL.store_box (pre := []) (old := [i6 0, i6 0, i6 0]) (rst := []) (cs := [i6 ((ix c_507 (ix c_164 x_519)).1), i6 ((ix c_507 (ix c_164 x_519)).2.1), i6 ((ix c_507 (ix c_164 x_519)).2.2)]) (arr' := #[i6 ((ix c_507 (ix c_164 x_519)).1), i6 ((ix c_507 (ix c_164 x_519)).2.1), i6 ((ix c_507 (ix c_164 x_519)).2.2)]) Try.sizeOf81 rfl rfl rfl ⟨rfl, rfl, rfl, trivial⟩ rfl rfl rfl rfl hS ?_
 clear hS
 intro w hS
 refine WL.nx ?_
 refine WC.sub (m := [(0, (pq b_2)), (5, i6 (ix order_19 level_34)), (6, i6 (ix order_19 (level_34 + 1))), (13, i6 (ix c_164 x_519)), (14, (pq b_649)), (130, v_113), (131, i6 (c_164.length : Int)), (132, i6 x_519)]) ⟨rfl, rfl, rfl, rfl, rfl, rfl, rfl, rfl, trivial⟩ ?_
 refine WC.sr ?_
 refine WL.mv rfl rfl ?_
 refine WL.run hS rfl rfl rfl (ex_fieldAddr (o' := 1) Try.underlying81 rfl Try.sizeOf32 rfl rfl) ?_
 refine WL.run hS rfl rfl rfl (ex_load_box Try.isAgg32 rfl rfl) ?_
 refine WL.mv rfl rfl ?_
 replace hS := hS.f9.f9.f9.f9.f9.f7.f8
 refine WL.call rfl rfl rfl (enters0 (vs := [(pq b_2), i6 ((ix c_507 (ix c_164 x_519)).2.1), i6 (ix order_19 (level_34 + 1))]) Try.call50 ⟨rfl, rfl, rfl, trivial⟩) (S_under  h_510 h_515 h_518 h_354 h_396 h_31 hr_647 hr_64 hS hV) ?_
 clear hV hS
 rintro _ w ⟨r_651, r_653, hV, rfl, hr_652, hr_654, hS⟩
 refine ⟨_, rfl, ?_⟩
 refine WL.mv rfl rfl ?_
 refine WL.run hS rfl rfl rfl (ex_extract rfl rfl) ?_
 refine WL.run hS rfl rfl rfl (ex_extract rfl rfl) ?_
 refine WL.ma rfl rfl ?_
 refine WL.ma rfl rfl ?_
 refine WL.nx ?_
 refine WC.sr ?_
 refine WL.mv rfl rfl ?_
 refine WL.run hS rfl rfl rfl (ex_fieldAddr (o' := 2) Try.underlying81 rfl Try.sizeOf32 rfl rfl) ?_
 replace hS := hS.f8
 refine WL.run hS rfl rfl rfl (ex_load_box Try.isAgg32 rfl rfl) ?_
 refine WL.mv rfl rfl ?_
 replace hS := hS.f8.f8.f8.f8.f8.f8.f8
 refine WL.call rfl rfl rfl (enters0 (vs := [(pq b_2), i6 ((ix c_507 (ix c_164 x_519)).2.2), i6 (ix order_19 (level_34 + 1))]) Try.call50 ⟨rfl, rfl, rfl, trivial⟩) (S_under  h_510 h_515 h_518 h_354 h_396 h_31 hr_648 hr_64 hS hV) ?_
 clear hV hS
 rintro _ w ⟨r_656, r_658, hV, rfl, hr_657, hr_659, hS⟩
 refine ⟨_, rfl, ?_⟩
 refine WL.mv rfl rfl ?_
 refine WL.run hS rfl rfl rfl (ex_extract rfl rfl) ?_
 refine WL.run hS rfl rfl rfl (ex_extract rfl rfl) ?_
 refine WL.ma rfl rfl ?_
 refine WL.ma rfl rfl ?_
 refine WL.nx ?_
 refine WC.sub (m := [(0, (pq b_2)), (5, i6 (ix order_19 level_34)), (6, i6 (ix order_19 (level_34 + 1))), (13, i6 (ix c_164 x_519)), (15, i6 r_651), (16, i6 r_653), (17, i6 r_656), (18, i6 r_658), (130, v_113), (131, i6 (c_164.length : Int)), (132, i6 x_519)]) ⟨rfl, rfl, rfl, rfl, rfl, rfl, rfl, rfl, rfl, rfl, rfl, trivial⟩ ?_
 replace hS := hS.f8.drop
 refine WC.sr ?_
 refine WL.mv rfl rfl ?_
 refine WL.mv rfl rfl ?_
 refine WL.mv rfl rfl ?_
 refine WL.mv rfl rfl ?_
 replace hS := hS.f7.f7.f7.f7.f7.f7.f7
 refine WL.call rfl rfl rfl (enters0 (vs := [(pq b_2), i6 (ix order_19 level_34), i6 r_651, i6 r_656]) Try.call51 ⟨rfl, rfl, rfl, rfl, trivial⟩) (S_make  h_510 h_515 h_518 h_354 h_396 h_31 hr_56 hr_652 hr_657 hS hV) ?_
 clear hV hS
 rintro _ w ⟨r_661, c_663, c_667, m_671, v_664, fp_665, v_668, fp_669, fp_672, hV, rfl, hr_662, h_666, h_670, h_673, hS⟩
 refine ⟨_, rfl, ?_⟩
 refine WL.mv rfl rfl ?_
 refine WL.mv rfl rfl ?_
 refine WL.mv rfl rfl ?_
 refine WL.mv rfl rfl ?_
 replace hS := hS.f7.f7.f7.f7.f7.f7.f7
 refine WL.call rfl rfl rfl (enters0 (vs := [(pq b_2), i6 (ix order_19 level_34), i6 r_653, i6 r_658]) Try.call51 ⟨rfl, rfl, rfl, rfl, trivial⟩) (S_make  h_666 h_670 h_673 h_354 h_396 h_31 hr_56 hr_654 hr_659 hS hV) ?_
 clear hV hS
 rintro _ w ⟨r_677, c_679, c_683, m_687, v_680, fp_681, v_684, fp_685, fp_688, hV, rfl, hr_678, h_682, h_686, h_689, hS⟩
 refine ⟨_, rfl, ?_⟩
 refine WL.ma rfl rfl ?_
 refine WL.ma rfl rfl ?_
 refine WL.nx ?_
 refine WC.sub (m := [(0, (pq b_2)), (5, i6 (ix order_19 level_34)), (6, i6 (ix order_19 (level_34 + 1))), (13, i6 (ix c_164 x_519)), (19, i6 r_661), (20, i6 r_677), (130, v_113), (131, i6 (c_164.length : Int)), (132, i6 x_519)]) ⟨rfl, rfl, rfl, rfl, rfl, rfl, rfl, rfl, rfl, trivial⟩ ?_
 refine WC.sr ?_
 refine WL.mv rfl rfl ?_
 refine WL.run hS rfl rfl rfl (ex_nilCheck rfl) ?_
 refine WL.run hS rfl rfl rfl (ex_fieldAddr (o' := 0) Try.underlying79 rfl Try.sizeOf75 rfl rfl) ?_
 refine WL.run hS rfl rfl rfl (ex_load_box Try.isAgg75 rfl rfl) ?_
 refine WL.mv rfl rfl ?_
 refine WL.mv rfl rfl ?_
 refine WL.mv rfl rfl ?_
 refine WL.mv rfl rfl ?_
 refine WL.run hS rfl rfl rfl (ex_build (vs := [i6 (ix order_19 (level_34 + 1)), i6 r_661, i6 r_677]) (zc := #[i6 0, i6 0, i6 0]) (cs := #[i6 (ix order_19 (level_34 + 1)), i6 r_661, i6 r_677]) (places := #[(0, 1), (1, 1), (2, 1)]) Try.underlying81 Try.zeroValue81 (fun w => by simp [Try.sizeOf3, Try.sizeOf32]) rfl ⟨rfl, rfl, rfl, trivial⟩ rfl (by simp [Instr.fill, cells_int, cells_bool])) ?_
 obtain ⟨hin_693, hV⟩ := hV
 refine WL.runx hS rfl rfl rfl (ex_index_own Try.underlying75 Try.sizeOf81 rfl rfl h_682 hin_693) ?_
 intro p_694 hp_695
 replace hS := hS.f2
 refine WL.store_own_agg (c := (cPair (cInt .i64) (cPair (cInt .i64) (cInt .i64)))) (z := ((ix order_19 (level_34 + 1)), r_661, r_677)) (m' := [i6 (ix order_19 (level_34 + 1)), i6 r_661, i6 r_677]) Try.sizeOf81 rfl rfl rfl ⟨rfl, rfl, rfl, trivial⟩ ⟨[i6 (ix order_19 (level_34 + 1))], _, rfl, (cInt_mk (I64.has hr_64)), ⟨[i6 r_661], _, rfl, (cInt_mk (I64.has hr_662)), (cInt_mk (I64.has hr_678))⟩⟩ hS h_682 hp_695 hin_693 ?_
 clear hS
 intro w fp_697 h_696 hS
 refine WL.nx ?_
 refine WC.sub (m := [(0, (pq b_2)), (5, i6 (ix order_19 level_34)), (6, i6 (ix order_19 (level_34 + 1))), (13, i6 (ix c_164 x_519)), (130, v_113), (131, i6 (c_164.length : Int)), (132, i6 x_519)]) ⟨rfl, rfl, rfl, rfl, rfl, rfl, rfl, trivial⟩ ?_
 refine WC.drawn (σ := [0, 1, 2, 3, 4, 5, 6, 7, 8, 9, 10, 11, 12]) (C := St w0 H (fp_697 ++ ([(b_2, oc #[v_680, v_684, v_15, v_20, v_25, v_30] 79)] ++ (fp_685 ++ (fp_688 ++ (fp_355 ++ (fp_397 ++ (fp_32 ++ (fp_165 ++ L))))))))) [[], [0], [0, 1], [0, 1, 2], [], [4], [4, 5], [4, 5, 6], [], [4, 5, 6, 7, 8], [4, 5, 6, 7, 8, 9], [], [0, 1, 2, 3, 4, 5, 6, 7, 8, 9, 10, 11]] [12] Try.mixed (by kernel_rfl) (hS.drawn _) ?_
 clear hS w
 refine Wd.run rfl rfl rfl rfl (fun _ => ex_move rfl) fun q_699 hq_698 => ?_
 refine Wd.run rfl rfl rfl rfl (fun _ => ex_nilCheck rfl) fun q_701 hq_700 => ?_
 refine Wd.run rfl rfl rfl rfl (fun _ => ex_fieldAddr (o' := 2) Try.underlying79 rfl Try.sizeOf76 rfl rfl) fun q_703 hq_702 => ?_
 refine Wd.runb (off := 2) rfl rfl rfl rfl (fun _ _ _ h => ex_load_box Try.isAgg76 rfl h) rfl (fun _ h => St.f2 h) fun q_705 hq_704 => ?_
 refine Wd.run rfl rfl rfl rfl (fun _ => ex_move rfl) fun q_707 hq_706 => ?_
 refine Wd.run rfl rfl rfl rfl (fun _ => ex_nilCheck rfl) fun q_709 hq_708 => ?_
 refine Wd.run rfl rfl rfl rfl (fun _ => ex_fieldAddr (o' := 0) Try.underlying79 rfl Try.sizeOf75 rfl rfl) fun q_711 hq_710 => ?_
 refine Wd.runb (off := 0) rfl rfl rfl rfl (fun _ _ _ h => ex_load_box Try.isAgg75 rfl h) rfl (fun _ h => St.f2 h) fun q_713 hq_712 => ?_
 refine Wd.run rfl rfl rfl rfl (fun _ => ex_move rfl) fun q_715 hq_714 => ?_
 obtain ⟨hin_718, hV⟩ := hV
 refine Wd.runx rfl rfl rfl rfl (exAll (ex_index_own Try.underlying75 Try.sizeOf81 rfl rfl h_696 hin_718)) ?_
 intro p_719 hp_720
 intro q_717 hq_716
 refine Wd.runs (fp := fp_697) rfl rfl rfl rfl (ex_load_own_agg Try.isAgg81 Try.sizeOf81 rfl h_696 hp_720 hin_718) (fun _ h => h) ?_
 rintro u_723 ⟨_, rfl, hu⟩
 obtain ⟨_, _, rfl, hu_724, hu_725⟩ := hu
 obtain ⟨rfl, hr_726⟩ := hu_724
 replace hr_726 := has_I64 hr_726
 replace hV := hV hr_726
 obtain ⟨_, _, rfl, hu_727, hu_728⟩ := hu_725
 obtain ⟨rfl, hr_729⟩ := hu_727
 replace hr_729 := has_I64 hr_729
 replace hV := hV hr_729
 obtain ⟨rfl, hr_730⟩ := hu_728
 replace hr_730 := has_I64 hr_730
 replace hV := hV hr_730
 intro q_722 hq_721
 refine Wd.run rfl rfl rfl rfl (fun _ => ex_move rfl) fun q_732 hq_731 => ?_
 refine Wd.turn rfl rfl rfl fun w hS => ?_
 replace hS := hS.f4
 refine WL.mapUpdate (k := ((ix (c_679.set (ix c_164 x_519).toNat ((ix order_19 (level_34 + 1)), r_661, r_677)) (ix c_164 x_519)).1, (ix (c_679.set (ix c_164 x_519).toNat ((ix order_19 (level_34 + 1)), r_661, r_677)) (ix c_164 x_519)).2.1, (ix (c_679.set (ix c_164 x_519).toNat ((ix order_19 (level_34 + 1)), r_661, r_677)) (ix c_164 x_519)).2.2)) (e := (ix c_164 x_519)) Try.underlying76 Try.key81 ⟨hr_726, hr_729, hr_730⟩ (cInt_mk (I64.has hr_637)) rfl rfl rfl hS h_689 ?_
 clear hS
 intro w fp_733 h_734 hS
 refine WL.nil (DQ.mk2 (C' := St w0 H (fp_733 ++ (fp_697 ++ ([(b_2, oc #[v_680, v_684, v_15, v_20, v_25, v_30] 79)] ++ (fp_685 ++ (fp_355 ++ (fp_397 ++ (fp_32 ++ (fp_165 ++ L))))))))) hS ⟨il, il, il, il, il, il, il, il, il, il, il, il, trivial⟩ ?_)
 clear hS w
 refine Wd.nil fun w hS => ?_
 refine WQ.out nofun ?_
 refine WQ.next ?_
 refine WC.sub (m := [(0, (pq b_2)), (5, i6 (ix order_19 level_34)), (6, i6 (ix order_19 (level_34 + 1))), (130, v_113), (131, i6 (c_164.length : Int)), (132, i6 x_519)]) ⟨rfl, rfl, rfl, rfl, rfl, rfl, trivial⟩ ?_
 refine WC.region ?_
 obtain ⟨hi_736, hV⟩ := hV
 refine WL.run hS rfl rfl rfl (ex_add rfl rfl hi_736) ?_
 refine WL.mv rfl rfl ?_
 refine WL.nil ?_
 replace hS := hS.f8.f8.f8.f8.f5.f8.f7.f8
 exact WQ.there fun a ha => ⟨((c_679.set (ix c_164 x_519).toNat ((ix order_19 (level_34 + 1)), r_661, r_677)), c_683, (mset m_687 ((ix (c_679.set (ix c_164 x_519).toNat ((ix order_19 (level_34 + 1)), r_661, r_677)) (ix c_164 x_519)).1, (ix (c_679.set (ix c_164 x_519).toNat ((ix order_19 (level_34 + 1)), r_661, r_677)) (ix c_164 x_519)).2.1, (ix (c_679.set (ix c_164 x_519).toNat ((ix order_19 (level_34 + 1)), r_661, r_677)) (ix c_164 x_519)).2.2) (ix c_164 x_519)), (x_519 + 1)), ⟨(c_679.set (ix c_164 x_519).toNat ((ix order_19 (level_34 + 1)), r_661, r_677)), c_683, (mset m_687 ((ix (c_679.set (ix c_164 x_519).toNat ((ix order_19 (level_34 + 1)), r_661, r_677)) (ix c_164 x_519)).1, (ix (c_679.set (ix c_164 x_519).toNat ((ix order_19 (level_34 + 1)), r_661, r_677)) (ix c_164 x_519)).2.1, (ix (c_679.set (ix c_164 x_519).toNat ((ix order_19 (level_34 + 1)), r_661, r_677)) (ix c_164 x_519)).2.2) (ix c_164 x_519)), (x_519 + 1), v_680, fp_697, v_684, fp_685, fp_733, rfl, hV.1, h_696, h_686, h_734, hi_736, hS, ha.of_sub ⟨rfl, rfl, rfl, rfl, rfl, rfl, trivial⟩⟩, hV.2⟩
 intro hc_739
 replace hV := hV.2 (of_decide_eq_false hc_739)
 refine WC.exit ?_
 refine WQ.pass nofun ?_
 refine WQ.pass nofun ?_
 refine WQ.hit ?_
 refine WQ.next ?_
 replace hS := hS.f8.drop
 refine WC.sr ?_
 refine WL.mv rfl rfl ?_
 refine WL.run hS rfl rfl rfl (ex_nilCheck rfl) ?_
 refine WL.run hS rfl rfl rfl (ex_fieldAddr (o' := 5) Try.underlying79 rfl Try.sizeOf77 rfl rfl) ?_
 refine WL.run hS rfl rfl rfl (ex_load_box Try.isAgg77 rfl rfl) ?_
 replace hS := hS.f7
 refine WL.clearmap Try.underlying77 rfl hS h_31 ?_
 clear hS
 intro w fp_737 h_738 hS
 refine WL.nx ?_
 refine WC.sub (m := []) trivial ?_
 refine WC.sr ?_
 refine WL.ma rfl rfl ?_
 refine WL.nx ?_
 refine WC.ret ?_
 replace hS := hS.f7.f7.f7.f7.f7.f7
 exact leave1 rfl rfl ⟨true, c_507, c_512, c_516, ((order_19.set level_34.toNat (ix order_19 (level_34 + 1))).set (level_34 + 1).toNat (ix order_19 level_34)), ((level_24.set (ix order_19 level_34).toNat (level_34 + 1)).set (ix order_19 (level_34 + 1)).toNat level_34), ([] : M3), v_508, fp_509, v_513, fp_514, fp_517, v_20, fp_355, v_25, fp_397, fp_737, hV, rfl, h_510, h_515, h_518, h_354, h_396, h_738, hS⟩
 clear hS
 intro k_743 e_744 u_745 w fp_746 h_747 h_748 h_749 h_750 h_751 h_752 hS
 obtain ⟨rfl, hr_753⟩ := cInt_rep h_750
 replace hr_753 := has_I64 hr_753
 replace hV := hV.2 k_743 e_744 h_747 h_748 h_749 hr_753
 refine WL.run hS rfl rfl rfl (ex_extract rfl rfl) ?_
 refine WL.nx ?_
 refine WC.seq ?_
 refine WC.cond_true rfl ?_
 refine WC.skip ?_
 refine WQ.next ?_
 refine WC.block ?_
 refine WC.sr ?_
 replace hS := hS.f2.f2
 refine WL.run hS rfl rfl rfl (ex_entry (H := H) rfl h_751 h_752) ?_
 refine WL.run hS rfl rfl rfl (ex_extract rfl rfl) ?_
 refine WL.run hS rfl rfl rfl (ex_extract rfl rfl) ?_
 refine WL.alloc (arr := #[i6 0, i6 0, i6 0]) rfl Try.zeroValue81 rfl hS ?_
 clear hS
 intro b_754 w hS
 refine WL.store_box (pre := []) (old := [i6 0, i6 0, i6 0]) (rst := []) (cs := [i6 k_743.1, i6 k_743.2.1, i6 k_743.2.2]) (arr' := #[i6 k_743.1, i6 k_743.2.1, i6 k_743.2.2]) Try.sizeOf81 rfl rfl rfl ⟨rfl, rfl, rfl, trivial⟩ rfl rfl rfl rfl hS ?_
 clear hS
 intro w hS
 refine WL.ma rfl rfl ?_
 refine WL.nx ?_
 obtain ⟨J_764, hJ_765, hV⟩ := hV
 refine WC.meet (fun a w => ∃ (x_763 : Bool), J_764 x_763 ∧ St w0 H ([(b_2, oc #[v_5, v_10, v_15, v_20, v_25, v_30] 79)] ++ (fp_7 ++ (fp_12 ++ (fp_17 ++ (fp_22 ++ (fp_27 ++ (fp_32 ++ (fp_114 ++ (fp_746 ++ L))))))))) w ∧ Fr 196 [(0, (pq b_2)), (1, i6 level_34), (5, i6 (ix order_19 level_34)), (6, i6 (ix order_19 (level_34 + 1))), (7, v_113), (9, i6 e_744), (52, (pq b_66)), (75, .bool x_763)] a) ?_ ?_
 rintro a w ⟨x_763, hI, hS, ha⟩
 refine in_frame ha ?_
 clear ha hV
 have hV := hJ_765 _ hI
 clear hI hJ_765
 refine WC.cond rfl ?_ ?_
 intro hc_782
 replace hV := hV.1 hc_782
 refine WC.region ?_
 refine WL.mv rfl rfl ?_
 refine WL.mv rfl rfl ?_
 refine WL.build1 (c := (cInt .i64)) rfl Try.underlying35 Try.info32 rfl rfl (cInt_mk (I64.has hr_753)) hS ?_
 clear hS
 intro v_774 w fp_775 h_776 hS
 obtain ⟨hr_777, hV⟩ := hV
 replace hS := hS.f9
 refine WL.append (c := (cInt .i64)) (xs := ask_112) (ys := ([e_744])) rfl Try.underlying35 Try.info32 rfl rfl rfl hS h_115 (h_776.src hS.f2) hr_777.1 hr_777.2 ?_
 clear hS
 intro v_778 w fp_779 h_780 hS
 refine WL.ma rfl rfl ?_
 refine WL.nil ?_
 refine WQ.out nofun ?_
 replace hS := hS.f2.drop
 replace hS := hS.f9.f2.f9.f9.f9.f9.f9.f9.f9
 exact WQ.there fun a ha => ⟨((ask_112 ++ ([e_744])), (k_743 :: sn_116)), ⟨(ask_112 ++ ([e_744])), (k_743 :: sn_116), v_778, fp_779, fp_746, rfl, hV.1, h_780, h_751, hS, ha.of_sub ⟨rfl, rfl, rfl, rfl, rfl, rfl, trivial⟩⟩, hV.2⟩
 intro hc_782
 replace hV := hV.2 hc_782
 refine WC.skip ?_
 refine WQ.out nofun ?_
 replace hS := hS.f9.f9.f9.f9.f9.f9.f9.f9.f9
 exact WQ.there fun a ha => ⟨(ask_112, (k_743 :: sn_116)), ⟨ask_112, (k_743 :: sn_116), v_113, fp_114, fp_746, rfl, hV.1, h_115, h_751, hS, ha.of_sub ⟨rfl, rfl, rfl, rfl, rfl, rfl, trivial⟩⟩, hV.2⟩
 clear hJ_765
 refine WC.region ?_
 refine WL.run hS rfl rfl rfl (ex_fieldAddr (o' := 0) Try.underlying81 rfl Try.sizeOf3 rfl rfl) ?_
 refine WL.run hS rfl rfl rfl (ex_load_box Try.isAgg3 rfl rfl) ?_
 refine WL.mv rfl rfl ?_
 refine WL.run hS rfl rfl rfl (ex_eql rfl rfl) ?_
 refine WL.mv rfl rfl ?_
 rcases Bool.eq_false_or_eq_true (decide (k_743.1 = (ix order_19 level_34))) with hg_767 | hg_767
 replace hV := hV.1 (of_decide_eq_true hg_767)
 refine WL.unguard rfl rfl hg_767 ?_
 refine WL.mv rfl rfl ?_
 refine WL.unguard rfl rfl hg_767 ?_
 refine WL.run hS rfl rfl rfl (ex_fieldAddr (o' := 1) Try.underlying81 rfl Try.sizeOf32 rfl rfl) ?_
 refine WL.unguard rfl rfl hg_767 ?_
 refine WL.run hS rfl rfl rfl (ex_load_box Try.isAgg32 rfl rfl) ?_
 refine WL.unguard rfl rfl hg_767 ?_
 refine WL.mv rfl rfl ?_
 refine WL.unguard rfl rfl hg_767 ?_
 replace hS := hS.f9.f9.f9.f6.f9.f9.f9
 refine WL.call rfl rfl rfl (enters0 (vs := [(pq b_2), i6 k_743.2.1, i6 (ix order_19 (level_34 + 1))]) Try.call48 ⟨rfl, rfl, rfl, trivial⟩) (S_asks  h_6 h_11 h_16 h_21 h_26 h_31 h_749.2.1 hr_64 hS hV) ?_
 clear hV hS
 rintro _ w ⟨r_768, hV, rfl, hS⟩
 refine ⟨_, rfl, ?_⟩
 refine WL.unguard rfl rfl hg_767 ?_
 refine WL.mv rfl rfl ?_
 rcases Bool.eq_false_or_eq_true r_768 with hg_770 | hg_770
 replace hV := hV.1 hg_770
 refine WL.skip_g rfl rfl rfl hg_770 rfl rfl ?_
 refine WL.skip_g rfl rfl rfl hg_770 rfl rfl ?_
 refine WL.skip_g rfl rfl rfl hg_770 rfl rfl ?_
 refine WL.skip_g rfl rfl rfl hg_770 rfl rfl ?_
 refine WL.skip_g rfl rfl rfl hg_770 rfl rfl ?_
 refine WL.unguard rfl rfl hg_767 ?_
 refine WL.run hS rfl rfl rfl (ex_pick_t rfl hg_770 rfl) ?_
 refine WL.run hS rfl rfl rfl (ex_pick_t rfl hg_767 rfl) ?_
 refine WL.nil ?_
 replace hS := hS.f8.drop
 replace hS := hS.f8.f9.f9.f9.f9.f9.f9.f9.f9
 exact WQ.there fun a ha => ⟨true, hV, hS, ha.of_sub ⟨rfl, rfl, rfl, rfl, rfl, rfl, rfl, rfl, trivial⟩⟩
 replace hV := hV.2 hg_770
 refine WL.unguard rfl rfl hg_770 ?_
 refine WL.mv rfl rfl ?_
 refine WL.unguard rfl rfl hg_770 ?_
 refine WL.run hS rfl rfl rfl (ex_fieldAddr (o' := 2) Try.underlying81 rfl Try.sizeOf32 rfl rfl) ?_
 refine WL.unguard rfl rfl hg_770 ?_
 replace hS := hS.f8
 refine WL.run hS rfl rfl rfl (ex_load_box Try.isAgg32 rfl rfl) ?_
 refine WL.unguard rfl rfl hg_770 ?_
 refine WL.mv rfl rfl ?_
 refine WL.unguard rfl rfl hg_770 ?_
 replace hS := hS.f8.f8.f8.f8.f8.f8.f8
 refine WL.call rfl rfl rfl (enters0 (vs := [(pq b_2), i6 k_743.2.2, i6 (ix order_19 (level_34 + 1))]) Try.call48 ⟨rfl, rfl, rfl, trivial⟩) (S_asks  h_6 h_11 h_16 h_21 h_26 h_31 h_749.2.2 hr_64 hS hV) ?_
 clear hV hS
 rintro _ w ⟨r_771, hV, rfl, hS⟩
 refine ⟨_, rfl, ?_⟩
 refine WL.unguard rfl rfl hg_767 ?_
 refine WL.run hS rfl rfl rfl (ex_pick_f rfl hg_770 rfl) ?_
 refine WL.run hS rfl rfl rfl (ex_pick_t rfl hg_767 rfl) ?_
 refine WL.nil ?_
 replace hS := hS.f8.drop
 replace hS := hS.f8.f9.f9.f9.f9.f9.f9.f9.f9
 exact WQ.there fun a ha => ⟨r_771, hV, hS, ha.of_sub ⟨rfl, rfl, rfl, rfl, rfl, rfl, rfl, rfl, trivial⟩⟩
 replace hV := hV.2 (of_decide_eq_false hg_767)
 refine WL.skip_g rfl rfl rfl hg_767 rfl rfl ?_
 refine WL.skip_g rfl rfl rfl hg_767 rfl rfl ?_
 refine WL.skip_g rfl rfl rfl hg_767 rfl rfl ?_
 refine WL.skip_g rfl rfl rfl hg_767 rfl rfl ?_
 refine WL.skip_g rfl rfl rfl hg_767 rfl rfl ?_
 refine WL.skip_g rfl rfl rfl hg_767 rfl rfl ?_
 refine WL.skip_u rfl rfl rfl rfl rfl ?_
 refine WL.skip_u rfl rfl rfl rfl rfl ?_
 refine WL.skip_u rfl rfl rfl rfl rfl ?_
 refine WL.skip_u rfl rfl rfl rfl rfl ?_
 refine WL.skip_u rfl rfl rfl rfl rfl ?_
 refine WL.skip_g rfl rfl rfl hg_767 rfl rfl ?_
 refine WL.run hS rfl rfl rfl (ex_pick_f rfl hg_767 rfl) ?_
 refine WL.nil ?_
 replace hS := hS.drop
 replace hS := hS.f9.f9.f9.f9.f6.f9.f9.f9
 exact WQ.there fun a ha => ⟨false, hV, hS, ha.of_sub ⟨rfl, rfl, rfl, rfl, rfl, rfl, rfl, rfl, trivial⟩⟩
 clear hJ_44
 refine WC.region ?_
 refine WL.mv rfl rfl ?_
 refine WL.run hS rfl rfl rfl (ex_lss rfl rfl) ?_
 refine WL.mv rfl rfl ?_
 rcases Bool.eq_false_or_eq_true (decide (level_34 < 0)) with hg_46 | hg_46
 replace hV := hV.1 (of_decide_eq_true hg_46)
 refine WL.skip_g rfl rfl rfl hg_46 rfl rfl ?_
 refine WL.skip_g rfl rfl rfl hg_46 rfl rfl ?_
 refine WL.skip_g rfl rfl rfl hg_46 rfl rfl ?_
 refine WL.skip_g rfl rfl rfl hg_46 rfl rfl ?_
 refine WL.skip_g rfl rfl rfl hg_46 rfl rfl ?_
 refine WL.skip_g rfl rfl rfl hg_46 rfl rfl ?_
 refine WL.skip_g rfl rfl rfl hg_46 rfl rfl ?_
 refine WL.skip_g rfl rfl rfl hg_46 rfl rfl ?_
 refine WL.run hS rfl rfl rfl (ex_pick_t rfl hg_46 rfl) ?_
 refine WL.nil ?_
 replace hS := hS.f7.f7.f7.f7.f7.f7.f7
 exact WQ.there fun a ha => ⟨true, hV, hS, ha.of_sub ⟨rfl, rfl, rfl, trivial⟩⟩
 replace hV := hV.2 (of_decide_eq_false hg_46)
 refine WL.unguard rfl rfl hg_46 ?_
 refine WL.mv rfl rfl ?_
 refine WL.unguard rfl rfl hg_46 ?_
 refine WL.mv rfl rfl ?_
 refine WL.unguard rfl rfl hg_46 ?_
 refine WL.run hS rfl rfl rfl (ex_nilCheck rfl) ?_
 refine WL.unguard rfl rfl hg_46 ?_
 refine WL.run hS rfl rfl rfl (ex_fieldAddr (o' := 3) Try.underlying79 rfl Try.sizeOf27 rfl rfl) ?_
 refine WL.unguard rfl rfl hg_46 ?_
 refine WL.run hS rfl rfl rfl (ex_load_box Try.isAgg27 rfl rfl) ?_
 refine WL.unguard rfl rfl hg_46 ?_
 have hl_47 : Len order_19 := h_21.bound
 replace hV := hV hl_47
 refine WL.run hS rfl rfl rfl (ex_len_own Try.underlying27 rfl h_21) ?_
 refine WL.unguard rfl rfl hg_46 ?_
 obtain ⟨hi_49, hV⟩ := hV
 refine WL.run hS rfl rfl rfl (ex_sub rfl rfl hi_49) ?_
 refine WL.unguard rfl rfl hg_46 ?_
 refine WL.run hS rfl rfl rfl (ex_geq rfl rfl) ?_
 refine WL.run hS rfl rfl rfl (ex_pick_f rfl hg_46 rfl) ?_
 refine WL.nil ?_
 replace hS := hS.f7.f7.f7.f7.f7.f7.f7
 exact WQ.there fun a ha => ⟨decide (((order_19.length : Int) - 1) ≤ level_34), hV, hS, ha.of_sub ⟨rfl, rfl, rfl, trivial⟩⟩

theorem S_isNaN {w0 : World} {H : View} {L : Seg} {w : World} {x_1 : Int} {Q : Bool → Prop} (hr_2 : I64 x_1) (hS : St w0 H (L) w) (hV : V_isNaN x_1 Q) :
 Calls Try.prog 76 #[i6 x_1] w fun e w' => ∃ (r1 : Bool), Q r1 ∧ e = .returned (.bool r1) ∧ St w0 H (L) w' := by
 unfold V_isNaN at hV
 refine enter Try.func76 rfl Try.ntmps76 rfl (lk_args_cons (d := 0) (v := i6 x_1) rfl (lk_args_nil _)) ?_
 refine WC.sr ?_
 refine WL.ma rfl rfl ?_
 refine WL.nx ?_
 refine WC.sr ?_
 refine WL.mv rfl rfl ?_
 refine WL.mv rfl rfl ?_
 refine WL.run hS rfl rfl rfl (ex_neq rfl rfl) ?_
 refine WL.ma rfl rfl ?_
 refine WL.nx ?_
 refine WC.ret ?_
 exact leave1 rfl rfl ⟨decide (x_1 ≠ x_1), hV, rfl, hS⟩

theorem S_cmpI {w0 : World} {H : View} {L : Seg} {w : World} {x_1 : Int} {y_3 : Int} {Q : Int → Prop} (hr_2 : I64 x_1) (hr_4 : I64 y_3) (hS : St w0 H (L) w) (hV : V_cmpI x_1 y_3 Q) :
 Calls Try.prog 55 #[i6 x_1, i6 y_3] w fun e w' => ∃ (r1 : Int), Q r1 ∧ e = .returned (i6 r1) ∧ I64 r1 ∧ St w0 H (L) w' := by
 unfold V_cmpI at hV
 refine enter Try.func55 rfl Try.ntmps55 rfl (lk_args_cons (d := 0) (v := i6 x_1) rfl (lk_args_cons (d := 1) (v := i6 y_3) rfl (lk_args_nil _))) ?_
 refine WC.sr ?_
 refine WL.ma rfl rfl ?_
 refine WL.nx ?_
 refine WC.sr ?_
 refine WL.mv rfl rfl ?_
 refine WL.call rfl rfl rfl (enters0 (vs := [i6 x_1]) Try.call76 ⟨rfl, trivial⟩) (S_isNaN  hr_2 hS hV) ?_
 clear hV hS
 rintro _ w ⟨r_5, hV, rfl, hS⟩
 refine ⟨_, rfl, ?_⟩
 refine WL.ma rfl rfl ?_
 refine WL.nx ?_
 refine WC.sr ?_
 refine WL.mv rfl rfl ?_
 refine WL.call rfl rfl rfl (enters0 (vs := [i6 y_3]) Try.call76 ⟨rfl, trivial⟩) (S_isNaN  hr_4 hS hV) ?_
 clear hV hS
 rintro _ w ⟨r_7, hV, rfl, hS⟩
 refine ⟨_, rfl, ?_⟩
 refine WL.ma rfl rfl ?_
 refine WL.nx ?_
 refine WC.seq ?_
 refine WC.sr ?_
 refine WL.mv rfl rfl ?_
 refine WL.nx ?_
 refine WC.cond rfl ?_ ?_
 intro hc_15
 replace hV := hV.1 hc_15
 refine WC.seq ?_
 refine WC.sr ?_
 refine WL.mv rfl rfl ?_
 refine WL.nx ?_
 refine WC.sub (m := [(12, .bool r_7)]) ⟨rfl, trivial⟩ ?_
 refine WC.cond rfl ?_ ?_
 intro hc_9
 replace hV := hV.1 hc_9
 refine WC.sr ?_
 refine WL.ma rfl rfl ?_
 refine WL.nx ?_
 refine WC.ret ?_
 refine WQ.pass nofun ?_
 refine WQ.pass nofun ?_
 exact leave1 rfl rfl ⟨0, hV, rfl, (by unfold I64; omega), hS⟩
 intro hc_9
 replace hV := hV.2 hc_9
 refine WC.skip ?_
 refine WQ.next ?_
 refine WC.sr ?_
 refine WL.ma rfl rfl ?_
 refine WL.nx ?_
 refine WC.ret ?_
 refine WQ.pass nofun ?_
 exact leave1 rfl rfl ⟨(-1), hV, rfl, (by unfold I64; omega), hS⟩
 intro hc_15
 replace hV := hV.2 hc_15
 refine WC.skip ?_
 refine WQ.next ?_
 refine WC.seq ?_
 refine WC.sr ?_
 refine WL.mv rfl rfl ?_
 refine WL.nx ?_
 refine WC.cond rfl ?_ ?_
 intro hc_14
 replace hV := hV.1 hc_14
 refine WC.sr ?_
 refine WL.ma rfl rfl ?_
 refine WL.nx ?_
 refine WC.sub (m := [(4, i6 1)]) ⟨rfl, trivial⟩ ?_
 refine WC.ret ?_
 refine WQ.pass nofun ?_
 exact leave1 rfl rfl ⟨1, hV, rfl, (by unfold I64; omega), hS⟩
 intro hc_14
 replace hV := hV.2 hc_14
 refine WC.skip ?_
 refine WQ.next ?_
 refine WC.seq ?_
 refine WC.sr ?_
 refine WL.mv rfl rfl ?_
 refine WL.mv rfl rfl ?_
 refine WL.run hS rfl rfl rfl (ex_lss rfl rfl) ?_
 refine WL.nx ?_
 refine WC.sub (m := [(0, i6 x_1), (1, i6 y_3), (16, .bool (decide (x_1 < y_3)))]) ⟨rfl, rfl, rfl, trivial⟩ ?_
 refine WC.cond rfl ?_ ?_
 intro hc_13
 replace hV := hV.1 (of_decide_eq_true hc_13)
 refine WC.sr ?_
 refine WL.ma rfl rfl ?_
 refine WL.nx ?_
 refine WC.ret ?_
 refine WQ.pass nofun ?_
 exact leave1 rfl rfl ⟨(-1), hV, rfl, (by unfold I64; omega), hS⟩
 intro hc_13
 replace hV := hV.2 (of_decide_eq_false hc_13)
 refine WC.skip ?_
 refine WQ.next ?_
 refine WC.seq ?_
 refine WC.sr ?_
 refine WL.mv rfl rfl ?_
 refine WL.mv rfl rfl ?_
 refine WL.run hS rfl rfl rfl (ex_gtr rfl rfl) ?_
 refine WL.nx ?_
 refine WC.cond rfl ?_ ?_
 intro hc_12
 replace hV := hV.1 (of_decide_eq_true hc_12)
 refine WC.sr ?_
 refine WL.ma rfl rfl ?_
 refine WL.nx ?_
 refine WC.ret ?_
 refine WQ.pass nofun ?_
 exact leave1 rfl rfl ⟨1, hV, rfl, (by unfold I64; omega), hS⟩
 intro hc_12
 replace hV := hV.2 (of_decide_eq_false hc_12)
 refine WC.skip ?_
 refine WQ.next ?_
 refine WC.sr ?_
 refine WL.ma rfl rfl ?_
 refine WL.nx ?_
 refine WC.ret ?_
 exact leave1 rfl rfl ⟨0, hV, rfl, (by unfold I64; omega), hS⟩

theorem S_Sift1 {w0 : World} {H : View} {L : Seg} {w : World} {i_1 : Int} {k_3 : Int} {b_6 : Nat} {v_9 : Value} {c_5_8 : LI} {Q : Int → Prop} (hr_2 : I64 i_1) (hr_4 : I64 k_3) (h_10 : IsSl H (cInt .i64) v_9 c_5_8) (hS : St w0 H ([(b_6, oc #[v_9] 27)] ++ L) w) (hV : V_Sift1 i_1 k_3 c_5_8 Q) :
 Calls Try.prog 54 #[i6 i_1, i6 k_3, (pq b_6)] w fun e w' => ∃ (r1 : Int), Q r1 ∧ e = .returned (i6 r1) ∧ I64 r1 ∧ St w0 H ([(b_6, oc #[v_9] 27)] ++ L) w' := by
 unfold V_Sift1 at hV
 refine enter Try.func54 rfl Try.ntmps54 rfl (lk_args_cons (d := 0) (v := i6 i_1) rfl (lk_args_cons (d := 1) (v := i6 k_3) rfl (lk_args_cons (d := 2) (v := (pq b_6)) rfl (lk_args_nil _)))) ?_
 refine WC.sr ?_
 refine WL.ma rfl rfl ?_
 refine WL.nx ?_
 refine WC.seq ?_
 refine WC.drawn (σ := [0, 1, 2, 3, 4, 5, 6, 7, 8, 9]) (C := St w0 H ([(b_6, oc #[v_9] 27)] ++ L)) [[], [], [0, 1], [0, 1, 2], [], [], [4, 5], [4, 5, 6], [0, 1, 2, 3, 4, 5, 6, 7], [0, 1, 2, 3, 4, 5, 6, 7, 8]] [8] Try.mixed (by kernel_rfl) (hS.drawn _) ?_
 clear hS w
 refine Wd.runb (off := 0) rfl rfl rfl rfl (fun _ _ _ h => ex_load_box Try.isAgg27 rfl h) rfl (fun _ h => h) fun q_12 hq_11 => ?_
 refine Wd.run rfl rfl rfl rfl (fun _ => ex_move rfl) fun q_14 hq_13 => ?_
 obtain ⟨hin_17, hV⟩ := hV
 refine Wd.runx rfl rfl rfl rfl (exAll (ex_index Try.underlying27 Try.sizeOf3 rfl rfl h_10 hin_17)) ?_
 intro p_18 hp_19
 intro q_16 hq_15
 refine Wd.runs (fp := ([] : Seg)) (L := [(b_6, oc #[v_9] 27)] ++ L) rfl rfl rfl rfl (ex_load_s Try.isAgg3 rfl rfl hp_19) (fun _ h => h) ?_
 intro u_22 hu_23
 obtain ⟨rfl, hr_24⟩ := cInt_rep hu_23
 replace hr_24 := has_I64 hr_24
 replace hV := hV hr_24
 intro q_21 hq_20
 refine Wd.runb (off := 0) rfl rfl rfl rfl (fun _ _ _ h => ex_load_box Try.isAgg27 rfl h) rfl (fun _ h => h) fun q_26 hq_25 => ?_
 refine Wd.run rfl rfl rfl rfl (fun _ => ex_move rfl) fun q_28 hq_27 => ?_
 obtain ⟨hin_31, hV⟩ := hV
 refine Wd.runx rfl rfl rfl rfl (exAll (ex_index Try.underlying27 Try.sizeOf3 rfl rfl h_10 hin_31)) ?_
 intro p_32 hp_33
 intro q_30 hq_29
 refine Wd.runs (fp := ([] : Seg)) (L := [(b_6, oc #[v_9] 27)] ++ L) rfl rfl rfl rfl (ex_load_s Try.isAgg3 rfl rfl hp_33) (fun _ h => h) ?_
 intro u_36 hu_37
 obtain ⟨rfl, hr_38⟩ := cInt_rep hu_37
 replace hr_38 := has_I64 hr_38
 replace hV := hV hr_38
 intro q_35 hq_34
 refine Wd.turn rfl rfl rfl fun w hS => ?_
 refine WL.call rfl rfl rfl (enters0 (vs := [i6 (ix c_5_8 k_3), i6 (ix c_5_8 i_1)]) Try.call55 ⟨rfl, rfl, trivial⟩) (S_cmpI  hr_24 hr_38 hS hV) ?_
 clear hV hS
 rintro _ w ⟨r_39, hV, rfl, hr_40, hS⟩
 refine ⟨_, rfl, ?_⟩
 refine WL.nil (DQ.mk2 (C' := St w0 H ([(b_6, oc #[v_9] 27)] ++ L)) hS ⟨il, il, il, il, il, il, il, il, trivial⟩ ?_)
 clear hS w
 refine Wd.run rfl rfl rfl rfl (fun _ => ex_assign rfl) fun q_43 hq_42 => ?_
 refine Wd.nil fun w hS => ?_
 refine WQ.next ?_
 refine WC.sub (m := [(5, i6 r_39)]) ⟨rfl, trivial⟩ ?_
 refine WC.ret ?_
 exact leave1 rfl rfl ⟨r_39, hV, rfl, hr_40, hS⟩

theorem S_insSF {w0 : World} {H : View} {L : Seg} {w : World} {v_2 : Value} {data_1 : LI} {fp_4 : Seg} {a_6 : Int} {b_8 : Int} {b_12 : Nat} {v_15 : Value} {c_11_14 : LI} {Q : LI → Prop} (h_3 : OwnSl H (cInt .i64) 3 v_2 data_1 fp_4) (hr_7 : I64 a_6) (hr_9 : I64 b_8) (h_16 : IsSl H (cInt .i64) v_15 c_11_14) (hS : St w0 H (fp_4 ++ ([(b_12, oc #[v_15] 27)] ++ L)) w) (hV : V_insSF data_1 a_6 b_8 c_11_14 Q) :
 Calls Try.prog 91 #[v_2, i6 a_6, i6 b_8, .func (.func 54) #[] #[(pq b_12)]] w fun e w' => ∃ (r1 : LI) (fp1 : Seg), Q r1 ∧ e = .returned (.tuple #[]) ∧ OwnSl H (cInt .i64) 3 v_2 r1 fp1 ∧ St w0 H (fp1 ++ ([(b_12, oc #[v_15] 27)] ++ L)) w' := by
 unfold V_insSF at hV
 refine enter Try.func91 rfl Try.ntmps91 rfl (lk_args_cons (d := 0) (v := v_2) rfl (lk_args_cons (d := 1) (v := i6 a_6) rfl (lk_args_cons (d := 2) (v := i6 b_8) rfl (lk_args_cons (d := 3) (v := .func (.func 54) #[] #[(pq b_12)]) rfl (lk_args_nil _))))) ?_
 refine WC.sr ?_
 refine WL.mv rfl rfl ?_
 obtain ⟨hi_18, hV⟩ := hV
 refine WL.run hS rfl rfl rfl (ex_add rfl rfl hi_18) ?_
 refine WL.ma rfl rfl ?_
 refine WL.nx ?_
 refine WC.block ?_
 replace hS := hS.f2.f2
 obtain ⟨I_722, mu_723, hI_1074, hV⟩ := hV
 refine WC.loop (σ := LI × Int) (fun s a w => ∃ (data_368 : LI) (i_371 : Int) (fp_369 : Seg), s = (data_368, i_371) ∧ I_722 (data_368, i_371) ∧ OwnSl H (cInt .i64) 3 v_2 data_368 fp_369 ∧ I64 i_371 ∧ St w0 H (fp_369 ++ ([(b_12, oc #[v_15] 27)] ++ L)) w ∧ Fr 53 [(0, v_2), (1, i6 a_6), (2, i6 b_8), (3, .func (.func 54) #[] #[(pq b_12)]), (8, i6 i_371)] a) mu_723 (data_1, (a_6 + 1)) ?_ ?_
 exact fun a ha => ⟨data_1, (a_6 + 1), fp_4, rfl, hI_1074, h_3, hi_18, hS, ha.of_sub ⟨rfl, rfl, rfl, rfl, rfl, trivial⟩⟩
 clear hS hI_1074
 rintro _ a w ⟨data_368, i_371, fp_369, rfl, hI, h_370, hr_372, hS, ha⟩
 refine in_frame ha ?_
 clear ha
 replace hV := hV _ hI
 clear hI
 refine WC.seq ?_
 refine WC.sr ?_
 refine WL.mv rfl rfl ?_
 refine WL.mv rfl rfl ?_
 refine WL.run hS rfl rfl rfl (ex_lss rfl rfl) ?_
 refine WL.nx ?_
 refine WC.cond rfl ?_ ?_
 intro hc_1073
 replace hV := hV.1 (of_decide_eq_true hc_1073)
 refine WC.skip ?_
 refine WQ.next ?_
 refine WC.seq ?_
 refine WC.block ?_
 refine WC.sr ?_
 refine WL.mv rfl rfl ?_
 refine WL.ma rfl rfl ?_
 refine WL.nx ?_
 refine WC.block ?_
 replace hS := hS.f2.f2
 obtain ⟨I_955, mu_956, hI_1072, hV⟩ := hV
 refine WC.loop (σ := LI × Int) (fun s a w => ∃ (data_838 : LI) (j_841 : Int) (fp_839 : Seg), s = (data_838, j_841) ∧ I_955 (data_838, j_841) ∧ OwnSl H (cInt .i64) 3 v_2 data_838 fp_839 ∧ I64 j_841 ∧ St w0 H (fp_839 ++ ([(b_12, oc #[v_15] 27)] ++ L)) w ∧ Fr 53 [(0, v_2), (1, i6 a_6), (2, i6 b_8), (3, .func (.func 54) #[] #[(pq b_12)]), (8, i6 i_371), (9, i6 j_841)] a) mu_956 (data_368, i_371) ?_ ?_
 exact fun a ha => ⟨data_368, i_371, fp_369, rfl, hI_1072, h_370, hr_372, hS, ha.of_sub ⟨rfl, rfl, rfl, rfl, rfl, rfl, trivial⟩⟩
 clear hS hI_1072
 rintro _ a w ⟨data_838, j_841, fp_839, rfl, hI, h_840, hr_842, hS, ha⟩
 refine in_frame ha ?_
 clear ha
 replace hV := hV _ hI
 clear hI
 refine WC.seq ?_
 obtain ⟨J_983, hJ_984, hV⟩ := hV
 refine WC.meet (fun a w => ∃ (x_982 : Bool), J_983 x_982 ∧ St w0 H (fp_839 ++ ([(b_12, oc #[v_15] 27)] ++ L)) w ∧ Fr 53 [(0, v_2), (1, i6 a_6), (2, i6 b_8), (3, .func (.func 54) #[] #[(pq b_12)]), (8, i6 i_371), (9, i6 j_841), (34, .bool x_982)] a) ?_ ?_
 rintro a w ⟨x_982, hI, hS, ha⟩
 refine in_frame ha ?_
 clear ha hV
 have hV := hJ_984 _ hI
 clear hI hJ_984
 refine WC.cond rfl ?_ ?_
 intro hc_1071
 replace hV := hV.1 hc_1071
 refine WC.skip ?_
 refine WQ.next ?_
 refine WC.seq ?_
 refine WC.block ?_
 refine WC.drawn (σ := [0, 1, 2, 3, 4, 5, 6, 7, 8, 9, 10, 11, 12, 13, 14, 15, 16, 17]) (C := St w0 H (fp_839 ++ ([(b_12, oc #[v_15] 27)] ++ L))) [[], [], [], [], [3], [], [], [6], [5, 6, 7], [5, 6, 7, 8], [], [], [10, 11], [10, 11, 12], [0, 1, 5, 6, 7, 8, 9, 10, 11, 12, 13], [0, 1, 5, 6, 7, 8, 9, 10, 11, 12, 13, 14], [0, 1, 2, 3, 4, 5, 6, 7, 8, 9, 10, 11, 12, 13, 14, 15], [0, 1, 2, 3, 4, 5, 6, 7, 8, 9, 10, 11, 12, 13, 14, 15, 16]] [15, 17] Try.mixed (by kernel_rfl) (hS.drawn _) ?_
 clear hS w
 refine Wd.run rfl rfl rfl rfl (fun _ => ex_move rfl) fun q_1010 hq_1009 => ?_
 refine Wd.run rfl rfl rfl rfl (fun _ => ex_move rfl) fun q_1012 hq_1011 => ?_
 refine Wd.run rfl rfl rfl rfl (fun _ => ex_move rfl) fun q_1014 hq_1013 => ?_
 refine Wd.run rfl rfl rfl rfl (fun _ => ex_move rfl) fun q_1016 hq_1015 => ?_
 obtain ⟨hi_1020, hV⟩ := hV
 refine Wd.run rfl rfl rfl rfl (fun _ => ex_sub rfl rfl hi_1020) fun q_1018 hq_1017 => ?_
 refine Wd.run rfl rfl rfl rfl (fun _ => ex_move rfl) fun q_1022 hq_1021 => ?_
 refine Wd.run rfl rfl rfl rfl (fun _ => ex_move rfl) fun q_1024 hq_1023 => ?_
 obtain ⟨hi_1028, hV⟩ := hV
 refine Wd.run rfl rfl rfl rfl (fun _ => ex_sub rfl rfl hi_1028) fun q_1026 hq_1025 => ?_
 obtain ⟨hin_1031, hV⟩ := hV
 refine Wd.runx rfl rfl rfl rfl (exAll (ex_index_own Try.underlying27 Try.sizeOf3 rfl rfl h_840 hin_1031)) ?_
 intro p_1032 hp_1033
 intro q_1030 hq_1029
 refine Wd.runs (fp := fp_839) rfl rfl rfl rfl (ex_load_own_s Try.isAgg3 rfl rfl h_840 hp_1033 hin_1031) (fun _ h => h) ?_
 intro u_1036 hu_1037
 obtain ⟨rfl, hr_1038⟩ := cInt_rep hu_1037
 replace hr_1038 := has_I64 hr_1038
 replace hV := hV hr_1038
 intro q_1035 hq_1034
 refine Wd.run rfl rfl rfl rfl (fun _ => ex_move rfl) fun q_1040 hq_1039 => ?_
 refine Wd.run rfl rfl rfl rfl (fun _ => ex_move rfl) fun q_1042 hq_1041 => ?_
 obtain ⟨hin_1045, hV⟩ := hV
 refine Wd.runx rfl rfl rfl rfl (exAll (ex_index_own Try.underlying27 Try.sizeOf3 rfl rfl h_840 hin_1045)) ?_
 intro p_1046 hp_1047
 intro q_1044 hq_1043
 refine Wd.runs (fp := fp_839) rfl rfl rfl rfl (ex_load_own_s Try.isAgg3 rfl rfl h_840 hp_1047 hin_1045) (fun _ h => h) ?_
 intro u_1050 hu_1051
 obtain ⟨rfl, hr_1052⟩ := cInt_rep hu_1051
 replace hr_1052 := has_I64 hr_1052
 replace hV := hV hr_1052
 intro q_1049 hq_1048
 obtain ⟨hin_1055, hV⟩ := hV
 refine Wd.runx rfl rfl rfl rfl (exAll (ex_index_own Try.underlying27 Try.sizeOf3 rfl rfl h_840 hin_1055)) ?_
 intro p_1056 hp_1057
 intro q_1054 hq_1053
 refine Wd.turn rfl rfl rfl fun w hS => ?_
 refine WL.store_own Try.sizeOf3 rfl rfl rfl (cInt_mk (I64.has hr_1038)) hS h_840 hp_1057 hin_1055 ?_
 clear hS
 intro w fp_1059 h_1058 hS
 refine WL.nil (DQ.mk2 (C' := St w0 H (fp_1059 ++ ([(b_12, oc #[v_15] 27)] ++ L))) hS ⟨il, il, il, il, il, il, il, il, il, il, .inr (hq_1017 _), .inr (hq_1015 _), .inr (hq_1013 _), il, il, trivial⟩ ?_)
 clear hS w
 obtain ⟨hin_1062, hV⟩ := hV
 refine Wd.runx rfl rfl rfl rfl (exAll (ex_index_own Try.underlying27 Try.sizeOf3 rfl rfl h_1058 hin_1062)) ?_
 intro p_1063 hp_1064
 intro q_1061 hq_1060
 refine Wd.turn rfl rfl rfl fun w hS => ?_
 refine WL.store_own Try.sizeOf3 rfl rfl rfl (cInt_mk (I64.has hr_1052)) hS h_1058 hp_1064 hin_1062 ?_
 clear hS
 intro w fp_1066 h_1065 hS
 refine WL.nil (DQ.mk2 (C' := St w0 H (fp_1066 ++ ([(b_12, oc #[v_15] 27)] ++ L))) hS ⟨il, il, il, il, il, il, il, il, il, il, il, il, il, il, il, il, trivial⟩ ?_)
 clear hS w
 refine Wd.nil fun w hS => ?_
 refine WQ.out nofun ?_
 refine WQ.next ?_
 refine WC.sub (m := [(0, v_2), (1, i6 a_6), (2, i6 b_8), (3, .func (.func 54) #[] #[(pq b_12)]), (8, i6 i_371), (9, i6 j_841)]) ⟨rfl, rfl, rfl, rfl, rfl, rfl, trivial⟩ ?_
 refine WC.region ?_
 refine WL.mv rfl rfl ?_
 obtain ⟨hi_1068, hV⟩ := hV
 refine WL.run hS rfl rfl rfl (ex_sub rfl rfl hi_1068) ?_
 refine WL.ma rfl rfl ?_
 refine WL.nil ?_
 replace hS := hS.f2.f2
 exact WQ.there fun a ha => ⟨(((data_838.set j_841.toNat (ix data_838 (j_841 - 1))).set (j_841 - 1).toNat (ix data_838 j_841)), (j_841 - 1)), ⟨((data_838.set j_841.toNat (ix data_838 (j_841 - 1))).set (j_841 - 1).toNat (ix data_838 j_841)), (j_841 - 1), fp_1066, rfl, hV.1, h_1065, hi_1068, hS, ha.of_sub ⟨rfl, rfl, rfl, rfl, rfl, rfl, trivial⟩⟩, hV.2⟩
 intro hc_1071
 replace hV := hV.2 hc_1071
 refine WC.exit ?_
 refine WQ.pass nofun ?_
 refine WQ.pass nofun ?_
 refine WQ.hit ?_
 refine WQ.out nofun ?_
 refine WQ.next ?_
 refine WC.region ?_
 refine WL.mv rfl rfl ?_
 obtain ⟨hi_1070, hV⟩ := hV
 refine WL.run hS rfl rfl rfl (ex_add rfl rfl hi_1070) ?_
 refine WL.ma rfl rfl ?_
 refine WL.nil ?_
 replace hS := hS.f2.f2
 exact WQ.there fun a ha => ⟨(data_838, (i_371 + 1)), ⟨data_838, (i_371 + 1), fp_839, rfl, hV.1, h_840, hi_1070, hS, ha.of_sub ⟨rfl, rfl, rfl, rfl, rfl, trivial⟩⟩, hV.2⟩
 clear hJ_984
 replace hS := hS.f2.f2
 have hL_985 := hS.freeze
 have le_986 := hS.put_le
 refine WC.quiet (C := St w0 (H.put fp_839) ([(b_12, oc #[v_15] 27)] ++ L)) Try.mixed (by kernel_rfl) (hL_985.drawn _) ?_
 have hS0 := hS
 clear hS
 refine Wq.run rfl rfl rfl (ex_move rfl) ?_
 refine Wq.run rfl rfl rfl (ex_move rfl) ?_
 refine Wq.run rfl rfl rfl (ex_gtr rfl rfl) ?_
 refine Wq.run rfl rfl rfl (ex_move rfl) ?_
 rcases Bool.eq_false_or_eq_true (decide (a_6 < j_841)) with hg_988 | hg_988
 replace hV := hV.1 (of_decide_eq_true hg_988)
 refine Wq.unguard rfl rfl hg_988 ?_
 refine Wq.run rfl rfl rfl (ex_move rfl) ?_
 refine Wq.unguard rfl rfl hg_988 ?_
 refine Wq.run rfl rfl rfl (ex_move rfl) ?_
 refine Wq.unguard rfl rfl hg_988 ?_
 refine Wq.run rfl rfl rfl (ex_move rfl) ?_
 refine Wq.unguard rfl rfl hg_988 ?_
 obtain ⟨hin_989, hV⟩ := hV
 refine Wq.runx rfl rfl rfl (ex_index Try.underlying27 Try.sizeOf3 rfl rfl (h_840.share le_986) hin_989) ?_
 intro p_990 hp_991
 refine Wq.unguard rfl rfl hg_988 ?_
 refine Wq.runx rfl rfl rfl (ex_load Try.isAgg3 rfl rfl hp_991) ?_
 intro u_992 hu_993
 obtain ⟨rfl, hr_994⟩ := cInt_rep hu_993
 replace hr_994 := has_I64 hr_994
 replace hV := hV hr_994
 refine Wq.unguard rfl rfl hg_988 ?_
 refine Wq.run rfl rfl rfl (ex_move rfl) ?_
 refine Wq.unguard rfl rfl hg_988 ?_
 refine Wq.run rfl rfl rfl (ex_move rfl) ?_
 refine Wq.unguard rfl rfl hg_988 ?_
 obtain ⟨hi_996, hV⟩ := hV
 refine Wq.run rfl rfl rfl (ex_sub rfl rfl hi_996) ?_
 refine Wq.unguard rfl rfl hg_988 ?_
 obtain ⟨hin_997, hV⟩ := hV
 refine Wq.runx rfl rfl rfl (ex_index Try.underlying27 Try.sizeOf3 rfl rfl (h_840.share le_986) hin_997) ?_
 intro p_998 hp_999
 refine Wq.unguard rfl rfl hg_988 ?_
 refine Wq.runx rfl rfl rfl (ex_load Try.isAgg3 rfl rfl hp_999) ?_
 intro u_1000 hu_1001
 obtain ⟨rfl, hr_1002⟩ := cInt_rep hu_1001
 replace hr_1002 := has_I64 hr_1002
 replace hV := hV hr_1002
 refine Wq.unguard rfl rfl hg_988 ?_
 obtain ⟨r_1003, h_1005, hr_1004, hV⟩ := hV
 refine Wq.call (v := i6 r_1003) rfl rfl rfl (fun w => enters_c (vs := [i6 (ix data_838 j_841), i6 (ix data_838 (j_841 - 1))]) (caps := [(pq b_12)]) rfl Try.call54 ⟨rfl, rfl, trivial⟩) (fun w hS => (S_Sift1 (Q := fun y0 => y0 = r_1003)  hr_994 hr_1002 (h_16.mono le_986) hS h_1005).mono ?_) ?_
 rintro e w' ⟨_, rfl, he, _, hS⟩
 exact ⟨he, hS⟩
 refine Wq.unguard rfl rfl hg_988 ?_
 refine Wq.run rfl rfl rfl (ex_lss rfl rfl) ?_
 refine Wq.run rfl rfl rfl (ex_pick_t rfl hg_988 rfl) ?_
 refine Wq.nil fun w hS => ?_
 have hB_1007 := hS0.back hS
 clear hS
 have hS := hB_1007
 clear hS0
 replace hS := hS.f2.f2
 exact WQ.there fun a ha => ⟨decide (r_1003 < 0), hV, hS, ha.of_sub ⟨rfl, rfl, rfl, rfl, rfl, rfl, rfl, trivial⟩⟩
 replace hV := hV.2 (of_decide_eq_false hg_988)
 refine Wq.skip_g rfl rfl rfl hg_988 rfl rfl ?_
 refine Wq.skip_g rfl rfl rfl hg_988 rfl rfl ?_
 refine Wq.skip_g rfl rfl rfl hg_988 rfl rfl ?_
 refine Wq.skip_g rfl rfl rfl hg_988 rfl rfl ?_
 refine Wq.skip_g rfl rfl rfl hg_988 rfl rfl ?_
 refine Wq.skip_g rfl rfl rfl hg_988 rfl rfl ?_
 refine Wq.skip_g rfl rfl rfl hg_988 rfl rfl ?_
 refine Wq.skip_g rfl rfl rfl hg_988 rfl rfl ?_
 refine Wq.skip_g rfl rfl rfl hg_988 rfl rfl ?_
 refine Wq.skip_g rfl rfl rfl hg_988 rfl rfl ?_
 refine Wq.skip_g rfl rfl rfl hg_988 rfl rfl ?_
 refine Wq.skip_g rfl rfl rfl hg_988 rfl rfl ?_
 refine Wq.run rfl rfl rfl (ex_pick_f rfl hg_988 rfl) ?_
 refine Wq.nil fun w hS => ?_
 have hB_1008 := hS0.back hS
 clear hS
 have hS := hB_1008
 clear hS0
 replace hS := hS.f2.f2
 exact WQ.there fun a ha => ⟨false, hV, hS, ha.of_sub ⟨rfl, rfl, rfl, rfl, rfl, rfl, rfl, trivial⟩⟩
 intro hc_1073
 replace hV := hV.2 (of_decide_eq_false hc_1073)
 refine WC.exit ?_
 refine WQ.pass nofun ?_
 refine WQ.pass nofun ?_
 refine WQ.hit ?_
 replace hS := hS.f2.f2
 exact leave0 (.inr rfl) rfl ⟨data_368, fp_369, hV, rfl, h_370, hS⟩

theorem S_symSF {w0 : World} {H : View} {L : Seg} {w : World} {v_2 : Value} {data_1 : LI} {fp_4 : Seg} {a_6 : Int} {m_8 : Int} {b_10 : Int} {b_14 : Nat} {v_17 : Value} {c_13_16 : LI} {Q : LI → Prop} (h_3 : OwnSl H (cInt .i64) 3 v_2 data_1 fp_4) (hr_7 : I64 a_6) (hr_9 : I64 m_8) (hr_11 : I64 b_10) (h_18 : IsSl H (cInt .i64) v_17 c_13_16) (hS : St w0 H (fp_4 ++ ([(b_14, oc #[v_17] 27)] ++ L)) w) (hV : V_symSF data_1 a_6 m_8 b_10 c_13_16 Q) :
 Calls Try.prog 92 #[v_2, i6 a_6, i6 m_8, i6 b_10, .func (.func 54) #[] #[(pq b_14)]] w fun e w' => ∃ (r1 : LI) (fp1 : Seg), Q r1 ∧ e = .returned (.tuple #[]) ∧ OwnSl H (cInt .i64) 3 v_2 r1 fp1 ∧ St w0 H (fp1 ++ ([(b_14, oc #[v_17] 27)] ++ L)) w' := by
 unfold V_symSF at hV
 refine enter Try.func92 rfl Try.ntmps92 rfl (lk_args_cons (d := 0) (v := v_2) rfl (lk_args_cons (d := 1) (v := i6 a_6) rfl (lk_args_cons (d := 2) (v := i6 m_8) rfl (lk_args_cons (d := 3) (v := i6 b_10) rfl (lk_args_cons (d := 4) (v := .func (.func 54) #[] #[(pq b_14)]) rfl (lk_args_nil _)))))) ?_
 exact hV.elim

theorem S_stabSF {w0 : World} {H : View} {L : Seg} {w : World} {v_2 : Value} {data_1 : LI} {fp_4 : Seg} {n_6 : Int} {b_10 : Nat} {v_13 : Value} {c_9_12 : LI} {Q : LI → Prop} (h_3 : OwnSl H (cInt .i64) 3 v_2 data_1 fp_4) (hr_7 : I64 n_6) (h_14 : IsSl H (cInt .i64) v_13 c_9_12) (hS : St w0 H (fp_4 ++ ([(b_10, oc #[v_13] 27)] ++ L)) w) (hV : V_stabSF data_1 n_6 c_9_12 Q) :
 Calls Try.prog 75 #[v_2, i6 n_6, .func (.func 54) #[] #[(pq b_10)]] w fun e w' => ∃ (r1 : LI) (fp1 : Seg), Q r1 ∧ e = .returned (.tuple #[]) ∧ OwnSl H (cInt .i64) 3 v_2 r1 fp1 ∧ St w0 H (fp1 ++ ([(b_10, oc #[v_13] 27)] ++ L)) w' := by
 unfold V_stabSF at hV
 refine enter Try.func75 rfl Try.ntmps75 rfl (lk_args_cons (d := 0) (v := v_2) rfl (lk_args_cons (d := 1) (v := i6 n_6) rfl (lk_args_cons (d := 2) (v := .func (.func 54) #[] #[(pq b_10)]) rfl (lk_args_nil _)))) ?_
 refine WC.sr ?_
 refine WL.ma rfl rfl ?_
 refine WL.nx ?_
 refine WC.sr ?_
 refine WL.mv rfl rfl ?_
 refine WL.ma rfl rfl ?_
 refine WL.ma rfl rfl ?_
 refine WL.nx ?_
 refine WC.seq ?_
 refine WC.block ?_
 replace hS := hS.f2.f2
 obtain ⟨I_38, mu_39, hI_284, hV⟩ := hV
 refine WC.loop (σ := LI × Int × Int) (fun s a w => ∃ (data_23 : LI) (a_26 : Int) (b_28 : Int) (fp_24 : Seg), s = (data_23, a_26, b_28) ∧ I_38 (data_23, a_26, b_28) ∧ OwnSl H (cInt .i64) 3 v_2 data_23 fp_24 ∧ I64 a_26 ∧ I64 b_28 ∧ St w0 H (fp_24 ++ ([(b_10, oc #[v_13] 27)] ++ L)) w ∧ Fr 63 [(0, v_2), (1, i6 n_6), (2, .func (.func 54) #[] #[(pq b_10)]), (6, i6 20), (7, i6 a_26), (8, i6 b_28)] a) mu_39 (data_1, 0, 20) ?_ ?_
 exact fun a ha => ⟨data_1, 0, 20, fp_4, rfl, hI_284, h_3, (by unfold I64; omega), (by unfold I64; omega), hS, ha.of_sub ⟨rfl, rfl, rfl, rfl, rfl, rfl, trivial⟩⟩
 clear hS hI_284
 rintro _ a w ⟨data_23, a_26, b_28, fp_24, rfl, hI, h_25, hr_27, hr_29, hS, ha⟩
 refine in_frame ha ?_
 clear ha
 replace hV := hV _ hI
 clear hI
 refine WC.seq ?_
 refine WC.sr ?_
 refine WL.mv rfl rfl ?_
 refine WL.mv rfl rfl ?_
 refine WL.run hS rfl rfl rfl (ex_leq rfl rfl) ?_
 refine WL.nx ?_
 refine WC.cond rfl ?_ ?_
 intro hc_283
 replace hV := hV.1 (of_decide_eq_true hc_283)
 refine WC.skip ?_
 refine WQ.next ?_
 refine WC.block ?_
 refine WC.sr ?_
 refine WL.mv rfl rfl ?_
 refine WL.mv rfl rfl ?_
 refine WL.mv rfl rfl ?_
 refine WL.mv rfl rfl ?_
 replace hS := hS.f2.f2
 refine WL.call rfl rfl rfl (enters0 (vs := [v_2, i6 a_26, i6 b_28, .func (.func 54) #[] #[(pq b_10)]]) Try.call91 ⟨rfl, rfl, rfl, rfl, trivial⟩) (S_insSF  h_25 hr_27 hr_29 h_14 hS hV) ?_
 clear hV hS
 rintro _ w ⟨c_42, fp_43, hV, rfl, h_44, hS⟩
 refine ⟨_, rfl, ?_⟩
 refine WL.nx ?_
 refine WC.sr ?_
 refine WL.mv rfl rfl ?_
 refine WL.ma rfl rfl ?_
 refine WL.nx ?_
 refine WC.sub (m := [(0, v_2), (1, i6 n_6), (2, .func (.func 54) #[] #[(pq b_10)]), (6, i6 20), (7, i6 b_28), (8, i6 b_28)]) ⟨rfl, rfl, rfl, rfl, rfl, rfl, trivial⟩ ?_
 refine WC.region ?_
 refine WL.mv rfl rfl ?_
 refine WL.mv rfl rfl ?_
 obtain ⟨hi_47, hV⟩ := hV
 refine WL.run hS rfl rfl rfl (ex_add rfl rfl hi_47) ?_
 refine WL.ma rfl rfl ?_
 refine WL.nil ?_
 refine WQ.out nofun ?_
 replace hS := hS.f2.f2
 exact WQ.there fun a ha => ⟨(c_42, b_28, (b_28 + 20)), ⟨c_42, b_28, (b_28 + 20), fp_43, rfl, hV.1, h_44, hr_29, hi_47, hS, ha.of_sub ⟨rfl, rfl, rfl, rfl, rfl, rfl, trivial⟩⟩, hV.2⟩
 intro hc_283
 replace hV := hV.2 (of_decide_eq_false hc_283)
 refine WC.exit ?_
 refine WQ.pass nofun ?_
 refine WQ.pass nofun ?_
 refine WQ.hit ?_
 refine WQ.next ?_
 refine WC.sr ?_
 refine WL.mv rfl rfl ?_
 refine WL.mv rfl rfl ?_
 refine WL.mv rfl rfl ?_
 refine WL.mv rfl rfl ?_
 replace hS := hS.f2.f2
 refine WL.call rfl rfl rfl (enters0 (vs := [v_2, i6 a_26, i6 n_6, .func (.func 54) #[] #[(pq b_10)]]) Try.call91 ⟨rfl, rfl, rfl, rfl, trivial⟩) (S_insSF  h_25 hr_27 hr_7 h_14 hS hV) ?_
 clear hV hS
 rintro _ w ⟨c_48, fp_49, hV, rfl, h_50, hS⟩
 refine ⟨_, rfl, ?_⟩
 refine WL.nx ?_
 refine WC.sub (m := [(0, v_2), (1, i6 n_6), (2, .func (.func 54) #[] #[(pq b_10)]), (6, i6 20)]) ⟨rfl, rfl, rfl, rfl, trivial⟩ ?_
 refine WC.block ?_
 replace hS := hS.f2.f2
 obtain ⟨I_205, mu_206, hI_282, hV⟩ := hV
 refine WC.loop (σ := LI × Int) (fun s a w => ∃ (data_126 : LI) (blockSize_129 : Int) (fp_127 : Seg), s = (data_126, blockSize_129) ∧ I_205 (data_126, blockSize_129) ∧ OwnSl H (cInt .i64) 3 v_2 data_126 fp_127 ∧ I64 blockSize_129 ∧ St w0 H (fp_127 ++ ([(b_10, oc #[v_13] 27)] ++ L)) w ∧ Fr 63 [(0, v_2), (1, i6 n_6), (2, .func (.func 54) #[] #[(pq b_10)]), (6, i6 blockSize_129)] a) mu_206 (c_48, 20) ?_ ?_
 exact fun a ha => ⟨c_48, 20, fp_49, rfl, hI_282, h_50, (by unfold I64; omega), hS, ha.of_sub ⟨rfl, rfl, rfl, rfl, trivial⟩⟩
 clear hS hI_282
 rintro _ a w ⟨data_126, blockSize_129, fp_127, rfl, hI, h_128, hr_130, hS, ha⟩
 refine in_frame ha ?_
 clear ha
 replace hV := hV _ hI
 clear hI
 refine WC.seq ?_
 refine WC.sr ?_
 refine WL.mv rfl rfl ?_
 refine WL.mv rfl rfl ?_
 refine WL.run hS rfl rfl rfl (ex_lss rfl rfl) ?_
 refine WL.nx ?_
 refine WC.cond rfl ?_ ?_
 intro hc_281
 replace hV := hV.1 (of_decide_eq_true hc_281)
 refine WC.skip ?_
 refine WQ.next ?_
 refine WC.block ?_
 refine WC.sr ?_
 refine WL.mv rfl rfl ?_
 obtain ⟨hi_210, hV⟩ := hV
 refine WL.run hS rfl rfl rfl (ex_mul rfl rfl hi_210) ?_
 refine WL.ma rfl rfl ?_
 refine WL.ma rfl rfl ?_
 refine WL.nx ?_
 refine WC.seq ?_
 refine WC.block ?_
 replace hS := hS.f2.f2
 obtain ⟨I_242, mu_243, hI_280, hV⟩ := hV
 refine WC.loop (σ := LI × Int × Int) (fun s a w => ∃ (data_223 : LI) (a_226 : Int) (b_228 : Int) (fp_224 : Seg), s = (data_223, a_226, b_228) ∧ I_242 (data_223, a_226, b_228) ∧ OwnSl H (cInt .i64) 3 v_2 data_223 fp_224 ∧ I64 a_226 ∧ I64 b_228 ∧ St w0 H (fp_224 ++ ([(b_10, oc #[v_13] 27)] ++ L)) w ∧ Fr 63 [(0, v_2), (1, i6 n_6), (2, .func (.func 54) #[] #[(pq b_10)]), (6, i6 blockSize_129), (7, i6 a_226), (8, i6 b_228)] a) mu_243 (data_126, 0, (2 * blockSize_129)) ?_ ?_
 exact fun a ha => ⟨data_126, 0, (2 * blockSize_129), fp_127, rfl, hI_280, h_128, (by unfold I64; omega), hi_210, hS, ha.of_sub ⟨rfl, rfl, rfl, rfl, rfl, rfl, trivial⟩⟩
 clear hS hI_280
 rintro _ a w ⟨data_223, a_226, b_228, fp_224, rfl, hI, h_225, hr_227, hr_229, hS, ha⟩
 refine in_frame ha ?_
 clear ha
 replace hV := hV _ hI
 clear hI
 refine WC.seq ?_
 refine WC.sr ?_
 refine WL.mv rfl rfl ?_
 refine WL.mv rfl rfl ?_
 refine WL.run hS rfl rfl rfl (ex_leq rfl rfl) ?_
 refine WL.nx ?_
 refine WC.cond rfl ?_ ?_
 intro hc_279
 replace hV := hV.1 (of_decide_eq_true hc_279)
 refine WC.skip ?_
 refine WQ.next ?_
 refine WC.block ?_
 refine WC.sr ?_
 refine WL.mv rfl rfl ?_
 refine WL.mv rfl rfl ?_
 refine WL.mv rfl rfl ?_
 refine WL.mv rfl rfl ?_
 obtain ⟨hi_247, hV⟩ := hV
 refine WL.run hS rfl rfl rfl (ex_add rfl rfl hi_247) ?_
 refine WL.mv rfl rfl ?_
 refine WL.mv rfl rfl ?_
 replace hS := hS.f2.f2
 refine WL.call rfl rfl rfl (enters0 (vs := [v_2, i6 a_226, i6 (a_226 + blockSize_129), i6 b_228, .func (.func 54) #[] #[(pq b_10)]]) Try.call92 ⟨rfl, rfl, rfl, rfl, rfl, trivial⟩) (S_symSF  h_225 hr_227 hi_247 hr_229 h_14 hS hV) ?_
 clear hV hS
 rintro _ w ⟨c_248, fp_249, hV, rfl, h_250, hS⟩
 refine ⟨_, rfl, ?_⟩
 refine WL.nx ?_
 refine WC.sub (m := [(0, v_2), (1, i6 n_6), (2, .func (.func 54) #[] #[(pq b_10)]), (6, i6 blockSize_129), (8, i6 b_228)]) ⟨rfl, rfl, rfl, rfl, rfl, trivial⟩ ?_
 refine WC.sr ?_
 refine WL.mv rfl rfl ?_
 refine WL.ma rfl rfl ?_
 refine WL.nx ?_
 refine WC.region ?_
 refine WL.mv rfl rfl ?_
 refine WL.mv rfl rfl ?_
 obtain ⟨hi_253, hV⟩ := hV
 refine WL.run hS rfl rfl rfl (ex_mul rfl rfl hi_253) ?_
 obtain ⟨hi_255, hV⟩ := hV
 refine WL.run hS rfl rfl rfl (ex_add rfl rfl hi_255) ?_
 refine WL.ma rfl rfl ?_
 refine WL.nil ?_
 refine WQ.out nofun ?_
 replace hS := hS.f2.f2
 exact WQ.there fun a ha => ⟨(c_248, b_228, (b_228 + (2 * blockSize_129))), ⟨c_248, b_228, (b_228 + (2 * blockSize_129)), fp_249, rfl, hV.1, h_250, hr_229, hi_255, hS, ha.of_sub ⟨rfl, rfl, rfl, rfl, rfl, rfl, trivial⟩⟩, hV.2⟩
 intro hc_279
 replace hV := hV.2 (of_decide_eq_false hc_279)
 refine WC.exit ?_
 refine WQ.pass nofun ?_
 refine WQ.pass nofun ?_
 refine WQ.hit ?_
 refine WQ.next ?_
 obtain ⟨J_267, hJ_268, hV⟩ := hV
 refine WC.meet (fun a w => ∃ (data_264 : LI) (fp_265 : Seg), J_267 data_264 ∧ OwnSl H (cInt .i64) 3 v_2 data_264 fp_265 ∧ St w0 H (fp_265 ++ ([(b_10, oc #[v_13] 27)] ++ L)) w ∧ Fr 63 [(0, v_2), (1, i6 n_6), (2, .func (.func 54) #[] #[(pq b_10)]), (6, i6 blockSize_129)] a) ?_ ?_
 rintro a w ⟨data_264, fp_265, hI, h_266, hS, ha⟩
 refine in_frame ha ?_
 clear ha hV
 have hV := hJ_268 _ hI
 clear hI hJ_268
 refine WC.region ?_
 refine WL.mv rfl rfl ?_
 obtain ⟨hi_278, hV⟩ := hV
 refine WL.run hS rfl rfl rfl (ex_mul rfl rfl hi_278) ?_
 refine WL.ma rfl rfl ?_
 refine WL.nil ?_
 refine WQ.out nofun ?_
 replace hS := hS.f2.f2
 exact WQ.there fun a ha => ⟨(data_264, (blockSize_129 * 2)), ⟨data_264, (blockSize_129 * 2), fp_265, rfl, hV.1, h_266, hi_278, hS, ha.of_sub ⟨rfl, rfl, rfl, rfl, trivial⟩⟩, hV.2⟩
 clear hJ_268
 refine WC.sr ?_
 refine WL.mv rfl rfl ?_
 refine WL.mv rfl rfl ?_
 obtain ⟨hi_270, hV⟩ := hV
 refine WL.run hS rfl rfl rfl (ex_add rfl rfl hi_270) ?_
 refine WL.ma rfl rfl ?_
 refine WL.nx ?_
 refine WC.sr ?_
 refine WL.mv rfl rfl ?_
 refine WL.mv rfl rfl ?_
 refine WL.run hS rfl rfl rfl (ex_lss rfl rfl) ?_
 refine WL.nx ?_
 refine WC.cond rfl ?_ ?_
 intro hc_276
 replace hV := hV.1 (of_decide_eq_true hc_276)
 refine WC.region ?_
 refine WL.mv rfl rfl ?_
 refine WL.mv rfl rfl ?_
 refine WL.mv rfl rfl ?_
 refine WL.mv rfl rfl ?_
 refine WL.mv rfl rfl ?_
 replace hS := hS.f2.f2
 refine WL.call rfl rfl rfl (enters0 (vs := [v_2, i6 a_226, i6 (a_226 + blockSize_129), i6 n_6, .func (.func 54) #[] #[(pq b_10)]]) Try.call92 ⟨rfl, rfl, rfl, rfl, rfl, trivial⟩) (S_symSF  h_225 hr_227 hi_270 hr_7 h_14 hS hV) ?_
 clear hV hS
 rintro _ w ⟨c_272, fp_273, hV, rfl, h_274, hS⟩
 refine ⟨_, rfl, ?_⟩
 refine WL.nil ?_
 replace hS := hS.f2.f2
 exact WQ.there fun a ha => ⟨c_272, fp_273, hV, h_274, hS, ha.of_sub ⟨rfl, rfl, rfl, rfl, trivial⟩⟩
 intro hc_276
 replace hV := hV.2 (of_decide_eq_false hc_276)
 refine WC.skip ?_
 replace hS := hS.f2.f2
 exact WQ.there fun a ha => ⟨data_223, fp_224, hV, h_225, hS, ha.of_sub ⟨rfl, rfl, rfl, rfl, trivial⟩⟩
 intro hc_281
 replace hV := hV.2 (of_decide_eq_false hc_281)
 refine WC.exit ?_
 refine WQ.pass nofun ?_
 refine WQ.pass nofun ?_
 refine WQ.hit ?_
 replace hS := hS.f2.f2
 exact leave0 (.inr rfl) rfl ⟨data_126, fp_127, hV, rfl, h_128, hS⟩

theorem S_SortSF {w0 : World} {H : View} {L : Seg} {w : World} {v_2 : Value} {x_1 : LI} {fp_4 : Seg} {b_8 : Nat} {v_11 : Value} {c_7_10 : LI} {Q : LI → Prop} (h_3 : OwnSl H (cInt .i64) 3 v_2 x_1 fp_4) (h_12 : IsSl H (cInt .i64) v_11 c_7_10) (hS : St w0 H (fp_4 ++ ([(b_8, oc #[v_11] 27)] ++ L)) w) (hV : V_SortSF x_1 c_7_10 Q) :
 Calls Try.prog 53 #[v_2, .func (.func 54) #[] #[(pq b_8)]] w fun e w' => ∃ (r1 : LI) (fp1 : Seg), Q r1 ∧ e = .returned (.tuple #[]) ∧ OwnSl H (cInt .i64) 3 v_2 r1 fp1 ∧ St w0 H (fp1 ++ ([(b_8, oc #[v_11] 27)] ++ L)) w' := by
 unfold V_SortSF at hV
 refine enter Try.func53 rfl Try.ntmps53 rfl (lk_args_cons (d := 0) (v := v_2) rfl (lk_args_cons (d := 1) (v := .func (.func 54) #[] #[(pq b_8)]) rfl (lk_args_nil _))) ?_
 refine WC.region ?_
 refine WL.mv rfl rfl ?_
 refine WL.mv rfl rfl ?_
 have hl_13 : Len x_1 := h_3.bound
 replace hV := hV hl_13
 refine WL.run hS rfl rfl rfl (ex_len_own Try.underlying27 rfl h_3) ?_
 refine WL.mv rfl rfl ?_
 replace hS := hS.f2.f2
 refine WL.call rfl rfl rfl (enters0 (vs := [v_2, i6 (x_1.length : Int), .func (.func 54) #[] #[(pq b_8)]]) Try.call75 ⟨rfl, rfl, rfl, trivial⟩) (S_stabSF  h_3 (Len.i64 hl_13) h_12 hS hV) ?_
 clear hV hS
 rintro _ w ⟨c_14, fp_15, hV, rfl, h_16, hS⟩
 refine ⟨_, rfl, ?_⟩
 refine WL.nil ?_
 replace hS := hS.f2.f2
 exact leave0 (.inr rfl) rfl ⟨c_14, fp_15, hV, rfl, h_16, hS⟩

end Go.Proofs.Ytceipmldngeagaa
