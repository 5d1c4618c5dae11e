/- For each function: called, it does its work where its condition is so. Printed by program. -/
import Derived.Test.YtceipmldngeagaaDoorFacts
import Derived.Test.YtceipmldngeagaaDoorConds
import Derived.Test.YtceipmldngeagaaDoorTold
import Derived.Test.YtceipmldngeagaaDoorWalks1
set_option linter.unusedVariables false
set_option maxRecDepth 100000
namespace Go.Proofs.YtceipmldngeagaaDoor
open Go.Vc
theorem S_Count {w0 : World} {H : View} {L : Seg} {w : World} {b_2 : Nat} {v_5 : Value} {nodes_4 : List (Int × Int × Int)} {fp_7 : Seg} {v_10 : Value} {free_9 : List Int} {fp_12 : Seg} {v_15 : Value} {xby_14 : List ((Int × Int × Int) × Int)} {fp_17 : Seg} {v_20 : Value} {order_19 : List Int} {fp_22 : Seg} {v_25 : Value} {level_24 : List Int} {fp_27 : Seg} {v_30 : Value} {memo_29 : List ((Int × Int × Int) × Int)} {fp_32 : Seg} {f_34 : Int} {Q : Int → Prop} (h_6 : OwnSl H (cPair (cInt .i64) (cPair (cInt .i64) (cInt .i64))) 46 v_5 nodes_4 fp_7) (h_11 : OwnSl H (cInt .i64) 29 v_10 free_9 fp_12) (h_16 : OwnMp H kTri (cInt .i64) v_15 xby_14 fp_17) (h_21 : OwnSl H (cInt .i64) 3 v_20 order_19 fp_22) (h_26 : OwnSl H (cInt .i64) 3 v_25 level_24 fp_27) (h_31 : OwnMp H kTri (cInt .i64) v_30 memo_29 fp_32) (hr_35 : I64 f_34) (hS : St w0 H ([(b_2, Obj.cells #[v_5, v_10, v_15, v_20, v_25, v_30] 44 (0, 0))] ++ (fp_7 ++ (fp_12 ++ (fp_17 ++ (fp_22 ++ (fp_27 ++ (fp_32 ++ L))))))) w) (hV : V_Count nodes_4 free_9 xby_14 order_19 level_24 memo_29 f_34 Q) :
    Calls Tryd.prog 9 #[.pointer (some ⟨b_2, 0, none⟩), .int .i64 f_34] w fun e w' => ∃ (r1 : Int), Q r1 ∧ e = .returned (.int .i64 r1) ∧ I64 r1 ∧ St w0 H ([(b_2, Obj.cells #[v_5, v_10, v_15, v_20, v_25, v_30] 44 (0, 0))] ++ (fp_7 ++ (fp_12 ++ (fp_17 ++ (fp_22 ++ (fp_27 ++ (fp_32 ++ L))))))) w' := by
  unfold V_Count at hV
  refine enter Tryd.func9 rfl Tryd.ntmps9 rfl (lk_args_cons (d := 0) (v := .pointer (some ⟨b_2, 0, none⟩)) rfl (lk_args_cons (d := 1) (v := .int .i64 f_34) rfl (lk_args_nil _))) ?_
  refine WC.seq ?_
  refine WC.region ?_
  refine WL.box (arr := #[.pointer (some ⟨b_2, 0, none⟩)]) rfl rfl rfl hS ?_
  clear hS
  intro b_36 w hS
  refine WL.run hS rfl rfl rfl (ex_assign rfl) ?_
  refine WL.nil ?_
  refine WQ.next ?_
  refine WC.sub (m := [(1, .int .i64 f_34), (2, .pointer (some ⟨b_36, 0, none⟩))]) ⟨rfl, rfl, trivial⟩ ?_
  refine WC.seq ?_
  refine WC.region ?_
  refine WL.makeMap (κ := Int) (ν := Int) (kc := kInt) (c := (cInt .i64)) rfl hS ?_
  clear hS
  intro v_38 w fp_39 h_40 hS
  refine WL.alloc (arr := #[.map none]) rfl Tryd.zeroValue51 rfl hS ?_
  clear hS
  intro b_42 w hS
  refine WL.store_box (pre := []) (old := [.map none]) (rst := []) (cs := [v_38]) (arr' := #[v_38]) Tryd.sizeOf51 rfl rfl (congrArg Array.toList (cells_one (OwnMp.one h_40))) ⟨(OwnMp.one h_40), trivial⟩ rfl rfl rfl rfl hS ?_
  clear hS
  intro w hS
  refine WL.nil ?_
  refine WQ.next ?_
  refine WC.sub (m := [(1, .int .i64 f_34), (2, .pointer (some ⟨b_36, 0, none⟩)), (5, .pointer (some ⟨b_42, 0, none⟩))]) ⟨rfl, rfl, rfl, trivial⟩ ?_
  refine WC.seq ?_
  refine WC.region ?_
  refine WL.alloc (arr := #[.nilFunc]) rfl Tryd.zeroValue33 rfl hS ?_
  clear hS
  intro b_44 w hS
  refine WL.nil ?_
  refine WQ.next ?_
  refine WC.seq ?_
  refine WC.region ?_
  refine WL.run hS rfl rfl rfl (ex_makeFunc (vs := [.pointer (some ⟨b_42, 0, none⟩), .pointer (some ⟨b_36, 0, none⟩), .pointer (some ⟨b_44, 0, none⟩)]) ⟨rfl, rfl, rfl, trivial⟩) ?_
  refine WL.store_box (pre := []) (old := [.nilFunc]) (rst := []) (cs := [.func (.func 17) #[] #[.pointer (some ⟨b_42, 0, none⟩), .pointer (some ⟨b_36, 0, none⟩), .pointer (some ⟨b_44, 0, none⟩)]]) (arr' := #[.func (.func 17) #[] #[.pointer (some ⟨b_42, 0, none⟩), .pointer (some ⟨b_36, 0, none⟩), .pointer (some ⟨b_44, 0, none⟩)]]) Tryd.sizeOf33 rfl rfl rfl ⟨rfl, trivial⟩ rfl rfl rfl rfl hS ?_
  clear hS
  intro w hS
  refine WL.nil ?_
  refine WQ.next ?_
  refine WC.sub (m := [(1, .int .i64 f_34), (2, .pointer (some ⟨b_36, 0, none⟩)), (6, .pointer (some ⟨b_44, 0, none⟩))]) ⟨rfl, rfl, rfl, trivial⟩ ?_
  refine WC.seq ?_
  refine WC.drawn (σ := [0, 1, 3, 4, 2, 5, 6, 7]) (C := St w0 H ([(b_44, Obj.cells #[.func (.func 17) #[] #[.pointer (some ⟨b_42, 0, none⟩), .pointer (some ⟨b_36, 0, none⟩), .pointer (some ⟨b_44, 0, none⟩)]] 33 (0, 0))] ++ ([(b_42, Obj.cells #[v_38] 51 (0, 0))] ++ (fp_39 ++ ([(b_36, Obj.cells #[.pointer (some ⟨b_2, 0, none⟩)] 23 (0, 0))] ++ ([(b_2, Obj.cells #[v_5, v_10, v_15, v_20, v_25, v_30] 44 (0, 0))] ++ (fp_7 ++ (fp_12 ++ (fp_17 ++ (fp_22 ++ (fp_27 ++ (fp_32 ++ L)))))))))))) [[], [], [0, 1], [], [], [0, 1, 2, 3, 4], [0, 1, 2, 3, 4, 5], [0, 1, 2, 3, 4, 5, 6]] [2, 5] Tryd.mixed (by kernel_rfl) (hS.drawn _) ?_
  clear hS w
  refine Wd.runb (off := 0) rfl rfl rfl rfl (fun _ _ _ h => ex_load_box Tryd.isAgg33 rfl h) rfl (fun _ h => h) fun q_47 hq_46 => ?_
  refine Wd.run rfl rfl rfl rfl (fun _ => ex_move rfl) fun q_49 hq_48 => ?_
  refine Wd.runb (off := 0) rfl rfl rfl rfl (fun _ _ _ h => ex_load_box Tryd.isAgg23 rfl h) rfl (fun _ h => St.f4 h) fun q_51 hq_50 => ?_
  refine Wd.run rfl rfl rfl rfl (fun _ => ex_move rfl) fun q_53 hq_52 => ?_
  refine Wd.turn rfl rfl rfl fun w hS => ?_
  replace hS := hS.f11
  replace hS := hS.f11
  replace hS := hS.f11
  replace hS := hS.f11
  replace hS := hS.f11
  replace hS := hS.f11
  replace hS := hS.f11
  replace hS := hS.f11
  replace hS := hS.f11
  replace hS := hS.f11
  obtain ⟨mf, hV⟩ := hV
  refine WL.call rfl rfl rfl (enters_c (vs := [.int .i64 f_34]) (caps := [.pointer (some ⟨b_42, 0, none⟩), .pointer (some ⟨b_36, 0, none⟩), .pointer (some ⟨b_44, 0, none⟩)]) rfl Tryd.call17 ⟨rfl, trivial⟩) (S_Count1 mf  hr_35 h_40 h_6 h_11 h_16 h_21 h_26 h_31 hS hV) ?_
  clear hV hS
  rintro _ w ⟨r_54, m_56, fp_57, hV, rfl, hr_55, h_58, hS⟩
  refine ⟨_, rfl, ?_⟩
  refine WL.nil (DQ.mk2 (C' := St w0 H ([(b_42, Obj.cells #[v_38] 51 (0, 0))] ++ (fp_57 ++ ([(b_36, Obj.cells #[.pointer (some ⟨b_2, 0, none⟩)] 23 (0, 0))] ++ ([(b_2, Obj.cells #[v_5, v_10, v_15, v_20, v_25, v_30] 44 (0, 0))] ++ (fp_7 ++ (fp_12 ++ (fp_17 ++ (fp_22 ++ (fp_27 ++ (fp_32 ++ ([(b_44, Obj.cells #[.func (.func 17) #[] #[.pointer (some ⟨b_42, 0, none⟩), .pointer (some ⟨b_36, 0, none⟩), .pointer (some ⟨b_44, 0, none⟩)]] 33 (0, 0))] ++ L)))))))))))) hS ⟨.inr (hq_52 _), .inr (hq_50 H ([(b_42, Obj.cells #[v_38] 51 (0, 0))] ++ (fp_57 ++ ([(b_2, Obj.cells #[v_5, v_10, v_15, v_20, v_25, v_30] 44 (0, 0))] ++ (fp_7 ++ (fp_12 ++ (fp_17 ++ (fp_22 ++ (fp_27 ++ (fp_32 ++ ([(b_44, Obj.cells #[.func (.func 17) #[] #[.pointer (some ⟨b_42, 0, none⟩), .pointer (some ⟨b_36, 0, none⟩), .pointer (some ⟨b_44, 0, none⟩)]] 33 (0, 0))] ++ L)))))))))) #[.pointer (some ⟨b_2, 0, none⟩)] _ rfl (fun _ h => St.f3 h)), .inl rfl, .inl rfl, trivial⟩ ?_)
  clear hS w
  refine Wd.turn rfl rfl rfl fun w hS => ?_
  replace hS := hS.f10
  replace hS := hS.f10
  replace hS := hS.f10
  replace hS := hS.f10
  replace hS := hS.f10
  replace hS := hS.f10
  replace hS := hS.f10
  refine WL.call rfl rfl rfl (enters0 (vs := [.pointer (some ⟨b_2, 0, none⟩), .int .i64 f_34]) Tryd.call18 ⟨rfl, rfl, trivial⟩) (S_depth  h_6 h_11 h_16 h_21 h_26 h_31 hr_35 hS hV) ?_
  clear hV hS
  rintro _ w ⟨r_60, hV, rfl, hr_61, hS⟩
  refine ⟨_, rfl, ?_⟩
  refine WL.nil (DQ.mk2 (C' := St w0 H ([(b_2, Obj.cells #[v_5, v_10, v_15, v_20, v_25, v_30] 44 (0, 0))] ++ (fp_7 ++ (fp_12 ++ (fp_17 ++ (fp_22 ++ (fp_27 ++ (fp_32 ++ ([(b_42, Obj.cells #[v_38] 51 (0, 0))] ++ (fp_57 ++ ([(b_36, Obj.cells #[.pointer (some ⟨b_2, 0, none⟩)] 23 (0, 0))] ++ ([(b_44, Obj.cells #[.func (.func 17) #[] #[.pointer (some ⟨b_42, 0, none⟩), .pointer (some ⟨b_36, 0, none⟩), .pointer (some ⟨b_44, 0, none⟩)]] 33 (0, 0))] ++ L)))))))))))) hS ⟨.inl rfl, .inl rfl, .inl rfl, .inl rfl, trivial⟩ ?_)
  clear hS w
  obtain ⟨hi_65, hV⟩ := hV
  refine Wd.run rfl rfl rfl rfl (fun _ => ex_shl rfl rfl hi_65) fun q_64 hq_63 => ?_
  refine Wd.run rfl rfl rfl rfl (fun _ => ex_assign rfl) fun q_67 hq_66 => ?_
  refine Wd.nil fun w hS => ?_
  refine WQ.next ?_
  refine WC.sub (m := [(4, .int .i64 ((r_54 : Int) * 2 ^ r_60.toNat))]) ⟨rfl, trivial⟩ ?_
  replace hS := hS.f10.drop
  replace hS := hS.f9.drop
  replace hS := hS.f8.drop
  replace hS := hS.f8.drop
  refine WC.ret ?_
  replace hS := hS.f7
  replace hS := hS.f7
  replace hS := hS.f7
  replace hS := hS.f7
  replace hS := hS.f7
  replace hS := hS.f7
  replace hS := hS.f7
  exact leave1 rfl rfl ⟨((r_54 : Int) * 2 ^ r_60.toNat), hV, rfl, hi_65.2.2, hS⟩

theorem S_Told {w0 : World} {H : View} {L : Seg} {w : World} {err_1 : Option Int} {Q : Int → Prop} (hG : Glob H) (hS : St w0 H (L) w) (hV : V_Told err_1 Q) :
    Calls Tryd.prog 13 #[(errV 37 err_1)] w fun e w' => ∃ (r1 : Int), Q r1 ∧ e = .returned (.int .i64 r1) ∧ I64 r1 ∧ St w0 H (L) w' := by
  unfold V_Told at hV
  refine enter Tryd.func13 rfl Tryd.ntmps13 rfl (lk_args_cons (d := 0) (v := (errV 37 err_1)) rfl (lk_args_nil _)) ?_
  refine WC.seq ?_
  refine WC.region ?_
  refine WL.run hS rfl rfl rfl (ex_assign rfl) ?_
  refine WL.nil ?_
  refine WQ.next ?_
  refine WC.sub (m := [(0, (errV 37 err_1))]) ⟨rfl, trivial⟩ ?_
  refine WC.seq ?_
  refine WC.seq ?_
  refine WC.region ?_
  refine WL.run hS rfl rfl rfl (ex_move rfl) ?_
  refine WL.run hS rfl rfl rfl (ex_err_eql (T := 37) (e := err_1) Tryd.iface25 rfl rfl) ?_
  refine WL.nil ?_
  refine WQ.next ?_
  refine WC.sub (m := [(0, (errV 37 err_1)), (5, .bool (decide (err_1 = none)))]) ⟨rfl, rfl, trivial⟩ ?_
  refine WC.cond rfl ?_ ?_
  · intro hc_9
    replace hV := hV.1 (of_decide_eq_true hc_9)
    refine WC.seq ?_
    refine WC.region ?_
    refine WL.run hS rfl rfl rfl (ex_assign rfl) ?_
    refine WL.nil ?_
    refine WQ.next ?_
    refine WC.sub (m := [(2, .int .i64 0)]) ⟨rfl, trivial⟩ ?_
    refine WC.ret ?_
    refine WQ.pass nofun ?_
    exact leave1 rfl rfl ⟨0, hV, rfl, (by unfold I64; omega), hS⟩
  · intro hc_9
    replace hV := hV.2 (of_decide_eq_false hc_9)
    refine WC.skip ?_
    refine WQ.next ?_
    refine WC.sub (m := [(0, (errV 37 err_1))]) ⟨rfl, trivial⟩ ?_
    refine WC.seq ?_
    refine WC.region ?_
    refine WL.alloc (arr := #[.int .i64 0]) rfl Tryd.zeroValue37 rfl hS ?_
    clear hS
    intro b_2 w hS
    refine WL.nil ?_
    refine WQ.next ?_
    refine WC.seq ?_
    refine WC.seq ?_
    refine WC.region ?_
    refine WL.run hS rfl rfl rfl (ex_move rfl) ?_
    refine WL.run hS rfl rfl rfl (ex_makeIface Tryd.concrete55 rfl) ?_
    refine WL.call rfl rfl rfl (enters0 (vs := [(errV 37 err_1), .iface 55 (.pointer (some ⟨b_2, 0, none⟩))]) Tryd.call20 ⟨rfl, rfl, trivial⟩) (S_As  (by unfold I64; omega) hG hS hV) ?_
    clear hV hS
    rintro _ w ⟨r_4, c_5, hV, rfl, hr_6, hS⟩
    refine ⟨_, rfl, ?_⟩
    refine WL.nil ?_
    refine WQ.next ?_
    refine WC.sub (m := [(3, .pointer (some ⟨b_2, 0, none⟩)), (8, .bool r_4)]) ⟨rfl, rfl, trivial⟩ ?_
    refine WC.cond rfl ?_ ?_
    · intro hc_8
      replace hV := hV.1 hc_8
      refine WC.seq ?_
      refine WC.region ?_
      refine WL.run hS rfl rfl rfl (ex_load_box Tryd.isAgg37 rfl rfl) ?_
      refine WL.run hS rfl rfl rfl (ex_assign rfl) ?_
      refine WL.nil ?_
      refine WQ.next ?_
      refine WC.sub (m := [(2, .int .i64 c_5)]) ⟨rfl, trivial⟩ ?_
      replace hS := hS.drop
      refine WC.ret ?_
      refine WQ.pass nofun ?_
      exact leave1 rfl rfl ⟨c_5, hV, rfl, hr_6, hS⟩
    · intro hc_8
      replace hV := hV.2 hc_8
      refine WC.skip ?_
      refine WQ.next ?_
      refine WC.sub (m := []) trivial ?_
      replace hS := hS.drop
      refine WC.seq ?_
      refine WC.region ?_
      refine WL.run hS rfl rfl rfl (ex_assign rfl) ?_
      refine WL.nil ?_
      refine WQ.next ?_
      refine WC.ret ?_
      exact leave1 rfl rfl ⟨(-1), hV, rfl, (by unfold I64; omega), hS⟩

theorem S_Error {w0 : World} {H : View} {L : Seg} {w : World} {err_1 : Option Int} {e_2 : Int} {Q : Bool → Prop} (hr_3 : I64 e_2) (hG : Glob H) (hS : St w0 H (L) w) (hV : V_Error err_1 e_2 Q) :
    Calls Tryd.prog 5 #[(errV 37 err_1), .int .i64 e_2] w fun e w' => ∃ (r1 : Bool), Q r1 ∧ e = .returned (.bool r1) ∧ St w0 H (L) w' := by
  unfold V_Error at hV
  refine enter Tryd.func5 rfl Tryd.ntmps5 rfl (lk_args_cons (d := 0) (v := (errV 37 err_1)) rfl (lk_args_cons (d := 1) (v := .int .i64 e_2) rfl (lk_args_nil _))) ?_
  refine WC.seq ?_
  refine WC.region ?_
  refine WL.run hS rfl rfl rfl (ex_assign rfl) ?_
  refine WL.nil ?_
  refine WQ.next ?_
  refine WC.sub (m := [(0, (errV 37 err_1)), (1, .int .i64 e_2)]) ⟨rfl, rfl, trivial⟩ ?_
  refine WC.seq ?_
  refine WC.region ?_
  refine WL.run hS rfl rfl rfl (ex_move rfl) ?_
  refine WL.call rfl rfl rfl (enters0 (vs := [(errV 37 err_1)]) Tryd.call13 ⟨rfl, trivial⟩) (S_Told  hG hS hV) ?_
  clear hV hS
  rintro _ w ⟨r_4, hV, rfl, hr_5, hS⟩
  refine ⟨_, rfl, ?_⟩
  refine WL.run hS rfl rfl rfl (ex_assign rfl) ?_
  refine WL.nil ?_
  refine WQ.next ?_
  refine WC.sub (m := [(1, .int .i64 e_2), (5, .int .i64 r_4)]) ⟨rfl, rfl, trivial⟩ ?_
  refine WC.seq ?_
  refine WC.region ?_
  refine WL.run hS rfl rfl rfl (ex_move rfl) ?_
  refine WL.run hS rfl rfl rfl (ex_move rfl) ?_
  refine WL.run hS rfl rfl rfl (ex_eql rfl rfl) ?_
  refine WL.run hS rfl rfl rfl (ex_assign rfl) ?_
  refine WL.nil ?_
  refine WQ.next ?_
  refine WC.sub (m := [(4, .bool (decide (r_4 = e_2)))]) ⟨rfl, trivial⟩ ?_
  refine WC.ret ?_
  exact leave1 rfl rfl ⟨decide (r_4 = e_2), hV, rfl, hS⟩

theorem S_BddNews {w0 : World} {H : View} {L : Seg} {w : World} {n_1 : Int} {i_3 : Int} {k_5 : Int} {v_8 : Value} {xat_7 : List Bool} {Q : Bool → Prop} (hr_2 : I64 n_1) (hr_4 : I64 i_3) (hr_6 : I64 k_5) (h_9 : IsSl H cBool v_8 xat_7) (hG : Glob H) (hS : St w0 H (L) w) (hV : V_BddNews n_1 i_3 k_5 xat_7 Q) :
    Calls Tryd.prog 3 #[.int .i64 n_1, .int .i64 i_3, .int .i64 k_5, v_8] w fun e w' => ∃ (r1 : Bool), Q r1 ∧ e = .returned (.bool r1) ∧ St w0 H (L) w' := by
  unfold V_BddNews at hV
  refine enter Tryd.func3 rfl Tryd.ntmps3 rfl (lk_args_cons (d := 0) (v := .int .i64 n_1) rfl (lk_args_cons (d := 1) (v := .int .i64 i_3) rfl (lk_args_cons (d := 2) (v := .int .i64 k_5) rfl (lk_args_cons (d := 3) (v := v_8) rfl (lk_args_nil _))))) ?_
  refine WC.seq ?_
  refine WC.region ?_
  refine WL.run hS rfl rfl rfl (ex_assign rfl) ?_
  refine WL.nil ?_
  refine WQ.next ?_
  refine WC.sub (m := [(0, .int .i64 n_1), (1, .int .i64 i_3), (2, .int .i64 k_5), (3, v_8)]) ⟨rfl, rfl, rfl, rfl, trivial⟩ ?_
  refine WC.seq ?_
  refine WC.region ?_
  refine WL.run hS rfl rfl rfl (ex_move rfl) ?_
  refine WL.call rfl rfl rfl (enters0 (vs := [.int .i64 n_1]) Tryd.call4 ⟨rfl, trivial⟩) (S_New  hr_2 hS hV) ?_
  clear hV hS
  rintro _ w ⟨r_10, r_16, v_11, fp_12, hV, rfl, h_13, hS⟩
  refine ⟨_, rfl, ?_⟩
  rcases h_13 with ⟨rfl, rfl, rfl⟩ | ⟨y_15_b, y_15_0, y_15_1, y_15_2, y_15_3, y_15_4, y_15_5, y_15_0v, y_15_0f, y_15_1v, y_15_1f, y_15_2v, y_15_2f, y_15_3v, y_15_3f, y_15_4v, y_15_4f, y_15_5v, y_15_5f, rfl, rfl, rfl, h_36, h_38, h_40, h_42, h_44, h_46⟩
  · replace hS : St w0 H (L) w := hS
    replace hV := hV.1 rfl
    refine WL.run hS rfl rfl rfl (ex_move rfl) ?_
    refine WL.run hS rfl rfl rfl (ex_extract rfl rfl) ?_
    refine WL.run hS rfl rfl rfl (ex_extract rfl rfl) ?_
    refine WL.run hS rfl rfl rfl (ex_assign rfl) ?_
    refine WL.run hS rfl rfl rfl (ex_assign rfl) ?_
    refine WL.nil ?_
    refine WQ.next ?_
    refine WC.sub (m := [(0, .int .i64 n_1), (1, .int .i64 i_3), (2, .int .i64 k_5), (3, v_8), (9, .pointer none), (10, (errV 37 r_16))]) ⟨rfl, rfl, rfl, rfl, rfl, rfl, trivial⟩ ?_
    refine WC.seq ?_
    refine WC.seq ?_
    refine WC.via (m := [(0, .int .i64 n_1), (1, .int .i64 i_3), (2, .int .i64 k_5), (3, v_8), (9, .pointer none), (10, (errV 37 r_16)), (35, .bool (decide ((n_1 < 0) ∨ (24 < n_1))))]) ?_ ?_
    · refine WC.region ?_
      refine WL.run hS rfl rfl rfl (ex_move rfl) ?_
      refine WL.run hS rfl rfl rfl (ex_lss rfl rfl) ?_
      refine WL.run hS rfl rfl rfl (ex_move rfl) ?_
      rcases Bool.eq_false_or_eq_true (decide (n_1 < 0)) with hg_21 | hg_21
      · refine WL.skip_g rfl rfl rfl hg_21 rfl rfl ?_
        refine WL.skip_g rfl rfl rfl hg_21 rfl rfl ?_
        refine WL.run hS rfl rfl rfl (ex_pick_t rfl hg_21 rfl) ?_
        refine WL.sub (m := [(0, .int .i64 n_1), (1, .int .i64 i_3), (2, .int .i64 k_5), (3, v_8), (9, .pointer none), (10, (errV 37 r_16)), (30, .int .i64 n_1), (31, .bool (decide (n_1 < 0))), (32, .bool (decide (n_1 < 0))), (33, undef), (34, undef), (35, .bool (decide ((n_1 < 0) ∨ (24 < n_1))))]) ⟨rfl, rfl, rfl, rfl, rfl, rfl, rfl, rfl, rfl, rfl, rfl, congrArg (fun b => some (Value.bool b)) (or_t hg_21 : true = decide ((n_1 < 0) ∨ (24 < n_1))), trivial⟩ ?_
        exact WL.nil (At.of ⟨rfl, rfl, rfl, rfl, rfl, rfl, rfl, trivial⟩)
      · refine WL.unguard rfl rfl hg_21 ?_
        refine WL.run hS rfl rfl rfl (ex_move rfl) ?_
        refine WL.unguard rfl rfl hg_21 ?_
        refine WL.run hS rfl rfl rfl (ex_gtr rfl rfl) ?_
        refine WL.run hS rfl rfl rfl (ex_pick_f rfl hg_21 rfl) ?_
        refine WL.sub (m := [(0, .int .i64 n_1), (1, .int .i64 i_3), (2, .int .i64 k_5), (3, v_8), (9, .pointer none), (10, (errV 37 r_16)), (30, .int .i64 n_1), (31, .bool (decide (n_1 < 0))), (32, .bool (decide (n_1 < 0))), (33, .int .i64 n_1), (34, .bool (decide (24 < n_1))), (35, .bool (decide ((n_1 < 0) ∨ (24 < n_1))))]) ⟨rfl, rfl, rfl, rfl, rfl, rfl, rfl, rfl, rfl, rfl, rfl, congrArg (fun b => some (Value.bool b)) (or_f hg_21 : decide (24 < n_1) = decide ((n_1 < 0) ∨ (24 < n_1))), trivial⟩ ?_
        exact WL.nil (At.of ⟨rfl, rfl, rfl, rfl, rfl, rfl, rfl, trivial⟩)
    · refine WQ.next ?_
      refine WC.cond rfl ?_ ?_
      · intro hc_34
        replace hV := hV.1 (of_decide_eq_true hc_34)
        refine WC.seq ?_
        refine WC.region ?_
        refine WL.run hS rfl rfl rfl (ex_move rfl) ?_
        refine WL.call rfl rfl rfl (enters0 (vs := [(errV 37 r_16), .int .i64 5]) Tryd.call5 ⟨rfl, rfl, trivial⟩) (S_Error  (by unfold I64; omega) hG hS hV) ?_
        clear hV hS
        rintro _ w ⟨r_23, hV, rfl, hS⟩
        refine ⟨_, rfl, ?_⟩
        refine WL.run hS rfl rfl rfl (ex_assign rfl) ?_
        refine WL.nil ?_
        refine WQ.next ?_
        refine WC.sub (m := [(9, .pointer none), (11, .bool r_23)]) ⟨rfl, rfl, trivial⟩ ?_
        obtain ⟨J_27, hJ_28, hV⟩ := hV
        refine WC.meet (fun a w => ∃ (x_26 : Bool), J_27 x_26 ∧ St w0 H (L) w ∧ Fr 145 [(8, .bool x_26)] a) ?_ ?_
        · rintro a w ⟨x_26, hI, hS, ha⟩
          refine in_frame ha ?_
          clear ha hV
          have hV := hJ_28 _ hI
          clear hI hJ_28
          refine WC.ret ?_
          refine WQ.pass nofun ?_
          exact leave1 rfl rfl ⟨x_26, hV, rfl, hS⟩
        · clear hJ_28
          refine WC.region ?_
          refine WL.run hS rfl rfl rfl (ex_move rfl) ?_
          refine WL.run hS rfl rfl rfl (ex_move rfl) ?_
          rcases Bool.eq_false_or_eq_true r_23 with hg_29 | hg_29
          · replace hV := hV.1 hg_29
            refine WL.unguard rfl rfl hg_29 ?_
            refine WL.run hS rfl rfl rfl (ex_move rfl) ?_
            refine WL.unguard rfl rfl hg_29 ?_
            refine WL.run hS rfl rfl rfl (ex_ptr_eql Tryd.ptr23 rfl) ?_
            refine WL.run hS rfl rfl rfl (ex_pick_t rfl hg_29 rfl) ?_
            refine WL.run hS rfl rfl rfl (ex_assign rfl) ?_
            refine WL.nil ?_
            exact WQ.there fun a ha => ⟨true, hV, hS, ha.of_sub ⟨rfl, trivial⟩⟩
          · replace hV := hV.2 hg_29
            refine WL.skip_g rfl rfl rfl hg_29 rfl rfl ?_
            refine WL.skip_g rfl rfl rfl hg_29 rfl rfl ?_
            refine WL.run hS rfl rfl rfl (ex_pick_f rfl hg_29 rfl) ?_
            refine WL.run hS rfl rfl rfl (ex_assign rfl) ?_
            refine WL.nil ?_
            exact WQ.there fun a ha => ⟨false, hV, hS, ha.of_sub ⟨rfl, trivial⟩⟩
      · intro hc_34
        replace hV := hV.2 (of_decide_eq_false hc_34)
        refine WC.skip ?_
        refine WQ.next ?_
        refine WC.sub (m := [(0, .int .i64 n_1), (1, .int .i64 i_3), (2, .int .i64 k_5), (3, v_8), (9, .pointer none), (10, (errV 37 r_16))]) ⟨rfl, rfl, rfl, rfl, rfl, rfl, trivial⟩ ?_
        refine WC.seq ?_
        obtain ⟨J_31, hJ_32, hV⟩ := hV
        refine WC.meet (fun a w => J_31 () ∧ St w0 H (L) w ∧ Fr 145 [(0, .int .i64 n_1), (1, .int .i64 i_3), (2, .int .i64 k_5), (3, v_8), (9, .pointer none), (48, .bool true)] a) ?_ ?_
        · rintro a w ⟨hI, hS, ha⟩
          refine in_frame ha ?_
          clear ha hV
          have hV := hJ_32 _ hI
          clear hI hJ_32
          refine WC.cond_true rfl ?_
          refine WC.seq ?_
          refine WC.region ?_
          refine WL.run hS rfl rfl rfl (ex_assign rfl) ?_
          refine WL.nil ?_
          refine WQ.next ?_
          refine WC.sub (m := [(8, .bool false)]) ⟨rfl, trivial⟩ ?_
          refine WC.ret ?_
          refine WQ.pass nofun ?_
          exact leave1 rfl rfl ⟨false, hV, rfl, hS⟩
        · clear hJ_32
          refine WC.region ?_
          refine WL.run hS rfl rfl rfl (ex_move rfl) ?_
          refine WL.run hS rfl rfl rfl (ex_err_neq (T := 37) (e := r_16) Tryd.iface25 rfl rfl) ?_
          refine WL.run hS rfl rfl rfl (ex_move rfl) ?_
          rcases Bool.eq_false_or_eq_true (decide (r_16 ≠ none)) with hg_33 | hg_33
          · replace hV := hV.1 (of_decide_eq_true hg_33)
            refine WL.skip_g rfl rfl rfl hg_33 rfl rfl ?_
            refine WL.skip_g rfl rfl rfl hg_33 rfl rfl ?_
            refine WL.run hS rfl rfl rfl (ex_pick_t rfl hg_33 rfl) ?_
            refine WL.nil ?_
            exact WQ.there fun a ha => ⟨hV, hS, ha.of_sub ⟨rfl, rfl, rfl, rfl, rfl, rfl, trivial⟩⟩
          · replace hV := hV.2 (of_decide_eq_false hg_33)
            refine WL.unguard rfl rfl hg_33 ?_
            refine WL.run hS rfl rfl rfl (ex_move rfl) ?_
            refine WL.unguard rfl rfl hg_33 ?_
            refine WL.run hS rfl rfl rfl (ex_ptr_eql Tryd.ptr23 rfl) ?_
            refine WL.run hS rfl rfl rfl (ex_pick_f rfl hg_33 rfl) ?_
            refine WL.nil ?_
            exact WQ.there fun a ha => ⟨hV, hS, ha.of_sub ⟨rfl, rfl, rfl, rfl, rfl, rfl, trivial⟩⟩
  · simp only [List.append_assoc] at hS
    replace hS : St w0 H ([(y_15_b, Obj.cells #[y_15_0v, y_15_1v, y_15_2v, y_15_3v, y_15_4v, y_15_5v] 44 (0, 0))] ++ (y_15_0f ++ (y_15_1f ++ (y_15_2f ++ (y_15_3f ++ (y_15_4f ++ (y_15_5f ++ L))))))) w := hS
    replace hV := hV.2 _ _ _ _ _ _ rfl
    refine WL.run hS rfl rfl rfl (ex_move rfl) ?_
    refine WL.run hS rfl rfl rfl (ex_extract rfl rfl) ?_
    refine WL.run hS rfl rfl rfl (ex_extract rfl rfl) ?_
    refine WL.run hS rfl rfl rfl (ex_assign rfl) ?_
    refine WL.run hS rfl rfl rfl (ex_assign rfl) ?_
    refine WL.nil ?_
    refine WQ.next ?_
    refine WC.sub (m := [(0, .int .i64 n_1), (1, .int .i64 i_3), (2, .int .i64 k_5), (3, v_8), (9, .pointer (some ⟨y_15_b, 0, none⟩)), (10, (errV 37 r_16))]) ⟨rfl, rfl, rfl, rfl, rfl, rfl, trivial⟩ ?_
    refine WC.seq ?_
    refine WC.seq ?_
    refine WC.via (m := [(0, .int .i64 n_1), (1, .int .i64 i_3), (2, .int .i64 k_5), (3, v_8), (9, .pointer (some ⟨y_15_b, 0, none⟩)), (10, (errV 37 r_16)), (35, .bool (decide ((n_1 < 0) ∨ (24 < n_1))))]) ?_ ?_
    · refine WC.region ?_
      refine WL.run hS rfl rfl rfl (ex_move rfl) ?_
      refine WL.run hS rfl rfl rfl (ex_lss rfl rfl) ?_
      refine WL.run hS rfl rfl rfl (ex_move rfl) ?_
      rcases Bool.eq_false_or_eq_true (decide (n_1 < 0)) with hg_51 | hg_51
      · refine WL.skip_g rfl rfl rfl hg_51 rfl rfl ?_
        refine WL.skip_g rfl rfl rfl hg_51 rfl rfl ?_
        refine WL.run hS rfl rfl rfl (ex_pick_t rfl hg_51 rfl) ?_
        refine WL.sub (m := [(0, .int .i64 n_1), (1, .int .i64 i_3), (2, .int .i64 k_5), (3, v_8), (9, .pointer (some ⟨y_15_b, 0, none⟩)), (10, (errV 37 r_16)), (30, .int .i64 n_1), (31, .bool (decide (n_1 < 0))), (32, .bool (decide (n_1 < 0))), (33, undef), (34, undef), (35, .bool (decide ((n_1 < 0) ∨ (24 < n_1))))]) ⟨rfl, rfl, rfl, rfl, rfl, rfl, rfl, rfl, rfl, rfl, rfl, congrArg (fun b => some (Value.bool b)) (or_t hg_51 : true = decide ((n_1 < 0) ∨ (24 < n_1))), trivial⟩ ?_
        exact WL.nil (At.of ⟨rfl, rfl, rfl, rfl, rfl, rfl, rfl, trivial⟩)
      · refine WL.unguard rfl rfl hg_51 ?_
        refine WL.run hS rfl rfl rfl (ex_move rfl) ?_
        refine WL.unguard rfl rfl hg_51 ?_
        refine WL.run hS rfl rfl rfl (ex_gtr rfl rfl) ?_
        refine WL.run hS rfl rfl rfl (ex_pick_f rfl hg_51 rfl) ?_
        refine WL.sub (m := [(0, .int .i64 n_1), (1, .int .i64 i_3), (2, .int .i64 k_5), (3, v_8), (9, .pointer (some ⟨y_15_b, 0, none⟩)), (10, (errV 37 r_16)), (30, .int .i64 n_1), (31, .bool (decide (n_1 < 0))), (32, .bool (decide (n_1 < 0))), (33, .int .i64 n_1), (34, .bool (decide (24 < n_1))), (35, .bool (decide ((n_1 < 0) ∨ (24 < n_1))))]) ⟨rfl, rfl, rfl, rfl, rfl, rfl, rfl, rfl, rfl, rfl, rfl, congrArg (fun b => some (Value.bool b)) (or_f hg_51 : decide (24 < n_1) = decide ((n_1 < 0) ∨ (24 < n_1))), trivial⟩ ?_
        exact WL.nil (At.of ⟨rfl, rfl, rfl, rfl, rfl, rfl, rfl, trivial⟩)
    · refine WQ.next ?_
      refine WC.cond rfl ?_ ?_
      · intro hc_219
        replace hV := hV.1 (of_decide_eq_true hc_219)
        refine WC.seq ?_
        refine WC.region ?_
        refine WL.run hS rfl rfl rfl (ex_move rfl) ?_
        refine WL.call rfl rfl rfl (enters0 (vs := [(errV 37 r_16), .int .i64 5]) Tryd.call5 ⟨rfl, rfl, trivial⟩) (S_Error  (by unfold I64; omega) hG hS hV) ?_
        clear hV hS
        rintro _ w ⟨r_53, hV, rfl, hS⟩
        refine ⟨_, rfl, ?_⟩
        refine WL.run hS rfl rfl rfl (ex_assign rfl) ?_
        refine WL.nil ?_
        refine WQ.next ?_
        refine WC.sub (m := [(9, .pointer (some ⟨y_15_b, 0, none⟩)), (11, .bool r_53)]) ⟨rfl, rfl, trivial⟩ ?_
        obtain ⟨J_56, hJ_57, hV⟩ := hV
        refine WC.meet (fun a w => J_56 () ∧ St w0 H (L) w ∧ Fr 145 [(8, .bool false)] a) ?_ ?_
        · rintro a w ⟨hI, hS, ha⟩
          refine in_frame ha ?_
          clear ha hV
          have hV := hJ_57 _ hI
          clear hI hJ_57
          refine WC.ret ?_
          refine WQ.pass nofun ?_
          exact leave1 rfl rfl ⟨false, hV, rfl, hS⟩
        · clear hJ_57
          refine WC.region ?_
          refine WL.run hS rfl rfl rfl (ex_move rfl) ?_
          refine WL.run hS rfl rfl rfl (ex_move rfl) ?_
          rcases Bool.eq_false_or_eq_true r_53 with hg_58 | hg_58
          · replace hV := hV.1 hg_58
            refine WL.unguard rfl rfl hg_58 ?_
            refine WL.run hS rfl rfl rfl (ex_move rfl) ?_
            refine WL.unguard rfl rfl hg_58 ?_
            refine WL.run hS rfl rfl rfl (ex_ptr_eql Tryd.ptr23 rfl) ?_
            refine WL.run hS rfl rfl rfl (ex_pick_t rfl hg_58 rfl) ?_
            refine WL.run hS rfl rfl rfl (ex_assign rfl) ?_
            refine WL.nil ?_
            replace hS := hS.drop
            replace hS := hS.drop
            replace hS := hS.drop
            replace hS := hS.drop
            replace hS := hS.drop
            replace hS := hS.drop
            replace hS := hS.drop
            exact WQ.there fun a ha => ⟨hV, hS, ha.of_sub ⟨rfl, trivial⟩⟩
          · replace hV := hV.2 hg_58
            refine WL.skip_g rfl rfl rfl hg_58 rfl rfl ?_
            refine WL.skip_g rfl rfl rfl hg_58 rfl rfl ?_
            refine WL.run hS rfl rfl rfl (ex_pick_f rfl hg_58 rfl) ?_
            refine WL.run hS rfl rfl rfl (ex_assign rfl) ?_
            refine WL.nil ?_
            replace hS := hS.drop
            replace hS := hS.drop
            replace hS := hS.drop
            replace hS := hS.drop
            replace hS := hS.drop
            replace hS := hS.drop
            replace hS := hS.drop
            exact WQ.there fun a ha => ⟨hV, hS, ha.of_sub ⟨rfl, trivial⟩⟩
      · intro hc_219
        replace hV := hV.2 (of_decide_eq_false hc_219)
        refine WC.skip ?_
        refine WQ.next ?_
        refine WC.sub (m := [(0, .int .i64 n_1), (1, .int .i64 i_3), (2, .int .i64 k_5), (3, v_8), (9, .pointer (some ⟨y_15_b, 0, none⟩)), (10, (errV 37 r_16))]) ⟨rfl, rfl, rfl, rfl, rfl, rfl, trivial⟩ ?_
        refine WC.seq ?_
        obtain ⟨J_61, hJ_62, hV⟩ := hV
        refine WC.meet (fun a w => ∃ (x_60 : Bool), J_61 x_60 ∧ St w0 H ([(y_15_b, Obj.cells #[y_15_0v, y_15_1v, y_15_2v, y_15_3v, y_15_4v, y_15_5v] 44 (0, 0))] ++ (y_15_0f ++ (y_15_1f ++ (y_15_2f ++ (y_15_3f ++ (y_15_4f ++ (y_15_5f ++ L))))))) w ∧ Fr 145 [(0, .int .i64 n_1), (1, .int .i64 i_3), (2, .int .i64 k_5), (3, v_8), (9, .pointer (some ⟨y_15_b, 0, none⟩)), (48, .bool x_60)] a) ?_ ?_
        · rintro a w ⟨x_60, hI, hS, ha⟩
          refine in_frame ha ?_
          clear ha hV
          have hV := hJ_62 _ hI
          clear hI hJ_62
          refine WC.cond rfl ?_ ?_
          · intro hc_218
            replace hV := hV.1 hc_218
            refine WC.seq ?_
            refine WC.region ?_
            refine WL.run hS rfl rfl rfl (ex_assign rfl) ?_
            refine WL.nil ?_
            refine WQ.next ?_
            refine WC.sub (m := [(8, .bool false)]) ⟨rfl, trivial⟩ ?_
            replace hS := hS.drop
            replace hS := hS.drop
            replace hS := hS.drop
            replace hS := hS.drop
            replace hS := hS.drop
            replace hS := hS.drop
            replace hS := hS.drop
            refine WC.ret ?_
            refine WQ.pass nofun ?_
            exact leave1 rfl rfl ⟨false, hV, rfl, hS⟩
          · intro hc_218
            replace hV := hV.2 hc_218
            refine WC.skip ?_
            refine WQ.next ?_
            refine WC.sub (m := [(0, .int .i64 n_1), (1, .int .i64 i_3), (2, .int .i64 k_5), (3, v_8), (9, .pointer (some ⟨y_15_b, 0, none⟩))]) ⟨rfl, rfl, rfl, rfl, rfl, trivial⟩ ?_
            refine WC.seq ?_
            refine WC.region ?_
            refine WL.run hS rfl rfl rfl (ex_move rfl) ?_
            refine WL.run hS rfl rfl rfl (ex_move rfl) ?_
            replace hS := hS.f7
            replace hS := hS.f7
            replace hS := hS.f7
            replace hS := hS.f7
            replace hS := hS.f7
            replace hS := hS.f7
            replace hS := hS.f7
            refine WL.call rfl rfl rfl (enters0 (vs := [.pointer (some ⟨y_15_b, 0, none⟩), .int .i64 i_3]) Tryd.call6 ⟨rfl, rfl, trivial⟩) (S_Var  h_36 h_38 h_40 h_42 h_44 h_46 hr_4 hS hV) ?_
            clear hV hS
            rintro _ w ⟨r_64, c_66, c_70, m_74, v_67, fp_68, v_71, fp_72, fp_75, hV, rfl, hr_65, h_69, h_73, h_76, hS⟩
            refine ⟨_, rfl, ?_⟩
            refine WL.run hS rfl rfl rfl (ex_assign rfl) ?_
            refine WL.nil ?_
            refine WQ.next ?_
            refine WC.sub (m := [(0, .int .i64 n_1), (1, .int .i64 i_3), (2, .int .i64 k_5), (3, v_8), (9, .pointer (some ⟨y_15_b, 0, none⟩)), (12, .int .i64 r_64)]) ⟨rfl, rfl, rfl, rfl, rfl, rfl, trivial⟩ ?_
            refine WC.seq ?_
            refine WC.region ?_
            refine WL.run hS rfl rfl rfl (ex_move rfl) ?_
            refine WL.run hS rfl rfl rfl (ex_move rfl) ?_
            replace hS := hS.f7
            replace hS := hS.f7
            replace hS := hS.f7
            replace hS := hS.f7
            replace hS := hS.f7
            replace hS := hS.f7
            replace hS := hS.f7
            refine WL.call rfl rfl rfl (enters0 (vs := [.pointer (some ⟨y_15_b, 0, none⟩), .int .i64 k_5]) Tryd.call6 ⟨rfl, rfl, trivial⟩) (S_Var  h_69 h_73 h_76 h_42 h_44 h_46 hr_6 hS hV) ?_
            clear hV hS
            rintro _ w ⟨r_80, c_82, c_86, m_90, v_83, fp_84, v_87, fp_88, fp_91, hV, rfl, hr_81, h_85, h_89, h_92, hS⟩
            refine ⟨_, rfl, ?_⟩
            refine WL.run hS rfl rfl rfl (ex_assign rfl) ?_
            refine WL.nil ?_
            refine WQ.next ?_
            refine WC.sub (m := [(0, .int .i64 n_1), (1, .int .i64 i_3), (2, .int .i64 k_5), (3, v_8), (9, .pointer (some ⟨y_15_b, 0, none⟩)), (12, .int .i64 r_64), (13, .int .i64 r_80)]) ⟨rfl, rfl, rfl, rfl, rfl, rfl, rfl, trivial⟩ ?_
            refine WC.seq ?_
            refine WC.region ?_
            refine WL.run hS rfl rfl rfl (ex_move rfl) ?_
            refine WL.run hS rfl rfl rfl (ex_move rfl) ?_
            refine WL.run hS rfl rfl rfl (ex_move rfl) ?_
            replace hS := hS.f7
            replace hS := hS.f7
            replace hS := hS.f7
            replace hS := hS.f7
            replace hS := hS.f7
            replace hS := hS.f7
            replace hS := hS.f7
            refine WL.call rfl rfl rfl (enters0 (vs := [.pointer (some ⟨y_15_b, 0, none⟩), .int .i64 r_64, .int .i64 r_80]) Tryd.call7 ⟨rfl, rfl, rfl, trivial⟩) (S_And  h_85 h_89 h_92 h_42 h_44 h_46 hr_65 hr_81 hS hV) ?_
            clear hV hS
            rintro _ w ⟨r_96, c_98, c_102, m_106, m_109, v_99, fp_100, v_103, fp_104, fp_107, fp_110, hV, rfl, hr_97, h_101, h_105, h_108, h_111, hS⟩
            refine ⟨_, rfl, ?_⟩
            refine WL.run hS rfl rfl rfl (ex_assign rfl) ?_
            refine WL.nil ?_
            refine WQ.next ?_
            refine WC.sub (m := [(0, .int .i64 n_1), (1, .int .i64 i_3), (2, .int .i64 k_5), (3, v_8), (9, .pointer (some ⟨y_15_b, 0, none⟩)), (12, .int .i64 r_64), (14, .int .i64 r_96)]) ⟨rfl, rfl, rfl, rfl, rfl, rfl, rfl, trivial⟩ ?_
            refine WC.seq ?_
            refine WC.via (m := [(0, .int .i64 n_1), (1, .int .i64 i_3), (2, .int .i64 k_5), (3, v_8), (9, .pointer (some ⟨y_15_b, 0, none⟩)), (12, .int .i64 r_64), (14, .int .i64 r_96), (15, .bool (decide ((0 ≤ i_3) ∧ (i_3 < n_1))))]) ?_ ?_
            · refine WC.region ?_
              refine WL.run hS rfl rfl rfl (ex_move rfl) ?_
              refine WL.run hS rfl rfl rfl (ex_geq rfl rfl) ?_
              refine WL.run hS rfl rfl rfl (ex_move rfl) ?_
              rcases Bool.eq_false_or_eq_true (decide (0 ≤ i_3)) with hg_118 | hg_118
              · refine WL.unguard rfl rfl hg_118 ?_
                refine WL.run hS rfl rfl rfl (ex_move rfl) ?_
                refine WL.unguard rfl rfl hg_118 ?_
                refine WL.run hS rfl rfl rfl (ex_move rfl) ?_
                refine WL.unguard rfl rfl hg_118 ?_
                refine WL.run hS rfl rfl rfl (ex_lss rfl rfl) ?_
                refine WL.run hS rfl rfl rfl (ex_pick_t rfl hg_118 rfl) ?_
                refine WL.sub (m := [(0, .int .i64 n_1), (1, .int .i64 i_3), (2, .int .i64 k_5), (3, v_8), (9, .pointer (some ⟨y_15_b, 0, none⟩)), (12, .int .i64 r_64), (14, .int .i64 r_96), (59, .int .i64 i_3), (60, .bool (decide (0 ≤ i_3))), (61, .bool (decide (0 ≤ i_3))), (62, .int .i64 i_3), (63, .int .i64 n_1), (64, .bool (decide (i_3 < n_1))), (65, .bool (decide ((0 ≤ i_3) ∧ (i_3 < n_1))))]) ⟨rfl, rfl, rfl, rfl, rfl, rfl, rfl, rfl, rfl, rfl, rfl, rfl, rfl, congrArg (fun b => some (Value.bool b)) (and_t hg_118 : decide (i_3 < n_1) = decide ((0 ≤ i_3) ∧ (i_3 < n_1))), trivial⟩ ?_
                refine WL.run hS rfl rfl rfl (ex_assign rfl) ?_
                exact WL.nil (At.of ⟨rfl, rfl, rfl, rfl, rfl, rfl, rfl, rfl, trivial⟩)
              · refine WL.skip_g rfl rfl rfl hg_118 rfl rfl ?_
                refine WL.skip_g rfl rfl rfl hg_118 rfl rfl ?_
                refine WL.skip_g rfl rfl rfl hg_118 rfl rfl ?_
                refine WL.run hS rfl rfl rfl (ex_pick_f rfl hg_118 rfl) ?_
                refine WL.sub (m := [(0, .int .i64 n_1), (1, .int .i64 i_3), (2, .int .i64 k_5), (3, v_8), (9, .pointer (some ⟨y_15_b, 0, none⟩)), (12, .int .i64 r_64), (14, .int .i64 r_96), (59, .int .i64 i_3), (60, .bool (decide (0 ≤ i_3))), (61, .bool (decide (0 ≤ i_3))), (62, undef), (63, undef), (64, undef), (65, .bool (decide ((0 ≤ i_3) ∧ (i_3 < n_1))))]) ⟨rfl, rfl, rfl, rfl, rfl, rfl, rfl, rfl, rfl, rfl, rfl, rfl, rfl, congrArg (fun b => some (Value.bool b)) (and_f hg_118 : false = decide ((0 ≤ i_3) ∧ (i_3 < n_1))), trivial⟩ ?_
                refine WL.run hS rfl rfl rfl (ex_assign rfl) ?_
                exact WL.nil (At.of ⟨rfl, rfl, rfl, rfl, rfl, rfl, rfl, rfl, trivial⟩)
            · refine WQ.next ?_
              refine WC.seq ?_
              refine WC.via (m := [(0, .int .i64 n_1), (1, .int .i64 i_3), (2, .int .i64 k_5), (3, v_8), (9, .pointer (some ⟨y_15_b, 0, none⟩)), (12, .int .i64 r_64), (14, .int .i64 r_96), (15, .bool (decide ((0 ≤ i_3) ∧ (i_3 < n_1)))), (16, .bool (decide ((0 ≤ k_5) ∧ (k_5 < n_1))))]) ?_ ?_
              · refine WC.region ?_
                refine WL.run hS rfl rfl rfl (ex_move rfl) ?_
                refine WL.run hS rfl rfl rfl (ex_geq rfl rfl) ?_
                refine WL.run hS rfl rfl rfl (ex_move rfl) ?_
                rcases Bool.eq_false_or_eq_true (decide (0 ≤ k_5)) with hg_123 | hg_123
                · refine WL.unguard rfl rfl hg_123 ?_
                  refine WL.run hS rfl rfl rfl (ex_move rfl) ?_
                  refine WL.unguard rfl rfl hg_123 ?_
                  refine WL.run hS rfl rfl rfl (ex_move rfl) ?_
                  refine WL.unguard rfl rfl hg_123 ?_
                  refine WL.run hS rfl rfl rfl (ex_lss rfl rfl) ?_
                  refine WL.run hS rfl rfl rfl (ex_pick_t rfl hg_123 rfl) ?_
                  refine WL.sub (m := [(0, .int .i64 n_1), (1, .int .i64 i_3), (2, .int .i64 k_5), (3, v_8), (9, .pointer (some ⟨y_15_b, 0, none⟩)), (12, .int .i64 r_64), (14, .int .i64 r_96), (15, .bool (decide ((0 ≤ i_3) ∧ (i_3 < n_1)))), (66, .int .i64 k_5), (67, .bool (decide (0 ≤ k_5))), (68, .bool (decide (0 ≤ k_5))), (69, .int .i64 k_5), (70, .int .i64 n_1), (71, .bool (decide (k_5 < n_1))), (72, .bool (decide ((0 ≤ k_5) ∧ (k_5 < n_1))))]) ⟨rfl, rfl, rfl, rfl, rfl, rfl, rfl, rfl, rfl, rfl, rfl, rfl, rfl, rfl, congrArg (fun b => some (Value.bool b)) (and_t hg_123 : decide (k_5 < n_1) = decide ((0 ≤ k_5) ∧ (k_5 < n_1))), trivial⟩ ?_
                  refine WL.run hS rfl rfl rfl (ex_assign rfl) ?_
                  exact WL.nil (At.of ⟨rfl, rfl, rfl, rfl, rfl, rfl, rfl, rfl, rfl, trivial⟩)
                · refine WL.skip_g rfl rfl rfl hg_123 rfl rfl ?_
                  refine WL.skip_g rfl rfl rfl hg_123 rfl rfl ?_
                  refine WL.skip_g rfl rfl rfl hg_123 rfl rfl ?_
                  refine WL.run hS rfl rfl rfl (ex_pick_f rfl hg_123 rfl) ?_
                  refine WL.sub (m := [(0, .int .i64 n_1), (1, .int .i64 i_3), (2, .int .i64 k_5), (3, v_8), (9, .pointer (some ⟨y_15_b, 0, none⟩)), (12, .int .i64 r_64), (14, .int .i64 r_96), (15, .bool (decide ((0 ≤ i_3) ∧ (i_3 < n_1)))), (66, .int .i64 k_5), (67, .bool (decide (0 ≤ k_5))), (68, .bool (decide (0 ≤ k_5))), (69, undef), (70, undef), (71, undef), (72, .bool (decide ((0 ≤ k_5) ∧ (k_5 < n_1))))]) ⟨rfl, rfl, rfl, rfl, rfl, rfl, rfl, rfl, rfl, rfl, rfl, rfl, rfl, rfl, congrArg (fun b => some (Value.bool b)) (and_f hg_123 : false = decide ((0 ≤ k_5) ∧ (k_5 < n_1))), trivial⟩ ?_
                  refine WL.run hS rfl rfl rfl (ex_assign rfl) ?_
                  exact WL.nil (At.of ⟨rfl, rfl, rfl, rfl, rfl, rfl, rfl, rfl, rfl, trivial⟩)
              · refine WQ.next ?_
                refine WC.seq ?_
                refine WC.region ?_
                refine WL.run hS rfl rfl rfl (ex_move rfl) ?_
                refine WL.run hS rfl rfl rfl (ex_move rfl) ?_
                refine WL.run hS rfl rfl rfl (ex_move rfl) ?_
                replace hS := hS.f7
                replace hS := hS.f7
                replace hS := hS.f7
                replace hS := hS.f7
                replace hS := hS.f7
                replace hS := hS.f7
                replace hS := hS.f7
                refine WL.call rfl rfl rfl (enters0 (vs := [.pointer (some ⟨y_15_b, 0, none⟩), .int .i64 r_64, v_8]) Tryd.call8 ⟨rfl, rfl, rfl, trivial⟩) (S_Eval  h_101 h_105 h_108 h_42 h_44 h_111 hr_65 h_9 hS hV) ?_
                clear hV hS
                rintro _ w ⟨r_125, hV, rfl, hS⟩
                refine ⟨_, rfl, ?_⟩
                refine WL.run hS rfl rfl rfl (ex_assign rfl) ?_
                refine WL.nil ?_
                refine WQ.next ?_
                refine WC.sub (m := [(0, .int .i64 n_1), (1, .int .i64 i_3), (2, .int .i64 k_5), (3, v_8), (9, .pointer (some ⟨y_15_b, 0, none⟩)), (12, .int .i64 r_64), (14, .int .i64 r_96), (15, .bool (decide ((0 ≤ i_3) ∧ (i_3 < n_1)))), (16, .bool (decide ((0 ≤ k_5) ∧ (k_5 < n_1)))), (17, .bool r_125)]) ⟨rfl, rfl, rfl, rfl, rfl, rfl, rfl, rfl, rfl, rfl, trivial⟩ ?_
                obtain ⟨J_137, hJ_138, hV⟩ := hV
                refine WC.meet (fun a w => ∃ (o_136 : Bool), J_137 o_136 ∧ St w0 H ([(y_15_b, Obj.cells #[v_99, v_103, y_15_2v, y_15_3v, y_15_4v, y_15_5v] 44 (0, 0))] ++ (fp_100 ++ (fp_104 ++ (fp_107 ++ (y_15_3f ++ (y_15_4f ++ (fp_110 ++ L))))))) w ∧ Fr 145 [(0, .int .i64 n_1), (1, .int .i64 i_3), (2, .int .i64 k_5), (9, .pointer (some ⟨y_15_b, 0, none⟩)), (12, .int .i64 r_64), (14, .int .i64 r_96), (15, .bool (decide ((0 ≤ i_3) ∧ (i_3 < n_1)))), (16, .bool (decide ((0 ≤ k_5) ∧ (k_5 < n_1)))), (17, .bool r_125), (18, .bool o_136)] a) ?_ ?_
                · rintro a w ⟨o_136, hI, hS, ha⟩
                  refine in_frame ha ?_
                  clear ha hV
                  have hV := hJ_138 _ hI
                  clear hI hJ_138
                  refine WC.seq ?_
                  refine WC.region ?_
                  refine WL.run hS rfl rfl rfl (ex_move rfl) ?_
                  refine WL.run hS rfl rfl rfl (ex_move rfl) ?_
                  replace hS := hS.f7
                  replace hS := hS.f7
                  replace hS := hS.f7
                  replace hS := hS.f7
                  replace hS := hS.f7
                  replace hS := hS.f7
                  replace hS := hS.f7
                  refine WL.call rfl rfl rfl (enters0 (vs := [.pointer (some ⟨y_15_b, 0, none⟩), .int .i64 r_96]) Tryd.call9 ⟨rfl, rfl, trivial⟩) (S_Count  h_101 h_105 h_108 h_42 h_44 h_111 hr_97 hS hV) ?_
                  clear hV hS
                  rintro _ w ⟨r_148, hV, rfl, hr_149, hS⟩
                  refine ⟨_, rfl, ?_⟩
                  refine WL.run hS rfl rfl rfl (ex_assign rfl) ?_
                  refine WL.nil ?_
                  refine WQ.next ?_
                  refine WC.sub (m := [(0, .int .i64 n_1), (1, .int .i64 i_3), (2, .int .i64 k_5), (9, .pointer (some ⟨y_15_b, 0, none⟩)), (12, .int .i64 r_64), (14, .int .i64 r_96), (15, .bool (decide ((0 ≤ i_3) ∧ (i_3 < n_1)))), (16, .bool (decide ((0 ≤ k_5) ∧ (k_5 < n_1)))), (17, .bool r_125), (18, .bool o_136), (19, .int .i64 r_148)]) ⟨rfl, rfl, rfl, rfl, rfl, rfl, rfl, rfl, rfl, rfl, rfl, trivial⟩ ?_
                  refine WC.seq ?_
                  refine WC.region ?_
                  refine WL.run hS rfl rfl rfl (ex_assign rfl) ?_
                  refine WL.nil ?_
                  refine WQ.next ?_
                  obtain ⟨J_161, hJ_162, hV⟩ := hV
                  refine WC.meet (fun a w => ∃ (want_159 : Int), J_161 want_159 ∧ I64 want_159 ∧ St w0 H ([(y_15_b, Obj.cells #[v_99, v_103, y_15_2v, y_15_3v, y_15_4v, y_15_5v] 44 (0, 0))] ++ (fp_100 ++ (fp_104 ++ (fp_107 ++ (y_15_3f ++ (y_15_4f ++ (fp_110 ++ L))))))) w ∧ Fr 145 [(1, .int .i64 i_3), (2, .int .i64 k_5), (9, .pointer (some ⟨y_15_b, 0, none⟩)), (12, .int .i64 r_64), (14, .int .i64 r_96), (15, .bool (decide ((0 ≤ i_3) ∧ (i_3 < n_1)))), (17, .bool r_125), (18, .bool o_136), (19, .int .i64 r_148), (20, .int .i64 want_159)] a) ?_ ?_
                  · rintro a w ⟨want_159, hI, hr_160, hS, ha⟩
                    refine in_frame ha ?_
                    clear ha hV
                    have hV := hJ_162 _ hI
                    clear hI hJ_162
                    refine WC.seq ?_
                    refine WC.region ?_
                    refine WL.run hS rfl rfl rfl (ex_move rfl) ?_
                    replace hS := hS.f7
                    replace hS := hS.f7
                    replace hS := hS.f7
                    replace hS := hS.f7
                    replace hS := hS.f7
                    replace hS := hS.f7
                    replace hS := hS.f7
                    refine WL.call rfl rfl rfl (enters0 (vs := [.pointer (some ⟨y_15_b, 0, none⟩)]) Tryd.call10 ⟨rfl, trivial⟩) (S_False_  h_101 h_105 h_108 h_42 h_44 h_111 hS hV) ?_
                    clear hV hS
                    rintro _ w ⟨r_171, hV, rfl, hr_172, hS⟩
                    refine ⟨_, rfl, ?_⟩
                    refine WL.run hS rfl rfl rfl (ex_assign rfl) ?_
                    refine WL.nil ?_
                    refine WQ.next ?_
                    refine WC.sub (m := [(1, .int .i64 i_3), (2, .int .i64 k_5), (9, .pointer (some ⟨y_15_b, 0, none⟩)), (12, .int .i64 r_64), (14, .int .i64 r_96), (15, .bool (decide ((0 ≤ i_3) ∧ (i_3 < n_1)))), (17, .bool r_125), (18, .bool o_136), (19, .int .i64 r_148), (20, .int .i64 want_159), (21, .int .i64 r_171)]) ⟨rfl, rfl, rfl, rfl, rfl, rfl, rfl, rfl, rfl, rfl, rfl, trivial⟩ ?_
                    refine WC.seq ?_
                    refine WC.region ?_
                    refine WL.run hS rfl rfl rfl (ex_move rfl) ?_
                    replace hS := hS.f7
                    replace hS := hS.f7
                    replace hS := hS.f7
                    replace hS := hS.f7
                    replace hS := hS.f7
                    replace hS := hS.f7
                    replace hS := hS.f7
                    refine WL.call rfl rfl rfl (enters0 (vs := [.pointer (some ⟨y_15_b, 0, none⟩)]) Tryd.call11 ⟨rfl, trivial⟩) (S_True_  h_101 h_105 h_108 h_42 h_44 h_111 hS hV) ?_
                    clear hV hS
                    rintro _ w ⟨r_174, hV, rfl, hr_175, hS⟩
                    refine ⟨_, rfl, ?_⟩
                    refine WL.run hS rfl rfl rfl (ex_assign rfl) ?_
                    refine WL.nil ?_
                    refine WQ.next ?_
                    refine WC.sub (m := [(1, .int .i64 i_3), (2, .int .i64 k_5), (9, .pointer (some ⟨y_15_b, 0, none⟩)), (12, .int .i64 r_64), (14, .int .i64 r_96), (15, .bool (decide ((0 ≤ i_3) ∧ (i_3 < n_1)))), (17, .bool r_125), (18, .bool o_136), (19, .int .i64 r_148), (20, .int .i64 want_159), (21, .int .i64 r_171), (22, .int .i64 r_174)]) ⟨rfl, rfl, rfl, rfl, rfl, rfl, rfl, rfl, rfl, rfl, rfl, rfl, trivial⟩ ?_
                    refine WC.seq ?_
                    refine WC.region ?_
                    refine WL.run hS rfl rfl rfl (ex_move rfl) ?_
                    refine WL.run hS rfl rfl rfl (ex_move rfl) ?_
                    refine WL.build1 (c := (cInt .i64)) rfl Tryd.underlying41 Tryd.info29 rfl rfl (cInt_mk (I64.has hr_97)) hS ?_
                    clear hS
                    intro v_178 w fp_179 h_180 hS
                    replace hS := hS.f8
                    replace hS := hS.f8
                    replace hS := hS.f8
                    replace hS := hS.f8
                    replace hS := hS.f8
                    replace hS := hS.f8
                    replace hS := hS.f8
                    replace hS := hS.f8
                    have hL_181 := hS.freeze
                    refine WL.call rfl rfl rfl (enters0 (vs := [.pointer (some ⟨y_15_b, 0, none⟩), v_178]) Tryd.call12 ⟨rfl, rfl, trivial⟩) (S_Size  (h_101.mono hS.put_le) (h_105.mono hS.put_le) (h_108.mono hS.put_le) (h_42.mono hS.put_le) (h_44.mono hS.put_le) (h_111.mono hS.put_le) (h_180.share hS.put_le) hL_181 hV) ?_
                    clear hV
                    rintro _ w ⟨r_182, hV, rfl, hr_183, hL_184⟩
                    refine ⟨_, rfl, ?_⟩
                    have hB_186 := hS.back hL_184
                    clear hS
                    have hS := hB_186
                    refine WL.run hS rfl rfl rfl (ex_assign rfl) ?_
                    refine WL.nil ?_
                    refine WQ.next ?_
                    refine WC.sub (m := [(1, .int .i64 i_3), (2, .int .i64 k_5), (12, .int .i64 r_64), (15, .bool (decide ((0 ≤ i_3) ∧ (i_3 < n_1)))), (17, .bool r_125), (18, .bool o_136), (19, .int .i64 r_148), (20, .int .i64 want_159), (21, .int .i64 r_171), (22, .int .i64 r_174), (23, .int .i64 r_182)]) ⟨rfl, rfl, rfl, rfl, rfl, rfl, rfl, rfl, rfl, rfl, rfl, trivial⟩ ?_
                    replace hS := hS.f2.drop
                    replace hS := hS.f2.drop
                    replace hS := hS.f2.drop
                    replace hS := hS.f2.drop
                    replace hS := hS.f2.drop
                    replace hS := hS.f2.drop
                    replace hS := hS.f2.drop
                    replace hS := hS.drop
                    refine WC.seq ?_
                    refine WC.region ?_
                    refine WL.run hS rfl rfl rfl (ex_assign rfl) ?_
                    refine WL.nil ?_
                    refine WQ.next ?_
                    obtain ⟨J_193, hJ_194, hV⟩ := hV
                    refine WC.meet (fun a w => ∃ (size_191 : Int), J_193 size_191 ∧ I64 size_191 ∧ St w0 H (L) w ∧ Fr 145 [(12, .int .i64 r_64), (15, .bool (decide ((0 ≤ i_3) ∧ (i_3 < n_1)))), (17, .bool r_125), (18, .bool o_136), (19, .int .i64 r_148), (20, .int .i64 want_159), (21, .int .i64 r_171), (22, .int .i64 r_174), (23, .int .i64 r_182), (24, .int .i64 size_191)] a) ?_ ?_
                    · rintro a w ⟨size_191, hI, hr_192, hS, ha⟩
                      refine in_frame ha ?_
                      clear ha hV
                      have hV := hJ_194 _ hI
                      clear hI hJ_194
                      obtain ⟨J_208, hJ_209, hV⟩ := hV
                      refine WC.meet (fun a w => ∃ (x_207 : Bool), J_208 x_207 ∧ St w0 H (L) w ∧ Fr 145 [(8, .bool x_207)] a) ?_ ?_
                      · rintro a w ⟨x_207, hI, hS, ha⟩
                        refine in_frame ha ?_
                        clear ha hV
                        have hV := hJ_209 _ hI
                        clear hI hJ_209
                        refine WC.ret ?_
                        exact leave1 rfl rfl ⟨x_207, hV, rfl, hS⟩
                      · clear hJ_209
                        refine WC.region ?_
                        refine WL.run hS rfl rfl rfl (ex_move rfl) ?_
                        refine WL.run hS rfl rfl rfl (ex_move rfl) ?_
                        refine WL.run hS rfl rfl rfl (ex_beql Tryd.underlying4 rfl rfl) ?_
                        refine WL.run hS rfl rfl rfl (ex_move rfl) ?_
                        rcases Bool.eq_false_or_eq_true (r_125 == o_136) with hg_210 | hg_210
                        · replace hV := hV.1 hg_210
                          refine WL.unguard rfl rfl hg_210 ?_
                          refine WL.run hS rfl rfl rfl (ex_move rfl) ?_
                          refine WL.unguard rfl rfl hg_210 ?_
                          refine WL.run hS rfl rfl rfl (ex_move rfl) ?_
                          refine WL.unguard rfl rfl hg_210 ?_
                          refine WL.run hS rfl rfl rfl (ex_eql rfl rfl) ?_
                          refine WL.run hS rfl rfl rfl (ex_pick_t rfl hg_210 rfl) ?_
                          refine WL.run hS rfl rfl rfl (ex_move rfl) ?_
                          rcases Bool.eq_false_or_eq_true (decide (r_148 = want_159)) with hg_212 | hg_212
                          · replace hV := hV.1 (of_decide_eq_true hg_212)
                            refine WL.unguard rfl rfl hg_212 ?_
                            refine WL.run hS rfl rfl rfl (ex_move rfl) ?_
                            refine WL.unguard rfl rfl hg_212 ?_
                            refine WL.run hS rfl rfl rfl (ex_move rfl) ?_
                            refine WL.unguard rfl rfl hg_212 ?_
                            refine WL.run hS rfl rfl rfl (ex_neq rfl rfl) ?_
                            refine WL.run hS rfl rfl rfl (ex_pick_t rfl hg_212 rfl) ?_
                            refine WL.run hS rfl rfl rfl (ex_move rfl) ?_
                            rcases Bool.eq_false_or_eq_true (decide (r_171 ≠ r_174)) with hg_214 | hg_214
                            · replace hV := hV.1 (of_decide_eq_true hg_214)
                              refine WL.unguard rfl rfl hg_214 ?_
                              refine WL.run hS rfl rfl rfl (ex_move rfl) ?_
                              refine WL.unguard rfl rfl hg_214 ?_
                              refine WL.run hS rfl rfl rfl (ex_move rfl) ?_
                              refine WL.unguard rfl rfl hg_214 ?_
                              refine WL.run hS rfl rfl rfl (ex_eql rfl rfl) ?_
                              refine WL.unguard rfl rfl hg_214 ?_
                              refine WL.run hS rfl rfl rfl (ex_move rfl) ?_
                              refine WL.unguard rfl rfl hg_214 ?_
                              refine WL.run hS rfl rfl rfl (ex_not rfl) ?_
                              refine WL.unguard rfl rfl hg_214 ?_
                              refine WL.run hS rfl rfl rfl (ex_beql Tryd.underlying4 rfl rfl) ?_
                              refine WL.run hS rfl rfl rfl (ex_pick_t rfl hg_214 rfl) ?_
                              refine WL.run hS rfl rfl rfl (ex_move rfl) ?_
                              rcases Bool.eq_false_or_eq_true ((decide (r_64 = r_171)) == (!(decide ((0 ≤ i_3) ∧ (i_3 < n_1))))) with hg_216 | hg_216
                              · replace hV := hV.1 hg_216
                                refine WL.unguard rfl rfl hg_216 ?_
                                refine WL.run hS rfl rfl rfl (ex_move rfl) ?_
                                refine WL.unguard rfl rfl hg_216 ?_
                                refine WL.run hS rfl rfl rfl (ex_move rfl) ?_
                                refine WL.unguard rfl rfl hg_216 ?_
                                refine WL.run hS rfl rfl rfl (ex_eql rfl rfl) ?_
                                refine WL.run hS rfl rfl rfl (ex_pick_t rfl hg_216 rfl) ?_
                                refine WL.run hS rfl rfl rfl (ex_assign rfl) ?_
                                refine WL.nil ?_
                                exact WQ.there fun a ha => ⟨decide (r_182 = size_191), hV, hS, ha.of_sub ⟨rfl, trivial⟩⟩
                              · replace hV := hV.2 hg_216
                                refine WL.skip_g rfl rfl rfl hg_216 rfl rfl ?_
                                refine WL.skip_g rfl rfl rfl hg_216 rfl rfl ?_
                                refine WL.skip_g rfl rfl rfl hg_216 rfl rfl ?_
                                refine WL.run hS rfl rfl rfl (ex_pick_f rfl hg_216 rfl) ?_
                                refine WL.run hS rfl rfl rfl (ex_assign rfl) ?_
                                refine WL.nil ?_
                                exact WQ.there fun a ha => ⟨false, hV, hS, ha.of_sub ⟨rfl, trivial⟩⟩
                            · replace hV := hV.2 (of_decide_eq_false hg_214)
                              refine WL.skip_g rfl rfl rfl hg_214 rfl rfl ?_
                              refine WL.skip_g rfl rfl rfl hg_214 rfl rfl ?_
                              refine WL.skip_g rfl rfl rfl hg_214 rfl rfl ?_
                              refine WL.skip_g rfl rfl rfl hg_214 rfl rfl ?_
                              refine WL.skip_g rfl rfl rfl hg_214 rfl rfl ?_
                              refine WL.skip_g rfl rfl rfl hg_214 rfl rfl ?_
                              refine WL.run hS rfl rfl rfl (ex_pick_f rfl hg_214 rfl) ?_
                              refine WL.run hS rfl rfl rfl (ex_move rfl) ?_
                              refine WL.skip_g rfl rfl rfl rfl rfl rfl ?_
                              refine WL.skip_g rfl rfl rfl rfl rfl rfl ?_
                              refine WL.skip_g rfl rfl rfl rfl rfl rfl ?_
                              refine WL.run hS rfl rfl rfl (ex_pick_f rfl rfl rfl) ?_
                              refine WL.run hS rfl rfl rfl (ex_assign rfl) ?_
                              refine WL.nil ?_
                              exact WQ.there fun a ha => ⟨false, hV, hS, ha.of_sub ⟨rfl, trivial⟩⟩
                          · replace hV := hV.2 (of_decide_eq_false hg_212)
                            refine WL.skip_g rfl rfl rfl hg_212 rfl rfl ?_
                            refine WL.skip_g rfl rfl rfl hg_212 rfl rfl ?_
                            refine WL.skip_g rfl rfl rfl hg_212 rfl rfl ?_
                            refine WL.run hS rfl rfl rfl (ex_pick_f rfl hg_212 rfl) ?_
                            refine WL.run hS rfl rfl rfl (ex_move rfl) ?_
                            refine WL.skip_g rfl rfl rfl rfl rfl rfl ?_
                            refine WL.skip_g rfl rfl rfl rfl rfl rfl ?_
                            refine WL.skip_g rfl rfl rfl rfl rfl rfl ?_
                            refine WL.skip_g rfl rfl rfl rfl rfl rfl ?_
                            refine WL.skip_g rfl rfl rfl rfl rfl rfl ?_
                            refine WL.skip_g rfl rfl rfl rfl rfl rfl ?_
                            refine WL.run hS rfl rfl rfl (ex_pick_f rfl rfl rfl) ?_
                            refine WL.run hS rfl rfl rfl (ex_move rfl) ?_
                            refine WL.skip_g rfl rfl rfl rfl rfl rfl ?_
                            refine WL.skip_g rfl rfl rfl rfl rfl rfl ?_
                            refine WL.skip_g rfl rfl rfl rfl rfl rfl ?_
                            refine WL.run hS rfl rfl rfl (ex_pick_f rfl rfl rfl) ?_
                            refine WL.run hS rfl rfl rfl (ex_assign rfl) ?_
                            refine WL.nil ?_
                            exact WQ.there fun a ha => ⟨false, hV, hS, ha.of_sub ⟨rfl, trivial⟩⟩
                        · replace hV := hV.2 hg_210
                          refine WL.skip_g rfl rfl rfl hg_210 rfl rfl ?_
                          refine WL.skip_g rfl rfl rfl hg_210 rfl rfl ?_
                          refine WL.skip_g rfl rfl rfl hg_210 rfl rfl ?_
                          refine WL.run hS rfl rfl rfl (ex_pick_f rfl hg_210 rfl) ?_
                          refine WL.run hS rfl rfl rfl (ex_move rfl) ?_
                          refine WL.skip_g rfl rfl rfl rfl rfl rfl ?_
                          refine WL.skip_g rfl rfl rfl rfl rfl rfl ?_
                          refine WL.skip_g rfl rfl rfl rfl rfl rfl ?_
                          refine WL.run hS rfl rfl rfl (ex_pick_f rfl rfl rfl) ?_
                          refine WL.run hS rfl rfl rfl (ex_move rfl) ?_
                          refine WL.skip_g rfl rfl rfl rfl rfl rfl ?_
                          refine WL.skip_g rfl rfl rfl rfl rfl rfl ?_
                          refine WL.skip_g rfl rfl rfl rfl rfl rfl ?_
                          refine WL.skip_g rfl rfl rfl rfl rfl rfl ?_
                          refine WL.skip_g rfl rfl rfl rfl rfl rfl ?_
                          refine WL.skip_g rfl rfl rfl rfl rfl rfl ?_
                          refine WL.run hS rfl rfl rfl (ex_pick_f rfl rfl rfl) ?_
                          refine WL.run hS rfl rfl rfl (ex_move rfl) ?_
                          refine WL.skip_g rfl rfl rfl rfl rfl rfl ?_
                          refine WL.skip_g rfl rfl rfl rfl rfl rfl ?_
                          refine WL.skip_g rfl rfl rfl rfl rfl rfl ?_
                          refine WL.run hS rfl rfl rfl (ex_pick_f rfl rfl rfl) ?_
                          refine WL.run hS rfl rfl rfl (ex_assign rfl) ?_
                          refine WL.nil ?_
                          exact WQ.there fun a ha => ⟨false, hV, hS, ha.of_sub ⟨rfl, trivial⟩⟩
                    · clear hJ_194
                      refine WC.seq ?_
                      refine WC.region ?_
                      refine WL.run hS rfl rfl rfl (ex_move rfl) ?_
                      refine WL.run hS rfl rfl rfl (ex_gtr rfl rfl) ?_
                      refine WL.nil ?_
                      refine WQ.next ?_
                      refine WC.sub (m := [(1, .int .i64 i_3), (2, .int .i64 k_5), (12, .int .i64 r_64), (15, .bool (decide ((0 ≤ i_3) ∧ (i_3 < n_1)))), (17, .bool r_125), (18, .bool o_136), (19, .int .i64 r_148), (20, .int .i64 want_159), (21, .int .i64 r_171), (22, .int .i64 r_174), (23, .int .i64 r_182), (24, .int .i64 0), (115, .bool (decide (0 < want_159)))]) ⟨rfl, rfl, rfl, rfl, rfl, rfl, rfl, rfl, rfl, rfl, rfl, rfl, rfl, trivial⟩ ?_
                      refine WC.cond rfl ?_ ?_
                      · intro hc_198
                        replace hV := hV.1 (of_decide_eq_true hc_198)
                        refine WC.seq ?_
                        refine WC.region ?_
                        refine WL.run hS rfl rfl rfl (ex_assign rfl) ?_
                        refine WL.nil ?_
                        refine WQ.next ?_
                        refine WC.sub (m := [(1, .int .i64 i_3), (2, .int .i64 k_5), (12, .int .i64 r_64), (15, .bool (decide ((0 ≤ i_3) ∧ (i_3 < n_1)))), (17, .bool r_125), (18, .bool o_136), (19, .int .i64 r_148), (20, .int .i64 want_159), (21, .int .i64 r_171), (22, .int .i64 r_174), (23, .int .i64 r_182), (24, .int .i64 2)]) ⟨rfl, rfl, rfl, rfl, rfl, rfl, rfl, rfl, rfl, rfl, rfl, rfl, trivial⟩ ?_
                        refine WC.seq ?_
                        refine WC.region ?_
                        refine WL.run hS rfl rfl rfl (ex_move rfl) ?_
                        refine WL.run hS rfl rfl rfl (ex_move rfl) ?_
                        refine WL.run hS rfl rfl rfl (ex_eql rfl rfl) ?_
                        refine WL.nil ?_
                        refine WQ.next ?_
                        refine WC.sub (m := [(12, .int .i64 r_64), (15, .bool (decide ((0 ≤ i_3) ∧ (i_3 < n_1)))), (17, .bool r_125), (18, .bool o_136), (19, .int .i64 r_148), (20, .int .i64 want_159), (21, .int .i64 r_171), (22, .int .i64 r_174), (23, .int .i64 r_182), (24, .int .i64 2), (118, .bool (decide (i_3 = k_5)))]) ⟨rfl, rfl, rfl, rfl, rfl, rfl, rfl, rfl, rfl, rfl, rfl, trivial⟩ ?_
                        refine WC.cond rfl ?_ ?_
                        · intro hc_197
                          replace hV := hV.1 (of_decide_eq_true hc_197)
                          refine WC.region ?_
                          refine WL.run hS rfl rfl rfl (ex_assign rfl) ?_
                          refine WL.nil ?_
                          exact WQ.there fun a ha => ⟨1, hV, (by unfold I64; omega), hS, ha.of_sub ⟨rfl, rfl, rfl, rfl, rfl, rfl, rfl, rfl, rfl, rfl, trivial⟩⟩
                        · intro hc_197
                          replace hV := hV.2 (of_decide_eq_false hc_197)
                          refine WC.skip ?_
                          exact WQ.there fun a ha => ⟨2, hV, (by unfold I64; omega), hS, ha.of_sub ⟨rfl, rfl, rfl, rfl, rfl, rfl, rfl, rfl, rfl, rfl, trivial⟩⟩
                      · intro hc_198
                        replace hV := hV.2 (of_decide_eq_false hc_198)
                        refine WC.skip ?_
                        exact WQ.there fun a ha => ⟨0, hV, (by unfold I64; omega), hS, ha.of_sub ⟨rfl, rfl, rfl, rfl, rfl, rfl, rfl, rfl, rfl, rfl, trivial⟩⟩
                  · clear hJ_162
                    refine WC.seq ?_
                    refine WC.via (m := [(0, .int .i64 n_1), (1, .int .i64 i_3), (2, .int .i64 k_5), (9, .pointer (some ⟨y_15_b, 0, none⟩)), (12, .int .i64 r_64), (14, .int .i64 r_96), (15, .bool (decide ((0 ≤ i_3) ∧ (i_3 < n_1)))), (17, .bool r_125), (18, .bool o_136), (19, .int .i64 r_148), (20, .int .i64 0), (96, .bool (decide (((0 ≤ i_3) ∧ (i_3 < n_1)) ∧ ((0 ≤ k_5) ∧ (k_5 < n_1)))))]) ?_ ?_
                    · refine WC.region ?_
                      refine WL.run hS rfl rfl rfl (ex_move rfl) ?_
                      refine WL.run hS rfl rfl rfl (ex_move rfl) ?_
                      rcases Bool.eq_false_or_eq_true (decide ((0 ≤ i_3) ∧ (i_3 < n_1))) with hg_163 | hg_163
                      · refine WL.unguard rfl rfl hg_163 ?_
                        refine WL.run hS rfl rfl rfl (ex_move rfl) ?_
                        refine WL.run hS rfl rfl rfl (ex_pick_t rfl hg_163 rfl) ?_
                        refine WL.sub (m := [(0, .int .i64 n_1), (1, .int .i64 i_3), (2, .int .i64 k_5), (9, .pointer (some ⟨y_15_b, 0, none⟩)), (12, .int .i64 r_64), (14, .int .i64 r_96), (15, .bool (decide ((0 ≤ i_3) ∧ (i_3 < n_1)))), (16, .bool (decide ((0 ≤ k_5) ∧ (k_5 < n_1)))), (17, .bool r_125), (18, .bool o_136), (19, .int .i64 r_148), (20, .int .i64 0), (93, .bool (decide ((0 ≤ i_3) ∧ (i_3 < n_1)))), (94, .bool (decide ((0 ≤ i_3) ∧ (i_3 < n_1)))), (95, .bool (decide ((0 ≤ k_5) ∧ (k_5 < n_1)))), (96, .bool (decide (((0 ≤ i_3) ∧ (i_3 < n_1)) ∧ ((0 ≤ k_5) ∧ (k_5 < n_1)))))]) ⟨rfl, rfl, rfl, rfl, rfl, rfl, rfl, rfl, rfl, rfl, rfl, rfl, rfl, rfl, rfl, congrArg (fun b => some (Value.bool b)) (and_t hg_163 : decide ((0 ≤ k_5) ∧ (k_5 < n_1)) = decide (((0 ≤ i_3) ∧ (i_3 < n_1)) ∧ ((0 ≤ k_5) ∧ (k_5 < n_1)))), trivial⟩ ?_
                        exact WL.nil (At.of ⟨rfl, rfl, rfl, rfl, rfl, rfl, rfl, rfl, rfl, rfl, rfl, rfl, trivial⟩)
                      · refine WL.skip_g rfl rfl rfl hg_163 rfl rfl ?_
                        refine WL.run hS rfl rfl rfl (ex_pick_f rfl hg_163 rfl) ?_
                        refine WL.sub (m := [(0, .int .i64 n_1), (1, .int .i64 i_3), (2, .int .i64 k_5), (9, .pointer (some ⟨y_15_b, 0, none⟩)), (12, .int .i64 r_64), (14, .int .i64 r_96), (15, .bool (decide ((0 ≤ i_3) ∧ (i_3 < n_1)))), (16, .bool (decide ((0 ≤ k_5) ∧ (k_5 < n_1)))), (17, .bool r_125), (18, .bool o_136), (19, .int .i64 r_148), (20, .int .i64 0), (93, .bool (decide ((0 ≤ i_3) ∧ (i_3 < n_1)))), (94, .bool (decide ((0 ≤ i_3) ∧ (i_3 < n_1)))), (95, undef), (96, .bool (decide (((0 ≤ i_3) ∧ (i_3 < n_1)) ∧ ((0 ≤ k_5) ∧ (k_5 < n_1)))))]) ⟨rfl, rfl, rfl, rfl, rfl, rfl, rfl, rfl, rfl, rfl, rfl, rfl, rfl, rfl, rfl, congrArg (fun b => some (Value.bool b)) (and_f hg_163 : false = decide (((0 ≤ i_3) ∧ (i_3 < n_1)) ∧ ((0 ≤ k_5) ∧ (k_5 < n_1)))), trivial⟩ ?_
                        exact WL.nil (At.of ⟨rfl, rfl, rfl, rfl, rfl, rfl, rfl, rfl, rfl, rfl, rfl, rfl, trivial⟩)
                    · refine WQ.next ?_
                      refine WC.cond rfl ?_ ?_
                      · intro hc_170
                        replace hV := hV.1 (of_decide_eq_true hc_170)
                        refine WC.seq ?_
                        refine WC.region ?_
                        refine WL.run hS rfl rfl rfl (ex_move rfl) ?_
                        obtain ⟨hi_164, hV⟩ := hV
                        refine WL.run hS rfl rfl rfl (ex_shl rfl rfl hi_164) ?_
                        obtain ⟨hi_165, hV⟩ := hV
                        refine WL.run hS rfl rfl rfl (ex_quo rfl rfl hi_165) ?_
                        refine WL.run hS rfl rfl rfl (ex_assign rfl) ?_
                        refine WL.nil ?_
                        refine WQ.next ?_
                        refine WC.sub (m := [(0, .int .i64 n_1), (1, .int .i64 i_3), (2, .int .i64 k_5), (9, .pointer (some ⟨y_15_b, 0, none⟩)), (12, .int .i64 r_64), (14, .int .i64 r_96), (15, .bool (decide ((0 ≤ i_3) ∧ (i_3 < n_1)))), (17, .bool r_125), (18, .bool o_136), (19, .int .i64 r_148), (20, .int .i64 (((1 : Int) * 2 ^ n_1.toNat).tdiv 4))]) ⟨rfl, rfl, rfl, rfl, rfl, rfl, rfl, rfl, rfl, rfl, rfl, trivial⟩ ?_
                        refine WC.seq ?_
                        refine WC.region ?_
                        refine WL.run hS rfl rfl rfl (ex_move rfl) ?_
                        refine WL.run hS rfl rfl rfl (ex_move rfl) ?_
                        refine WL.run hS rfl rfl rfl (ex_eql rfl rfl) ?_
                        refine WL.nil ?_
                        refine WQ.next ?_
                        refine WC.sub (m := [(0, .int .i64 n_1), (1, .int .i64 i_3), (2, .int .i64 k_5), (9, .pointer (some ⟨y_15_b, 0, none⟩)), (12, .int .i64 r_64), (14, .int .i64 r_96), (15, .bool (decide ((0 ≤ i_3) ∧ (i_3 < n_1)))), (17, .bool r_125), (18, .bool o_136), (19, .int .i64 r_148), (20, .int .i64 (((1 : Int) * 2 ^ n_1.toNat).tdiv 4)), (102, .bool (decide (i_3 = k_5)))]) ⟨rfl, rfl, rfl, rfl, rfl, rfl, rfl, rfl, rfl, rfl, rfl, rfl, trivial⟩ ?_
                        refine WC.cond rfl ?_ ?_
                        · intro hc_169
                          replace hV := hV.1 (of_decide_eq_true hc_169)
                          refine WC.region ?_
                          refine WL.run hS rfl rfl rfl (ex_move rfl) ?_
                          obtain ⟨hi_167, hV⟩ := hV
                          refine WL.run hS rfl rfl rfl (ex_shl rfl rfl hi_167) ?_
                          obtain ⟨hi_168, hV⟩ := hV
                          refine WL.run hS rfl rfl rfl (ex_quo rfl rfl hi_168) ?_
                          refine WL.run hS rfl rfl rfl (ex_assign rfl) ?_
                          refine WL.nil ?_
                          replace hS := hS.f7
                          replace hS := hS.f7
                          replace hS := hS.f7
                          replace hS := hS.f7
                          replace hS := hS.f7
                          replace hS := hS.f7
                          replace hS := hS.f7
                          exact WQ.there fun a ha => ⟨(((1 : Int) * 2 ^ n_1.toNat).tdiv 2), hV, hi_168.2, hS, ha.of_sub ⟨rfl, rfl, rfl, rfl, rfl, rfl, rfl, rfl, rfl, rfl, trivial⟩⟩
                        · intro hc_169
                          replace hV := hV.2 (of_decide_eq_false hc_169)
                          refine WC.skip ?_
                          replace hS := hS.f7
                          replace hS := hS.f7
                          replace hS := hS.f7
                          replace hS := hS.f7
                          replace hS := hS.f7
                          replace hS := hS.f7
                          replace hS := hS.f7
                          exact WQ.there fun a ha => ⟨(((1 : Int) * 2 ^ n_1.toNat).tdiv 4), hV, hi_165.2, hS, ha.of_sub ⟨rfl, rfl, rfl, rfl, rfl, rfl, rfl, rfl, rfl, rfl, trivial⟩⟩
                      · intro hc_170
                        replace hV := hV.2 (of_decide_eq_false hc_170)
                        refine WC.skip ?_
                        replace hS := hS.f7
                        replace hS := hS.f7
                        replace hS := hS.f7
                        replace hS := hS.f7
                        replace hS := hS.f7
                        replace hS := hS.f7
                        replace hS := hS.f7
                        exact WQ.there fun a ha => ⟨0, hV, (by unfold I64; omega), hS, ha.of_sub ⟨rfl, rfl, rfl, rfl, rfl, rfl, rfl, rfl, rfl, rfl, trivial⟩⟩
                · clear hJ_138
                  refine WC.region ?_
                  refine WL.run hS rfl rfl rfl (ex_move rfl) ?_
                  refine WL.run hS rfl rfl rfl (ex_move rfl) ?_
                  rcases Bool.eq_false_or_eq_true (decide ((0 ≤ i_3) ∧ (i_3 < n_1))) with hg_139 | hg_139
                  · replace hV := hV.1 (of_decide_eq_true hg_139)
                    refine WL.unguard rfl rfl hg_139 ?_
                    refine WL.run hS rfl rfl rfl (ex_move rfl) ?_
                    refine WL.unguard rfl rfl hg_139 ?_
                    refine WL.run hS rfl rfl rfl (ex_move rfl) ?_
                    refine WL.unguard rfl rfl hg_139 ?_
                    have hl_140 : Len xat_7 := h_9.bound
                    replace hV := hV hl_140
                    refine WL.run hS rfl rfl rfl (ex_len_sl Tryd.underlying22 rfl h_9) ?_
                    refine WL.unguard rfl rfl hg_139 ?_
                    refine WL.run hS rfl rfl rfl (ex_lss rfl rfl) ?_
                    refine WL.run hS rfl rfl rfl (ex_pick_t rfl hg_139 rfl) ?_
                    refine WL.run hS rfl rfl rfl (ex_move rfl) ?_
                    rcases Bool.eq_false_or_eq_true (decide (i_3 < (xat_7.length : Int))) with hg_142 | hg_142
                    · replace hV := hV.1 (of_decide_eq_true hg_142)
                      refine WL.unguard rfl rfl hg_142 ?_
                      refine WL.run hS rfl rfl rfl (ex_move rfl) ?_
                      refine WL.unguard rfl rfl hg_142 ?_
                      refine WL.run hS rfl rfl rfl (ex_move rfl) ?_
                      refine WL.unguard rfl rfl hg_142 ?_
                      obtain ⟨hin_143, hV⟩ := hV
                      refine WL.runx hS rfl rfl rfl (ex_index Tryd.underlying22 Tryd.sizeOf4 rfl rfl h_9 hin_143) ?_
                      intro p_144 hp_145
                      refine WL.unguard rfl rfl hg_142 ?_
                      refine WL.runx hS rfl rfl rfl (ex_load Tryd.isAgg4 rfl rfl hp_145) ?_
                      intro u_146 hu_147
                      obtain rfl := cBool_rep hu_147
                      refine WL.run hS rfl rfl rfl (ex_pick_t rfl hg_142 rfl) ?_
                      refine WL.run hS rfl rfl rfl (ex_assign rfl) ?_
                      refine WL.nil ?_
                      replace hS := hS.f7
                      replace hS := hS.f7
                      replace hS := hS.f7
                      replace hS := hS.f7
                      replace hS := hS.f7
                      replace hS := hS.f7
                      replace hS := hS.f7
                      exact WQ.there fun a ha => ⟨(ix xat_7 i_3), hV, hS, ha.of_sub ⟨rfl, rfl, rfl, rfl, rfl, rfl, rfl, rfl, rfl, rfl, trivial⟩⟩
                    · replace hV := hV.2 (of_decide_eq_false hg_142)
                      refine WL.skip_g rfl rfl rfl hg_142 rfl rfl ?_
                      refine WL.skip_g rfl rfl rfl hg_142 rfl rfl ?_
                      refine WL.skip_g rfl rfl rfl hg_142 rfl rfl ?_
                      refine WL.skip_g rfl rfl rfl hg_142 rfl rfl ?_
                      refine WL.run hS rfl rfl rfl (ex_pick_f rfl hg_142 rfl) ?_
                      refine WL.run hS rfl rfl rfl (ex_assign rfl) ?_
                      refine WL.nil ?_
                      replace hS := hS.f7
                      replace hS := hS.f7
                      replace hS := hS.f7
                      replace hS := hS.f7
                      replace hS := hS.f7
                      replace hS := hS.f7
                      replace hS := hS.f7
                      exact WQ.there fun a ha => ⟨false, hV, hS, ha.of_sub ⟨rfl, rfl, rfl, rfl, rfl, rfl, rfl, rfl, rfl, rfl, trivial⟩⟩
                  · replace hV := hV.2 (of_decide_eq_false hg_139)
                    refine WL.skip_g rfl rfl rfl hg_139 rfl rfl ?_
                    refine WL.skip_g rfl rfl rfl hg_139 rfl rfl ?_
                    refine WL.skip_g rfl rfl rfl hg_139 rfl rfl ?_
                    refine WL.skip_g rfl rfl rfl hg_139 rfl rfl ?_
                    refine WL.run hS rfl rfl rfl (ex_pick_f rfl hg_139 rfl) ?_
                    refine WL.run hS rfl rfl rfl (ex_move rfl) ?_
                    refine WL.skip_g rfl rfl rfl rfl rfl rfl ?_
                    refine WL.skip_g rfl rfl rfl rfl rfl rfl ?_
                    refine WL.skip_g rfl rfl rfl rfl rfl rfl ?_
                    refine WL.skip_g rfl rfl rfl rfl rfl rfl ?_
                    refine WL.run hS rfl rfl rfl (ex_pick_f rfl rfl rfl) ?_
                    refine WL.run hS rfl rfl rfl (ex_assign rfl) ?_
                    refine WL.nil ?_
                    replace hS := hS.f7
                    replace hS := hS.f7
                    replace hS := hS.f7
                    replace hS := hS.f7
                    replace hS := hS.f7
                    replace hS := hS.f7
                    replace hS := hS.f7
                    exact WQ.there fun a ha => ⟨false, hV, hS, ha.of_sub ⟨rfl, rfl, rfl, rfl, rfl, rfl, rfl, rfl, rfl, rfl, trivial⟩⟩
        · clear hJ_62
          refine WC.region ?_
          refine WL.run hS rfl rfl rfl (ex_move rfl) ?_
          refine WL.run hS rfl rfl rfl (ex_err_neq (T := 37) (e := r_16) Tryd.iface25 rfl rfl) ?_
          refine WL.run hS rfl rfl rfl (ex_move rfl) ?_
          rcases Bool.eq_false_or_eq_true (decide (r_16 ≠ none)) with hg_63 | hg_63
          · replace hV := hV.1 (of_decide_eq_true hg_63)
            refine WL.skip_g rfl rfl rfl hg_63 rfl rfl ?_
            refine WL.skip_g rfl rfl rfl hg_63 rfl rfl ?_
            refine WL.run hS rfl rfl rfl (ex_pick_t rfl hg_63 rfl) ?_
            refine WL.nil ?_
            replace hS := hS.f7
            replace hS := hS.f7
            replace hS := hS.f7
            replace hS := hS.f7
            replace hS := hS.f7
            replace hS := hS.f7
            replace hS := hS.f7
            exact WQ.there fun a ha => ⟨true, hV, hS, ha.of_sub ⟨rfl, rfl, rfl, rfl, rfl, rfl, trivial⟩⟩
          · replace hV := hV.2 (of_decide_eq_false hg_63)
            refine WL.unguard rfl rfl hg_63 ?_
            refine WL.run hS rfl rfl rfl (ex_move rfl) ?_
            refine WL.unguard rfl rfl hg_63 ?_
            refine WL.run hS rfl rfl rfl (ex_ptr_eql Tryd.ptr23 rfl) ?_
            refine WL.run hS rfl rfl rfl (ex_pick_f rfl hg_63 rfl) ?_
            refine WL.nil ?_
            replace hS := hS.f7
            replace hS := hS.f7
            replace hS := hS.f7
            replace hS := hS.f7
            replace hS := hS.f7
            replace hS := hS.f7
            replace hS := hS.f7
            exact WQ.there fun a ha => ⟨false, hV, hS, ha.of_sub ⟨rfl, rfl, rfl, rfl, rfl, rfl, trivial⟩⟩

end Go.Proofs.YtceipmldngeagaaDoor
