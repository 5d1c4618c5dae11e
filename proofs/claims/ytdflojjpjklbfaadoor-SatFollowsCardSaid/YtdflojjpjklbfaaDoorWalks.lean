/- For each function: called, it does its work where its condition is so. Printed by program. -/
import Derived.Test.YtdflojjpjklbfaaDoorFacts
import Derived.Test.YtdflojjpjklbfaaDoorConds
import Derived.Test.YtdflojjpjklbfaaDoorTold
import Derived.Test.YtdflojjpjklbfaaDoorWalks1
set_option linter.unusedVariables false
set_option maxRecDepth 100000
namespace Go.Proofs.YtdflojjpjklbfaaDoor
open Go.Vc
theorem S_SatFollows {w0 : World} {H : View} {L : Seg} {w : World} {n_1 : Int} {v_4 : Value} {clauses_3 : List (List Int)} {v_7 : Value} {given_6 : List Int} {Q : Bool → Prop} (hr_2 : I64 n_1) (h_5 : IsSl H (cSl (cInt .i64)) v_4 clauses_3) (h_8 : IsSl H (cInt .i64) v_7 given_6) (hG : Glob H) (hS : St w0 H (L) w) (hV : V_SatFollows n_1 clauses_3 given_6 Q) :
    Calls Tryd.prog 3 #[.int .i64 n_1, v_4, v_7] w fun e w' => ∃ (r1 : Bool), Q r1 ∧ e = .returned (.bool r1) ∧ St w0 H (L) w' := by
  unfold V_SatFollows at hV
  refine enter Tryd.func3 rfl Tryd.ntmps3 rfl (lk_args_cons (d := 0) (v := .int .i64 n_1) rfl (lk_args_cons (d := 1) (v := v_4) rfl (lk_args_cons (d := 2) (v := v_7) rfl (lk_args_nil _)))) ?_
  refine WC.seq ?_
  refine WC.region ?_
  refine WL.run hS rfl rfl rfl (ex_assign rfl) ?_
  refine WL.nil ?_
  refine WQ.next ?_
  refine WC.sub (m := [(0, .int .i64 n_1), (1, v_4), (2, v_7)]) ⟨rfl, rfl, rfl, trivial⟩ ?_
  refine WC.seq ?_
  refine WC.region ?_
  refine WL.run hS rfl rfl rfl (ex_move rfl) ?_
  refine WL.call rfl rfl rfl (enters0 (vs := [v_4]) Tryd.call4 ⟨rfl, trivial⟩) (S_copied  h_5 hS hV) ?_
  clear hV hS
  rintro _ w ⟨r_9, v_10, fp_11, H_14, hV, rfl, le_15, h_12, hS⟩
  refine ⟨_, rfl, ?_⟩
  refine WL.run hS rfl rfl rfl (ex_assign rfl) ?_
  refine WL.nil ?_
  refine WQ.next ?_
  refine WC.sub (m := [(0, .int .i64 n_1), (1, v_4), (2, v_7), (7, v_10)]) ⟨rfl, rfl, rfl, rfl, trivial⟩ ?_
  refine WC.seq ?_
  refine WC.region ?_
  refine WL.build0 (α := Int) (c := (cInt .i64)) rfl Tryd.underlying23 Tryd.sizeOf3 hS ?_
  clear hS
  intro v_17 w fp_18 h_19 hS
  refine WL.run hS rfl rfl rfl (ex_move rfl) ?_
  obtain ⟨hr_20, hV⟩ := hV
  refine WL.append (c := (cInt .i64)) (xs := ([] : List Int)) (ys := given_6) rfl Tryd.underlying23 Tryd.info3 rfl rfl rfl hS h_19 ((h_8.mono le_15).src hS) hr_20.1 hr_20.2 ?_
  clear hS
  intro v_21 w fp_22 h_23 hS
  rw [List.nil_append] at h_23
  refine WL.run hS rfl rfl rfl (ex_assign rfl) ?_
  refine WL.nil ?_
  refine WQ.next ?_
  refine WC.sub (m := [(0, .int .i64 n_1), (1, v_4), (2, v_7), (7, v_10), (8, v_21)]) ⟨rfl, rfl, rfl, rfl, rfl, trivial⟩ ?_
  refine WC.seq ?_
  refine WC.region ?_
  refine WL.run hS rfl rfl rfl (ex_move rfl) ?_
  refine WL.run hS rfl rfl rfl (ex_move rfl) ?_
  refine WL.run hS rfl rfl rfl (ex_move rfl) ?_
  replace hS := hS.f2
  have hL_25 := hS.freeze
  have hL_26 := hL_25.freeze
  refine WL.call rfl rfl rfl (enters0 (vs := [.int .i64 n_1, v_10, v_21]) Tryd.call5 ⟨rfl, rfl, rfl, trivial⟩) (S_Follow  hr_2 ((h_12.share hS.put_le).mono hL_25.put_le) ((h_23.mono hS.put_le).share hL_25.put_le) hL_26 hV) ?_
  clear hV
  rintro _ w ⟨r_27, r_32, r_33, v_28, fp_29, hV, rfl, h_30, hL_34⟩
  refine ⟨_, rfl, ?_⟩
  have hB_36 := hL_25.back hL_34
  have hB_37 := hS.back hB_36
  clear hS
  have hS := hB_37
  replace h_30 := rep_own (K := H_14) h_30 (fun _ _ h => h)
  refine WL.run hS rfl rfl rfl (ex_move rfl) ?_
  refine WL.run hS rfl rfl rfl (ex_extract rfl rfl) ?_
  refine WL.run hS rfl rfl rfl (ex_extract rfl rfl) ?_
  refine WL.run hS rfl rfl rfl (ex_extract rfl rfl) ?_
  refine WL.run hS rfl rfl rfl (ex_assign rfl) ?_
  refine WL.run hS rfl rfl rfl (ex_assign rfl) ?_
  refine WL.run hS rfl rfl rfl (ex_assign rfl) ?_
  refine WL.nil ?_
  refine WQ.next ?_
  refine WC.sub (m := [(0, .int .i64 n_1), (1, v_4), (2, v_7), (7, v_10), (8, v_21), (9, v_28), (10, .bool r_32), (11, (errV 40 r_33))]) ⟨rfl, rfl, rfl, rfl, rfl, rfl, rfl, rfl, trivial⟩ ?_
  refine WC.seq ?_
  refine WC.region ?_
  refine WL.run hS rfl rfl rfl (ex_move rfl) ?_
  refine WL.run hS rfl rfl rfl (ex_move rfl) ?_
  refine WL.call rfl rfl rfl (enters0 (vs := [.int .i64 n_1, v_4]) Tryd.call6 ⟨rfl, rfl, trivial⟩) (S_Fault  hr_2 (h_5.mono le_15) hS hV) ?_
  clear hV hS
  rintro _ w ⟨r_38, hV, rfl, hr_39, hS⟩
  refine ⟨_, rfl, ?_⟩
  refine WL.run hS rfl rfl rfl (ex_assign rfl) ?_
  refine WL.nil ?_
  refine WQ.next ?_
  refine WC.sub (m := [(0, .int .i64 n_1), (1, v_4), (2, v_7), (7, v_10), (8, v_21), (9, v_28), (10, .bool r_32), (11, (errV 40 r_33)), (12, .int .i64 r_38)]) ⟨rfl, rfl, rfl, rfl, rfl, rfl, rfl, rfl, rfl, trivial⟩ ?_
  refine WC.seq ?_
  refine WC.region ?_
  refine WL.run hS rfl rfl rfl (ex_move rfl) ?_
  refine WL.run hS rfl rfl rfl (ex_move rfl) ?_
  refine WL.call rfl rfl rfl (enters0 (vs := [.int .i64 n_1, v_7]) Tryd.call7 ⟨rfl, rfl, trivial⟩) (S_lawLiterals  hr_2 (h_8.mono le_15) hS hV) ?_
  clear hV hS
  rintro _ w ⟨r_41, hV, rfl, hS⟩
  refine ⟨_, rfl, ?_⟩
  refine WL.run hS rfl rfl rfl (ex_assign rfl) ?_
  refine WL.nil ?_
  refine WQ.next ?_
  refine WC.sub (m := [(0, .int .i64 n_1), (1, v_4), (2, v_7), (7, v_10), (8, v_21), (9, v_28), (10, .bool r_32), (11, (errV 40 r_33)), (12, .int .i64 r_38), (13, .bool r_41)]) ⟨rfl, rfl, rfl, rfl, rfl, rfl, rfl, rfl, rfl, rfl, trivial⟩ ?_
  obtain ⟨J_47, hJ_48, hV⟩ := hV
  refine WC.meet (fun a w => ∃ (f_45 : Int), J_47 f_45 ∧ I64 f_45 ∧ St w0 H_14 (fp_11 ++ (fp_22 ++ (fp_29 ++ L))) w ∧ Fr 93 [(0, .int .i64 n_1), (1, v_4), (2, v_7), (7, v_10), (8, v_21), (9, v_28), (10, .bool r_32), (11, (errV 40 r_33)), (12, .int .i64 f_45)] a) ?_ ?_
  · rintro a w ⟨f_45, hI, hr_46, hS, ha⟩
    refine in_frame ha ?_
    clear ha hV
    have hV := hJ_48 _ hI
    clear hI hJ_48
    refine WC.seq ?_
    refine WC.region ?_
    refine WL.run hS rfl rfl rfl (ex_move rfl) ?_
    refine WL.run hS rfl rfl rfl (ex_move rfl) ?_
    refine WL.call rfl rfl rfl (enters0 (vs := [(errV 40 r_33), .int .i64 f_45]) Tryd.call8 ⟨rfl, rfl, trivial⟩) (S_Error  hr_46 (hG.mono le_15) hS hV) ?_
    clear hV hS
    rintro _ w ⟨r_51, hV, rfl, hS⟩
    refine ⟨_, rfl, ?_⟩
    refine WL.run hS rfl rfl rfl (ex_assign rfl) ?_
    refine WL.nil ?_
    refine WQ.next ?_
    refine WC.sub (m := [(0, .int .i64 n_1), (1, v_4), (2, v_7), (7, v_10), (8, v_21), (9, v_28), (10, .bool r_32), (12, .int .i64 f_45), (14, .bool r_51)]) ⟨rfl, rfl, rfl, rfl, rfl, rfl, rfl, rfl, rfl, trivial⟩ ?_
    refine WC.seq ?_
    refine WC.region ?_
    refine WL.run hS rfl rfl rfl (ex_move rfl) ?_
    refine WL.run hS rfl rfl rfl (ex_move rfl) ?_
    have hL_53 := hS.freeze
    refine WL.call rfl rfl rfl (enters0 (vs := [v_10, v_4]) Tryd.call9 ⟨rfl, rfl, trivial⟩) (S_sameClauses  (h_12.share hS.put_le) ((h_5.mono le_15).mono hS.put_le) hL_53 hV) ?_
    clear hV
    rintro _ w ⟨r_54, hV, rfl, hL_55⟩
    refine ⟨_, rfl, ?_⟩
    have hB_57 := hS.back hL_55
    clear hS
    have hS := hB_57
    refine WL.run hS rfl rfl rfl (ex_assign rfl) ?_
    refine WL.nil ?_
    refine WQ.next ?_
    refine WC.sub (m := [(0, .int .i64 n_1), (1, v_4), (2, v_7), (8, v_21), (9, v_28), (10, .bool r_32), (12, .int .i64 f_45), (14, .bool r_51), (15, .bool r_54)]) ⟨rfl, rfl, rfl, rfl, rfl, rfl, rfl, rfl, rfl, trivial⟩ ?_
    replace hS := hS.drop
    refine WC.seq ?_
    refine WC.region ?_
    refine WL.run hS rfl rfl rfl (ex_move rfl) ?_
    refine WL.run hS rfl rfl rfl (ex_move rfl) ?_
    have hL_58 := hS.freeze
    refine WL.call rfl rfl rfl (enters0 (vs := [v_21, v_7]) Tryd.call10 ⟨rfl, rfl, trivial⟩) (S_sameInts  (h_23.share hS.put_le) ((h_8.mono le_15).mono hS.put_le) hL_58 hV) ?_
    clear hV
    rintro _ w ⟨r_59, hV, rfl, hL_60⟩
    refine ⟨_, rfl, ?_⟩
    have hB_62 := hS.back hL_60
    clear hS
    have hS := hB_62
    refine WL.run hS rfl rfl rfl (ex_assign rfl) ?_
    refine WL.nil ?_
    refine WQ.next ?_
    refine WC.sub (m := [(0, .int .i64 n_1), (1, v_4), (2, v_7), (9, v_28), (10, .bool r_32), (12, .int .i64 f_45), (14, .bool r_51), (15, .bool r_54), (16, .bool r_59)]) ⟨rfl, rfl, rfl, rfl, rfl, rfl, rfl, rfl, rfl, trivial⟩ ?_
    replace hS := hS.drop
    refine WC.seq ?_
    refine WC.seq ?_
    refine WC.via (m := [(0, .int .i64 n_1), (1, v_4), (2, v_7), (9, v_28), (10, .bool r_32), (12, .int .i64 f_45), (64, .bool (decide ((((!r_51) = true) ∨ ((!r_54) = true)) ∨ ((!r_59) = true))))]) ?_ ?_
    · refine WC.region ?_
      refine WL.run hS rfl rfl rfl (ex_move rfl) ?_
      refine WL.run hS rfl rfl rfl (ex_not rfl) ?_
      refine WL.run hS rfl rfl rfl (ex_move rfl) ?_
      rcases Bool.eq_false_or_eq_true (!r_51) with hg_63 | hg_63
      · refine WL.skip_g rfl rfl rfl hg_63 rfl rfl ?_
        refine WL.skip_g rfl rfl rfl hg_63 rfl rfl ?_
        refine WL.run hS rfl rfl rfl (ex_pick_t rfl hg_63 rfl) ?_
        refine WL.sub (m := [(0, .int .i64 n_1), (1, v_4), (2, v_7), (9, v_28), (10, .bool r_32), (12, .int .i64 f_45), (14, .bool r_51), (15, .bool r_54), (16, .bool r_59), (55, .bool r_51), (56, .bool (!r_51)), (57, .bool (!r_51)), (58, undef), (59, undef), (60, .bool (decide (((!r_51) = true) ∨ ((!r_54) = true))))]) ⟨rfl, rfl, rfl, rfl, rfl, rfl, rfl, rfl, rfl, rfl, rfl, rfl, rfl, rfl, congrArg (fun b => some (Value.bool b)) (or_t ((dec_true _).symm.trans hg_63) : true = decide (((!r_51) = true) ∨ ((!r_54) = true))), trivial⟩ ?_
        refine WL.run hS rfl rfl rfl (ex_move rfl) ?_
        refine WL.skip_g rfl rfl rfl (or_t ((dec_true _).symm.trans hg_63)).symm rfl rfl ?_
        refine WL.skip_g rfl rfl rfl (or_t ((dec_true _).symm.trans hg_63)).symm rfl rfl ?_
        refine WL.run hS rfl rfl rfl (ex_pick_t rfl (or_t ((dec_true _).symm.trans hg_63)).symm rfl) ?_
        refine WL.sub (m := [(0, .int .i64 n_1), (1, v_4), (2, v_7), (9, v_28), (10, .bool r_32), (12, .int .i64 f_45), (14, .bool r_51), (15, .bool r_54), (16, .bool r_59), (55, .bool r_51), (56, .bool (!r_51)), (57, .bool (!r_51)), (58, undef), (59, undef), (60, .bool (decide (((!r_51) = true) ∨ ((!r_54) = true)))), (61, .bool (decide (((!r_51) = true) ∨ ((!r_54) = true)))), (62, undef), (63, undef), (64, .bool (decide ((((!r_51) = true) ∨ ((!r_54) = true)) ∨ ((!r_59) = true))))]) ⟨rfl, rfl, rfl, rfl, rfl, rfl, rfl, rfl, rfl, rfl, rfl, rfl, rfl, rfl, rfl, rfl, rfl, rfl, congrArg (fun b => some (Value.bool b)) (or_t (or_t ((dec_true _).symm.trans hg_63)).symm : true = decide ((((!r_51) = true) ∨ ((!r_54) = true)) ∨ ((!r_59) = true))), trivial⟩ ?_
        exact WL.nil (At.of ⟨rfl, rfl, rfl, rfl, rfl, rfl, rfl, trivial⟩)
      · refine WL.unguard rfl rfl hg_63 ?_
        refine WL.run hS rfl rfl rfl (ex_move rfl) ?_
        refine WL.unguard rfl rfl hg_63 ?_
        refine WL.run hS rfl rfl rfl (ex_not rfl) ?_
        refine WL.run hS rfl rfl rfl (ex_pick_f rfl hg_63 rfl) ?_
        refine WL.sub (m := [(0, .int .i64 n_1), (1, v_4), (2, v_7), (9, v_28), (10, .bool r_32), (12, .int .i64 f_45), (14, .bool r_51), (15, .bool r_54), (16, .bool r_59), (55, .bool r_51), (56, .bool (!r_51)), (57, .bool (!r_51)), (58, .bool r_54), (59, .bool (!r_54)), (60, .bool (decide (((!r_51) = true) ∨ ((!r_54) = true))))]) ⟨rfl, rfl, rfl, rfl, rfl, rfl, rfl, rfl, rfl, rfl, rfl, rfl, rfl, rfl, congrArg (fun b => some (Value.bool b)) ((dec_true _).trans (or_f ((dec_true _).symm.trans hg_63) : decide ((!r_54) = true) = decide (((!r_51) = true) ∨ ((!r_54) = true)))), trivial⟩ ?_
        refine WL.run hS rfl rfl rfl (ex_move rfl) ?_
        rcases Bool.eq_false_or_eq_true (decide (((!r_51) = true) ∨ ((!r_54) = true))) with hg_64 | hg_64
        · refine WL.skip_g rfl rfl rfl hg_64 rfl rfl ?_
          refine WL.skip_g rfl rfl rfl hg_64 rfl rfl ?_
          refine WL.run hS rfl rfl rfl (ex_pick_t rfl hg_64 rfl) ?_
          refine WL.sub (m := [(0, .int .i64 n_1), (1, v_4), (2, v_7), (9, v_28), (10, .bool r_32), (12, .int .i64 f_45), (14, .bool r_51), (15, .bool r_54), (16, .bool r_59), (55, .bool r_51), (56, .bool (!r_51)), (57, .bool (!r_51)), (58, .bool r_54), (59, .bool (!r_54)), (60, .bool (decide (((!r_51) = true) ∨ ((!r_54) = true)))), (61, .bool (decide (((!r_51) = true) ∨ ((!r_54) = true)))), (62, undef), (63, undef), (64, .bool (decide ((((!r_51) = true) ∨ ((!r_54) = true)) ∨ ((!r_59) = true))))]) ⟨rfl, rfl, rfl, rfl, rfl, rfl, rfl, rfl, rfl, rfl, rfl, rfl, rfl, rfl, rfl, rfl, rfl, rfl, congrArg (fun b => some (Value.bool b)) (or_t hg_64 : true = decide ((((!r_51) = true) ∨ ((!r_54) = true)) ∨ ((!r_59) = true))), trivial⟩ ?_
          exact WL.nil (At.of ⟨rfl, rfl, rfl, rfl, rfl, rfl, rfl, trivial⟩)
        · refine WL.unguard rfl rfl hg_64 ?_
          refine WL.run hS rfl rfl rfl (ex_move rfl) ?_
          refine WL.unguard rfl rfl hg_64 ?_
          refine WL.run hS rfl rfl rfl (ex_not rfl) ?_
          refine WL.run hS rfl rfl rfl (ex_pick_f rfl hg_64 rfl) ?_
          refine WL.sub (m := [(0, .int .i64 n_1), (1, v_4), (2, v_7), (9, v_28), (10, .bool r_32), (12, .int .i64 f_45), (14, .bool r_51), (15, .bool r_54), (16, .bool r_59), (55, .bool r_51), (56, .bool (!r_51)), (57, .bool (!r_51)), (58, .bool r_54), (59, .bool (!r_54)), (60, .bool (decide (((!r_51) = true) ∨ ((!r_54) = true)))), (61, .bool (decide (((!r_51) = true) ∨ ((!r_54) = true)))), (62, .bool r_59), (63, .bool (!r_59)), (64, .bool (decide ((((!r_51) = true) ∨ ((!r_54) = true)) ∨ ((!r_59) = true))))]) ⟨rfl, rfl, rfl, rfl, rfl, rfl, rfl, rfl, rfl, rfl, rfl, rfl, rfl, rfl, rfl, rfl, rfl, rfl, congrArg (fun b => some (Value.bool b)) ((dec_true _).trans (or_f hg_64 : decide ((!r_59) = true) = decide ((((!r_51) = true) ∨ ((!r_54) = true)) ∨ ((!r_59) = true)))), trivial⟩ ?_
          exact WL.nil (At.of ⟨rfl, rfl, rfl, rfl, rfl, rfl, rfl, trivial⟩)
    · refine WQ.next ?_
      refine WC.cond rfl ?_ ?_
      · intro hc_112
        replace hV := hV.1 (of_decide_eq_true hc_112)
        refine WC.seq ?_
        refine WC.region ?_
        refine WL.run hS rfl rfl rfl (ex_assign rfl) ?_
        refine WL.nil ?_
        refine WQ.next ?_
        refine WC.sub (m := [(6, .bool false)]) ⟨rfl, trivial⟩ ?_
        replace hS := hS.drop
        refine WC.ret ?_
        refine WQ.pass nofun ?_
        exact leave1 rfl rfl ⟨false, hV, rfl, (hS.weaken ((View.le.refl _).trans le_15))⟩
      · intro hc_112
        replace hV := hV.2 (of_decide_eq_false hc_112)
        refine WC.skip ?_
        refine WQ.next ?_
        refine WC.sub (m := [(0, .int .i64 n_1), (1, v_4), (2, v_7), (9, v_28), (10, .bool r_32), (12, .int .i64 f_45)]) ⟨rfl, rfl, rfl, rfl, rfl, rfl, trivial⟩ ?_
        refine WC.seq ?_
        refine WC.seq ?_
        refine WC.region ?_
        refine WL.run hS rfl rfl rfl (ex_move rfl) ?_
        refine WL.run hS rfl rfl rfl (ex_neq rfl rfl) ?_
        refine WL.nil ?_
        refine WQ.next ?_
        refine WC.sub (m := [(0, .int .i64 n_1), (1, v_4), (2, v_7), (9, v_28), (10, .bool r_32), (66, .bool (decide (f_45 ≠ 0)))]) ⟨rfl, rfl, rfl, rfl, rfl, rfl, trivial⟩ ?_
        refine WC.cond rfl ?_ ?_
        · intro hc_111
          replace hV := hV.1 (of_decide_eq_true hc_111)
          refine WC.seq ?_
          have hl_65 : Len r_27 := h_30.bound
          replace hV := hV hl_65
          refine WC.via (m := [(6, .bool (decide (((r_27.length : Int) = 0) ∧ ((!r_32) = true))))]) ?_ ?_
          · refine WC.region ?_
            refine WL.run hS rfl rfl rfl (ex_move rfl) ?_
            refine WL.run hS rfl rfl rfl (ex_len_own Tryd.underlying23 rfl h_30) ?_
            refine WL.run hS rfl rfl rfl (ex_eql rfl rfl) ?_
            refine WL.run hS rfl rfl rfl (ex_move rfl) ?_
            rcases Bool.eq_false_or_eq_true (decide ((r_27.length : Int) = 0)) with hg_67 | hg_67
            · refine WL.unguard rfl rfl hg_67 ?_
              refine WL.run hS rfl rfl rfl (ex_move rfl) ?_
              refine WL.unguard rfl rfl hg_67 ?_
              refine WL.run hS rfl rfl rfl (ex_not rfl) ?_
              refine WL.run hS rfl rfl rfl (ex_pick_t rfl hg_67 rfl) ?_
              refine WL.sub (m := [(0, .int .i64 n_1), (1, v_4), (2, v_7), (9, v_28), (10, .bool r_32), (66, .bool (decide (f_45 ≠ 0))), (67, v_28), (68, .int .i64 (r_27.length : Int)), (69, .bool (decide ((r_27.length : Int) = 0))), (70, .bool (decide ((r_27.length : Int) = 0))), (71, .bool r_32), (72, .bool (!r_32)), (73, .bool (decide (((r_27.length : Int) = 0) ∧ ((!r_32) = true))))]) ⟨rfl, rfl, rfl, rfl, rfl, rfl, rfl, rfl, rfl, rfl, rfl, rfl, congrArg (fun b => some (Value.bool b)) ((dec_true _).trans (and_t hg_67 : decide ((!r_32) = true) = decide (((r_27.length : Int) = 0) ∧ ((!r_32) = true)))), trivial⟩ ?_
              refine WL.run hS rfl rfl rfl (ex_assign rfl) ?_
              exact WL.nil (At.of ⟨rfl, trivial⟩)
            · refine WL.skip_g rfl rfl rfl hg_67 rfl rfl ?_
              refine WL.skip_g rfl rfl rfl hg_67 rfl rfl ?_
              refine WL.run hS rfl rfl rfl (ex_pick_f rfl hg_67 rfl) ?_
              refine WL.sub (m := [(0, .int .i64 n_1), (1, v_4), (2, v_7), (9, v_28), (10, .bool r_32), (66, .bool (decide (f_45 ≠ 0))), (67, v_28), (68, .int .i64 (r_27.length : Int)), (69, .bool (decide ((r_27.length : Int) = 0))), (70, .bool (decide ((r_27.length : Int) = 0))), (71, undef), (72, undef), (73, .bool (decide (((r_27.length : Int) = 0) ∧ ((!r_32) = true))))]) ⟨rfl, rfl, rfl, rfl, rfl, rfl, rfl, rfl, rfl, rfl, rfl, rfl, congrArg (fun b => some (Value.bool b)) (and_f hg_67 : false = decide (((r_27.length : Int) = 0) ∧ ((!r_32) = true))), trivial⟩ ?_
              refine WL.run hS rfl rfl rfl (ex_assign rfl) ?_
              exact WL.nil (At.of ⟨rfl, trivial⟩)
          · refine WQ.next ?_
            replace hS := hS.drop
            refine WC.ret ?_
            refine WQ.pass nofun ?_
            exact leave1 rfl rfl ⟨decide (((r_27.length : Int) = 0) ∧ ((!r_32) = true)), hV, rfl, (hS.weaken ((View.le.refl _).trans le_15))⟩
        · intro hc_111
          replace hV := hV.2 (of_decide_eq_false hc_111)
          refine WC.skip ?_
          refine WQ.next ?_
          refine WC.sub (m := [(0, .int .i64 n_1), (1, v_4), (2, v_7), (9, v_28), (10, .bool r_32)]) ⟨rfl, rfl, rfl, rfl, rfl, trivial⟩ ?_
          refine WC.seq ?_
          refine WC.region ?_
          refine WL.run hS rfl rfl rfl (ex_move rfl) ?_
          refine WL.run hS rfl rfl rfl (ex_move rfl) ?_
          refine WL.run hS rfl rfl rfl (ex_move rfl) ?_
          refine WL.call rfl rfl rfl (enters0 (vs := [.int .i64 n_1, v_4, v_7]) Tryd.call11 ⟨rfl, rfl, rfl, trivial⟩) (S_refFollow  hr_2 (h_5.mono le_15) (h_8.mono le_15) hS hV) ?_
          clear hV hS
          rintro _ w ⟨r_68, r_73, v_69, fp_70, hV, rfl, h_71, hS⟩
          refine ⟨_, rfl, ?_⟩
          refine WL.run hS rfl rfl rfl (ex_move rfl) ?_
          refine WL.run hS rfl rfl rfl (ex_extract rfl rfl) ?_
          refine WL.run hS rfl rfl rfl (ex_extract rfl rfl) ?_
          refine WL.run hS rfl rfl rfl (ex_assign rfl) ?_
          refine WL.run hS rfl rfl rfl (ex_assign rfl) ?_
          refine WL.nil ?_
          refine WQ.next ?_
          refine WC.sub (m := [(9, v_28), (10, .bool r_32), (17, v_69), (18, .bool r_73)]) ⟨rfl, rfl, rfl, rfl, trivial⟩ ?_
          refine WC.seq ?_
          refine WC.region ?_
          refine WL.run hS rfl rfl rfl (ex_assign rfl) ?_
          refine WL.nil ?_
          refine WQ.next ?_
          obtain ⟨J_91, hJ_92, hV⟩ := hV
          refine WC.meet (fun a w => ∃ (w_87 : List Int) (v_88 : Value) (fp_89 : Seg), J_91 w_87 ∧ OwnSl H_14 (cInt .i64) 3 v_88 w_87 fp_89 ∧ St w0 H_14 (fp_29 ++ (fp_89 ++ L)) w ∧ Fr 93 [(9, v_28), (10, .bool r_32), (18, .bool r_73), (19, v_88)] a) ?_ ?_
          · rintro a w ⟨w_87, v_88, fp_89, hI, h_90, hS, ha⟩
            refine in_frame ha ?_
            clear ha hV
            have hV := hJ_92 _ hI
            clear hI hJ_92
            refine WC.seq ?_
            refine WC.region ?_
            refine WL.run hS rfl rfl rfl (ex_move rfl) ?_
            refine WL.run hS rfl rfl rfl (ex_move rfl) ?_
            replace hS := hS.f2
            replace hS := hS.f2
            have hL_103 := hS.freeze
            have hL_104 := hL_103.freeze
            refine WL.call rfl rfl rfl (enters0 (vs := [v_28, v_88]) Tryd.call10 ⟨rfl, rfl, trivial⟩) (S_sameInts  ((h_30.share hS.put_le).mono hL_103.put_le) ((h_90.mono hS.put_le).share hL_103.put_le) hL_104 hV) ?_
            clear hV
            rintro _ w ⟨r_105, hV, rfl, hL_106⟩
            refine ⟨_, rfl, ?_⟩
            have hB_108 := hL_103.back hL_106
            have hB_109 := hS.back hB_108
            clear hS
            have hS := hB_109
            refine WL.run hS rfl rfl rfl (ex_assign rfl) ?_
            refine WL.nil ?_
            refine WQ.next ?_
            refine WC.sub (m := [(10, .bool r_32), (18, .bool r_73), (20, .bool r_105)]) ⟨rfl, rfl, rfl, trivial⟩ ?_
            replace hS := hS.drop
            replace hS := hS.drop
            refine WC.seq ?_
            refine WC.via (m := [(6, .bool (decide (((r_32 == r_73) = true) ∧ (r_105 = true))))]) ?_ ?_
            · refine WC.region ?_
              refine WL.run hS rfl rfl rfl (ex_move rfl) ?_
              refine WL.run hS rfl rfl rfl (ex_move rfl) ?_
              refine WL.run hS rfl rfl rfl (ex_beql Tryd.underlying4 rfl rfl) ?_
              refine WL.run hS rfl rfl rfl (ex_move rfl) ?_
              rcases Bool.eq_false_or_eq_true (r_32 == r_73) with hg_110 | hg_110
              · refine WL.unguard rfl rfl hg_110 ?_
                refine WL.run hS rfl rfl rfl (ex_move rfl) ?_
                refine WL.run hS rfl rfl rfl (ex_pick_t rfl hg_110 rfl) ?_
                refine WL.sub (m := [(10, .bool r_32), (18, .bool r_73), (20, .bool r_105), (87, .bool r_32), (88, .bool r_73), (89, .bool (r_32 == r_73)), (90, .bool (r_32 == r_73)), (91, .bool r_105), (92, .bool (decide (((r_32 == r_73) = true) ∧ (r_105 = true))))]) ⟨rfl, rfl, rfl, rfl, rfl, rfl, rfl, rfl, congrArg (fun b => some (Value.bool b)) ((dec_true _).trans (and_t ((dec_true _).symm.trans hg_110) : decide (r_105 = true) = decide (((r_32 == r_73) = true) ∧ (r_105 = true)))), trivial⟩ ?_
                refine WL.run hS rfl rfl rfl (ex_assign rfl) ?_
                exact WL.nil (At.of ⟨rfl, trivial⟩)
              · refine WL.skip_g rfl rfl rfl hg_110 rfl rfl ?_
                refine WL.run hS rfl rfl rfl (ex_pick_f rfl hg_110 rfl) ?_
                refine WL.sub (m := [(10, .bool r_32), (18, .bool r_73), (20, .bool r_105), (87, .bool r_32), (88, .bool r_73), (89, .bool (r_32 == r_73)), (90, .bool (r_32 == r_73)), (91, undef), (92, .bool (decide (((r_32 == r_73) = true) ∧ (r_105 = true))))]) ⟨rfl, rfl, rfl, rfl, rfl, rfl, rfl, rfl, congrArg (fun b => some (Value.bool b)) (and_f ((dec_true _).symm.trans hg_110) : false = decide (((r_32 == r_73) = true) ∧ (r_105 = true))), trivial⟩ ?_
                refine WL.run hS rfl rfl rfl (ex_assign rfl) ?_
                exact WL.nil (At.of ⟨rfl, trivial⟩)
            · refine WQ.next ?_
              refine WC.ret ?_
              exact leave1 rfl rfl ⟨decide (((r_32 == r_73) = true) ∧ (r_105 = true)), hV, rfl, (hS.weaken ((View.le.refl _).trans le_15))⟩
          · clear hJ_92
            refine WC.seq ?_
            refine WC.region ?_
            refine WL.run hS rfl rfl rfl (ex_move rfl) ?_
            refine WL.nil ?_
            refine WQ.next ?_
            refine WC.cond rfl ?_ ?_
            · intro hc_102
              replace hV := hV.1 hc_102
              refine WC.region ?_
              refine WL.run hS rfl rfl rfl (ex_move rfl) ?_
              have hL_93 := hS.freeze
              refine WL.call rfl rfl rfl (enters0 (vs := [v_69]) Tryd.call12 ⟨rfl, trivial⟩) (S_refTrue  (h_71.share hS.put_le) hL_93 hV) ?_
              clear hV
              rintro _ w ⟨r_94, v_95, fp_96, hV, rfl, h_97, hL_99⟩
              refine ⟨_, rfl, ?_⟩
              have hB_101 := hS.back hL_99
              clear hS
              have hS := hB_101
              replace h_97 := rep_own (K := H_14) h_97 (fun _ _ h => h)
              refine WL.run hS rfl rfl rfl (ex_assign rfl) ?_
              refine WL.nil ?_
              replace hS := hS.drop
              replace hS := hS.f2
              exact WQ.there fun a ha => ⟨r_94, v_95, fp_96, hV, h_97, hS, ha.of_sub ⟨rfl, rfl, rfl, rfl, trivial⟩⟩
            · intro hc_102
              replace hV := hV.2 hc_102
              refine WC.skip ?_
              replace hS := hS.nilseg
              replace hS := hS.f2.drop
              replace hS := hS.f2
              exact WQ.there fun a ha => ⟨([] : List Int), (.slice none 0 0), ([] : Seg), hV, OwnSl.nil, hS, ha.of_sub ⟨rfl, rfl, rfl, rfl, trivial⟩⟩
  · clear hJ_48
    refine WC.seq ?_
    refine WC.via (m := [(0, .int .i64 n_1), (1, v_4), (2, v_7), (7, v_10), (8, v_21), (9, v_28), (10, .bool r_32), (11, (errV 40 r_33)), (12, .int .i64 r_38), (45, .bool (decide ((r_38 = 0) ∧ ((!r_41) = true))))]) ?_ ?_
    · refine WC.region ?_
      refine WL.run hS rfl rfl rfl (ex_move rfl) ?_
      refine WL.run hS rfl rfl rfl (ex_eql rfl rfl) ?_
      refine WL.run hS rfl rfl rfl (ex_move rfl) ?_
      rcases Bool.eq_false_or_eq_true (decide (r_38 = 0)) with hg_49 | hg_49
      · refine WL.unguard rfl rfl hg_49 ?_
        refine WL.run hS rfl rfl rfl (ex_move rfl) ?_
        refine WL.unguard rfl rfl hg_49 ?_
        refine WL.run hS rfl rfl rfl (ex_not rfl) ?_
        refine WL.run hS rfl rfl rfl (ex_pick_t rfl hg_49 rfl) ?_
        refine WL.sub (m := [(0, .int .i64 n_1), (1, v_4), (2, v_7), (7, v_10), (8, v_21), (9, v_28), (10, .bool r_32), (11, (errV 40 r_33)), (12, .int .i64 r_38), (13, .bool r_41), (40, .int .i64 r_38), (41, .bool (decide (r_38 = 0))), (42, .bool (decide (r_38 = 0))), (43, .bool r_41), (44, .bool (!r_41)), (45, .bool (decide ((r_38 = 0) ∧ ((!r_41) = true))))]) ⟨rfl, rfl, rfl, rfl, rfl, rfl, rfl, rfl, rfl, rfl, rfl, rfl, rfl, rfl, rfl, congrArg (fun b => some (Value.bool b)) ((dec_true _).trans (and_t hg_49 : decide ((!r_41) = true) = decide ((r_38 = 0) ∧ ((!r_41) = true)))), trivial⟩ ?_
        exact WL.nil (At.of ⟨rfl, rfl, rfl, rfl, rfl, rfl, rfl, rfl, rfl, rfl, trivial⟩)
      · refine WL.skip_g rfl rfl rfl hg_49 rfl rfl ?_
        refine WL.skip_g rfl rfl rfl hg_49 rfl rfl ?_
        refine WL.run hS rfl rfl rfl (ex_pick_f rfl hg_49 rfl) ?_
        refine WL.sub (m := [(0, .int .i64 n_1), (1, v_4), (2, v_7), (7, v_10), (8, v_21), (9, v_28), (10, .bool r_32), (11, (errV 40 r_33)), (12, .int .i64 r_38), (13, .bool r_41), (40, .int .i64 r_38), (41, .bool (decide (r_38 = 0))), (42, .bool (decide (r_38 = 0))), (43, undef), (44, undef), (45, .bool (decide ((r_38 = 0) ∧ ((!r_41) = true))))]) ⟨rfl, rfl, rfl, rfl, rfl, rfl, rfl, rfl, rfl, rfl, rfl, rfl, rfl, rfl, rfl, congrArg (fun b => some (Value.bool b)) (and_f hg_49 : false = decide ((r_38 = 0) ∧ ((!r_41) = true))), trivial⟩ ?_
        exact WL.nil (At.of ⟨rfl, rfl, rfl, rfl, rfl, rfl, rfl, rfl, rfl, rfl, trivial⟩)
    · refine WQ.next ?_
      refine WC.cond rfl ?_ ?_
      · intro hc_50
        replace hV := hV.1 (of_decide_eq_true hc_50)
        refine WC.region ?_
        refine WL.run hS rfl rfl rfl (ex_assign rfl) ?_
        refine WL.nil ?_
        replace hS := hS.f3
        replace hS := hS.f3
        replace hS := hS.f3
        exact WQ.there fun a ha => ⟨5, hV, (by unfold I64; omega), hS, ha.of_sub ⟨rfl, rfl, rfl, rfl, rfl, rfl, rfl, rfl, rfl, trivial⟩⟩
      · intro hc_50
        replace hV := hV.2 (of_decide_eq_false hc_50)
        refine WC.skip ?_
        replace hS := hS.f3
        replace hS := hS.f3
        replace hS := hS.f3
        exact WQ.there fun a ha => ⟨r_38, hV, hr_39, hS, ha.of_sub ⟨rfl, rfl, rfl, rfl, rfl, rfl, rfl, rfl, rfl, trivial⟩⟩

end Go.Proofs.YtdflojjpjklbfaaDoor
