/- For each function: called, it does its work where its condition is so. Printed by program. -/
import Derived.Test.YtdflojjpjklbfaaDoorFacts
import Derived.Test.YtdflojjpjklbfaaDoorConds
import Derived.Test.YtdflojjpjklbfaaDoorTold
set_option linter.unusedVariables false
set_option maxRecDepth 100000
namespace Go.Proofs.YtdflojjpjklbfaaDoor
open Go.Vc
theorem S_sameInts {w0 : World} {H : View} {L : Seg} {w : World} {v_2 : Value} {a_1 : List Int} {v_5 : Value} {b_4 : List Int} {Q : Bool → Prop} (h_3 : IsSl H (cInt .i64) v_2 a_1) (h_6 : IsSl H (cInt .i64) v_5 b_4) (hS : St w0 H (L) w) (hV : V_sameInts a_1 b_4 Q) :
    Calls Tryd.prog 10 #[v_2, v_5] w fun e w' => ∃ (r1 : Bool), Q r1 ∧ e = .returned (.bool r1) ∧ St w0 H (L) w' := by
  unfold V_sameInts at hV
  refine enter Tryd.func10 rfl Tryd.ntmps10 rfl (lk_args_cons (d := 0) (v := v_2) rfl (lk_args_cons (d := 1) (v := v_5) rfl (lk_args_nil _))) ?_
  refine WC.seq ?_
  refine WC.region ?_
  refine WL.run hS rfl rfl rfl (ex_assign rfl) ?_
  refine WL.nil ?_
  refine WQ.next ?_
  refine WC.sub (m := [(0, v_2), (1, v_5)]) ⟨rfl, rfl, trivial⟩ ?_
  refine WC.seq ?_
  refine WC.seq ?_
  refine WC.region ?_
  refine WL.run hS rfl rfl rfl (ex_move rfl) ?_
  have hl_7 : Len a_1 := h_3.bound
  replace hV := hV hl_7
  refine WL.run hS rfl rfl rfl (ex_len_sl Tryd.underlying23 rfl h_3) ?_
  refine WL.run hS rfl rfl rfl (ex_move rfl) ?_
  have hl_8 : Len b_4 := h_6.bound
  replace hV := hV hl_8
  refine WL.run hS rfl rfl rfl (ex_len_sl Tryd.underlying23 rfl h_6) ?_
  refine WL.run hS rfl rfl rfl (ex_neq rfl rfl) ?_
  refine WL.nil ?_
  refine WQ.next ?_
  refine WC.sub (m := [(0, v_2), (1, v_5), (10, .bool (decide ((a_1.length : Int) ≠ (b_4.length : Int))))]) ⟨rfl, rfl, rfl, trivial⟩ ?_
  refine WC.cond rfl ?_ ?_
  · intro hc_63
    replace hV := hV.1 (of_decide_eq_true hc_63)
    refine WC.seq ?_
    refine WC.region ?_
    refine WL.run hS rfl rfl rfl (ex_assign rfl) ?_
    refine WL.nil ?_
    refine WQ.next ?_
    refine WC.sub (m := [(4, .bool false)]) ⟨rfl, trivial⟩ ?_
    refine WC.ret ?_
    refine WQ.pass nofun ?_
    exact leave1 rfl rfl ⟨false, hV, rfl, hS⟩
  · intro hc_63
    replace hV := hV.2 (of_decide_eq_false hc_63)
    refine WC.skip ?_
    refine WQ.next ?_
    refine WC.sub (m := [(0, v_2), (1, v_5)]) ⟨rfl, rfl, trivial⟩ ?_
    refine WC.seq ?_
    refine WC.seq ?_
    refine WC.region ?_
    refine WL.run hS rfl rfl rfl (ex_assign rfl) ?_
    refine WL.nil ?_
    refine WQ.next ?_
    refine WC.block ?_
    obtain ⟨I_43, mu_44, hI_62, hV⟩ := hV
    refine WC.loop (σ := Int) (fun s a w => ∃ (i_25 : Int), s = i_25 ∧ I_43 i_25 ∧ I64 i_25 ∧ St w0 H (L) w ∧ Fr 26 [(0, v_2), (1, v_5), (5, .int .i64 i_25)] a) mu_44 0 ?_ ?_
    · exact fun a ha => ⟨0, rfl, hI_62, (by unfold I64; omega), hS, ha.of_sub ⟨rfl, rfl, rfl, trivial⟩⟩
    · clear hS hI_62
      rintro i_25 a w ⟨_, rfl, hI, hr_26, hS, ha⟩
      refine in_frame ha ?_
      clear ha
      replace hV := hV _ hI
      clear hI
      refine WC.seq ?_
      refine WC.seq ?_
      refine WC.region ?_
      refine WL.run hS rfl rfl rfl (ex_move rfl) ?_
      refine WL.run hS rfl rfl rfl (ex_move rfl) ?_
      have hl_46 : Len a_1 := h_3.bound
      replace hV := hV hl_46
      refine WL.run hS rfl rfl rfl (ex_len_sl Tryd.underlying23 rfl h_3) ?_
      refine WL.run hS rfl rfl rfl (ex_lss rfl rfl) ?_
      refine WL.nil ?_
      refine WQ.next ?_
      refine WC.sub (m := [(0, v_2), (1, v_5), (5, .int .i64 i_25), (14, .bool (decide (i_25 < (a_1.length : Int))))]) ⟨rfl, rfl, rfl, rfl, trivial⟩ ?_
      refine WC.cond rfl ?_ ?_
      · intro hc_61
        replace hV := hV.1 (of_decide_eq_true hc_61)
        refine WC.skip ?_
        refine WQ.next ?_
        refine WC.sub (m := [(0, v_2), (1, v_5), (5, .int .i64 i_25)]) ⟨rfl, rfl, rfl, trivial⟩ ?_
        refine WC.seq ?_
        refine WC.block ?_
        refine WC.seq ?_
        refine WC.quiet (C := St w0 H (L)) Tryd.mixed (by kernel_rfl) (hS.drawn _) ?_
        clear hS w
        refine Wq.run rfl rfl rfl (ex_move rfl) ?_
        refine Wq.run rfl rfl rfl (ex_move rfl) ?_
        obtain ⟨hin_47, hV⟩ := hV
        refine Wq.runx rfl rfl rfl (ex_index Tryd.underlying23 Tryd.sizeOf3 rfl rfl h_3 hin_47) ?_
        intro p_48 hp_49
        refine Wq.runx rfl rfl rfl (ex_load Tryd.isAgg3 rfl rfl hp_49) ?_
        intro u_50 hu_51
        obtain ⟨rfl, hr_52⟩ := cInt_rep hu_51
        replace hr_52 := has_I64 hr_52
        replace hV := hV hr_52
        refine Wq.run rfl rfl rfl (ex_move rfl) ?_
        refine Wq.run rfl rfl rfl (ex_move rfl) ?_
        obtain ⟨hin_53, hV⟩ := hV
        refine Wq.runx rfl rfl rfl (ex_index Tryd.underlying23 Tryd.sizeOf3 rfl rfl h_6 hin_53) ?_
        intro p_54 hp_55
        refine Wq.runx rfl rfl rfl (ex_load Tryd.isAgg3 rfl rfl hp_55) ?_
        intro u_56 hu_57
        obtain ⟨rfl, hr_58⟩ := cInt_rep hu_57
        replace hr_58 := has_I64 hr_58
        replace hV := hV hr_58
        refine Wq.run rfl rfl rfl (ex_neq rfl rfl) ?_
        refine Wq.nil fun w hS => ?_
        refine WQ.next ?_
        refine WC.sub (m := [(0, v_2), (1, v_5), (5, .int .i64 i_25), (25, .bool (decide ((ix a_1 i_25) ≠ (ix b_4 i_25))))]) ⟨rfl, rfl, rfl, rfl, trivial⟩ ?_
        refine WC.cond rfl ?_ ?_
        · intro hc_60
          replace hV := hV.1 (of_decide_eq_true hc_60)
          refine WC.seq ?_
          refine WC.region ?_
          refine WL.run hS rfl rfl rfl (ex_assign rfl) ?_
          refine WL.nil ?_
          refine WQ.next ?_
          refine WC.sub (m := [(4, .bool false)]) ⟨rfl, trivial⟩ ?_
          refine WC.ret ?_
          refine WQ.out nofun ?_
          refine WQ.pass nofun ?_
          refine WQ.pass nofun ?_
          refine WQ.out nofun ?_
          refine WQ.pass nofun ?_
          exact leave1 rfl rfl ⟨false, hV, rfl, hS⟩
        · intro hc_60
          replace hV := hV.2 (of_decide_eq_false hc_60)
          refine WC.skip ?_
          refine WQ.out nofun ?_
          refine WQ.next ?_
          refine WC.sub (m := [(0, v_2), (1, v_5), (5, .int .i64 i_25)]) ⟨rfl, rfl, rfl, trivial⟩ ?_
          refine WC.region ?_
          refine WL.run hS rfl rfl rfl (ex_move rfl) ?_
          obtain ⟨hi_59, hV⟩ := hV
          refine WL.run hS rfl rfl rfl (ex_add rfl rfl hi_59) ?_
          refine WL.run hS rfl rfl rfl (ex_assign rfl) ?_
          refine WL.nil ?_
          exact WQ.there fun a ha => ⟨(i_25 + 1), ⟨(i_25 + 1), rfl, hV.1, hi_59, hS, ha.of_sub ⟨rfl, rfl, rfl, trivial⟩⟩, hV.2⟩
      · intro hc_61
        replace hV := hV.2 (of_decide_eq_false hc_61)
        refine WC.exit ?_
        refine WQ.pass nofun ?_
        refine WQ.pass nofun ?_
        refine WQ.hit ?_
        refine WQ.next ?_
        refine WC.sub (m := []) trivial ?_
        refine WC.seq ?_
        refine WC.region ?_
        refine WL.run hS rfl rfl rfl (ex_assign rfl) ?_
        refine WL.nil ?_
        refine WQ.next ?_
        refine WC.ret ?_
        exact leave1 rfl rfl ⟨true, hV, rfl, hS⟩

theorem S_size {w0 : World} {H : View} {L : Seg} {w : World} {l_1 : Int} {Q : Int → Prop} (hr_2 : I64 l_1) (hS : St w0 H (L) w) (hV : V_size l_1 Q) :
    Calls Tryd.prog 26 #[.int .i64 l_1] w fun e w' => ∃ (r1 : Int), Q r1 ∧ e = .returned (.int .i64 r1) ∧ I64 r1 ∧ St w0 H (L) w' := by
  unfold V_size at hV
  refine enter Tryd.func26 rfl Tryd.ntmps26 rfl (lk_args_cons (d := 0) (v := .int .i64 l_1) rfl (lk_args_nil _)) ?_
  refine WC.seq ?_
  refine WC.region ?_
  refine WL.run hS rfl rfl rfl (ex_assign rfl) ?_
  refine WL.nil ?_
  refine WQ.next ?_
  refine WC.sub (m := [(0, .int .i64 l_1)]) ⟨rfl, trivial⟩ ?_
  refine WC.seq ?_
  refine WC.seq ?_
  refine WC.region ?_
  refine WL.run hS rfl rfl rfl (ex_move rfl) ?_
  refine WL.run hS rfl rfl rfl (ex_lss rfl rfl) ?_
  refine WL.nil ?_
  refine WQ.next ?_
  refine WC.sub (m := [(0, .int .i64 l_1), (4, .bool (decide (l_1 < 0)))]) ⟨rfl, rfl, trivial⟩ ?_
  refine WC.cond rfl ?_ ?_
  · intro hc_3
    replace hV := hV.1 (of_decide_eq_true hc_3)
    refine WC.seq ?_
    refine WC.region ?_
    refine WL.run hS rfl rfl rfl (ex_move rfl) ?_
    refine WL.run hS rfl rfl rfl (ex_wneg rfl hr_2) ?_
    refine WL.run hS rfl rfl rfl (ex_assign rfl) ?_
    refine WL.nil ?_
    refine WQ.next ?_
    refine WC.sub (m := [(2, .int .i64 (wneg l_1))]) ⟨rfl, trivial⟩ ?_
    refine WC.ret ?_
    refine WQ.pass nofun ?_
    exact leave1 rfl rfl ⟨(wneg l_1), hV, rfl, (wneg_I64 _ hr_2), hS⟩
  · intro hc_3
    replace hV := hV.2 (of_decide_eq_false hc_3)
    refine WC.skip ?_
    refine WQ.next ?_
    refine WC.sub (m := [(0, .int .i64 l_1)]) ⟨rfl, trivial⟩ ?_
    refine WC.seq ?_
    refine WC.region ?_
    refine WL.run hS rfl rfl rfl (ex_move rfl) ?_
    refine WL.run hS rfl rfl rfl (ex_assign rfl) ?_
    refine WL.nil ?_
    refine WQ.next ?_
    refine WC.sub (m := [(2, .int .i64 l_1)]) ⟨rfl, trivial⟩ ?_
    refine WC.ret ?_
    exact leave1 rfl rfl ⟨l_1, hV, rfl, hr_2, hS⟩

theorem S_Literal {w0 : World} {H : View} {L : Seg} {w : World} {n_1 : Int} {l_3 : Int} {Q : Bool → Prop} (hr_2 : I64 n_1) (hr_4 : I64 l_3) (hS : St w0 H (L) w) (hV : V_Literal n_1 l_3 Q) :
    Calls Tryd.prog 16 #[.int .i64 n_1, .int .i64 l_3] w fun e w' => ∃ (r1 : Bool), Q r1 ∧ e = .returned (.bool r1) ∧ St w0 H (L) w' := by
  unfold V_Literal at hV
  refine enter Tryd.func16 rfl Tryd.ntmps16 rfl (lk_args_cons (d := 0) (v := .int .i64 n_1) rfl (lk_args_cons (d := 1) (v := .int .i64 l_3) rfl (lk_args_nil _))) ?_
  refine WC.seq ?_
  refine WC.region ?_
  refine WL.run hS rfl rfl rfl (ex_assign rfl) ?_
  refine WL.nil ?_
  refine WQ.next ?_
  refine WC.sub (m := [(0, .int .i64 n_1), (1, .int .i64 l_3)]) ⟨rfl, rfl, trivial⟩ ?_
  obtain ⟨J_8, hJ_9, hV⟩ := hV
  refine WC.meet (fun a w => ∃ (x_7 : Bool), J_8 x_7 ∧ St w0 H (L) w ∧ Fr 18 [(4, .bool x_7)] a) ?_ ?_
  · rintro a w ⟨x_7, hI, hS, ha⟩
    refine in_frame ha ?_
    clear ha hV
    have hV := hJ_9 _ hI
    clear hI hJ_9
    refine WC.ret ?_
    exact leave1 rfl rfl ⟨x_7, hV, rfl, hS⟩
  · clear hJ_9
    refine WC.region ?_
    refine WL.run hS rfl rfl rfl (ex_move rfl) ?_
    refine WL.run hS rfl rfl rfl (ex_neq rfl rfl) ?_
    refine WL.run hS rfl rfl rfl (ex_move rfl) ?_
    rcases Bool.eq_false_or_eq_true (decide (l_3 ≠ 0)) with hg_10 | hg_10
    · replace hV := hV.1 (of_decide_eq_true hg_10)
      refine WL.unguard rfl rfl hg_10 ?_
      refine WL.run hS rfl rfl rfl (ex_move rfl) ?_
      refine WL.unguard rfl rfl hg_10 ?_
      refine WL.run hS rfl rfl rfl (ex_move rfl) ?_
      refine WL.unguard rfl rfl hg_10 ?_
      refine WL.run hS rfl rfl rfl (ex_wneg rfl hr_2) ?_
      refine WL.unguard rfl rfl hg_10 ?_
      refine WL.run hS rfl rfl rfl (ex_geq rfl rfl) ?_
      refine WL.run hS rfl rfl rfl (ex_pick_t rfl hg_10 rfl) ?_
      refine WL.run hS rfl rfl rfl (ex_move rfl) ?_
      rcases Bool.eq_false_or_eq_true (decide ((wneg n_1) ≤ l_3)) with hg_11 | hg_11
      · replace hV := hV.1 (of_decide_eq_true hg_11)
        refine WL.unguard rfl rfl hg_11 ?_
        refine WL.run hS rfl rfl rfl (ex_move rfl) ?_
        refine WL.unguard rfl rfl hg_11 ?_
        refine WL.run hS rfl rfl rfl (ex_move rfl) ?_
        refine WL.unguard rfl rfl hg_11 ?_
        refine WL.run hS rfl rfl rfl (ex_leq rfl rfl) ?_
        refine WL.run hS rfl rfl rfl (ex_pick_t rfl hg_11 rfl) ?_
        refine WL.run hS rfl rfl rfl (ex_assign rfl) ?_
        refine WL.nil ?_
        exact WQ.there fun a ha => ⟨decide (l_3 ≤ n_1), hV, hS, ha.of_sub ⟨rfl, trivial⟩⟩
      · replace hV := hV.2 (of_decide_eq_false hg_11)
        refine WL.skip_g rfl rfl rfl hg_11 rfl rfl ?_
        refine WL.skip_g rfl rfl rfl hg_11 rfl rfl ?_
        refine WL.skip_g rfl rfl rfl hg_11 rfl rfl ?_
        refine WL.run hS rfl rfl rfl (ex_pick_f rfl hg_11 rfl) ?_
        refine WL.run hS rfl rfl rfl (ex_assign rfl) ?_
        refine WL.nil ?_
        exact WQ.there fun a ha => ⟨false, hV, hS, ha.of_sub ⟨rfl, trivial⟩⟩
    · replace hV := hV.2 (of_decide_eq_false hg_10)
      refine WL.skip_g rfl rfl rfl hg_10 rfl rfl ?_
      refine WL.skip_g rfl rfl rfl hg_10 rfl rfl ?_
      refine WL.skip_g rfl rfl rfl hg_10 rfl rfl ?_
      refine WL.skip_g rfl rfl rfl hg_10 rfl rfl ?_
      refine WL.run hS rfl rfl rfl (ex_pick_f rfl hg_10 rfl) ?_
      refine WL.run hS rfl rfl rfl (ex_move rfl) ?_
      refine WL.skip_g rfl rfl rfl rfl rfl rfl ?_
      refine WL.skip_g rfl rfl rfl rfl rfl rfl ?_
      refine WL.skip_g rfl rfl rfl rfl rfl rfl ?_
      refine WL.run hS rfl rfl rfl (ex_pick_f rfl rfl rfl) ?_
      refine WL.run hS rfl rfl rfl (ex_assign rfl) ?_
      refine WL.nil ?_
      exact WQ.there fun a ha => ⟨false, hV, hS, ha.of_sub ⟨rfl, trivial⟩⟩

theorem S_refLiterals {w0 : World} {H : View} {L : Seg} {w : World} {n_1 : Int} {v_4 : Value} {l_3 : List Int} {Q : Bool → Prop} (hr_2 : I64 n_1) (h_5 : IsSl H (cInt .i64) v_4 l_3) (hS : St w0 H (L) w) (hV : V_refLiterals n_1 l_3 Q) :
    Calls Tryd.prog 15 #[.int .i64 n_1, v_4] w fun e w' => ∃ (r1 : Bool), Q r1 ∧ e = .returned (.bool r1) ∧ St w0 H (L) w' := by
  unfold V_refLiterals at hV
  refine enter Tryd.func15 rfl Tryd.ntmps15 rfl (lk_args_cons (d := 0) (v := .int .i64 n_1) rfl (lk_args_cons (d := 1) (v := v_4) rfl (lk_args_nil _))) ?_
  refine WC.seq ?_
  refine WC.region ?_
  refine WL.run hS rfl rfl rfl (ex_assign rfl) ?_
  refine WL.nil ?_
  refine WQ.next ?_
  refine WC.sub (m := [(0, .int .i64 n_1), (1, v_4)]) ⟨rfl, rfl, trivial⟩ ?_
  refine WC.seq ?_
  refine WC.seq ?_
  refine WC.region ?_
  refine WL.run hS rfl rfl rfl (ex_assign rfl) ?_
  refine WL.nil ?_
  refine WQ.next ?_
  refine WC.block ?_
  obtain ⟨I_32, mu_33, hI_47, hV⟩ := hV
  refine WC.loop (σ := Int) (fun s a w => ∃ (i_18 : Int), s = i_18 ∧ I_32 i_18 ∧ I64 i_18 ∧ St w0 H (L) w ∧ Fr 21 [(0, .int .i64 n_1), (1, v_4), (5, .int .i64 i_18)] a) mu_33 0 ?_ ?_
  · exact fun a ha => ⟨0, rfl, hI_47, (by unfold I64; omega), hS, ha.of_sub ⟨rfl, rfl, rfl, trivial⟩⟩
  · clear hS hI_47
    rintro i_18 a w ⟨_, rfl, hI, hr_19, hS, ha⟩
    refine in_frame ha ?_
    clear ha
    replace hV := hV _ hI
    clear hI
    refine WC.seq ?_
    refine WC.seq ?_
    refine WC.region ?_
    refine WL.run hS rfl rfl rfl (ex_move rfl) ?_
    refine WL.run hS rfl rfl rfl (ex_move rfl) ?_
    have hl_35 : Len l_3 := h_5.bound
    replace hV := hV hl_35
    refine WL.run hS rfl rfl rfl (ex_len_sl Tryd.underlying23 rfl h_5) ?_
    refine WL.run hS rfl rfl rfl (ex_lss rfl rfl) ?_
    refine WL.nil ?_
    refine WQ.next ?_
    refine WC.sub (m := [(0, .int .i64 n_1), (1, v_4), (5, .int .i64 i_18), (10, .bool (decide (i_18 < (l_3.length : Int))))]) ⟨rfl, rfl, rfl, rfl, trivial⟩ ?_
    refine WC.cond rfl ?_ ?_
    · intro hc_46
      replace hV := hV.1 (of_decide_eq_true hc_46)
      refine WC.skip ?_
      refine WQ.next ?_
      refine WC.sub (m := [(0, .int .i64 n_1), (1, v_4), (5, .int .i64 i_18)]) ⟨rfl, rfl, rfl, trivial⟩ ?_
      refine WC.seq ?_
      refine WC.block ?_
      refine WC.seq ?_
      refine WC.region ?_
      refine WL.run hS rfl rfl rfl (ex_move rfl) ?_
      refine WL.run hS rfl rfl rfl (ex_move rfl) ?_
      refine WL.run hS rfl rfl rfl (ex_move rfl) ?_
      obtain ⟨hin_36, hV⟩ := hV
      refine WL.runx hS rfl rfl rfl (ex_index Tryd.underlying23 Tryd.sizeOf3 rfl rfl h_5 hin_36) ?_
      intro p_37 hp_38
      refine WL.runx hS rfl rfl rfl (ex_load Tryd.isAgg3 rfl rfl hp_38) ?_
      intro u_39 hu_40
      obtain ⟨rfl, hr_41⟩ := cInt_rep hu_40
      replace hr_41 := has_I64 hr_41
      replace hV := hV hr_41
      refine WL.call rfl rfl rfl (enters0 (vs := [.int .i64 n_1, .int .i64 (ix l_3 i_18)]) Tryd.call16 ⟨rfl, rfl, trivial⟩) (S_Literal  hr_2 hr_41 hS hV) ?_
      clear hV hS
      rintro _ w ⟨r_42, hV, rfl, hS⟩
      refine ⟨_, rfl, ?_⟩
      refine WL.run hS rfl rfl rfl (ex_assign rfl) ?_
      refine WL.nil ?_
      refine WQ.next ?_
      refine WC.sub (m := [(0, .int .i64 n_1), (1, v_4), (5, .int .i64 i_18), (6, .bool r_42)]) ⟨rfl, rfl, rfl, rfl, trivial⟩ ?_
      refine WC.seq ?_
      refine WC.region ?_
      refine WL.run hS rfl rfl rfl (ex_move rfl) ?_
      refine WL.run hS rfl rfl rfl (ex_not rfl) ?_
      refine WL.nil ?_
      refine WQ.next ?_
      refine WC.sub (m := [(0, .int .i64 n_1), (1, v_4), (5, .int .i64 i_18), (20, .bool (!r_42))]) ⟨rfl, rfl, rfl, rfl, trivial⟩ ?_
      refine WC.cond rfl ?_ ?_
      · intro hc_45
        replace hV := hV.1 hc_45
        refine WC.seq ?_
        refine WC.region ?_
        refine WL.run hS rfl rfl rfl (ex_assign rfl) ?_
        refine WL.nil ?_
        refine WQ.next ?_
        refine WC.sub (m := [(4, .bool false)]) ⟨rfl, trivial⟩ ?_
        refine WC.ret ?_
        refine WQ.out nofun ?_
        refine WQ.pass nofun ?_
        refine WQ.pass nofun ?_
        refine WQ.out nofun ?_
        refine WQ.pass nofun ?_
        exact leave1 rfl rfl ⟨false, hV, rfl, hS⟩
      · intro hc_45
        replace hV := hV.2 hc_45
        refine WC.skip ?_
        refine WQ.out nofun ?_
        refine WQ.next ?_
        refine WC.sub (m := [(0, .int .i64 n_1), (1, v_4), (5, .int .i64 i_18)]) ⟨rfl, rfl, rfl, trivial⟩ ?_
        refine WC.region ?_
        refine WL.run hS rfl rfl rfl (ex_move rfl) ?_
        obtain ⟨hi_44, hV⟩ := hV
        refine WL.run hS rfl rfl rfl (ex_add rfl rfl hi_44) ?_
        refine WL.run hS rfl rfl rfl (ex_assign rfl) ?_
        refine WL.nil ?_
        exact WQ.there fun a ha => ⟨(i_18 + 1), ⟨(i_18 + 1), rfl, hV.1, hi_44, hS, ha.of_sub ⟨rfl, rfl, rfl, trivial⟩⟩, hV.2⟩
    · intro hc_46
      replace hV := hV.2 (of_decide_eq_false hc_46)
      refine WC.exit ?_
      refine WQ.pass nofun ?_
      refine WQ.pass nofun ?_
      refine WQ.hit ?_
      refine WQ.next ?_
      refine WC.sub (m := []) trivial ?_
      refine WC.seq ?_
      refine WC.region ?_
      refine WL.run hS rfl rfl rfl (ex_assign rfl) ?_
      refine WL.nil ?_
      refine WQ.next ?_
      refine WC.ret ?_
      exact leave1 rfl rfl ⟨true, hV, rfl, hS⟩

theorem S_Fault {w0 : World} {H : View} {L : Seg} {w : World} {n_1 : Int} {v_4 : Value} {clauses_3 : List (List Int)} {Q : Int → Prop} (hr_2 : I64 n_1) (h_5 : IsSl H (cSl (cInt .i64)) v_4 clauses_3) (hS : St w0 H (L) w) (hV : V_Fault n_1 clauses_3 Q) :
    Calls Tryd.prog 6 #[.int .i64 n_1, v_4] w fun e w' => ∃ (r1 : Int), Q r1 ∧ e = .returned (.int .i64 r1) ∧ I64 r1 ∧ St w0 H (L) w' := by
  unfold V_Fault at hV
  refine enter Tryd.func6 rfl Tryd.ntmps6 rfl (lk_args_cons (d := 0) (v := .int .i64 n_1) rfl (lk_args_cons (d := 1) (v := v_4) rfl (lk_args_nil _))) ?_
  refine WC.seq ?_
  refine WC.region ?_
  refine WL.run hS rfl rfl rfl (ex_assign rfl) ?_
  refine WL.nil ?_
  refine WQ.next ?_
  refine WC.sub (m := [(0, .int .i64 n_1), (1, v_4)]) ⟨rfl, rfl, trivial⟩ ?_
  refine WC.seq ?_
  refine WC.seq ?_
  refine WC.via (m := [(0, .int .i64 n_1), (1, v_4), (12, .bool (decide ((n_1 < 0) ∨ (16777216 < n_1))))]) ?_ ?_
  · refine WC.region ?_
    refine WL.run hS rfl rfl rfl (ex_move rfl) ?_
    refine WL.run hS rfl rfl rfl (ex_lss rfl rfl) ?_
    refine WL.run hS rfl rfl rfl (ex_move rfl) ?_
    rcases Bool.eq_false_or_eq_true (decide (n_1 < 0)) with hg_6 | hg_6
    · refine WL.skip_g rfl rfl rfl hg_6 rfl rfl ?_
      refine WL.skip_g rfl rfl rfl hg_6 rfl rfl ?_
      refine WL.run hS rfl rfl rfl (ex_pick_t rfl hg_6 rfl) ?_
      refine WL.sub (m := [(0, .int .i64 n_1), (1, v_4), (7, .int .i64 n_1), (8, .bool (decide (n_1 < 0))), (9, .bool (decide (n_1 < 0))), (10, undef), (11, undef), (12, .bool (decide ((n_1 < 0) ∨ (16777216 < n_1))))]) ⟨rfl, rfl, rfl, rfl, rfl, rfl, rfl, congrArg (fun b => some (Value.bool b)) (or_t hg_6 : true = decide ((n_1 < 0) ∨ (16777216 < n_1))), trivial⟩ ?_
      exact WL.nil (At.of ⟨rfl, rfl, rfl, trivial⟩)
    · refine WL.unguard rfl rfl hg_6 ?_
      refine WL.run hS rfl rfl rfl (ex_move rfl) ?_
      refine WL.unguard rfl rfl hg_6 ?_
      refine WL.run hS rfl rfl rfl (ex_gtr rfl rfl) ?_
      refine WL.run hS rfl rfl rfl (ex_pick_f rfl hg_6 rfl) ?_
      refine WL.sub (m := [(0, .int .i64 n_1), (1, v_4), (7, .int .i64 n_1), (8, .bool (decide (n_1 < 0))), (9, .bool (decide (n_1 < 0))), (10, .int .i64 n_1), (11, .bool (decide (16777216 < n_1))), (12, .bool (decide ((n_1 < 0) ∨ (16777216 < n_1))))]) ⟨rfl, rfl, rfl, rfl, rfl, rfl, rfl, congrArg (fun b => some (Value.bool b)) (or_f hg_6 : decide (16777216 < n_1) = decide ((n_1 < 0) ∨ (16777216 < n_1))), trivial⟩ ?_
      exact WL.nil (At.of ⟨rfl, rfl, rfl, trivial⟩)
  · refine WQ.next ?_
    refine WC.cond rfl ?_ ?_
    · intro hc_48
      replace hV := hV.1 (of_decide_eq_true hc_48)
      refine WC.seq ?_
      refine WC.region ?_
      refine WL.run hS rfl rfl rfl (ex_assign rfl) ?_
      refine WL.nil ?_
      refine WQ.next ?_
      refine WC.sub (m := [(4, .int .i64 5)]) ⟨rfl, trivial⟩ ?_
      refine WC.ret ?_
      refine WQ.pass nofun ?_
      exact leave1 rfl rfl ⟨5, hV, rfl, (by unfold I64; omega), hS⟩
    · intro hc_48
      replace hV := hV.2 (of_decide_eq_false hc_48)
      refine WC.skip ?_
      refine WQ.next ?_
      refine WC.sub (m := [(0, .int .i64 n_1), (1, v_4)]) ⟨rfl, rfl, trivial⟩ ?_
      refine WC.seq ?_
      refine WC.seq ?_
      refine WC.region ?_
      refine WL.run hS rfl rfl rfl (ex_move rfl) ?_
      have hl_7 : Len clauses_3 := h_5.bound
      replace hV := hV hl_7
      refine WL.run hS rfl rfl rfl (ex_len_sl Tryd.underlying22 rfl h_5) ?_
      refine WL.run hS rfl rfl rfl (ex_gtr rfl rfl) ?_
      refine WL.nil ?_
      refine WQ.next ?_
      refine WC.sub (m := [(0, .int .i64 n_1), (1, v_4), (15, .bool (decide (33554432 < (clauses_3.length : Int))))]) ⟨rfl, rfl, rfl, trivial⟩ ?_
      refine WC.cond rfl ?_ ?_
      · intro hc_47
        replace hV := hV.1 (of_decide_eq_true hc_47)
        refine WC.seq ?_
        refine WC.region ?_
        refine WL.run hS rfl rfl rfl (ex_assign rfl) ?_
        refine WL.nil ?_
        refine WQ.next ?_
        refine WC.sub (m := [(4, .int .i64 6)]) ⟨rfl, trivial⟩ ?_
        refine WC.ret ?_
        refine WQ.pass nofun ?_
        exact leave1 rfl rfl ⟨6, hV, rfl, (by unfold I64; omega), hS⟩
      · intro hc_47
        replace hV := hV.2 (of_decide_eq_false hc_47)
        refine WC.skip ?_
        refine WQ.next ?_
        refine WC.sub (m := [(0, .int .i64 n_1), (1, v_4)]) ⟨rfl, rfl, trivial⟩ ?_
        refine WC.seq ?_
        refine WC.seq ?_
        refine WC.region ?_
        refine WL.run hS rfl rfl rfl (ex_assign rfl) ?_
        refine WL.nil ?_
        refine WQ.next ?_
        refine WC.block ?_
        obtain ⟨I_32, mu_33, hI_46, hV⟩ := hV
        refine WC.loop (σ := Int) (fun s a w => ∃ (i_19 : Int), s = i_19 ∧ I_32 i_19 ∧ I64 i_19 ∧ St w0 H (L) w ∧ Fr 30 [(0, .int .i64 n_1), (1, v_4), (5, .int .i64 i_19)] a) mu_33 0 ?_ ?_
        · exact fun a ha => ⟨0, rfl, hI_46, (by unfold I64; omega), hS, ha.of_sub ⟨rfl, rfl, rfl, trivial⟩⟩
        · clear hS hI_46
          rintro i_19 a w ⟨_, rfl, hI, hr_20, hS, ha⟩
          refine in_frame ha ?_
          clear ha
          replace hV := hV _ hI
          clear hI
          refine WC.seq ?_
          refine WC.seq ?_
          refine WC.region ?_
          refine WL.run hS rfl rfl rfl (ex_move rfl) ?_
          refine WL.run hS rfl rfl rfl (ex_move rfl) ?_
          have hl_35 : Len clauses_3 := h_5.bound
          replace hV := hV hl_35
          refine WL.run hS rfl rfl rfl (ex_len_sl Tryd.underlying22 rfl h_5) ?_
          refine WL.run hS rfl rfl rfl (ex_lss rfl rfl) ?_
          refine WL.nil ?_
          refine WQ.next ?_
          refine WC.sub (m := [(0, .int .i64 n_1), (1, v_4), (5, .int .i64 i_19), (19, .bool (decide (i_19 < (clauses_3.length : Int))))]) ⟨rfl, rfl, rfl, rfl, trivial⟩ ?_
          refine WC.cond rfl ?_ ?_
          · intro hc_45
            replace hV := hV.1 (of_decide_eq_true hc_45)
            refine WC.skip ?_
            refine WQ.next ?_
            refine WC.sub (m := [(0, .int .i64 n_1), (1, v_4), (5, .int .i64 i_19)]) ⟨rfl, rfl, rfl, trivial⟩ ?_
            refine WC.seq ?_
            refine WC.block ?_
            refine WC.seq ?_
            refine WC.region ?_
            refine WL.run hS rfl rfl rfl (ex_move rfl) ?_
            refine WL.run hS rfl rfl rfl (ex_move rfl) ?_
            refine WL.run hS rfl rfl rfl (ex_move rfl) ?_
            obtain ⟨hin_36, hV⟩ := hV
            refine WL.runx hS rfl rfl rfl (ex_index Tryd.underlying22 Tryd.sizeOf23 rfl rfl h_5 hin_36) ?_
            intro p_37 hp_38
            refine WL.runx hS rfl rfl rfl (ex_load Tryd.isAgg23 rfl rfl hp_38) ?_
            intro u_39 hu_40
            replace hu_40 := cSl_rep hu_40
            refine WL.call rfl rfl rfl (enters0 (vs := [.int .i64 n_1, u_39]) Tryd.call15 ⟨rfl, rfl, trivial⟩) (S_refLiterals  hr_2 hu_40 hS hV) ?_
            clear hV hS
            rintro _ w ⟨r_41, hV, rfl, hS⟩
            refine ⟨_, rfl, ?_⟩
            refine WL.run hS rfl rfl rfl (ex_assign rfl) ?_
            refine WL.nil ?_
            refine WQ.next ?_
            refine WC.sub (m := [(0, .int .i64 n_1), (1, v_4), (5, .int .i64 i_19), (6, .bool r_41)]) ⟨rfl, rfl, rfl, rfl, trivial⟩ ?_
            refine WC.seq ?_
            refine WC.region ?_
            refine WL.run hS rfl rfl rfl (ex_move rfl) ?_
            refine WL.run hS rfl rfl rfl (ex_not rfl) ?_
            refine WL.nil ?_
            refine WQ.next ?_
            refine WC.sub (m := [(0, .int .i64 n_1), (1, v_4), (5, .int .i64 i_19), (29, .bool (!r_41))]) ⟨rfl, rfl, rfl, rfl, trivial⟩ ?_
            refine WC.cond rfl ?_ ?_
            · intro hc_44
              replace hV := hV.1 hc_44
              refine WC.seq ?_
              refine WC.region ?_
              refine WL.run hS rfl rfl rfl (ex_assign rfl) ?_
              refine WL.nil ?_
              refine WQ.next ?_
              refine WC.sub (m := [(4, .int .i64 5)]) ⟨rfl, trivial⟩ ?_
              refine WC.ret ?_
              refine WQ.out nofun ?_
              refine WQ.pass nofun ?_
              refine WQ.pass nofun ?_
              refine WQ.out nofun ?_
              refine WQ.pass nofun ?_
              exact leave1 rfl rfl ⟨5, hV, rfl, (by unfold I64; omega), hS⟩
            · intro hc_44
              replace hV := hV.2 hc_44
              refine WC.skip ?_
              refine WQ.out nofun ?_
              refine WQ.next ?_
              refine WC.sub (m := [(0, .int .i64 n_1), (1, v_4), (5, .int .i64 i_19)]) ⟨rfl, rfl, rfl, trivial⟩ ?_
              refine WC.region ?_
              refine WL.run hS rfl rfl rfl (ex_move rfl) ?_
              obtain ⟨hi_43, hV⟩ := hV
              refine WL.run hS rfl rfl rfl (ex_add rfl rfl hi_43) ?_
              refine WL.run hS rfl rfl rfl (ex_assign rfl) ?_
              refine WL.nil ?_
              exact WQ.there fun a ha => ⟨(i_19 + 1), ⟨(i_19 + 1), rfl, hV.1, hi_43, hS, ha.of_sub ⟨rfl, rfl, rfl, trivial⟩⟩, hV.2⟩
          · intro hc_45
            replace hV := hV.2 (of_decide_eq_false hc_45)
            refine WC.exit ?_
            refine WQ.pass nofun ?_
            refine WQ.pass nofun ?_
            refine WQ.hit ?_
            refine WQ.next ?_
            refine WC.sub (m := []) trivial ?_
            refine WC.seq ?_
            refine WC.region ?_
            refine WL.run hS rfl rfl rfl (ex_assign rfl) ?_
            refine WL.nil ?_
            refine WQ.next ?_
            refine WC.ret ?_
            exact leave1 rfl rfl ⟨0, hV, rfl, (by unfold I64; omega), hS⟩

theorem S_refSet {w0 : World} {H : View} {L : Seg} {w : World} {v_2 : Value} {val_1 : List Int} {fp_4 : Seg} {l_6 : Int} {Q : Bool → (List Int) → Prop} (h_3 : OwnSl H (cInt .i64) 3 v_2 val_1 fp_4) (hr_7 : I64 l_6) (hS : St w0 H (fp_4 ++ L) w) (hV : V_refSet val_1 l_6 Q) :
    Calls Tryd.prog 18 #[v_2, .int .i64 l_6] w fun e w' => ∃ (r1 : Bool) (r2 : List Int) (fp2 : Seg), Q r1 r2 ∧ e = .returned (.bool r1) ∧ OwnSl H (cInt .i64) 3 v_2 r2 fp2 ∧ St w0 H (fp2 ++ L) w' := by
  unfold V_refSet at hV
  refine enter Tryd.func18 rfl Tryd.ntmps18 rfl (lk_args_cons (d := 0) (v := v_2) rfl (lk_args_cons (d := 1) (v := .int .i64 l_6) rfl (lk_args_nil _))) ?_
  refine WC.seq ?_
  refine WC.region ?_
  refine WL.run hS rfl rfl rfl (ex_assign rfl) ?_
  refine WL.nil ?_
  refine WQ.next ?_
  refine WC.sub (m := [(0, v_2), (1, .int .i64 l_6)]) ⟨rfl, rfl, trivial⟩ ?_
  refine WC.seq ?_
  refine WC.region ?_
  refine WL.run hS rfl rfl rfl (ex_assign rfl) ?_
  refine WL.nil ?_
  refine WQ.next ?_
  obtain ⟨J_11, hJ_12, hV⟩ := hV
  refine WC.meet (fun a w => ∃ (v_9 : Int), J_11 v_9 ∧ I64 v_9 ∧ St w0 H (fp_4 ++ L) w ∧ Fr 22 [(0, v_2), (1, .int .i64 l_6), (5, .int .i64 v_9)] a) ?_ ?_
  · rintro a w ⟨v_9, hI, hr_10, hS, ha⟩
    refine in_frame ha ?_
    clear ha hV
    have hV := hJ_12 _ hI
    clear hI hJ_12
    refine WC.seq ?_
    refine WC.region ?_
    refine WL.run hS rfl rfl rfl (ex_move rfl) ?_
    refine WL.call rfl rfl rfl (enters0 (vs := [.int .i64 l_6]) Tryd.call26 ⟨rfl, trivial⟩) (S_size  hr_7 hS hV) ?_
    clear hV hS
    rintro _ w ⟨r_14, hV, rfl, hr_15, hS⟩
    refine ⟨_, rfl, ?_⟩
    refine WL.run hS rfl rfl rfl (ex_assign rfl) ?_
    refine WL.nil ?_
    refine WQ.next ?_
    refine WC.sub (m := [(0, v_2), (5, .int .i64 v_9), (6, .int .i64 r_14)]) ⟨rfl, rfl, rfl, trivial⟩ ?_
    refine WC.seq ?_
    refine WC.seq ?_
    refine WC.region ?_
    refine WL.run hS rfl rfl rfl (ex_move rfl) ?_
    refine WL.run hS rfl rfl rfl (ex_move rfl) ?_
    obtain ⟨hin_17, hV⟩ := hV
    refine WL.runx hS rfl rfl rfl (ex_index_own Tryd.underlying23 Tryd.sizeOf3 rfl rfl h_3 hin_17) ?_
    intro p_18 hp_19
    refine WL.runx hS rfl rfl rfl (ex_load_own (w := w) hS Tryd.isAgg3 rfl rfl h_3 hp_19 hin_17) ?_
    intro u_20 hu_21
    obtain ⟨rfl, hr_22⟩ := cInt_rep hu_21
    replace hr_22 := has_I64 hr_22
    replace hV := hV hr_22
    refine WL.run hS rfl rfl rfl (ex_move rfl) ?_
    obtain ⟨hi_23, hV⟩ := hV
    refine WL.run hS rfl rfl rfl (ex_neg rfl hi_23) ?_
    refine WL.run hS rfl rfl rfl (ex_eql rfl rfl) ?_
    refine WL.nil ?_
    refine WQ.next ?_
    refine WC.sub (m := [(0, v_2), (5, .int .i64 v_9), (6, .int .i64 r_14), (17, .bool (decide ((ix val_1 r_14) = (-v_9))))]) ⟨rfl, rfl, rfl, rfl, trivial⟩ ?_
    refine WC.cond rfl ?_ ?_
    · intro hc_29
      replace hV := hV.1 (of_decide_eq_true hc_29)
      refine WC.seq ?_
      refine WC.region ?_
      refine WL.run hS rfl rfl rfl (ex_assign rfl) ?_
      refine WL.nil ?_
      refine WQ.next ?_
      refine WC.sub (m := [(4, .bool false)]) ⟨rfl, trivial⟩ ?_
      refine WC.ret ?_
      refine WQ.pass nofun ?_
      exact leave1 rfl rfl ⟨false, val_1, fp_4, hV, rfl, h_3, hS⟩
    · intro hc_29
      replace hV := hV.2 (of_decide_eq_false hc_29)
      refine WC.skip ?_
      refine WQ.next ?_
      refine WC.sub (m := [(0, v_2), (5, .int .i64 v_9), (6, .int .i64 r_14)]) ⟨rfl, rfl, rfl, trivial⟩ ?_
      refine WC.seq ?_
      refine WC.region ?_
      refine WL.run hS rfl rfl rfl (ex_move rfl) ?_
      refine WL.run hS rfl rfl rfl (ex_move rfl) ?_
      refine WL.run hS rfl rfl rfl (ex_move rfl) ?_
      obtain ⟨hin_24, hV⟩ := hV
      refine WL.runx hS rfl rfl rfl (ex_index_own Tryd.underlying23 Tryd.sizeOf3 rfl rfl h_3 hin_24) ?_
      intro p_25 hp_26
      refine WL.store_own Tryd.sizeOf3 rfl rfl rfl (cInt_mk (I64.has hr_10)) hS h_3 hp_26 hin_24 ?_
      clear hS
      intro w fp_28 h_27 hS
      refine WL.nil ?_
      refine WQ.next ?_
      refine WC.sub (m := []) trivial ?_
      refine WC.seq ?_
      refine WC.region ?_
      refine WL.run hS rfl rfl rfl (ex_assign rfl) ?_
      refine WL.nil ?_
      refine WQ.next ?_
      refine WC.ret ?_
      exact leave1 rfl rfl ⟨true, (val_1.set r_14.toNat v_9), fp_28, hV, rfl, h_27, hS⟩
  · clear hJ_12
    refine WC.seq ?_
    refine WC.region ?_
    refine WL.run hS rfl rfl rfl (ex_move rfl) ?_
    refine WL.run hS rfl rfl rfl (ex_lss rfl rfl) ?_
    refine WL.nil ?_
    refine WQ.next ?_
    refine WC.sub (m := [(0, v_2), (1, .int .i64 l_6), (5, .int .i64 1), (8, .bool (decide (l_6 < 0)))]) ⟨rfl, rfl, rfl, rfl, trivial⟩ ?_
    refine WC.cond rfl ?_ ?_
    · intro hc_13
      replace hV := hV.1 (of_decide_eq_true hc_13)
      refine WC.region ?_
      refine WL.run hS rfl rfl rfl (ex_assign rfl) ?_
      refine WL.nil ?_
      exact WQ.there fun a ha => ⟨(-1), hV, (by unfold I64; omega), hS, ha.of_sub ⟨rfl, rfl, rfl, trivial⟩⟩
    · intro hc_13
      replace hV := hV.2 (of_decide_eq_false hc_13)
      refine WC.skip ?_
      exact WQ.there fun a ha => ⟨1, hV, (by unfold I64; omega), hS, ha.of_sub ⟨rfl, rfl, rfl, trivial⟩⟩

theorem S_refUnit {w0 : World} {H : View} {L : Seg} {w : World} {v_2 : Value} {val_1 : List Int} {v_5 : Value} {c_4 : List Int} {Q : Int → Int → Prop} (h_3 : IsSl H (cInt .i64) v_2 val_1) (h_6 : IsSl H (cInt .i64) v_5 c_4) (hS : St w0 H (L) w) (hV : V_refUnit val_1 c_4 Q) :
    Calls Tryd.prog 19 #[v_2, v_5] w fun e w' => ∃ (r1 : Int) (r2 : Int), Q r1 r2 ∧ e = .returned (.tuple #[.int .i64 r1, .int .i64 r2]) ∧ I64 r1 ∧ I64 r2 ∧ St w0 H (L) w' := by
  unfold V_refUnit at hV
  refine enter Tryd.func19 rfl Tryd.ntmps19 rfl (lk_args_cons (d := 0) (v := v_2) rfl (lk_args_cons (d := 1) (v := v_5) rfl (lk_args_nil _))) ?_
  refine WC.seq ?_
  refine WC.region ?_
  refine WL.run hS rfl rfl rfl (ex_assign rfl) ?_
  refine WL.run hS rfl rfl rfl (ex_assign rfl) ?_
  refine WL.nil ?_
  refine WQ.next ?_
  refine WC.sub (m := [(0, v_2), (1, v_5)]) ⟨rfl, rfl, trivial⟩ ?_
  refine WC.seq ?_
  refine WC.region ?_
  refine WL.run hS rfl rfl rfl (ex_assign rfl) ?_
  refine WL.nil ?_
  refine WQ.next ?_
  refine WC.seq ?_
  refine WC.seq ?_
  refine WC.region ?_
  refine WL.run hS rfl rfl rfl (ex_assign rfl) ?_
  refine WL.nil ?_
  refine WQ.next ?_
  refine WC.block ?_
  obtain ⟨I_277, mu_278, hI_414, hV⟩ := hV
  refine WC.loop (σ := Int × Int) (fun s a w => ∃ (xopen_140 : Int) (i_142 : Int), s = (xopen_140, i_142) ∧ I_277 (xopen_140, i_142) ∧ I64 xopen_140 ∧ I64 i_142 ∧ St w0 H (L) w ∧ Fr 57 [(0, v_2), (1, v_5), (6, .int .i64 xopen_140), (7, .int .i64 i_142)] a) mu_278 (0, 0) ?_ ?_
  · exact fun a ha => ⟨0, 0, rfl, hI_414, (by unfold I64; omega), (by unfold I64; omega), hS, ha.of_sub ⟨rfl, rfl, rfl, rfl, trivial⟩⟩
  · clear hS hI_414
    rintro _ a w ⟨xopen_140, i_142, rfl, hI, hr_141, hr_143, hS, ha⟩
    refine in_frame ha ?_
    clear ha
    replace hV := hV _ hI
    clear hI
    refine WC.seq ?_
    refine WC.seq ?_
    refine WC.region ?_
    refine WL.run hS rfl rfl rfl (ex_move rfl) ?_
    refine WL.run hS rfl rfl rfl (ex_move rfl) ?_
    have hl_280 : Len c_4 := h_6.bound
    replace hV := hV hl_280
    refine WL.run hS rfl rfl rfl (ex_len_sl Tryd.underlying23 rfl h_6) ?_
    refine WL.run hS rfl rfl rfl (ex_lss rfl rfl) ?_
    refine WL.nil ?_
    refine WQ.next ?_
    refine WC.sub (m := [(0, v_2), (1, v_5), (6, .int .i64 xopen_140), (7, .int .i64 i_142), (13, .bool (decide (i_142 < (c_4.length : Int))))]) ⟨rfl, rfl, rfl, rfl, rfl, trivial⟩ ?_
    refine WC.cond rfl ?_ ?_
    · intro hc_413
      replace hV := hV.1 (of_decide_eq_true hc_413)
      refine WC.skip ?_
      refine WQ.next ?_
      refine WC.sub (m := [(0, v_2), (1, v_5), (6, .int .i64 xopen_140), (7, .int .i64 i_142)]) ⟨rfl, rfl, rfl, rfl, trivial⟩ ?_
      obtain ⟨J_346, hJ_347, hV⟩ := hV
      refine WC.meet (fun a w => ∃ (xopen_344 : Int), J_346 xopen_344 ∧ I64 xopen_344 ∧ St w0 H (L) w ∧ Fr 57 [(0, v_2), (1, v_5), (6, .int .i64 xopen_344), (7, .int .i64 i_142)] a) ?_ ?_
      · rintro a w ⟨xopen_344, hI, hr_345, hS, ha⟩
        refine in_frame ha ?_
        clear ha hV
        have hV := hJ_347 _ hI
        clear hI hJ_347
        refine WC.region ?_
        refine WL.run hS rfl rfl rfl (ex_move rfl) ?_
        obtain ⟨hi_411, hV⟩ := hV
        refine WL.run hS rfl rfl rfl (ex_add rfl rfl hi_411) ?_
        refine WL.run hS rfl rfl rfl (ex_assign rfl) ?_
        refine WL.nil ?_
        exact WQ.there fun a ha => ⟨(xopen_344, (i_142 + 1)), ⟨xopen_344, (i_142 + 1), rfl, hV.1, hr_345, hi_411, hS, ha.of_sub ⟨rfl, rfl, rfl, rfl, trivial⟩⟩, hV.2⟩
      · clear hJ_347
        refine WC.block ?_
        refine WC.seq ?_
        refine WC.region ?_
        refine WL.run hS rfl rfl rfl (ex_move rfl) ?_
        refine WL.run hS rfl rfl rfl (ex_move rfl) ?_
        obtain ⟨hin_348, hV⟩ := hV
        refine WL.runx hS rfl rfl rfl (ex_index Tryd.underlying23 Tryd.sizeOf3 rfl rfl h_6 hin_348) ?_
        intro p_349 hp_350
        refine WL.runx hS rfl rfl rfl (ex_load Tryd.isAgg3 rfl rfl hp_350) ?_
        intro u_351 hu_352
        obtain ⟨rfl, hr_353⟩ := cInt_rep hu_352
        replace hr_353 := has_I64 hr_353
        replace hV := hV hr_353
        refine WL.call rfl rfl rfl (enters0 (vs := [.int .i64 (ix c_4 i_142)]) Tryd.call26 ⟨rfl, trivial⟩) (S_size  hr_353 hS hV) ?_
        clear hV hS
        rintro _ w ⟨r_354, hV, rfl, hr_355, hS⟩
        refine ⟨_, rfl, ?_⟩
        refine WL.run hS rfl rfl rfl (ex_assign rfl) ?_
        refine WL.nil ?_
        refine WQ.next ?_
        refine WC.sub (m := [(0, v_2), (1, v_5), (6, .int .i64 xopen_140), (7, .int .i64 i_142), (8, .int .i64 r_354)]) ⟨rfl, rfl, rfl, rfl, rfl, trivial⟩ ?_
        refine WC.seq ?_
        refine WC.region ?_
        refine WL.run hS rfl rfl rfl (ex_move rfl) ?_
        refine WL.run hS rfl rfl rfl (ex_move rfl) ?_
        obtain ⟨hin_357, hV⟩ := hV
        refine WL.runx hS rfl rfl rfl (ex_index Tryd.underlying23 Tryd.sizeOf3 rfl rfl h_3 hin_357) ?_
        intro p_358 hp_359
        refine WL.runx hS rfl rfl rfl (ex_load Tryd.isAgg3 rfl rfl hp_359) ?_
        intro u_360 hu_361
        obtain ⟨rfl, hr_362⟩ := cInt_rep hu_361
        replace hr_362 := has_I64 hr_362
        replace hV := hV hr_362
        refine WL.run hS rfl rfl rfl (ex_assign rfl) ?_
        refine WL.nil ?_
        refine WQ.next ?_
        refine WC.sub (m := [(0, v_2), (1, v_5), (6, .int .i64 xopen_140), (7, .int .i64 i_142), (9, .int .i64 (ix val_1 r_354))]) ⟨rfl, rfl, rfl, rfl, rfl, trivial⟩ ?_
        obtain ⟨J_373, hJ_374, hV⟩ := hV
        refine WC.meet (fun a w => ∃ (v_371 : Int), J_373 v_371 ∧ I64 v_371 ∧ St w0 H (L) w ∧ Fr 57 [(0, v_2), (1, v_5), (6, .int .i64 xopen_140), (7, .int .i64 i_142), (9, .int .i64 v_371)] a) ?_ ?_
        · rintro a w ⟨v_371, hI, hr_372, hS, ha⟩
          refine in_frame ha ?_
          clear ha hV
          have hV := hJ_374 _ hI
          clear hI hJ_374
          refine WC.seq ?_
          refine WC.seq ?_
          refine WC.region ?_
          refine WL.run hS rfl rfl rfl (ex_move rfl) ?_
          refine WL.run hS rfl rfl rfl (ex_gtr rfl rfl) ?_
          refine WL.nil ?_
          refine WQ.next ?_
          refine WC.sub (m := [(0, v_2), (1, v_5), (6, .int .i64 xopen_140), (7, .int .i64 i_142), (9, .int .i64 v_371), (33, .bool (decide (0 < v_371)))]) ⟨rfl, rfl, rfl, rfl, rfl, rfl, trivial⟩ ?_
          refine WC.cond rfl ?_ ?_
          · intro hc_410
            replace hV := hV.1 (of_decide_eq_true hc_410)
            refine WC.seq ?_
            refine WC.region ?_
            refine WL.run hS rfl rfl rfl (ex_assign rfl) ?_
            refine WL.run hS rfl rfl rfl (ex_assign rfl) ?_
            refine WL.nil ?_
            refine WQ.next ?_
            refine WC.sub (m := [(4, .int .i64 0), (5, .int .i64 2)]) ⟨rfl, rfl, trivial⟩ ?_
            refine WC.ret ?_
            refine WQ.pass nofun ?_
            refine WQ.out nofun ?_
            refine WQ.pass nofun ?_
            refine WQ.pass nofun ?_
            refine WQ.out nofun ?_
            refine WQ.pass nofun ?_
            exact leave2 rfl rfl rfl ⟨0, 2, hV, rfl, (by unfold I64; omega), (by unfold I64; omega), hS⟩
          · intro hc_410
            replace hV := hV.2 (of_decide_eq_false hc_410)
            refine WC.skip ?_
            refine WQ.next ?_
            refine WC.sub (m := [(0, v_2), (1, v_5), (6, .int .i64 xopen_140), (7, .int .i64 i_142), (9, .int .i64 v_371)]) ⟨rfl, rfl, rfl, rfl, rfl, trivial⟩ ?_
            refine WC.seq ?_
            obtain ⟨J_392, hJ_393, hV⟩ := hV
            refine WC.meet (fun a w => ∃ (x_391 : Bool), J_392 x_391 ∧ St w0 H (L) w ∧ Fr 57 [(0, v_2), (1, v_5), (6, .int .i64 xopen_140), (7, .int .i64 i_142), (9, .int .i64 v_371), (47, .bool x_391)] a) ?_ ?_
            · rintro a w ⟨x_391, hI, hS, ha⟩
              refine in_frame ha ?_
              clear ha hV
              have hV := hJ_393 _ hI
              clear hI hJ_393
              refine WC.cond rfl ?_ ?_
              · intro hc_409
                replace hV := hV.1 hc_409
                refine WC.seq ?_
                refine WC.region ?_
                refine WL.run hS rfl rfl rfl (ex_assign rfl) ?_
                refine WL.run hS rfl rfl rfl (ex_assign rfl) ?_
                refine WL.nil ?_
                refine WQ.next ?_
                refine WC.sub (m := [(4, .int .i64 0), (5, .int .i64 2)]) ⟨rfl, rfl, trivial⟩ ?_
                refine WC.ret ?_
                refine WQ.pass nofun ?_
                refine WQ.out nofun ?_
                refine WQ.pass nofun ?_
                refine WQ.pass nofun ?_
                refine WQ.out nofun ?_
                refine WQ.pass nofun ?_
                exact leave2 rfl rfl rfl ⟨0, 2, hV, rfl, (by unfold I64; omega), (by unfold I64; omega), hS⟩
              · intro hc_409
                replace hV := hV.2 hc_409
                refine WC.skip ?_
                refine WQ.next ?_
                refine WC.sub (m := [(0, v_2), (1, v_5), (6, .int .i64 xopen_140), (7, .int .i64 i_142), (9, .int .i64 v_371)]) ⟨rfl, rfl, rfl, rfl, rfl, trivial⟩ ?_
                refine WC.seq ?_
                refine WC.region ?_
                refine WL.run hS rfl rfl rfl (ex_move rfl) ?_
                refine WL.run hS rfl rfl rfl (ex_eql rfl rfl) ?_
                refine WL.nil ?_
                refine WQ.next ?_
                refine WC.sub (m := [(0, v_2), (1, v_5), (6, .int .i64 xopen_140), (7, .int .i64 i_142), (49, .bool (decide (v_371 = 0)))]) ⟨rfl, rfl, rfl, rfl, rfl, trivial⟩ ?_
                refine WC.cond rfl ?_ ?_
                · intro hc_408
                  replace hV := hV.1 (of_decide_eq_true hc_408)
                  refine WC.region ?_
                  refine WL.run hS rfl rfl rfl (ex_move rfl) ?_
                  refine WL.run hS rfl rfl rfl (ex_move rfl) ?_
                  obtain ⟨hin_402, hV⟩ := hV
                  refine WL.runx hS rfl rfl rfl (ex_index Tryd.underlying23 Tryd.sizeOf3 rfl rfl h_6 hin_402) ?_
                  intro p_403 hp_404
                  refine WL.runx hS rfl rfl rfl (ex_load Tryd.isAgg3 rfl rfl hp_404) ?_
                  intro u_405 hu_406
                  obtain ⟨rfl, hr_407⟩ := cInt_rep hu_406
                  replace hr_407 := has_I64 hr_407
                  replace hV := hV hr_407
                  refine WL.run hS rfl rfl rfl (ex_assign rfl) ?_
                  refine WL.nil ?_
                  refine WQ.out nofun ?_
                  exact WQ.there fun a ha => ⟨(ix c_4 i_142), hV, hr_407, hS, ha.of_sub ⟨rfl, rfl, rfl, rfl, trivial⟩⟩
                · intro hc_408
                  replace hV := hV.2 (of_decide_eq_false hc_408)
                  refine WC.skip ?_
                  refine WQ.out nofun ?_
                  exact WQ.there fun a ha => ⟨xopen_140, hV, hr_141, hS, ha.of_sub ⟨rfl, rfl, rfl, rfl, trivial⟩⟩
            · clear hJ_393
              refine WC.region ?_
              refine WL.run hS rfl rfl rfl (ex_move rfl) ?_
              refine WL.run hS rfl rfl rfl (ex_eql rfl rfl) ?_
              refine WL.run hS rfl rfl rfl (ex_move rfl) ?_
              rcases Bool.eq_false_or_eq_true (decide (v_371 = 0)) with hg_394 | hg_394
              · replace hV := hV.1 (of_decide_eq_true hg_394)
                refine WL.unguard rfl rfl hg_394 ?_
                refine WL.run hS rfl rfl rfl (ex_move rfl) ?_
                refine WL.unguard rfl rfl hg_394 ?_
                refine WL.run hS rfl rfl rfl (ex_neq rfl rfl) ?_
                refine WL.run hS rfl rfl rfl (ex_pick_t rfl hg_394 rfl) ?_
                refine WL.run hS rfl rfl rfl (ex_move rfl) ?_
                rcases Bool.eq_false_or_eq_true (decide (xopen_140 ≠ 0)) with hg_395 | hg_395
                · replace hV := hV.1 (of_decide_eq_true hg_395)
                  refine WL.unguard rfl rfl hg_395 ?_
                  refine WL.run hS rfl rfl rfl (ex_move rfl) ?_
                  refine WL.unguard rfl rfl hg_395 ?_
                  refine WL.run hS rfl rfl rfl (ex_move rfl) ?_
                  refine WL.unguard rfl rfl hg_395 ?_
                  obtain ⟨hin_396, hV⟩ := hV
                  refine WL.runx hS rfl rfl rfl (ex_index Tryd.underlying23 Tryd.sizeOf3 rfl rfl h_6 hin_396) ?_
                  intro p_397 hp_398
                  refine WL.unguard rfl rfl hg_395 ?_
                  refine WL.runx hS rfl rfl rfl (ex_load Tryd.isAgg3 rfl rfl hp_398) ?_
                  intro u_399 hu_400
                  obtain ⟨rfl, hr_401⟩ := cInt_rep hu_400
                  replace hr_401 := has_I64 hr_401
                  replace hV := hV hr_401
                  refine WL.unguard rfl rfl hg_395 ?_
                  refine WL.run hS rfl rfl rfl (ex_move rfl) ?_
                  refine WL.unguard rfl rfl hg_395 ?_
                  refine WL.run hS rfl rfl rfl (ex_neq rfl rfl) ?_
                  refine WL.run hS rfl rfl rfl (ex_pick_t rfl hg_395 rfl) ?_
                  refine WL.nil ?_
                  exact WQ.there fun a ha => ⟨decide ((ix c_4 i_142) ≠ xopen_140), hV, hS, ha.of_sub ⟨rfl, rfl, rfl, rfl, rfl, rfl, trivial⟩⟩
                · replace hV := hV.2 (of_decide_eq_false hg_395)
                  refine WL.skip_g rfl rfl rfl hg_395 rfl rfl ?_
                  refine WL.skip_g rfl rfl rfl hg_395 rfl rfl ?_
                  refine WL.skip_g rfl rfl rfl hg_395 rfl rfl ?_
                  refine WL.skip_g rfl rfl rfl hg_395 rfl rfl ?_
                  refine WL.skip_g rfl rfl rfl hg_395 rfl rfl ?_
                  refine WL.skip_g rfl rfl rfl hg_395 rfl rfl ?_
                  refine WL.run hS rfl rfl rfl (ex_pick_f rfl hg_395 rfl) ?_
                  refine WL.nil ?_
                  exact WQ.there fun a ha => ⟨false, hV, hS, ha.of_sub ⟨rfl, rfl, rfl, rfl, rfl, rfl, trivial⟩⟩
              · replace hV := hV.2 (of_decide_eq_false hg_394)
                refine WL.skip_g rfl rfl rfl hg_394 rfl rfl ?_
                refine WL.skip_g rfl rfl rfl hg_394 rfl rfl ?_
                refine WL.run hS rfl rfl rfl (ex_pick_f rfl hg_394 rfl) ?_
                refine WL.run hS rfl rfl rfl (ex_move rfl) ?_
                refine WL.skip_g rfl rfl rfl rfl rfl rfl ?_
                refine WL.skip_g rfl rfl rfl rfl rfl rfl ?_
                refine WL.skip_g rfl rfl rfl rfl rfl rfl ?_
                refine WL.skip_g rfl rfl rfl rfl rfl rfl ?_
                refine WL.skip_g rfl rfl rfl rfl rfl rfl ?_
                refine WL.skip_g rfl rfl rfl rfl rfl rfl ?_
                refine WL.run hS rfl rfl rfl (ex_pick_f rfl rfl rfl) ?_
                refine WL.nil ?_
                exact WQ.there fun a ha => ⟨false, hV, hS, ha.of_sub ⟨rfl, rfl, rfl, rfl, rfl, rfl, trivial⟩⟩
        · clear hJ_374
          refine WC.seq ?_
          refine WC.region ?_
          refine WL.run hS rfl rfl rfl (ex_move rfl) ?_
          refine WL.run hS rfl rfl rfl (ex_move rfl) ?_
          obtain ⟨hin_375, hV⟩ := hV
          refine WL.runx hS rfl rfl rfl (ex_index Tryd.underlying23 Tryd.sizeOf3 rfl rfl h_6 hin_375) ?_
          intro p_376 hp_377
          refine WL.runx hS rfl rfl rfl (ex_load Tryd.isAgg3 rfl rfl hp_377) ?_
          intro u_378 hu_379
          obtain ⟨rfl, hr_380⟩ := cInt_rep hu_379
          replace hr_380 := has_I64 hr_380
          replace hV := hV hr_380
          refine WL.run hS rfl rfl rfl (ex_lss rfl rfl) ?_
          refine WL.nil ?_
          refine WQ.next ?_
          refine WC.sub (m := [(0, v_2), (1, v_5), (6, .int .i64 xopen_140), (7, .int .i64 i_142), (9, .int .i64 (ix val_1 r_354)), (29, .bool (decide ((ix c_4 i_142) < 0)))]) ⟨rfl, rfl, rfl, rfl, rfl, rfl, trivial⟩ ?_
          refine WC.cond rfl ?_ ?_
          · intro hc_382
            replace hV := hV.1 (of_decide_eq_true hc_382)
            refine WC.region ?_
            refine WL.run hS rfl rfl rfl (ex_move rfl) ?_
            obtain ⟨hi_381, hV⟩ := hV
            refine WL.run hS rfl rfl rfl (ex_neg rfl hi_381) ?_
            refine WL.run hS rfl rfl rfl (ex_assign rfl) ?_
            refine WL.nil ?_
            exact WQ.there fun a ha => ⟨(-(ix val_1 r_354)), hV, hi_381, hS, ha.of_sub ⟨rfl, rfl, rfl, rfl, rfl, trivial⟩⟩
          · intro hc_382
            replace hV := hV.2 (of_decide_eq_false hc_382)
            refine WC.skip ?_
            exact WQ.there fun a ha => ⟨(ix val_1 r_354), hV, hr_362, hS, ha.of_sub ⟨rfl, rfl, rfl, rfl, rfl, trivial⟩⟩
    · intro hc_413
      replace hV := hV.2 (of_decide_eq_false hc_413)
      refine WC.exit ?_
      refine WQ.pass nofun ?_
      refine WQ.pass nofun ?_
      refine WQ.hit ?_
      refine WQ.next ?_
      refine WC.sub (m := [(6, .int .i64 xopen_140)]) ⟨rfl, trivial⟩ ?_
      refine WC.seq ?_
      refine WC.seq ?_
      refine WC.region ?_
      refine WL.run hS rfl rfl rfl (ex_move rfl) ?_
      refine WL.run hS rfl rfl rfl (ex_eql rfl rfl) ?_
      refine WL.nil ?_
      refine WQ.next ?_
      refine WC.sub (m := [(6, .int .i64 xopen_140), (55, .bool (decide (xopen_140 = 0)))]) ⟨rfl, rfl, trivial⟩ ?_
      refine WC.cond rfl ?_ ?_
      · intro hc_412
        replace hV := hV.1 (of_decide_eq_true hc_412)
        refine WC.seq ?_
        refine WC.region ?_
        refine WL.run hS rfl rfl rfl (ex_assign rfl) ?_
        refine WL.run hS rfl rfl rfl (ex_assign rfl) ?_
        refine WL.nil ?_
        refine WQ.next ?_
        refine WC.sub (m := [(4, .int .i64 0), (5, .int .i64 0)]) ⟨rfl, rfl, trivial⟩ ?_
        refine WC.ret ?_
        refine WQ.pass nofun ?_
        exact leave2 rfl rfl rfl ⟨0, 0, hV, rfl, (by unfold I64; omega), (by unfold I64; omega), hS⟩
      · intro hc_412
        replace hV := hV.2 (of_decide_eq_false hc_412)
        refine WC.skip ?_
        refine WQ.next ?_
        refine WC.sub (m := [(6, .int .i64 xopen_140)]) ⟨rfl, trivial⟩ ?_
        refine WC.seq ?_
        refine WC.region ?_
        refine WL.run hS rfl rfl rfl (ex_move rfl) ?_
        refine WL.run hS rfl rfl rfl (ex_assign rfl) ?_
        refine WL.run hS rfl rfl rfl (ex_assign rfl) ?_
        refine WL.nil ?_
        refine WQ.next ?_
        refine WC.sub (m := [(4, .int .i64 xopen_140), (5, .int .i64 1)]) ⟨rfl, rfl, trivial⟩ ?_
        refine WC.ret ?_
        exact leave2 rfl rfl rfl ⟨xopen_140, 1, hV, rfl, hr_141, (by unfold I64; omega), hS⟩

theorem S_refFollow {w0 : World} {H : View} {L : Seg} {w : World} {n_1 : Int} {v_4 : Value} {clauses_3 : List (List Int)} {v_7 : Value} {given_6 : List Int} {Q : (List Int) → Bool → Prop} (hr_2 : I64 n_1) (h_5 : IsSl H (cSl (cInt .i64)) v_4 clauses_3) (h_8 : IsSl H (cInt .i64) v_7 given_6) (hS : St w0 H (L) w) (hV : V_refFollow n_1 clauses_3 given_6 Q) :
    Calls Tryd.prog 11 #[.int .i64 n_1, v_4, v_7] w fun e w' => ∃ (r1 : List Int) (r2 : Bool) (v1 : Value) (fp1 : Seg), Q r1 r2 ∧ e = .returned (.tuple #[v1, .bool r2]) ∧ OwnSl H (cInt .i64) 3 v1 r1 fp1 ∧ St w0 H (fp1 ++ L) w' := by
  unfold V_refFollow at hV
  refine enter Tryd.func11 rfl Tryd.ntmps11 rfl (lk_args_cons (d := 0) (v := .int .i64 n_1) rfl (lk_args_cons (d := 1) (v := v_4) rfl (lk_args_cons (d := 2) (v := v_7) rfl (lk_args_nil _)))) ?_
  refine WC.seq ?_
  refine WC.region ?_
  refine WL.run hS rfl rfl rfl (ex_assign rfl) ?_
  refine WL.run hS rfl rfl rfl (ex_assign rfl) ?_
  refine WL.nil ?_
  refine WQ.next ?_
  refine WC.sub (m := [(0, .int .i64 n_1), (1, v_4), (2, v_7)]) ⟨rfl, rfl, rfl, trivial⟩ ?_
  refine WC.seq ?_
  refine WC.region ?_
  refine WL.run hS rfl rfl rfl (ex_move rfl) ?_
  obtain ⟨hi_10, hV⟩ := hV
  refine WL.run hS rfl rfl rfl (ex_add rfl rfl hi_10) ?_
  obtain ⟨hm_15, hV⟩ := hV
  refine WL.make (c := (cInt .i64)) (z0 := 0) rfl Tryd.underlying23 Tryd.info3 rfl ⟨rfl, I64.has (by unfold I64; omega)⟩ rfl rfl hm_15.1 hm_15.2.1 hm_15.2.2 hS ?_
  clear hS
  intro v_12 w fp_13 h_14 hS
  refine WL.run hS rfl rfl rfl (ex_assign rfl) ?_
  refine WL.nil ?_
  refine WQ.next ?_
  refine WC.sub (m := [(1, v_4), (2, v_7), (8, v_12)]) ⟨rfl, rfl, rfl, trivial⟩ ?_
  refine WC.seq ?_
  refine WC.seq ?_
  refine WC.region ?_
  refine WL.run hS rfl rfl rfl (ex_assign rfl) ?_
  refine WL.nil ?_
  refine WQ.next ?_
  refine WC.block ?_
  obtain ⟨I_55, mu_56, hI_599, hV⟩ := hV
  refine WC.loop (σ := (List Int) × Int) (fun s a w => ∃ (val_33 : List Int) (i_37 : Int) (v_34 : Value) (fp_35 : Seg), s = (val_33, i_37) ∧ I_55 (val_33, i_37) ∧ OwnSl H (cInt .i64) 3 v_34 val_33 fp_35 ∧ I64 i_37 ∧ St w0 H (fp_35 ++ L) w ∧ Fr 57 [(1, v_4), (2, v_7), (8, v_34), (9, .int .i64 i_37)] a) mu_56 ((List.replicate (n_1 + 1).toNat 0), 0) ?_ ?_
  · exact fun a ha => ⟨(List.replicate (n_1 + 1).toNat 0), 0, v_12, fp_13, rfl, hI_599, h_14, (by unfold I64; omega), hS, ha.of_sub ⟨rfl, rfl, rfl, rfl, trivial⟩⟩
  · clear hS hI_599
    rintro _ a w ⟨val_33, i_37, v_34, fp_35, rfl, hI, h_36, hr_38, hS, ha⟩
    refine in_frame ha ?_
    clear ha
    replace hV := hV _ hI
    clear hI
    refine WC.seq ?_
    refine WC.seq ?_
    refine WC.region ?_
    refine WL.run hS rfl rfl rfl (ex_move rfl) ?_
    refine WL.run hS rfl rfl rfl (ex_move rfl) ?_
    have hl_58 : Len given_6 := h_8.bound
    replace hV := hV hl_58
    refine WL.run hS rfl rfl rfl (ex_len_sl Tryd.underlying23 rfl h_8) ?_
    refine WL.run hS rfl rfl rfl (ex_lss rfl rfl) ?_
    refine WL.nil ?_
    refine WQ.next ?_
    refine WC.sub (m := [(1, v_4), (2, v_7), (8, v_34), (9, .int .i64 i_37), (21, .bool (decide (i_37 < (given_6.length : Int))))]) ⟨rfl, rfl, rfl, rfl, rfl, trivial⟩ ?_
    refine WC.cond rfl ?_ ?_
    · intro hc_598
      replace hV := hV.1 (of_decide_eq_true hc_598)
      refine WC.skip ?_
      refine WQ.next ?_
      refine WC.sub (m := [(1, v_4), (2, v_7), (8, v_34), (9, .int .i64 i_37)]) ⟨rfl, rfl, rfl, rfl, trivial⟩ ?_
      refine WC.seq ?_
      refine WC.block ?_
      refine WC.seq ?_
      refine WC.region ?_
      refine WL.run hS rfl rfl rfl (ex_move rfl) ?_
      refine WL.run hS rfl rfl rfl (ex_move rfl) ?_
      refine WL.run hS rfl rfl rfl (ex_move rfl) ?_
      obtain ⟨hin_59, hV⟩ := hV
      refine WL.runx hS rfl rfl rfl (ex_index Tryd.underlying23 Tryd.sizeOf3 rfl rfl h_8 hin_59) ?_
      intro p_60 hp_61
      refine WL.runx hS rfl rfl rfl (ex_load Tryd.isAgg3 rfl rfl hp_61) ?_
      intro u_62 hu_63
      obtain ⟨rfl, hr_64⟩ := cInt_rep hu_63
      replace hr_64 := has_I64 hr_64
      replace hV := hV hr_64
      refine WL.call rfl rfl rfl (enters0 (vs := [v_34, .int .i64 (ix given_6 i_37)]) Tryd.call18 ⟨rfl, rfl, trivial⟩) (S_refSet  h_36 hr_64 hS hV) ?_
      clear hV hS
      rintro _ w ⟨r_65, c_66, fp_67, hV, rfl, h_68, hS⟩
      refine ⟨_, rfl, ?_⟩
      refine WL.run hS rfl rfl rfl (ex_assign rfl) ?_
      refine WL.nil ?_
      refine WQ.next ?_
      refine WC.sub (m := [(1, v_4), (2, v_7), (8, v_34), (9, .int .i64 i_37), (10, .bool r_65)]) ⟨rfl, rfl, rfl, rfl, rfl, trivial⟩ ?_
      refine WC.seq ?_
      refine WC.region ?_
      refine WL.run hS rfl rfl rfl (ex_move rfl) ?_
      refine WL.run hS rfl rfl rfl (ex_not rfl) ?_
      refine WL.nil ?_
      refine WQ.next ?_
      refine WC.sub (m := [(1, v_4), (2, v_7), (8, v_34), (9, .int .i64 i_37), (31, .bool (!r_65))]) ⟨rfl, rfl, rfl, rfl, rfl, trivial⟩ ?_
      refine WC.cond rfl ?_ ?_
      · intro hc_72
        replace hV := hV.1 hc_72
        refine WC.seq ?_
        refine WC.region ?_
        refine WL.run hS rfl rfl rfl (ex_assign rfl) ?_
        refine WL.run hS rfl rfl rfl (ex_assign rfl) ?_
        refine WL.nil ?_
        refine WQ.next ?_
        refine WC.sub (m := [(6, (.slice none 0 0)), (7, .bool false)]) ⟨rfl, rfl, trivial⟩ ?_
        replace hS := hS.drop
        refine WC.ret ?_
        refine WQ.out nofun ?_
        refine WQ.pass nofun ?_
        refine WQ.pass nofun ?_
        refine WQ.out nofun ?_
        refine WQ.pass nofun ?_
        replace hS := hS.nilseg
        exact leave2 rfl rfl rfl ⟨([] : List Int), false, (.slice none 0 0), ([] : Seg), hV, rfl, OwnSl.nil, hS⟩
      · intro hc_72
        replace hV := hV.2 hc_72
        refine WC.skip ?_
        refine WQ.out nofun ?_
        refine WQ.next ?_
        refine WC.sub (m := [(1, v_4), (2, v_7), (8, v_34), (9, .int .i64 i_37)]) ⟨rfl, rfl, rfl, rfl, trivial⟩ ?_
        refine WC.region ?_
        refine WL.run hS rfl rfl rfl (ex_move rfl) ?_
        obtain ⟨hi_71, hV⟩ := hV
        refine WL.run hS rfl rfl rfl (ex_add rfl rfl hi_71) ?_
        refine WL.run hS rfl rfl rfl (ex_assign rfl) ?_
        refine WL.nil ?_
        exact WQ.there fun a ha => ⟨(c_66, (i_37 + 1)), ⟨c_66, (i_37 + 1), v_34, fp_67, rfl, hV.1, h_68, hi_71, hS, ha.of_sub ⟨rfl, rfl, rfl, rfl, trivial⟩⟩, hV.2⟩
    · intro hc_598
      replace hV := hV.2 (of_decide_eq_false hc_598)
      refine WC.exit ?_
      refine WQ.pass nofun ?_
      refine WQ.pass nofun ?_
      refine WQ.hit ?_
      refine WQ.next ?_
      refine WC.sub (m := [(1, v_4), (8, v_34)]) ⟨rfl, rfl, trivial⟩ ?_
      refine WC.block ?_
      obtain ⟨I_422, mu_423, hI_597, hV⟩ := hV
      refine WC.loop (σ := (List Int)) (fun s a w => ∃ (val_246 : List Int) (v_247 : Value) (fp_248 : Seg), s = val_246 ∧ I_422 val_246 ∧ OwnSl H (cInt .i64) 3 v_247 val_246 fp_248 ∧ St w0 H (fp_248 ++ L) w ∧ Fr 57 [(1, v_4), (8, v_247)] a) mu_423 val_33 ?_ ?_
      · exact fun a ha => ⟨val_33, v_34, fp_35, rfl, hI_597, h_36, hS, ha.of_sub ⟨rfl, rfl, trivial⟩⟩
      · clear hS hI_597
        rintro val_246 a w ⟨_, v_247, fp_248, rfl, hI, h_249, hS, ha⟩
        refine in_frame ha ?_
        clear ha
        replace hV := hV _ hI
        clear hI
        refine WC.block ?_
        refine WC.seq ?_
        refine WC.region ?_
        refine WL.run hS rfl rfl rfl (ex_assign rfl) ?_
        refine WL.nil ?_
        refine WQ.next ?_
        refine WC.seq ?_
        refine WC.seq ?_
        refine WC.region ?_
        refine WL.run hS rfl rfl rfl (ex_assign rfl) ?_
        refine WL.nil ?_
        refine WQ.next ?_
        refine WC.block ?_
        obtain ⟨I_539, mu_540, hI_596, hV⟩ := hV
        refine WC.loop (σ := (List Int) × Bool × Int) (fun s a w => ∃ (val_479 : List Int) (more_483 : Bool) (i_484 : Int) (v_480 : Value) (fp_481 : Seg), s = (val_479, more_483, i_484) ∧ I_539 (val_479, more_483, i_484) ∧ OwnSl H (cInt .i64) 3 v_480 val_479 fp_481 ∧ I64 i_484 ∧ St w0 H (fp_481 ++ L) w ∧ Fr 57 [(1, v_4), (8, v_480), (11, .bool more_483), (12, .int .i64 i_484)] a) mu_540 (val_246, false, 0) ?_ ?_
        · exact fun a ha => ⟨val_246, false, 0, v_247, fp_248, rfl, hI_596, h_249, (by unfold I64; omega), hS, ha.of_sub ⟨rfl, rfl, rfl, rfl, trivial⟩⟩
        · clear hS hI_596
          rintro _ a w ⟨val_479, more_483, i_484, v_480, fp_481, rfl, hI, h_482, hr_485, hS, ha⟩
          refine in_frame ha ?_
          clear ha
          replace hV := hV _ hI
          clear hI
          refine WC.seq ?_
          refine WC.seq ?_
          refine WC.region ?_
          refine WL.run hS rfl rfl rfl (ex_move rfl) ?_
          refine WL.run hS rfl rfl rfl (ex_move rfl) ?_
          have hl_542 : Len clauses_3 := h_5.bound
          replace hV := hV hl_542
          refine WL.run hS rfl rfl rfl (ex_len_sl Tryd.underlying22 rfl h_5) ?_
          refine WL.run hS rfl rfl rfl (ex_lss rfl rfl) ?_
          refine WL.nil ?_
          refine WQ.next ?_
          refine WC.sub (m := [(1, v_4), (8, v_480), (11, .bool more_483), (12, .int .i64 i_484), (35, .bool (decide (i_484 < (clauses_3.length : Int))))]) ⟨rfl, rfl, rfl, rfl, rfl, trivial⟩ ?_
          refine WC.cond rfl ?_ ?_
          · intro hc_595
            replace hV := hV.1 (of_decide_eq_true hc_595)
            refine WC.skip ?_
            refine WQ.next ?_
            refine WC.sub (m := [(1, v_4), (8, v_480), (11, .bool more_483), (12, .int .i64 i_484)]) ⟨rfl, rfl, rfl, rfl, trivial⟩ ?_
            obtain ⟨J_570, hJ_571, hV⟩ := hV
            refine WC.meet (fun a w => ∃ (val_565 : List Int) (more_569 : Bool) (v_566 : Value) (fp_567 : Seg), J_570 (val_565, more_569) ∧ OwnSl H (cInt .i64) 3 v_566 val_565 fp_567 ∧ St w0 H (fp_567 ++ L) w ∧ Fr 57 [(1, v_4), (8, v_566), (11, .bool more_569), (12, .int .i64 i_484)] a) ?_ ?_
            · rintro a w ⟨val_565, more_569, v_566, fp_567, hI, h_568, hS, ha⟩
              refine in_frame ha ?_
              clear ha hV
              have hV := hJ_571 _ hI
              clear hI hJ_571
              refine WC.region ?_
              refine WL.run hS rfl rfl rfl (ex_move rfl) ?_
              obtain ⟨hi_593, hV⟩ := hV
              refine WL.run hS rfl rfl rfl (ex_add rfl rfl hi_593) ?_
              refine WL.run hS rfl rfl rfl (ex_assign rfl) ?_
              refine WL.nil ?_
              exact WQ.there fun a ha => ⟨(val_565, more_569, (i_484 + 1)), ⟨val_565, more_569, (i_484 + 1), v_566, fp_567, rfl, hV.1, h_568, hi_593, hS, ha.of_sub ⟨rfl, rfl, rfl, rfl, trivial⟩⟩, hV.2⟩
            · clear hJ_571
              refine WC.block ?_
              refine WC.seq ?_
              refine WC.region ?_
              refine WL.run hS rfl rfl rfl (ex_move rfl) ?_
              refine WL.run hS rfl rfl rfl (ex_move rfl) ?_
              refine WL.run hS rfl rfl rfl (ex_move rfl) ?_
              obtain ⟨hin_572, hV⟩ := hV
              refine WL.runx hS rfl rfl rfl (ex_index Tryd.underlying22 Tryd.sizeOf23 rfl rfl h_5 hin_572) ?_
              intro p_573 hp_574
              refine WL.runx hS rfl rfl rfl (ex_load Tryd.isAgg23 rfl rfl hp_574) ?_
              intro u_575 hu_576
              replace hu_576 := cSl_rep hu_576
              have hL_577 := hS.freeze
              refine WL.call rfl rfl rfl (enters0 (vs := [v_480, u_575]) Tryd.call19 ⟨rfl, rfl, trivial⟩) (S_refUnit  (h_482.share hS.put_le) (hu_576.mono hS.put_le) hL_577 hV) ?_
              clear hV
              rintro _ w ⟨r_578, r_580, hV, rfl, hr_579, hr_581, hL_582⟩
              refine ⟨_, rfl, ?_⟩
              have hB_584 := hS.back hL_582
              clear hS
              have hS := hB_584
              refine WL.run hS rfl rfl rfl (ex_move rfl) ?_
              refine WL.run hS rfl rfl rfl (ex_extract rfl rfl) ?_
              refine WL.run hS rfl rfl rfl (ex_extract rfl rfl) ?_
              refine WL.run hS rfl rfl rfl (ex_assign rfl) ?_
              refine WL.run hS rfl rfl rfl (ex_assign rfl) ?_
              refine WL.nil ?_
              refine WQ.next ?_
              refine WC.sub (m := [(1, v_4), (8, v_480), (11, .bool more_483), (12, .int .i64 i_484), (13, .int .i64 r_578), (14, .int .i64 r_580)]) ⟨rfl, rfl, rfl, rfl, rfl, rfl, trivial⟩ ?_
              refine WC.seq ?_
              refine WC.seq ?_
              refine WC.region ?_
              refine WL.run hS rfl rfl rfl (ex_move rfl) ?_
              refine WL.run hS rfl rfl rfl (ex_eql rfl rfl) ?_
              refine WL.nil ?_
              refine WQ.next ?_
              refine WC.sub (m := [(1, v_4), (8, v_480), (11, .bool more_483), (12, .int .i64 i_484), (13, .int .i64 r_578), (14, .int .i64 r_580), (48, .bool (decide (r_580 = 0)))]) ⟨rfl, rfl, rfl, rfl, rfl, rfl, rfl, trivial⟩ ?_
              refine WC.cond rfl ?_ ?_
              · intro hc_592
                replace hV := hV.1 (of_decide_eq_true hc_592)
                refine WC.seq ?_
                refine WC.region ?_
                refine WL.run hS rfl rfl rfl (ex_assign rfl) ?_
                refine WL.run hS rfl rfl rfl (ex_assign rfl) ?_
                refine WL.nil ?_
                refine WQ.next ?_
                refine WC.sub (m := [(6, (.slice none 0 0)), (7, .bool false)]) ⟨rfl, rfl, trivial⟩ ?_
                replace hS := hS.drop
                refine WC.ret ?_
                refine WQ.pass nofun ?_
                refine WQ.out nofun ?_
                refine WQ.pass nofun ?_
                refine WQ.pass nofun ?_
                refine WQ.out nofun ?_
                refine WQ.pass nofun ?_
                refine WQ.out nofun ?_
                refine WQ.pass nofun ?_
                refine WQ.out nofun ?_
                replace hS := hS.nilseg
                exact leave2 rfl rfl rfl ⟨([] : List Int), false, (.slice none 0 0), ([] : Seg), hV, rfl, OwnSl.nil, hS⟩
              · intro hc_592
                replace hV := hV.2 (of_decide_eq_false hc_592)
                refine WC.skip ?_
                refine WQ.next ?_
                refine WC.sub (m := [(1, v_4), (8, v_480), (11, .bool more_483), (12, .int .i64 i_484), (13, .int .i64 r_578), (14, .int .i64 r_580)]) ⟨rfl, rfl, rfl, rfl, rfl, rfl, trivial⟩ ?_
                refine WC.seq ?_
                refine WC.region ?_
                refine WL.run hS rfl rfl rfl (ex_move rfl) ?_
                refine WL.run hS rfl rfl rfl (ex_eql rfl rfl) ?_
                refine WL.nil ?_
                refine WQ.next ?_
                refine WC.sub (m := [(1, v_4), (8, v_480), (11, .bool more_483), (12, .int .i64 i_484), (13, .int .i64 r_578), (50, .bool (decide (r_580 = 1)))]) ⟨rfl, rfl, rfl, rfl, rfl, rfl, trivial⟩ ?_
                refine WC.cond rfl ?_ ?_
                · intro hc_591
                  replace hV := hV.1 (of_decide_eq_true hc_591)
                  refine WC.seq ?_
                  refine WC.region ?_
                  refine WL.run hS rfl rfl rfl (ex_move rfl) ?_
                  refine WL.run hS rfl rfl rfl (ex_move rfl) ?_
                  refine WL.call rfl rfl rfl (enters0 (vs := [v_480, .int .i64 r_578]) Tryd.call18 ⟨rfl, rfl, trivial⟩) (S_refSet  h_482 hr_579 hS hV) ?_
                  clear hV hS
                  rintro _ w ⟨r_586, c_587, fp_588, hV, rfl, h_589, hS⟩
                  refine ⟨_, rfl, ?_⟩
                  refine WL.nil ?_
                  refine WQ.next ?_
                  refine WC.sub (m := [(1, v_4), (8, v_480), (12, .int .i64 i_484)]) ⟨rfl, rfl, rfl, trivial⟩ ?_
                  refine WC.region ?_
                  refine WL.run hS rfl rfl rfl (ex_assign rfl) ?_
                  refine WL.nil ?_
                  refine WQ.out nofun ?_
                  exact WQ.there fun a ha => ⟨c_587, true, v_480, fp_588, hV, h_589, hS, ha.of_sub ⟨rfl, rfl, rfl, rfl, trivial⟩⟩
                · intro hc_591
                  replace hV := hV.2 (of_decide_eq_false hc_591)
                  refine WC.skip ?_
                  refine WQ.out nofun ?_
                  exact WQ.there fun a ha => ⟨val_479, more_483, v_480, fp_481, hV, h_482, hS, ha.of_sub ⟨rfl, rfl, rfl, rfl, trivial⟩⟩
          · intro hc_595
            replace hV := hV.2 (of_decide_eq_false hc_595)
            refine WC.exit ?_
            refine WQ.pass nofun ?_
            refine WQ.pass nofun ?_
            refine WQ.hit ?_
            refine WQ.next ?_
            refine WC.sub (m := [(1, v_4), (8, v_480), (11, .bool more_483)]) ⟨rfl, rfl, rfl, trivial⟩ ?_
            refine WC.seq ?_
            refine WC.region ?_
            refine WL.run hS rfl rfl rfl (ex_move rfl) ?_
            refine WL.run hS rfl rfl rfl (ex_not rfl) ?_
            refine WL.nil ?_
            refine WQ.next ?_
            refine WC.sub (m := [(1, v_4), (8, v_480), (55, .bool (!more_483))]) ⟨rfl, rfl, rfl, trivial⟩ ?_
            refine WC.cond rfl ?_ ?_
            · intro hc_594
              replace hV := hV.1 hc_594
              refine WC.seq ?_
              refine WC.region ?_
              refine WL.run hS rfl rfl rfl (ex_move rfl) ?_
              refine WL.run hS rfl rfl rfl (ex_assign rfl) ?_
              refine WL.run hS rfl rfl rfl (ex_assign rfl) ?_
              refine WL.nil ?_
              refine WQ.next ?_
              refine WC.sub (m := [(6, v_480), (7, .bool true)]) ⟨rfl, rfl, trivial⟩ ?_
              refine WC.ret ?_
              refine WQ.out nofun ?_
              refine WQ.pass nofun ?_
              refine WQ.out nofun ?_
              exact leave2 rfl rfl rfl ⟨val_479, true, v_480, fp_481, hV, rfl, h_482, hS⟩
            · intro hc_594
              replace hV := hV.2 hc_594
              refine WC.skip ?_
              refine WQ.out nofun ?_
              exact WQ.there fun a ha => ⟨val_479, ⟨val_479, v_480, fp_481, rfl, hV.1, h_482, hS, ha.of_sub ⟨rfl, rfl, trivial⟩⟩, hV.2⟩

theorem S_copied {w0 : World} {H : View} {L : Seg} {w : World} {v_2 : Value} {l_1 : List (List Int)} {Q : (List (List Int)) → Prop} (h_3 : IsSl H (cSl (cInt .i64)) v_2 l_1) (hS : St w0 H (L) w) (hV : V_copied l_1 Q) :
    Calls Tryd.prog 4 #[v_2] w fun e w' => ∃ (r1 : List (List Int)) (v1 : Value) (fp1 : Seg) (H' : View), Q r1 ∧ e = .returned (v1) ∧ View.le H H' ∧ OwnSl H' (cSl (cInt .i64)) 23 v1 r1 fp1 ∧ St w0 H' (fp1 ++ L) w' := by
  unfold V_copied at hV
  refine enter Tryd.func4 rfl Tryd.ntmps4 rfl (lk_args_cons (d := 0) (v := v_2) rfl (lk_args_nil _)) ?_
  refine WC.seq ?_
  refine WC.region ?_
  refine WL.run hS rfl rfl rfl (ex_assign rfl) ?_
  refine WL.nil ?_
  refine WQ.next ?_
  refine WC.sub (m := [(0, v_2)]) ⟨rfl, trivial⟩ ?_
  refine WC.seq ?_
  refine WC.region ?_
  refine WL.run hS rfl rfl rfl (ex_assign rfl) ?_
  refine WL.nil ?_
  refine WQ.next ?_
  refine WC.seq ?_
  refine WC.seq ?_
  refine WC.region ?_
  refine WL.run hS rfl rfl rfl (ex_assign rfl) ?_
  refine WL.nil ?_
  refine WQ.next ?_
  refine WC.block ?_
  replace hS := hS.nilseg
  obtain ⟨I_104, mu_105, hI_136, hV⟩ := hV
  refine WC.loop (σ := (List (List Int)) × Int) (fun s a w => ∃ (out_69 : List (List Int)) (i_73 : Int) (H_66 : View) (v_70 : Value) (fp_71 : Seg), s = (out_69, i_73) ∧ I_104 (out_69, i_73) ∧ View.le H H_66 ∧ OwnSl H_66 (cSl (cInt .i64)) 23 v_70 out_69 fp_71 ∧ I64 i_73 ∧ St w0 H_66 (fp_71 ++ L) w ∧ Fr 23 [(0, v_2), (3, v_70), (4, .int .i64 i_73)] a) mu_105 (([] : List (List Int)), 0) ?_ ?_
  · exact fun a ha => ⟨([] : List (List Int)), 0, H, (.slice none 0 0), ([] : Seg), rfl, hI_136, (View.le.refl _), OwnSl.nil, (by unfold I64; omega), hS, ha.of_sub ⟨rfl, rfl, rfl, trivial⟩⟩
  · clear hS hI_136
    rintro _ a w ⟨out_69, i_73, H_66, v_70, fp_71, rfl, hI, le_67, h_72, hr_74, hS, ha⟩
    refine in_frame ha ?_
    clear ha
    replace hV := hV _ hI
    clear hI
    refine WC.seq ?_
    refine WC.seq ?_
    refine WC.region ?_
    refine WL.run hS rfl rfl rfl (ex_move rfl) ?_
    refine WL.run hS rfl rfl rfl (ex_move rfl) ?_
    have hl_107 : Len l_1 := (h_3.mono le_67).bound
    replace hV := hV hl_107
    refine WL.run hS rfl rfl rfl (ex_len_sl Tryd.underlying22 rfl (h_3.mono le_67)) ?_
    refine WL.run hS rfl rfl rfl (ex_lss rfl rfl) ?_
    refine WL.nil ?_
    refine WQ.next ?_
    refine WC.sub (m := [(0, v_2), (3, v_70), (4, .int .i64 i_73), (9, .bool (decide (i_73 < (l_1.length : Int))))]) ⟨rfl, rfl, rfl, rfl, trivial⟩ ?_
    refine WC.cond rfl ?_ ?_
    · intro hc_135
      replace hV := hV.1 (of_decide_eq_true hc_135)
      refine WC.skip ?_
      refine WQ.next ?_
      refine WC.sub (m := [(0, v_2), (3, v_70), (4, .int .i64 i_73)]) ⟨rfl, rfl, rfl, trivial⟩ ?_
      refine WC.seq ?_
      refine WC.block ?_
      refine WC.seq ?_
      refine WC.region ?_
      refine WL.build0 (α := Int) (c := (cInt .i64)) rfl Tryd.underlying23 Tryd.sizeOf3 hS ?_
      clear hS
      intro v_109 w fp_110 h_111 hS
      refine WL.run hS rfl rfl rfl (ex_move rfl) ?_
      refine WL.run hS rfl rfl rfl (ex_move rfl) ?_
      obtain ⟨hin_112, hV⟩ := hV
      refine WL.runx hS rfl rfl rfl (ex_index Tryd.underlying22 Tryd.sizeOf23 rfl rfl (h_3.mono le_67) hin_112) ?_
      intro p_113 hp_114
      refine WL.runx hS rfl rfl rfl (ex_load Tryd.isAgg23 rfl rfl hp_114) ?_
      intro u_115 hu_116
      replace hu_116 := cSl_rep hu_116
      obtain ⟨hr_117, hV⟩ := hV
      refine WL.append (c := (cInt .i64)) (xs := ([] : List Int)) (ys := (ix l_1 i_73)) rfl Tryd.underlying23 Tryd.info3 rfl rfl rfl hS h_111 (hu_116.src hS) hr_117.1 hr_117.2 ?_
      clear hS
      intro v_118 w fp_119 h_120 hS
      rw [List.nil_append] at h_120
      refine WL.run hS rfl rfl rfl (ex_assign rfl) ?_
      refine WL.nil ?_
      refine WQ.next ?_
      refine WC.sub (m := [(0, v_2), (3, v_70), (4, .int .i64 i_73), (5, v_118)]) ⟨rfl, rfl, rfl, rfl, trivial⟩ ?_
      refine WC.region ?_
      refine WL.run hS rfl rfl rfl (ex_move rfl) ?_
      refine WL.run hS rfl rfl rfl (ex_move rfl) ?_
      obtain ⟨H_126, le_127, h_128, hS⟩ : ∃ K, View.le H_66 K ∧ IsSl K (cInt .i64) v_118 (ix l_1 i_73) ∧ St w0 K (fp_71 ++ L) w := ⟨_, hS.put_le, h_120.share hS.put_le, hS.freeze⟩
      refine WL.build1 (c := (cSl (cInt .i64))) rfl Tryd.underlying22 Tryd.info23 rfl rfl (cSl_mk h_128) hS ?_
      clear hS
      intro v_123 w fp_124 h_125 hS
      obtain ⟨hr_129, hV⟩ := hV
      replace hS := hS.f2
      refine WL.append (c := (cSl (cInt .i64))) (xs := out_69) (ys := ([(ix l_1 i_73)])) rfl Tryd.underlying22 Tryd.info23 rfl rfl rfl hS (h_72.mono le_127) (h_125.src hS.f2) hr_129.1 hr_129.2 ?_
      clear hS
      intro v_130 w fp_131 h_132 hS
      refine WL.run hS rfl rfl rfl (ex_assign rfl) ?_
      refine WL.nil ?_
      refine WQ.out nofun ?_
      refine WQ.next ?_
      refine WC.sub (m := [(0, v_2), (3, v_130), (4, .int .i64 i_73)]) ⟨rfl, rfl, rfl, trivial⟩ ?_
      replace hS := hS.f2.drop
      refine WC.region ?_
      refine WL.run hS rfl rfl rfl (ex_move rfl) ?_
      obtain ⟨hi_134, hV⟩ := hV
      refine WL.run hS rfl rfl rfl (ex_add rfl rfl hi_134) ?_
      refine WL.run hS rfl rfl rfl (ex_assign rfl) ?_
      refine WL.nil ?_
      exact WQ.there fun a ha => ⟨((out_69 ++ ([(ix l_1 i_73)])), (i_73 + 1)), ⟨(out_69 ++ ([(ix l_1 i_73)])), (i_73 + 1), H_126, v_130, fp_131, rfl, hV.1, (((View.le.refl _).trans le_67).trans le_127), h_132, hi_134, hS, ha.of_sub ⟨rfl, rfl, rfl, trivial⟩⟩, hV.2⟩
    · intro hc_135
      replace hV := hV.2 (of_decide_eq_false hc_135)
      refine WC.exit ?_
      refine WQ.pass nofun ?_
      refine WQ.pass nofun ?_
      refine WQ.hit ?_
      refine WQ.next ?_
      refine WC.sub (m := [(3, v_70)]) ⟨rfl, trivial⟩ ?_
      refine WC.seq ?_
      refine WC.region ?_
      refine WL.run hS rfl rfl rfl (ex_move rfl) ?_
      refine WL.run hS rfl rfl rfl (ex_assign rfl) ?_
      refine WL.nil ?_
      refine WQ.next ?_
      refine WC.sub (m := [(2, v_70)]) ⟨rfl, trivial⟩ ?_
      refine WC.ret ?_
      exact leave1 rfl rfl ⟨out_69, v_70, fp_71, H_66, hV, rfl, ((View.le.refl _).trans le_67), h_72, hS⟩

theorem S_sameClauses {w0 : World} {H : View} {L : Seg} {w : World} {v_2 : Value} {a_1 : List (List Int)} {v_5 : Value} {b_4 : List (List Int)} {Q : Bool → Prop} (h_3 : IsSl H (cSl (cInt .i64)) v_2 a_1) (h_6 : IsSl H (cSl (cInt .i64)) v_5 b_4) (hS : St w0 H (L) w) (hV : V_sameClauses a_1 b_4 Q) :
    Calls Tryd.prog 9 #[v_2, v_5] w fun e w' => ∃ (r1 : Bool), Q r1 ∧ e = .returned (.bool r1) ∧ St w0 H (L) w' := by
  unfold V_sameClauses at hV
  refine enter Tryd.func9 rfl Tryd.ntmps9 rfl (lk_args_cons (d := 0) (v := v_2) rfl (lk_args_cons (d := 1) (v := v_5) rfl (lk_args_nil _))) ?_
  refine WC.seq ?_
  refine WC.region ?_
  refine WL.run hS rfl rfl rfl (ex_assign rfl) ?_
  refine WL.nil ?_
  refine WQ.next ?_
  refine WC.sub (m := [(0, v_2), (1, v_5)]) ⟨rfl, rfl, trivial⟩ ?_
  refine WC.seq ?_
  refine WC.seq ?_
  refine WC.region ?_
  refine WL.run hS rfl rfl rfl (ex_move rfl) ?_
  have hl_7 : Len a_1 := h_3.bound
  replace hV := hV hl_7
  refine WL.run hS rfl rfl rfl (ex_len_sl Tryd.underlying22 rfl h_3) ?_
  refine WL.run hS rfl rfl rfl (ex_move rfl) ?_
  have hl_8 : Len b_4 := h_6.bound
  replace hV := hV hl_8
  refine WL.run hS rfl rfl rfl (ex_len_sl Tryd.underlying22 rfl h_6) ?_
  refine WL.run hS rfl rfl rfl (ex_neq rfl rfl) ?_
  refine WL.nil ?_
  refine WQ.next ?_
  refine WC.sub (m := [(0, v_2), (1, v_5), (11, .bool (decide ((a_1.length : Int) ≠ (b_4.length : Int))))]) ⟨rfl, rfl, rfl, trivial⟩ ?_
  refine WC.cond rfl ?_ ?_
  · intro hc_66
    replace hV := hV.1 (of_decide_eq_true hc_66)
    refine WC.seq ?_
    refine WC.region ?_
    refine WL.run hS rfl rfl rfl (ex_assign rfl) ?_
    refine WL.nil ?_
    refine WQ.next ?_
    refine WC.sub (m := [(4, .bool false)]) ⟨rfl, trivial⟩ ?_
    refine WC.ret ?_
    refine WQ.pass nofun ?_
    exact leave1 rfl rfl ⟨false, hV, rfl, hS⟩
  · intro hc_66
    replace hV := hV.2 (of_decide_eq_false hc_66)
    refine WC.skip ?_
    refine WQ.next ?_
    refine WC.sub (m := [(0, v_2), (1, v_5)]) ⟨rfl, rfl, trivial⟩ ?_
    refine WC.seq ?_
    refine WC.seq ?_
    refine WC.region ?_
    refine WL.run hS rfl rfl rfl (ex_assign rfl) ?_
    refine WL.nil ?_
    refine WQ.next ?_
    refine WC.block ?_
    obtain ⟨I_45, mu_46, hI_65, hV⟩ := hV
    refine WC.loop (σ := Int) (fun s a w => ∃ (i_26 : Int), s = i_26 ∧ I_45 i_26 ∧ I64 i_26 ∧ St w0 H (L) w ∧ Fr 29 [(0, v_2), (1, v_5), (5, .int .i64 i_26)] a) mu_46 0 ?_ ?_
    · exact fun a ha => ⟨0, rfl, hI_65, (by unfold I64; omega), hS, ha.of_sub ⟨rfl, rfl, rfl, trivial⟩⟩
    · clear hS hI_65
      rintro i_26 a w ⟨_, rfl, hI, hr_27, hS, ha⟩
      refine in_frame ha ?_
      clear ha
      replace hV := hV _ hI
      clear hI
      refine WC.seq ?_
      refine WC.seq ?_
      refine WC.region ?_
      refine WL.run hS rfl rfl rfl (ex_move rfl) ?_
      refine WL.run hS rfl rfl rfl (ex_move rfl) ?_
      have hl_48 : Len a_1 := h_3.bound
      replace hV := hV hl_48
      refine WL.run hS rfl rfl rfl (ex_len_sl Tryd.underlying22 rfl h_3) ?_
      refine WL.run hS rfl rfl rfl (ex_lss rfl rfl) ?_
      refine WL.nil ?_
      refine WQ.next ?_
      refine WC.sub (m := [(0, v_2), (1, v_5), (5, .int .i64 i_26), (15, .bool (decide (i_26 < (a_1.length : Int))))]) ⟨rfl, rfl, rfl, rfl, trivial⟩ ?_
      refine WC.cond rfl ?_ ?_
      · intro hc_64
        replace hV := hV.1 (of_decide_eq_true hc_64)
        refine WC.skip ?_
        refine WQ.next ?_
        refine WC.sub (m := [(0, v_2), (1, v_5), (5, .int .i64 i_26)]) ⟨rfl, rfl, rfl, trivial⟩ ?_
        refine WC.seq ?_
        refine WC.block ?_
        refine WC.seq ?_
        refine WC.quiet (C := St w0 H (L)) Tryd.mixed (by kernel_rfl) (hS.drawn _) ?_
        clear hS w
        refine Wq.run rfl rfl rfl (ex_move rfl) ?_
        refine Wq.run rfl rfl rfl (ex_move rfl) ?_
        obtain ⟨hin_49, hV⟩ := hV
        refine Wq.runx rfl rfl rfl (ex_index Tryd.underlying22 Tryd.sizeOf23 rfl rfl h_3 hin_49) ?_
        intro p_50 hp_51
        refine Wq.runx rfl rfl rfl (ex_load Tryd.isAgg23 rfl rfl hp_51) ?_
        intro u_52 hu_53
        replace hu_53 := cSl_rep hu_53
        refine Wq.run rfl rfl rfl (ex_move rfl) ?_
        refine Wq.run rfl rfl rfl (ex_move rfl) ?_
        obtain ⟨hin_54, hV⟩ := hV
        refine Wq.runx rfl rfl rfl (ex_index Tryd.underlying22 Tryd.sizeOf23 rfl rfl h_6 hin_54) ?_
        intro p_55 hp_56
        refine Wq.runx rfl rfl rfl (ex_load Tryd.isAgg23 rfl rfl hp_56) ?_
        intro u_57 hu_58
        replace hu_58 := cSl_rep hu_58
        obtain ⟨r_59, h_60, hV⟩ := hV
        refine Wq.call (v := .bool r_59) rfl rfl rfl (fun w => enters0 (vs := [u_52, u_57]) Tryd.call10 ⟨rfl, rfl, trivial⟩) (fun w hS => (S_sameInts (Q := fun y0 => y0 = r_59)  hu_53 hu_58 hS h_60).mono ?_) ?_
        · rintro e w' ⟨_, rfl, he, hS⟩
          exact ⟨he, hS⟩
        refine Wq.run rfl rfl rfl (ex_assign rfl) ?_
        refine Wq.nil fun w hS => ?_
        refine WQ.next ?_
        refine WC.sub (m := [(0, v_2), (1, v_5), (5, .int .i64 i_26), (6, .bool r_59)]) ⟨rfl, rfl, rfl, rfl, trivial⟩ ?_
        refine WC.seq ?_
        refine WC.region ?_
        refine WL.run hS rfl rfl rfl (ex_move rfl) ?_
        refine WL.run hS rfl rfl rfl (ex_not rfl) ?_
        refine WL.nil ?_
        refine WQ.next ?_
        refine WC.sub (m := [(0, v_2), (1, v_5), (5, .int .i64 i_26), (28, .bool (!r_59))]) ⟨rfl, rfl, rfl, rfl, trivial⟩ ?_
        refine WC.cond rfl ?_ ?_
        · intro hc_63
          replace hV := hV.1 hc_63
          refine WC.seq ?_
          refine WC.region ?_
          refine WL.run hS rfl rfl rfl (ex_assign rfl) ?_
          refine WL.nil ?_
          refine WQ.next ?_
          refine WC.sub (m := [(4, .bool false)]) ⟨rfl, trivial⟩ ?_
          refine WC.ret ?_
          refine WQ.out nofun ?_
          refine WQ.pass nofun ?_
          refine WQ.pass nofun ?_
          refine WQ.out nofun ?_
          refine WQ.pass nofun ?_
          exact leave1 rfl rfl ⟨false, hV, rfl, hS⟩
        · intro hc_63
          replace hV := hV.2 hc_63
          refine WC.skip ?_
          refine WQ.out nofun ?_
          refine WQ.next ?_
          refine WC.sub (m := [(0, v_2), (1, v_5), (5, .int .i64 i_26)]) ⟨rfl, rfl, rfl, trivial⟩ ?_
          refine WC.region ?_
          refine WL.run hS rfl rfl rfl (ex_move rfl) ?_
          obtain ⟨hi_62, hV⟩ := hV
          refine WL.run hS rfl rfl rfl (ex_add rfl rfl hi_62) ?_
          refine WL.run hS rfl rfl rfl (ex_assign rfl) ?_
          refine WL.nil ?_
          exact WQ.there fun a ha => ⟨(i_26 + 1), ⟨(i_26 + 1), rfl, hV.1, hi_62, hS, ha.of_sub ⟨rfl, rfl, rfl, trivial⟩⟩, hV.2⟩
      · intro hc_64
        replace hV := hV.2 (of_decide_eq_false hc_64)
        refine WC.exit ?_
        refine WQ.pass nofun ?_
        refine WQ.pass nofun ?_
        refine WQ.hit ?_
        refine WQ.next ?_
        refine WC.sub (m := []) trivial ?_
        refine WC.seq ?_
        refine WC.region ?_
        refine WL.run hS rfl rfl rfl (ex_assign rfl) ?_
        refine WL.nil ?_
        refine WQ.next ?_
        refine WC.ret ?_
        exact leave1 rfl rfl ⟨true, hV, rfl, hS⟩

theorem S_valid1 {w0 : World} {H : View} {L : Seg} {w : World} {l_1 : Int} {b_4 : Nat} {c_3_6 : Int} {Q : Bool → Prop} (hr_2 : I64 l_1) (hr_7 : I64 c_3_6) (hS : St w0 H ([(b_4, .cells #[.int .i64 c_3_6] 3 (0, 0))] ++ L) w) (hV : V_valid1 l_1 c_3_6 Q) :
    Calls Tryd.prog 29 #[.int .i64 l_1, .pointer (some ⟨b_4, 0, none⟩)] w fun e w' => ∃ (r1 : Bool), Q r1 ∧ e = .returned (.bool r1) ∧ St w0 H ([(b_4, .cells #[.int .i64 c_3_6] 3 (0, 0))] ++ L) w' := by
  unfold V_valid1 at hV
  refine enter Tryd.func29 rfl Tryd.ntmps29 rfl (lk_args_cons (d := 0) (v := .int .i64 l_1) rfl (lk_args_cons (d := 1) (v := .pointer (some ⟨b_4, 0, none⟩)) rfl (lk_args_nil _))) ?_
  refine WC.seq ?_
  refine WC.region ?_
  refine WL.run hS rfl rfl rfl (ex_assign rfl) ?_
  refine WL.nil ?_
  refine WQ.next ?_
  refine WC.sub (m := [(0, .int .i64 l_1), (1, .pointer (some ⟨b_4, 0, none⟩))]) ⟨rfl, rfl, trivial⟩ ?_
  obtain ⟨J_12, hJ_13, hV⟩ := hV
  refine WC.meet (fun a w => ∃ (x_11 : Bool), J_12 x_11 ∧ St w0 H ([(b_4, .cells #[.int .i64 c_3_6] 3 (0, 0))] ++ L) w ∧ Fr 17 [(3, .bool x_11)] a) ?_ ?_
  · rintro a w ⟨x_11, hI, hS, ha⟩
    refine in_frame ha ?_
    clear ha hV
    have hV := hJ_13 _ hI
    clear hI hJ_13
    refine WC.ret ?_
    exact leave1 rfl rfl ⟨x_11, hV, rfl, hS⟩
  · clear hJ_13
    refine WC.region ?_
    refine WL.run hS rfl rfl rfl (ex_move rfl) ?_
    refine WL.run hS rfl rfl rfl (ex_eql rfl rfl) ?_
    refine WL.run hS rfl rfl rfl (ex_move rfl) ?_
    rcases Bool.eq_false_or_eq_true (decide (l_1 = 0)) with hg_14 | hg_14
    · replace hV := hV.1 (of_decide_eq_true hg_14)
      refine WL.skip_g rfl rfl rfl hg_14 rfl rfl ?_
      refine WL.skip_g rfl rfl rfl hg_14 rfl rfl ?_
      refine WL.skip_g rfl rfl rfl hg_14 rfl rfl ?_
      refine WL.run hS rfl rfl rfl (ex_pick_t rfl hg_14 rfl) ?_
      refine WL.run hS rfl rfl rfl (ex_move rfl) ?_
      refine WL.skip_g rfl rfl rfl rfl rfl rfl ?_
      refine WL.skip_g rfl rfl rfl rfl rfl rfl ?_
      refine WL.skip_g rfl rfl rfl rfl rfl rfl ?_
      refine WL.skip_g rfl rfl rfl rfl rfl rfl ?_
      refine WL.run hS rfl rfl rfl (ex_pick_t rfl rfl rfl) ?_
      refine WL.run hS rfl rfl rfl (ex_assign rfl) ?_
      refine WL.nil ?_
      exact WQ.there fun a ha => ⟨true, hV, hS, ha.of_sub ⟨rfl, trivial⟩⟩
    · replace hV := hV.2 (of_decide_eq_false hg_14)
      refine WL.unguard rfl rfl hg_14 ?_
      refine WL.run hS rfl rfl rfl (ex_move rfl) ?_
      refine WL.unguard rfl rfl hg_14 ?_
      refine WL.run hS rfl rfl rfl (ex_load_box Tryd.isAgg3 rfl rfl) ?_
      refine WL.unguard rfl rfl hg_14 ?_
      refine WL.run hS rfl rfl rfl (ex_gtr rfl rfl) ?_
      refine WL.run hS rfl rfl rfl (ex_pick_f rfl hg_14 rfl) ?_
      refine WL.run hS rfl rfl rfl (ex_move rfl) ?_
      rcases Bool.eq_false_or_eq_true (decide (c_3_6 < l_1)) with hg_15 | hg_15
      · replace hV := hV.1 (of_decide_eq_true hg_15)
        refine WL.skip_g rfl rfl rfl hg_15 rfl rfl ?_
        refine WL.skip_g rfl rfl rfl hg_15 rfl rfl ?_
        refine WL.skip_g rfl rfl rfl hg_15 rfl rfl ?_
        refine WL.skip_g rfl rfl rfl hg_15 rfl rfl ?_
        refine WL.run hS rfl rfl rfl (ex_pick_t rfl hg_15 rfl) ?_
        refine WL.run hS rfl rfl rfl (ex_assign rfl) ?_
        refine WL.nil ?_
        exact WQ.there fun a ha => ⟨true, hV, hS, ha.of_sub ⟨rfl, trivial⟩⟩
      · replace hV := hV.2 (of_decide_eq_false hg_15)
        refine WL.unguard rfl rfl hg_15 ?_
        refine WL.run hS rfl rfl rfl (ex_move rfl) ?_
        refine WL.unguard rfl rfl hg_15 ?_
        refine WL.run hS rfl rfl rfl (ex_load_box Tryd.isAgg3 rfl rfl) ?_
        refine WL.unguard rfl rfl hg_15 ?_
        obtain ⟨hi_16, hV⟩ := hV
        refine WL.run hS rfl rfl rfl (ex_neg rfl hi_16) ?_
        refine WL.unguard rfl rfl hg_15 ?_
        refine WL.run hS rfl rfl rfl (ex_lss rfl rfl) ?_
        refine WL.run hS rfl rfl rfl (ex_pick_f rfl hg_15 rfl) ?_
        refine WL.run hS rfl rfl rfl (ex_assign rfl) ?_
        refine WL.nil ?_
        exact WQ.there fun a ha => ⟨decide (l_1 < (-c_3_6)), hV, hS, ha.of_sub ⟨rfl, trivial⟩⟩

theorem S_IndexFuncI {w0 : World} {H : View} {L : Seg} {w : World} {v_2 : Value} {s_1 : List Int} {fc1 : FuncId} {caps1 : List Value} {fpc1 : Seg} {G1 : Int → (Bool → Prop) → Prop} {Q : Int → Prop} (h_3 : IsSl H (cInt .i64) v_2 s_1) (hb1 : ∀ (args : Array Value) (w : World), (callFunc fc1 args).run Tryd.prog w = .ok (.enter fc1 args) w) (hF1 : ∀ {H' : View} {L' : Seg} {w' : World} {x1 : Int} {K : Bool → Prop}, View.le H H' → I64 x1 → St w0 H' (fpc1 ++ L') w' → G1 x1 K → Calls Tryd.prog fc1 (([.int .i64 x1] : List Value) ++ caps1).toArray w' fun e w'' => ∃ r : Bool, K r ∧ e = .returned (.bool r) ∧ St w0 H' (fpc1 ++ L') w'') (hS : St w0 H (fpc1 ++ L) w) (hV : V_IndexFuncI s_1 G1 Q) :
    Calls Tryd.prog 34 #[v_2, .func (.func fc1) #[] caps1.toArray] w fun e w' => ∃ (r1 : Int), Q r1 ∧ e = .returned (.int .i64 r1) ∧ I64 r1 ∧ St w0 H (fpc1 ++ L) w' := by
  unfold V_IndexFuncI at hV
  refine enter Tryd.func34 rfl Tryd.ntmps34 rfl (lk_args_cons (d := 0) (v := v_2) rfl (lk_args_cons (d := 1) (v := .func (.func fc1) #[] caps1.toArray) rfl (lk_args_nil _))) ?_
  refine WC.seq ?_
  refine WC.region ?_
  refine WL.run hS rfl rfl rfl (ex_assign rfl) ?_
  refine WL.nil ?_
  refine WQ.next ?_
  refine WC.sub (m := [(0, v_2), (1, .func (.func fc1) #[] caps1.toArray)]) ⟨rfl, rfl, trivial⟩ ?_
  refine WC.seq ?_
  refine WC.seq ?_
  refine WC.region ?_
  refine WL.run hS rfl rfl rfl (ex_move rfl) ?_
  have hl_6 : Len s_1 := h_3.bound
  replace hV := hV hl_6
  refine WL.run hS rfl rfl rfl (ex_len_sl Tryd.underlying23 rfl h_3) ?_
  refine WL.run hS rfl rfl rfl (ex_move rfl) ?_
  refine WL.nil ?_
  refine WQ.next ?_
  refine WC.sub (m := [(0, v_2), (1, .func (.func fc1) #[] caps1.toArray), (7, .int .i64 (s_1.length : Int)), (8, .int .i64 0)]) ⟨rfl, rfl, rfl, rfl, trivial⟩ ?_
  refine WC.block ?_
  obtain ⟨I_29, mu_30, hI_42, hV⟩ := hV
  refine WC.loop (σ := Int) (fun s a w => ∃ (x_17 : Int), s = x_17 ∧ I_29 x_17 ∧ I64 x_17 ∧ St w0 H (fpc1 ++ L) w ∧ Fr 19 [(0, v_2), (1, .func (.func fc1) #[] caps1.toArray), (7, .int .i64 (s_1.length : Int)), (8, .int .i64 x_17)] a) mu_30 0 ?_ ?_
  · exact fun a ha => ⟨0, rfl, hI_42, (by unfold I64; omega), hS, ha.of_sub ⟨rfl, rfl, rfl, rfl, trivial⟩⟩
  · clear hS hI_42
    rintro x_17 a w ⟨_, rfl, hI, hr_18, hS, ha⟩
    refine in_frame ha ?_
    clear ha
    replace hV := hV _ hI
    clear hI
    refine WC.seq ?_
    refine WC.region ?_
    refine WL.run hS rfl rfl rfl (ex_lss rfl rfl) ?_
    refine WL.nil ?_
    refine WQ.next ?_
    refine WC.seq ?_
    refine WC.cond rfl ?_ ?_
    · intro hc_41
      replace hV := hV.1 (of_decide_eq_true hc_41)
      refine WC.skip ?_
      refine WQ.next ?_
      refine WC.sub (m := [(0, v_2), (1, .func (.func fc1) #[] caps1.toArray), (7, .int .i64 (s_1.length : Int)), (8, .int .i64 x_17)]) ⟨rfl, rfl, rfl, rfl, trivial⟩ ?_
      refine WC.seq ?_
      refine WC.block ?_
      refine WC.seq ?_
      refine WC.region ?_
      refine WL.run hS rfl rfl rfl (ex_move rfl) ?_
      refine WL.run hS rfl rfl rfl (ex_assign rfl) ?_
      refine WL.nil ?_
      refine WQ.next ?_
      refine WC.sub (m := [(0, v_2), (1, .func (.func fc1) #[] caps1.toArray), (5, .int .i64 x_17), (7, .int .i64 (s_1.length : Int)), (8, .int .i64 x_17)]) ⟨rfl, rfl, rfl, rfl, rfl, trivial⟩ ?_
      refine WC.seq ?_
      refine WC.region ?_
      refine WL.run hS rfl rfl rfl (ex_move rfl) ?_
      refine WL.run hS rfl rfl rfl (ex_move rfl) ?_
      refine WL.run hS rfl rfl rfl (ex_move rfl) ?_
      obtain ⟨hin_32, hV⟩ := hV
      refine WL.runx hS rfl rfl rfl (ex_index Tryd.underlying23 Tryd.sizeOf3 rfl rfl h_3 hin_32) ?_
      intro p_33 hp_34
      refine WL.runx hS rfl rfl rfl (ex_load Tryd.isAgg3 rfl rfl hp_34) ?_
      intro u_35 hu_36
      obtain ⟨rfl, hr_37⟩ := cInt_rep hu_36
      replace hr_37 := has_I64 hr_37
      replace hV := hV hr_37
      refine WL.call rfl rfl rfl (enters_c (vs := [.int .i64 (ix s_1 x_17)]) (caps := caps1) rfl hb1 ⟨rfl, trivial⟩) (hF1 (View.le.refl _) hr_37 hS hV) ?_
      clear hV hS
      rintro _ w ⟨r_38, hV, rfl, hS⟩
      refine ⟨_, rfl, ?_⟩
      refine WL.nil ?_
      refine WQ.next ?_
      refine WC.sub (m := [(0, v_2), (1, .func (.func fc1) #[] caps1.toArray), (5, .int .i64 x_17), (7, .int .i64 (s_1.length : Int)), (8, .int .i64 x_17), (16, .bool r_38)]) ⟨rfl, rfl, rfl, rfl, rfl, rfl, trivial⟩ ?_
      refine WC.cond rfl ?_ ?_
      · intro hc_40
        replace hV := hV.1 hc_40
        refine WC.seq ?_
        refine WC.region ?_
        refine WL.run hS rfl rfl rfl (ex_move rfl) ?_
        refine WL.run hS rfl rfl rfl (ex_assign rfl) ?_
        refine WL.nil ?_
        refine WQ.next ?_
        refine WC.sub (m := [(4, .int .i64 x_17)]) ⟨rfl, trivial⟩ ?_
        refine WC.ret ?_
        refine WQ.out nofun ?_
        refine WQ.pass nofun ?_
        refine WQ.pass nofun ?_
        refine WQ.out nofun ?_
        refine WQ.pass nofun ?_
        exact leave1 rfl rfl ⟨x_17, hV, rfl, hr_18, hS⟩
      · intro hc_40
        replace hV := hV.2 hc_40
        refine WC.skip ?_
        refine WQ.out nofun ?_
        refine WQ.next ?_
        refine WC.sub (m := [(0, v_2), (1, .func (.func fc1) #[] caps1.toArray), (7, .int .i64 (s_1.length : Int)), (8, .int .i64 x_17)]) ⟨rfl, rfl, rfl, rfl, trivial⟩ ?_
        refine WC.region ?_
        obtain ⟨hi_39, hV⟩ := hV
        refine WL.run hS rfl rfl rfl (ex_add rfl rfl hi_39) ?_
        refine WL.run hS rfl rfl rfl (ex_move rfl) ?_
        refine WL.nil ?_
        exact WQ.there fun a ha => ⟨(x_17 + 1), ⟨(x_17 + 1), rfl, hV.1, hi_39, hS, ha.of_sub ⟨rfl, rfl, rfl, rfl, trivial⟩⟩, hV.2⟩
    · intro hc_41
      replace hV := hV.2 (of_decide_eq_false hc_41)
      refine WC.exit ?_
      refine WQ.pass nofun ?_
      refine WQ.pass nofun ?_
      refine WQ.hit ?_
      refine WQ.next ?_
      refine WC.sub (m := []) trivial ?_
      refine WC.seq ?_
      refine WC.region ?_
      refine WL.run hS rfl rfl rfl (ex_assign rfl) ?_
      refine WL.nil ?_
      refine WQ.next ?_
      refine WC.ret ?_
      exact leave1 rfl rfl ⟨(-1), hV, rfl, (by unfold I64; omega), hS⟩

theorem S_ContainsFuncI {w0 : World} {H : View} {L : Seg} {w : World} {v_2 : Value} {s_1 : List Int} {fc1 : FuncId} {caps1 : List Value} {fpc1 : Seg} {G1 : Int → (Bool → Prop) → Prop} {Q : Bool → Prop} (h_3 : IsSl H (cInt .i64) v_2 s_1) (hb1 : ∀ (args : Array Value) (w : World), (callFunc fc1 args).run Tryd.prog w = .ok (.enter fc1 args) w) (hF1 : ∀ {H' : View} {L' : Seg} {w' : World} {x1 : Int} {K : Bool → Prop}, View.le H H' → I64 x1 → St w0 H' (fpc1 ++ L') w' → G1 x1 K → Calls Tryd.prog fc1 (([.int .i64 x1] : List Value) ++ caps1).toArray w' fun e w'' => ∃ r : Bool, K r ∧ e = .returned (.bool r) ∧ St w0 H' (fpc1 ++ L') w'') (hS : St w0 H (fpc1 ++ L) w) (hV : V_ContainsFuncI s_1 G1 Q) :
    Calls Tryd.prog 28 #[v_2, .func (.func fc1) #[] caps1.toArray] w fun e w' => ∃ (r1 : Bool), Q r1 ∧ e = .returned (.bool r1) ∧ St w0 H (fpc1 ++ L) w' := by
  unfold V_ContainsFuncI at hV
  refine enter Tryd.func28 rfl Tryd.ntmps28 rfl (lk_args_cons (d := 0) (v := v_2) rfl (lk_args_cons (d := 1) (v := .func (.func fc1) #[] caps1.toArray) rfl (lk_args_nil _))) ?_
  refine WC.seq ?_
  refine WC.region ?_
  refine WL.run hS rfl rfl rfl (ex_assign rfl) ?_
  refine WL.nil ?_
  refine WQ.next ?_
  refine WC.sub (m := [(0, v_2), (1, .func (.func fc1) #[] caps1.toArray)]) ⟨rfl, rfl, trivial⟩ ?_
  refine WC.seq ?_
  refine WC.region ?_
  refine WL.run hS rfl rfl rfl (ex_move rfl) ?_
  refine WL.run hS rfl rfl rfl (ex_move rfl) ?_
  refine WL.call rfl rfl rfl (enters0 (vs := [v_2, .func (.func fc1) #[] caps1.toArray]) Tryd.call34 ⟨rfl, rfl, trivial⟩) (S_IndexFuncI (fc1 := fc1) (caps1 := caps1) (fpc1 := fpc1) (G1 := G1) h_3 hb1 hF1 hS hV) ?_
  clear hV hS
  rintro _ w ⟨r_6, hV, rfl, hr_7, hS⟩
  refine ⟨_, rfl, ?_⟩
  refine WL.run hS rfl rfl rfl (ex_geq rfl rfl) ?_
  refine WL.run hS rfl rfl rfl (ex_assign rfl) ?_
  refine WL.nil ?_
  refine WQ.next ?_
  refine WC.sub (m := [(4, .bool (decide (0 ≤ r_6)))]) ⟨rfl, trivial⟩ ?_
  refine WC.ret ?_
  exact leave1 rfl rfl ⟨decide (0 ≤ r_6), hV, rfl, hS⟩

theorem S_valid {w0 : World} {H : View} {L : Seg} {w : World} {n_1 : Int} {v_4 : Value} {clause_3 : List Int} {Q : Bool → Prop} (hr_2 : I64 n_1) (h_5 : IsSl H (cInt .i64) v_4 clause_3) (hS : St w0 H (L) w) (hV : V_valid n_1 clause_3 Q) :
    Calls Tryd.prog 22 #[.int .i64 n_1, v_4] w fun e w' => ∃ (r1 : Bool), Q r1 ∧ e = .returned (.bool r1) ∧ St w0 H (L) w' := by
  unfold V_valid at hV
  refine enter Tryd.func22 rfl Tryd.ntmps22 rfl (lk_args_cons (d := 0) (v := .int .i64 n_1) rfl (lk_args_cons (d := 1) (v := v_4) rfl (lk_args_nil _))) ?_
  refine WC.seq ?_
  refine WC.region ?_
  refine WL.box (arr := #[.int .i64 n_1]) rfl rfl rfl hS ?_
  clear hS
  intro b_6 w hS
  refine WL.run hS rfl rfl rfl (ex_assign rfl) ?_
  refine WL.nil ?_
  refine WQ.next ?_
  refine WC.sub (m := [(1, v_4), (2, .pointer (some ⟨b_6, 0, none⟩))]) ⟨rfl, rfl, trivial⟩ ?_
  refine WC.seq ?_
  refine WC.region ?_
  refine WL.run hS rfl rfl rfl (ex_move rfl) ?_
  refine WL.run hS rfl rfl rfl (ex_makeFunc (vs := [.pointer (some ⟨b_6, 0, none⟩)]) ⟨rfl, trivial⟩) ?_
  refine WL.call rfl rfl rfl (enters0 (vs := [v_4, .func (.func 29) #[] #[.pointer (some ⟨b_6, 0, none⟩)]]) Tryd.call28 ⟨rfl, rfl, trivial⟩) (S_ContainsFuncI (fc1 := 29) (caps1 := [.pointer (some ⟨b_6, 0, none⟩)]) (fpc1 := ([(b_6, .cells #[.int .i64 n_1] 3 (0, 0))])) (G1 := (fun x1 K => V_valid1 x1 n_1 K)) h_5 Tryd.call29 (fun hle hx1 hSx hVx => S_valid1 hx1 hr_2 hSx hVx) hS hV) ?_
  clear hV hS
  rintro _ w ⟨r_8, hV, rfl, hS⟩
  refine ⟨_, rfl, ?_⟩
  refine WL.run hS rfl rfl rfl (ex_not rfl) ?_
  refine WL.run hS rfl rfl rfl (ex_assign rfl) ?_
  refine WL.nil ?_
  refine WQ.next ?_
  refine WC.sub (m := [(4, .bool (!r_8))]) ⟨rfl, trivial⟩ ?_
  replace hS := hS.drop
  refine WC.ret ?_
  exact leave1 rfl rfl ⟨(!r_8), hV, rfl, hS⟩

theorem S_checked1 {w0 : World} {H : View} {L : Seg} {w : World} {v_2 : Value} {c_1 : List Int} {b_5 : Nat} {c_4_7 : Int} {Q : Bool → Prop} (h_3 : IsSl H (cInt .i64) v_2 c_1) (hr_8 : I64 c_4_7) (hS : St w0 H ([(b_5, .cells #[.int .i64 c_4_7] 3 (0, 0))] ++ L) w) (hV : V_checked1 c_1 c_4_7 Q) :
    Calls Tryd.prog 21 #[v_2, .pointer (some ⟨b_5, 0, none⟩)] w fun e w' => ∃ (r1 : Bool), Q r1 ∧ e = .returned (.bool r1) ∧ St w0 H ([(b_5, .cells #[.int .i64 c_4_7] 3 (0, 0))] ++ L) w' := by
  unfold V_checked1 at hV
  refine enter Tryd.func21 rfl Tryd.ntmps21 rfl (lk_args_cons (d := 0) (v := v_2) rfl (lk_args_cons (d := 1) (v := .pointer (some ⟨b_5, 0, none⟩)) rfl (lk_args_nil _))) ?_
  refine WC.seq ?_
  refine WC.region ?_
  refine WL.run hS rfl rfl rfl (ex_assign rfl) ?_
  refine WL.nil ?_
  refine WQ.next ?_
  refine WC.sub (m := [(0, v_2), (1, .pointer (some ⟨b_5, 0, none⟩))]) ⟨rfl, rfl, trivial⟩ ?_
  refine WC.seq ?_
  refine WC.region ?_
  refine WL.run hS rfl rfl rfl (ex_load_box Tryd.isAgg3 rfl rfl) ?_
  refine WL.run hS rfl rfl rfl (ex_move rfl) ?_
  refine WL.call rfl rfl rfl (enters0 (vs := [.int .i64 c_4_7, v_2]) Tryd.call22 ⟨rfl, rfl, trivial⟩) (S_valid  hr_8 h_3 hS hV) ?_
  clear hV hS
  rintro _ w ⟨r_9, hV, rfl, hS⟩
  refine ⟨_, rfl, ?_⟩
  refine WL.run hS rfl rfl rfl (ex_not rfl) ?_
  refine WL.run hS rfl rfl rfl (ex_assign rfl) ?_
  refine WL.nil ?_
  refine WQ.next ?_
  refine WC.sub (m := [(3, .bool (!r_9))]) ⟨rfl, trivial⟩ ?_
  refine WC.ret ?_
  exact leave1 rfl rfl ⟨(!r_9), hV, rfl, hS⟩

theorem S_IndexFuncL {w0 : World} {H : View} {L : Seg} {w : World} {v_2 : Value} {s_1 : List (List Int)} {fc1 : FuncId} {caps1 : List Value} {fpc1 : Seg} {G1 : (List Int) → (Bool → Prop) → Prop} {Q : Int → Prop} (h_3 : IsSl H (cSl (cInt .i64)) v_2 s_1) (hb1 : ∀ (args : Array Value) (w : World), (callFunc fc1 args).run Tryd.prog w = .ok (.enter fc1 args) w) (hF1 : ∀ {H' : View} {L' : Seg} {w' : World} {x1 : List Int} {u1 : Value} {K : Bool → Prop}, View.le H H' → IsSl H' (cInt .i64) u1 x1 → St w0 H' (fpc1 ++ L') w' → G1 x1 K → Calls Tryd.prog fc1 (([u1] : List Value) ++ caps1).toArray w' fun e w'' => ∃ r : Bool, K r ∧ e = .returned (.bool r) ∧ St w0 H' (fpc1 ++ L') w'') (hS : St w0 H (fpc1 ++ L) w) (hV : V_IndexFuncL s_1 G1 Q) :
    Calls Tryd.prog 27 #[v_2, .func (.func fc1) #[] caps1.toArray] w fun e w' => ∃ (r1 : Int), Q r1 ∧ e = .returned (.int .i64 r1) ∧ I64 r1 ∧ St w0 H (fpc1 ++ L) w' := by
  unfold V_IndexFuncL at hV
  refine enter Tryd.func27 rfl Tryd.ntmps27 rfl (lk_args_cons (d := 0) (v := v_2) rfl (lk_args_cons (d := 1) (v := .func (.func fc1) #[] caps1.toArray) rfl (lk_args_nil _))) ?_
  refine WC.seq ?_
  refine WC.region ?_
  refine WL.run hS rfl rfl rfl (ex_assign rfl) ?_
  refine WL.nil ?_
  refine WQ.next ?_
  refine WC.sub (m := [(0, v_2), (1, .func (.func fc1) #[] caps1.toArray)]) ⟨rfl, rfl, trivial⟩ ?_
  refine WC.seq ?_
  refine WC.seq ?_
  refine WC.region ?_
  refine WL.run hS rfl rfl rfl (ex_move rfl) ?_
  have hl_6 : Len s_1 := h_3.bound
  replace hV := hV hl_6
  refine WL.run hS rfl rfl rfl (ex_len_sl Tryd.underlying22 rfl h_3) ?_
  refine WL.run hS rfl rfl rfl (ex_move rfl) ?_
  refine WL.nil ?_
  refine WQ.next ?_
  refine WC.sub (m := [(0, v_2), (1, .func (.func fc1) #[] caps1.toArray), (7, .int .i64 (s_1.length : Int)), (8, .int .i64 0)]) ⟨rfl, rfl, rfl, rfl, trivial⟩ ?_
  refine WC.block ?_
  obtain ⟨I_27, mu_28, hI_39, hV⟩ := hV
  refine WC.loop (σ := Int) (fun s a w => ∃ (x_16 : Int), s = x_16 ∧ I_27 x_16 ∧ I64 x_16 ∧ St w0 H (fpc1 ++ L) w ∧ Fr 19 [(0, v_2), (1, .func (.func fc1) #[] caps1.toArray), (7, .int .i64 (s_1.length : Int)), (8, .int .i64 x_16)] a) mu_28 0 ?_ ?_
  · exact fun a ha => ⟨0, rfl, hI_39, (by unfold I64; omega), hS, ha.of_sub ⟨rfl, rfl, rfl, rfl, trivial⟩⟩
  · clear hS hI_39
    rintro x_16 a w ⟨_, rfl, hI, hr_17, hS, ha⟩
    refine in_frame ha ?_
    clear ha
    replace hV := hV _ hI
    clear hI
    refine WC.seq ?_
    refine WC.region ?_
    refine WL.run hS rfl rfl rfl (ex_lss rfl rfl) ?_
    refine WL.nil ?_
    refine WQ.next ?_
    refine WC.seq ?_
    refine WC.cond rfl ?_ ?_
    · intro hc_38
      replace hV := hV.1 (of_decide_eq_true hc_38)
      refine WC.skip ?_
      refine WQ.next ?_
      refine WC.sub (m := [(0, v_2), (1, .func (.func fc1) #[] caps1.toArray), (7, .int .i64 (s_1.length : Int)), (8, .int .i64 x_16)]) ⟨rfl, rfl, rfl, rfl, trivial⟩ ?_
      refine WC.seq ?_
      refine WC.block ?_
      refine WC.seq ?_
      refine WC.region ?_
      refine WL.run hS rfl rfl rfl (ex_move rfl) ?_
      refine WL.run hS rfl rfl rfl (ex_assign rfl) ?_
      refine WL.nil ?_
      refine WQ.next ?_
      refine WC.sub (m := [(0, v_2), (1, .func (.func fc1) #[] caps1.toArray), (5, .int .i64 x_16), (7, .int .i64 (s_1.length : Int)), (8, .int .i64 x_16)]) ⟨rfl, rfl, rfl, rfl, rfl, trivial⟩ ?_
      refine WC.seq ?_
      refine WC.region ?_
      refine WL.run hS rfl rfl rfl (ex_move rfl) ?_
      refine WL.run hS rfl rfl rfl (ex_move rfl) ?_
      refine WL.run hS rfl rfl rfl (ex_move rfl) ?_
      obtain ⟨hin_30, hV⟩ := hV
      refine WL.runx hS rfl rfl rfl (ex_index Tryd.underlying22 Tryd.sizeOf23 rfl rfl h_3 hin_30) ?_
      intro p_31 hp_32
      refine WL.runx hS rfl rfl rfl (ex_load Tryd.isAgg23 rfl rfl hp_32) ?_
      intro u_33 hu_34
      replace hu_34 := cSl_rep hu_34
      refine WL.call rfl rfl rfl (enters_c (vs := [u_33]) (caps := caps1) rfl hb1 ⟨rfl, trivial⟩) (hF1 (View.le.refl _) hu_34 hS hV) ?_
      clear hV hS
      rintro _ w ⟨r_35, hV, rfl, hS⟩
      refine ⟨_, rfl, ?_⟩
      refine WL.nil ?_
      refine WQ.next ?_
      refine WC.sub (m := [(0, v_2), (1, .func (.func fc1) #[] caps1.toArray), (5, .int .i64 x_16), (7, .int .i64 (s_1.length : Int)), (8, .int .i64 x_16), (16, .bool r_35)]) ⟨rfl, rfl, rfl, rfl, rfl, rfl, trivial⟩ ?_
      refine WC.cond rfl ?_ ?_
      · intro hc_37
        replace hV := hV.1 hc_37
        refine WC.seq ?_
        refine WC.region ?_
        refine WL.run hS rfl rfl rfl (ex_move rfl) ?_
        refine WL.run hS rfl rfl rfl (ex_assign rfl) ?_
        refine WL.nil ?_
        refine WQ.next ?_
        refine WC.sub (m := [(4, .int .i64 x_16)]) ⟨rfl, trivial⟩ ?_
        refine WC.ret ?_
        refine WQ.out nofun ?_
        refine WQ.pass nofun ?_
        refine WQ.pass nofun ?_
        refine WQ.out nofun ?_
        refine WQ.pass nofun ?_
        exact leave1 rfl rfl ⟨x_16, hV, rfl, hr_17, hS⟩
      · intro hc_37
        replace hV := hV.2 hc_37
        refine WC.skip ?_
        refine WQ.out nofun ?_
        refine WQ.next ?_
        refine WC.sub (m := [(0, v_2), (1, .func (.func fc1) #[] caps1.toArray), (7, .int .i64 (s_1.length : Int)), (8, .int .i64 x_16)]) ⟨rfl, rfl, rfl, rfl, trivial⟩ ?_
        refine WC.region ?_
        obtain ⟨hi_36, hV⟩ := hV
        refine WL.run hS rfl rfl rfl (ex_add rfl rfl hi_36) ?_
        refine WL.run hS rfl rfl rfl (ex_move rfl) ?_
        refine WL.nil ?_
        exact WQ.there fun a ha => ⟨(x_16 + 1), ⟨(x_16 + 1), rfl, hV.1, hi_36, hS, ha.of_sub ⟨rfl, rfl, rfl, rfl, trivial⟩⟩, hV.2⟩
    · intro hc_38
      replace hV := hV.2 (of_decide_eq_false hc_38)
      refine WC.exit ?_
      refine WQ.pass nofun ?_
      refine WQ.pass nofun ?_
      refine WQ.hit ?_
      refine WQ.next ?_
      refine WC.sub (m := []) trivial ?_
      refine WC.seq ?_
      refine WC.region ?_
      refine WL.run hS rfl rfl rfl (ex_assign rfl) ?_
      refine WL.nil ?_
      refine WQ.next ?_
      refine WC.ret ?_
      exact leave1 rfl rfl ⟨(-1), hV, rfl, (by unfold I64; omega), hS⟩

theorem S_ContainsFuncL {w0 : World} {H : View} {L : Seg} {w : World} {v_2 : Value} {s_1 : List (List Int)} {fc1 : FuncId} {caps1 : List Value} {fpc1 : Seg} {G1 : (List Int) → (Bool → Prop) → Prop} {Q : Bool → Prop} (h_3 : IsSl H (cSl (cInt .i64)) v_2 s_1) (hb1 : ∀ (args : Array Value) (w : World), (callFunc fc1 args).run Tryd.prog w = .ok (.enter fc1 args) w) (hF1 : ∀ {H' : View} {L' : Seg} {w' : World} {x1 : List Int} {u1 : Value} {K : Bool → Prop}, View.le H H' → IsSl H' (cInt .i64) u1 x1 → St w0 H' (fpc1 ++ L') w' → G1 x1 K → Calls Tryd.prog fc1 (([u1] : List Value) ++ caps1).toArray w' fun e w'' => ∃ r : Bool, K r ∧ e = .returned (.bool r) ∧ St w0 H' (fpc1 ++ L') w'') (hS : St w0 H (fpc1 ++ L) w) (hV : V_ContainsFuncL s_1 G1 Q) :
    Calls Tryd.prog 20 #[v_2, .func (.func fc1) #[] caps1.toArray] w fun e w' => ∃ (r1 : Bool), Q r1 ∧ e = .returned (.bool r1) ∧ St w0 H (fpc1 ++ L) w' := by
  unfold V_ContainsFuncL at hV
  refine enter Tryd.func20 rfl Tryd.ntmps20 rfl (lk_args_cons (d := 0) (v := v_2) rfl (lk_args_cons (d := 1) (v := .func (.func fc1) #[] caps1.toArray) rfl (lk_args_nil _))) ?_
  refine WC.seq ?_
  refine WC.region ?_
  refine WL.run hS rfl rfl rfl (ex_assign rfl) ?_
  refine WL.nil ?_
  refine WQ.next ?_
  refine WC.sub (m := [(0, v_2), (1, .func (.func fc1) #[] caps1.toArray)]) ⟨rfl, rfl, trivial⟩ ?_
  refine WC.seq ?_
  refine WC.region ?_
  refine WL.run hS rfl rfl rfl (ex_move rfl) ?_
  refine WL.run hS rfl rfl rfl (ex_move rfl) ?_
  refine WL.call rfl rfl rfl (enters0 (vs := [v_2, .func (.func fc1) #[] caps1.toArray]) Tryd.call27 ⟨rfl, rfl, trivial⟩) (S_IndexFuncL (fc1 := fc1) (caps1 := caps1) (fpc1 := fpc1) (G1 := G1) h_3 hb1 hF1 hS hV) ?_
  clear hV hS
  rintro _ w ⟨r_6, hV, rfl, hr_7, hS⟩
  refine ⟨_, rfl, ?_⟩
  refine WL.run hS rfl rfl rfl (ex_geq rfl rfl) ?_
  refine WL.run hS rfl rfl rfl (ex_assign rfl) ?_
  refine WL.nil ?_
  refine WQ.next ?_
  refine WC.sub (m := [(4, .bool (decide (0 ≤ r_6)))]) ⟨rfl, trivial⟩ ?_
  refine WC.ret ?_
  exact leave1 rfl rfl ⟨decide (0 ≤ r_6), hV, rfl, hS⟩

theorem S_checked {w0 : World} {H : View} {L : Seg} {w : World} {n_1 : Int} {v_4 : Value} {clauses_3 : List (List Int)} {v_7 : Value} {more_6 : List Int} {Q : (Option Int) → Prop} (hr_2 : I64 n_1) (h_5 : IsSl H (cSl (cInt .i64)) v_4 clauses_3) (h_8 : IsSl H (cInt .i64) v_7 more_6) (hS : St w0 H (L) w) (hV : V_checked n_1 clauses_3 more_6 Q) :
    Calls Tryd.prog 13 #[.int .i64 n_1, v_4, v_7] w fun e w' => ∃ (r1 : Option Int), Q r1 ∧ e = .returned (errV 40 r1) ∧ St w0 H (L) w' := by
  unfold V_checked at hV
  refine enter Tryd.func13 rfl Tryd.ntmps13 rfl (lk_args_cons (d := 0) (v := .int .i64 n_1) rfl (lk_args_cons (d := 1) (v := v_4) rfl (lk_args_cons (d := 2) (v := v_7) rfl (lk_args_nil _)))) ?_
  refine WC.seq ?_
  refine WC.region ?_
  refine WL.box (arr := #[.int .i64 n_1]) rfl rfl rfl hS ?_
  clear hS
  intro b_9 w hS
  refine WL.run hS rfl rfl rfl (ex_assign rfl) ?_
  refine WL.nil ?_
  refine WQ.next ?_
  refine WC.sub (m := [(1, v_4), (2, v_7), (3, .pointer (some ⟨b_9, 0, none⟩))]) ⟨rfl, rfl, rfl, trivial⟩ ?_
  refine WC.seq ?_
  refine WC.block ?_
  obtain ⟨J_13, hJ_14, hV⟩ := hV
  refine WC.meet (fun a w => ∃ (x_12 : Bool), J_13 x_12 ∧ St w0 H ([(b_9, .cells #[.int .i64 n_1] 3 (0, 0))] ++ L) w ∧ Fr 31 [(1, v_4), (2, v_7), (3, .pointer (some ⟨b_9, 0, none⟩)), (7, .bool x_12)] a) ?_ ?_
  · rintro a w ⟨x_12, hI, hS, ha⟩
    refine in_frame ha ?_
    clear ha hV
    have hV := hJ_14 _ hI
    clear hI hJ_14
    refine WC.cond rfl ?_ ?_
    · intro hc_32
      replace hV := hV.1 hc_32
      refine WC.seq ?_
      refine WC.region ?_
      refine WL.run hS rfl rfl rfl (ex_makeIface Tryd.concrete40 rfl) ?_
      refine WL.run hS rfl rfl rfl (ex_assign rfl) ?_
      refine WL.nil ?_
      refine WQ.next ?_
      refine WC.sub (m := [(6, (.iface 40 (.int .i64 5)))]) ⟨rfl, trivial⟩ ?_
      replace hS := hS.drop
      refine WC.ret ?_
      refine WQ.out nofun ?_
      refine WQ.pass nofun ?_
      exact leave1 rfl rfl ⟨(some 5), hV, rfl, hS⟩
    · intro hc_32
      replace hV := hV.2 hc_32
      refine WC.seq ?_
      refine WC.region ?_
      refine WL.run hS rfl rfl rfl (ex_move rfl) ?_
      have hl_16 : Len clauses_3 := h_5.bound
      replace hV := hV hl_16
      refine WL.run hS rfl rfl rfl (ex_len_sl Tryd.underlying22 rfl h_5) ?_
      refine WL.run hS rfl rfl rfl (ex_gtr rfl rfl) ?_
      refine WL.run hS rfl rfl rfl (ex_assign rfl) ?_
      refine WL.nil ?_
      refine WQ.next ?_
      refine WC.sub (m := [(1, v_4), (2, v_7), (3, .pointer (some ⟨b_9, 0, none⟩)), (15, .bool (decide (33554432 < (clauses_3.length : Int))))]) ⟨rfl, rfl, rfl, rfl, trivial⟩ ?_
      refine WC.cond rfl ?_ ?_
      · intro hc_31
        replace hV := hV.1 (of_decide_eq_true hc_31)
        refine WC.seq ?_
        refine WC.region ?_
        refine WL.run hS rfl rfl rfl (ex_makeIface Tryd.concrete40 rfl) ?_
        refine WL.run hS rfl rfl rfl (ex_assign rfl) ?_
        refine WL.nil ?_
        refine WQ.next ?_
        refine WC.sub (m := [(6, (.iface 40 (.int .i64 6)))]) ⟨rfl, trivial⟩ ?_
        replace hS := hS.drop
        refine WC.ret ?_
        refine WQ.out nofun ?_
        refine WQ.pass nofun ?_
        exact leave1 rfl rfl ⟨(some 6), hV, rfl, hS⟩
      · intro hc_31
        replace hV := hV.2 (of_decide_eq_false hc_31)
        obtain ⟨J_23, hJ_24, hV⟩ := hV
        refine WC.meet (fun a w => ∃ (x_22 : Bool), J_23 x_22 ∧ St w0 H (L) w ∧ Fr 31 [(20, .bool x_22)] a) ?_ ?_
        · rintro a w ⟨x_22, hI, hS, ha⟩
          refine in_frame ha ?_
          clear ha hV
          have hV := hJ_24 _ hI
          clear hI hJ_24
          refine WC.cond rfl ?_ ?_
          · intro hc_30
            replace hV := hV.1 hc_30
            refine WC.seq ?_
            refine WC.region ?_
            refine WL.run hS rfl rfl rfl (ex_makeIface Tryd.concrete40 rfl) ?_
            refine WL.run hS rfl rfl rfl (ex_assign rfl) ?_
            refine WL.nil ?_
            refine WQ.next ?_
            refine WC.sub (m := [(6, (.iface 40 (.int .i64 5)))]) ⟨rfl, trivial⟩ ?_
            refine WC.ret ?_
            refine WQ.out nofun ?_
            refine WQ.pass nofun ?_
            exact leave1 rfl rfl ⟨(some 5), hV, rfl, hS⟩
          · intro hc_30
            replace hV := hV.2 hc_30
            refine WC.skip ?_
            refine WQ.out nofun ?_
            refine WQ.next ?_
            refine WC.sub (m := []) trivial ?_
            refine WC.seq ?_
            refine WC.region ?_
            refine WL.run hS rfl rfl rfl (ex_assign rfl) ?_
            refine WL.nil ?_
            refine WQ.next ?_
            refine WC.ret ?_
            exact leave1 rfl rfl ⟨none, hV, rfl, hS⟩
        · clear hJ_24
          refine WC.region ?_
          refine WL.run hS rfl rfl rfl (ex_move rfl) ?_
          refine WL.run hS rfl rfl rfl (ex_makeFunc (vs := [.pointer (some ⟨b_9, 0, none⟩)]) ⟨rfl, trivial⟩) ?_
          refine WL.call rfl rfl rfl (enters0 (vs := [v_4, .func (.func 21) #[] #[.pointer (some ⟨b_9, 0, none⟩)]]) Tryd.call20 ⟨rfl, rfl, trivial⟩) (S_ContainsFuncL (fc1 := 21) (caps1 := [.pointer (some ⟨b_9, 0, none⟩)]) (fpc1 := ([(b_9, .cells #[.int .i64 n_1] 3 (0, 0))])) (G1 := (fun x1 K => V_checked1 x1 n_1 K)) h_5 Tryd.call21 (fun hle hx1 hSx hVx => S_checked1 hx1 hr_2 hSx hVx) hS hV) ?_
          clear hV hS
          rintro _ w ⟨r_25, hV, rfl, hS⟩
          refine ⟨_, rfl, ?_⟩
          refine WL.run hS rfl rfl rfl (ex_move rfl) ?_
          rcases Bool.eq_false_or_eq_true r_25 with hg_27 | hg_27
          · replace hV := hV.1 hg_27
            refine WL.skip_g rfl rfl rfl hg_27 rfl rfl ?_
            refine WL.skip_g rfl rfl rfl hg_27 rfl rfl ?_
            refine WL.skip_g rfl rfl rfl hg_27 rfl rfl ?_
            refine WL.skip_g rfl rfl rfl hg_27 rfl rfl ?_
            refine WL.run hS rfl rfl rfl (ex_pick_t rfl hg_27 rfl) ?_
            refine WL.run hS rfl rfl rfl (ex_assign rfl) ?_
            refine WL.nil ?_
            replace hS := hS.drop
            exact WQ.there fun a ha => ⟨true, hV, hS, ha.of_sub ⟨rfl, trivial⟩⟩
          · replace hV := hV.2 hg_27
            refine WL.unguard rfl rfl hg_27 ?_
            refine WL.run hS rfl rfl rfl (ex_load_box Tryd.isAgg3 rfl rfl) ?_
            refine WL.unguard rfl rfl hg_27 ?_
            refine WL.run hS rfl rfl rfl (ex_move rfl) ?_
            refine WL.unguard rfl rfl hg_27 ?_
            refine WL.call rfl rfl rfl (enters0 (vs := [.int .i64 n_1, v_7]) Tryd.call22 ⟨rfl, rfl, trivial⟩) (S_valid  hr_2 h_8 hS hV) ?_
            clear hV hS
            rintro _ w ⟨r_28, hV, rfl, hS⟩
            refine ⟨_, rfl, ?_⟩
            refine WL.unguard rfl rfl hg_27 ?_
            refine WL.run hS rfl rfl rfl (ex_not rfl) ?_
            refine WL.run hS rfl rfl rfl (ex_pick_f rfl hg_27 rfl) ?_
            refine WL.run hS rfl rfl rfl (ex_assign rfl) ?_
            refine WL.nil ?_
            replace hS := hS.drop
            exact WQ.there fun a ha => ⟨(!r_28), hV, hS, ha.of_sub ⟨rfl, trivial⟩⟩
  · clear hJ_14
    refine WC.region ?_
    refine WL.run hS rfl rfl rfl (ex_load_box Tryd.isAgg3 rfl rfl) ?_
    refine WL.run hS rfl rfl rfl (ex_lss rfl rfl) ?_
    refine WL.run hS rfl rfl rfl (ex_move rfl) ?_
    rcases Bool.eq_false_or_eq_true (decide (n_1 < 0)) with hg_15 | hg_15
    · replace hV := hV.1 (of_decide_eq_true hg_15)
      refine WL.skip_g rfl rfl rfl hg_15 rfl rfl ?_
      refine WL.skip_g rfl rfl rfl hg_15 rfl rfl ?_
      refine WL.run hS rfl rfl rfl (ex_pick_t rfl hg_15 rfl) ?_
      refine WL.run hS rfl rfl rfl (ex_assign rfl) ?_
      refine WL.nil ?_
      exact WQ.there fun a ha => ⟨true, hV, hS, ha.of_sub ⟨rfl, rfl, rfl, rfl, trivial⟩⟩
    · replace hV := hV.2 (of_decide_eq_false hg_15)
      refine WL.unguard rfl rfl hg_15 ?_
      refine WL.run hS rfl rfl rfl (ex_load_box Tryd.isAgg3 rfl rfl) ?_
      refine WL.unguard rfl rfl hg_15 ?_
      refine WL.run hS rfl rfl rfl (ex_gtr rfl rfl) ?_
      refine WL.run hS rfl rfl rfl (ex_pick_f rfl hg_15 rfl) ?_
      refine WL.run hS rfl rfl rfl (ex_assign rfl) ?_
      refine WL.nil ?_
      exact WQ.there fun a ha => ⟨decide (16777216 < n_1), hV, hS, ha.of_sub ⟨rfl, rfl, rfl, rfl, trivial⟩⟩

theorem S_followSet {w0 : World} {H : View} {L : Seg} {w : World} {l_1 : Int} {b_4 : Nat} {v_7 : Value} {c_3_6 : List Int} {fp_9 : Seg} {Q : Bool → (List Int) → Prop} (hr_2 : I64 l_1) (h_8 : OwnSl H (cInt .i64) 3 v_7 c_3_6 fp_9) (hS : St w0 H ([(b_4, .cells #[v_7] 23 (0, 0))] ++ (fp_9 ++ L)) w) (hV : V_followSet l_1 c_3_6 Q) :
    Calls Tryd.prog 23 #[.int .i64 l_1, .pointer (some ⟨b_4, 0, none⟩)] w fun e w' => ∃ (r1 : Bool) (r2 : List Int) (v2 : Value) (fp2 : Seg), Q r1 r2 ∧ e = .returned (.bool r1) ∧ OwnSl H (cInt .i64) 3 v2 r2 fp2 ∧ St w0 H ([(b_4, .cells #[v2] 23 (0, 0))] ++ (fp2 ++ L)) w' := by
  unfold V_followSet at hV
  refine enter Tryd.func23 rfl Tryd.ntmps23 rfl (lk_args_cons (d := 0) (v := .int .i64 l_1) rfl (lk_args_cons (d := 1) (v := .pointer (some ⟨b_4, 0, none⟩)) rfl (lk_args_nil _))) ?_
  refine WC.seq ?_
  refine WC.region ?_
  refine WL.run hS rfl rfl rfl (ex_assign rfl) ?_
  refine WL.nil ?_
  refine WQ.next ?_
  refine WC.sub (m := [(0, .int .i64 l_1), (1, .pointer (some ⟨b_4, 0, none⟩))]) ⟨rfl, rfl, trivial⟩ ?_
  refine WC.seq ?_
  refine WC.region ?_
  refine WL.run hS rfl rfl rfl (ex_move rfl) ?_
  refine WL.run hS rfl rfl rfl (ex_move rfl) ?_
  obtain ⟨hi_11, hV⟩ := hV
  refine WL.run hS rfl rfl rfl (ex_neg rfl hi_11) ?_
  refine WL.run hS rfl rfl rfl (ex_max rfl rfl) ?_
  refine WL.run hS rfl rfl rfl (ex_assign rfl) ?_
  refine WL.run hS rfl rfl rfl (ex_assign rfl) ?_
  refine WL.nil ?_
  refine WQ.next ?_
  refine WC.sub (m := [(0, .int .i64 l_1), (1, .pointer (some ⟨b_4, 0, none⟩)), (4, .int .i64 (max l_1 (-l_1))), (5, .int .i64 1)]) ⟨rfl, rfl, rfl, rfl, trivial⟩ ?_
  obtain ⟨J_15, hJ_16, hV⟩ := hV
  refine WC.meet (fun a w => ∃ (x_13 : Int), J_15 x_13 ∧ I64 x_13 ∧ St w0 H ([(b_4, .cells #[v_7] 23 (0, 0))] ++ (fp_9 ++ L)) w ∧ Fr 25 [(1, .pointer (some ⟨b_4, 0, none⟩)), (4, .int .i64 (max l_1 (-l_1))), (5, .int .i64 x_13)] a) ?_ ?_
  · rintro a w ⟨x_13, hI, hr_14, hS, ha⟩
    refine in_frame ha ?_
    clear ha hV
    have hV := hJ_16 _ hI
    clear hI hJ_16
    refine WC.seq ?_
    refine WC.region ?_
    refine WL.run hS rfl rfl rfl (ex_load_box Tryd.isAgg23 rfl rfl) ?_
    refine WL.run hS rfl rfl rfl (ex_move rfl) ?_
    obtain ⟨hin_18, hV⟩ := hV
    refine WL.runx hS rfl rfl rfl (ex_index_own Tryd.underlying23 Tryd.sizeOf3 rfl rfl h_8 hin_18) ?_
    intro p_19 hp_20
    replace hS := hS.f2
    refine WL.runx hS rfl rfl rfl (ex_load_own (w := w) hS Tryd.isAgg3 rfl rfl h_8 hp_20 hin_18) ?_
    intro u_21 hu_22
    obtain ⟨rfl, hr_23⟩ := cInt_rep hu_22
    replace hr_23 := has_I64 hr_23
    replace hV := hV hr_23
    refine WL.run hS rfl rfl rfl (ex_assign rfl) ?_
    refine WL.nil ?_
    refine WQ.next ?_
    refine WC.sub (m := [(1, .pointer (some ⟨b_4, 0, none⟩)), (4, .int .i64 (max l_1 (-l_1))), (5, .int .i64 x_13), (6, .int .i64 (ix c_3_6 (max l_1 (-l_1))))]) ⟨rfl, rfl, rfl, rfl, trivial⟩ ?_
    refine WC.seq ?_
    refine WC.region ?_
    replace hS := hS.f2
    refine WL.run hS rfl rfl rfl (ex_load_box Tryd.isAgg23 rfl rfl) ?_
    refine WL.run hS rfl rfl rfl (ex_move rfl) ?_
    refine WL.run hS rfl rfl rfl (ex_move rfl) ?_
    obtain ⟨hin_24, hV⟩ := hV
    refine WL.runx hS rfl rfl rfl (ex_index_own Tryd.underlying23 Tryd.sizeOf3 rfl rfl h_8 hin_24) ?_
    intro p_25 hp_26
    replace hS := hS.f2
    refine WL.store_own Tryd.sizeOf3 rfl rfl rfl (cInt_mk (I64.has hr_14)) hS h_8 hp_26 hin_24 ?_
    clear hS
    intro w fp_28 h_27 hS
    refine WL.nil ?_
    refine WQ.next ?_
    refine WC.sub (m := [(5, .int .i64 x_13), (6, .int .i64 (ix c_3_6 (max l_1 (-l_1))))]) ⟨rfl, rfl, trivial⟩ ?_
    refine WC.seq ?_
    refine WC.region ?_
    refine WL.run hS rfl rfl rfl (ex_move rfl) ?_
    refine WL.run hS rfl rfl rfl (ex_move rfl) ?_
    obtain ⟨hi_29, hV⟩ := hV
    refine WL.run hS rfl rfl rfl (ex_neg rfl hi_29) ?_
    refine WL.run hS rfl rfl rfl (ex_neq rfl rfl) ?_
    refine WL.run hS rfl rfl rfl (ex_assign rfl) ?_
    refine WL.nil ?_
    refine WQ.next ?_
    refine WC.sub (m := [(3, .bool (decide ((ix c_3_6 (max l_1 (-l_1))) ≠ (-x_13))))]) ⟨rfl, trivial⟩ ?_
    refine WC.ret ?_
    replace hS := hS.f2
    exact leave1 rfl rfl ⟨decide ((ix c_3_6 (max l_1 (-l_1))) ≠ (-x_13)), (c_3_6.set (max l_1 (-l_1)).toNat x_13), v_7, fp_28, hV, rfl, h_27, hS⟩
  · clear hJ_16
    refine WC.seq ?_
    refine WC.region ?_
    refine WL.run hS rfl rfl rfl (ex_move rfl) ?_
    refine WL.run hS rfl rfl rfl (ex_lss rfl rfl) ?_
    refine WL.nil ?_
    refine WQ.next ?_
    refine WC.sub (m := [(1, .pointer (some ⟨b_4, 0, none⟩)), (4, .int .i64 (max l_1 (-l_1))), (5, .int .i64 1), (12, .bool (decide (l_1 < 0)))]) ⟨rfl, rfl, rfl, rfl, trivial⟩ ?_
    refine WC.cond rfl ?_ ?_
    · intro hc_17
      replace hV := hV.1 (of_decide_eq_true hc_17)
      refine WC.region ?_
      refine WL.run hS rfl rfl rfl (ex_assign rfl) ?_
      refine WL.nil ?_
      replace hS := hS.f2
      replace hS := hS.f2
      exact WQ.there fun a ha => ⟨(-1), hV, (by unfold I64; omega), hS, ha.of_sub ⟨rfl, rfl, rfl, trivial⟩⟩
    · intro hc_17
      replace hV := hV.2 (of_decide_eq_false hc_17)
      refine WC.skip ?_
      replace hS := hS.f2
      replace hS := hS.f2
      exact WQ.there fun a ha => ⟨1, hV, (by unfold I64; omega), hS, ha.of_sub ⟨rfl, rfl, rfl, trivial⟩⟩

theorem S_followOf {w0 : World} {H : View} {L : Seg} {w : World} {l_1 : Int} {b_4 : Nat} {v_7 : Value} {c_3_6 : List Int} {fp_9 : Seg} {Q : Int → Prop} (hr_2 : I64 l_1) (h_8 : OwnSl H (cInt .i64) 3 v_7 c_3_6 fp_9) (hS : St w0 H ([(b_4, .cells #[v_7] 23 (0, 0))] ++ (fp_9 ++ L)) w) (hV : V_followOf l_1 c_3_6 Q) :
    Calls Tryd.prog 24 #[.int .i64 l_1, .pointer (some ⟨b_4, 0, none⟩)] w fun e w' => ∃ (r1 : Int), Q r1 ∧ e = .returned (.int .i64 r1) ∧ I64 r1 ∧ St w0 H ([(b_4, .cells #[v_7] 23 (0, 0))] ++ (fp_9 ++ L)) w' := by
  unfold V_followOf at hV
  refine enter Tryd.func24 rfl Tryd.ntmps24 rfl (lk_args_cons (d := 0) (v := .int .i64 l_1) rfl (lk_args_cons (d := 1) (v := .pointer (some ⟨b_4, 0, none⟩)) rfl (lk_args_nil _))) ?_
  refine WC.seq ?_
  refine WC.region ?_
  refine WL.run hS rfl rfl rfl (ex_assign rfl) ?_
  refine WL.nil ?_
  refine WQ.next ?_
  refine WC.sub (m := [(0, .int .i64 l_1), (1, .pointer (some ⟨b_4, 0, none⟩))]) ⟨rfl, rfl, trivial⟩ ?_
  refine WC.seq ?_
  refine WC.seq ?_
  refine WC.region ?_
  refine WL.run hS rfl rfl rfl (ex_move rfl) ?_
  refine WL.run hS rfl rfl rfl (ex_lss rfl rfl) ?_
  refine WL.nil ?_
  refine WQ.next ?_
  refine WC.sub (m := [(0, .int .i64 l_1), (1, .pointer (some ⟨b_4, 0, none⟩)), (5, .bool (decide (l_1 < 0)))]) ⟨rfl, rfl, rfl, trivial⟩ ?_
  refine WC.cond rfl ?_ ?_
  · intro hc_25
    replace hV := hV.1 (of_decide_eq_true hc_25)
    refine WC.seq ?_
    refine WC.region ?_
    refine WL.run hS rfl rfl rfl (ex_load_box Tryd.isAgg23 rfl rfl) ?_
    refine WL.run hS rfl rfl rfl (ex_move rfl) ?_
    obtain ⟨hi_11, hV⟩ := hV
    refine WL.run hS rfl rfl rfl (ex_neg rfl hi_11) ?_
    obtain ⟨hin_12, hV⟩ := hV
    refine WL.runx hS rfl rfl rfl (ex_index_own Tryd.underlying23 Tryd.sizeOf3 rfl rfl h_8 hin_12) ?_
    intro p_13 hp_14
    replace hS := hS.f2
    refine WL.runx hS rfl rfl rfl (ex_load_own (w := w) hS Tryd.isAgg3 rfl rfl h_8 hp_14 hin_12) ?_
    intro u_15 hu_16
    obtain ⟨rfl, hr_17⟩ := cInt_rep hu_16
    replace hr_17 := has_I64 hr_17
    replace hV := hV hr_17
    obtain ⟨hi_18, hV⟩ := hV
    refine WL.run hS rfl rfl rfl (ex_neg rfl hi_18) ?_
    refine WL.run hS rfl rfl rfl (ex_assign rfl) ?_
    refine WL.nil ?_
    refine WQ.next ?_
    refine WC.sub (m := [(3, .int .i64 (-(ix c_3_6 (-l_1))))]) ⟨rfl, trivial⟩ ?_
    refine WC.ret ?_
    refine WQ.pass nofun ?_
    replace hS := hS.f2
    exact leave1 rfl rfl ⟨(-(ix c_3_6 (-l_1))), hV, rfl, hi_18, hS⟩
  · intro hc_25
    replace hV := hV.2 (of_decide_eq_false hc_25)
    refine WC.skip ?_
    refine WQ.next ?_
    refine WC.sub (m := [(0, .int .i64 l_1), (1, .pointer (some ⟨b_4, 0, none⟩))]) ⟨rfl, rfl, trivial⟩ ?_
    refine WC.seq ?_
    refine WC.region ?_
    refine WL.run hS rfl rfl rfl (ex_load_box Tryd.isAgg23 rfl rfl) ?_
    refine WL.run hS rfl rfl rfl (ex_move rfl) ?_
    obtain ⟨hin_19, hV⟩ := hV
    refine WL.runx hS rfl rfl rfl (ex_index_own Tryd.underlying23 Tryd.sizeOf3 rfl rfl h_8 hin_19) ?_
    intro p_20 hp_21
    replace hS := hS.f2
    refine WL.runx hS rfl rfl rfl (ex_load_own (w := w) hS Tryd.isAgg3 rfl rfl h_8 hp_21 hin_19) ?_
    intro u_22 hu_23
    obtain ⟨rfl, hr_24⟩ := cInt_rep hu_23
    replace hr_24 := has_I64 hr_24
    replace hV := hV hr_24
    refine WL.run hS rfl rfl rfl (ex_assign rfl) ?_
    refine WL.nil ?_
    refine WQ.next ?_
    refine WC.sub (m := [(3, .int .i64 (ix c_3_6 l_1))]) ⟨rfl, trivial⟩ ?_
    refine WC.ret ?_
    replace hS := hS.f2
    exact leave1 rfl rfl ⟨(ix c_3_6 l_1), hV, rfl, hr_24, hS⟩

theorem S_follow {w0 : World} {H : View} {L : Seg} {w : World} {n_1 : Int} {v_4 : Value} {clauses_3 : List (List Int)} {v_7 : Value} {given_6 : List Int} {Q : (List Int) → Bool → Prop} (hr_2 : I64 n_1) (h_5 : IsSl H (cSl (cInt .i64)) v_4 clauses_3) (h_8 : IsSl H (cInt .i64) v_7 given_6) (hS : St w0 H (L) w) (hV : V_follow n_1 clauses_3 given_6 Q) :
    Calls Tryd.prog 14 #[.int .i64 n_1, v_4, v_7] w fun e w' => ∃ (r1 : List Int) (r2 : Bool) (v1 : Value) (fp1 : Seg), Q r1 r2 ∧ e = .returned (.tuple #[v1, .bool r2]) ∧ OwnSl H (cInt .i64) 3 v1 r1 fp1 ∧ St w0 H (fp1 ++ L) w' := by
  unfold V_follow at hV
  refine enter Tryd.func14 rfl Tryd.ntmps14 rfl (lk_args_cons (d := 0) (v := .int .i64 n_1) rfl (lk_args_cons (d := 1) (v := v_4) rfl (lk_args_cons (d := 2) (v := v_7) rfl (lk_args_nil _)))) ?_
  refine WC.seq ?_
  refine WC.region ?_
  refine WL.run hS rfl rfl rfl (ex_assign rfl) ?_
  refine WL.run hS rfl rfl rfl (ex_assign rfl) ?_
  refine WL.nil ?_
  refine WQ.next ?_
  refine WC.sub (m := [(0, .int .i64 n_1), (1, v_4), (2, v_7)]) ⟨rfl, rfl, rfl, trivial⟩ ?_
  refine WC.seq ?_
  refine WC.region ?_
  refine WL.run hS rfl rfl rfl (ex_move rfl) ?_
  obtain ⟨hi_10, hV⟩ := hV
  refine WL.run hS rfl rfl rfl (ex_add rfl rfl hi_10) ?_
  obtain ⟨hm_15, hV⟩ := hV
  refine WL.make (c := (cInt .i64)) (z0 := 0) rfl Tryd.underlying23 Tryd.info3 rfl ⟨rfl, I64.has (by unfold I64; omega)⟩ rfl rfl hm_15.1 hm_15.2.1 hm_15.2.2 hS ?_
  clear hS
  intro v_12 w fp_13 h_14 hS
  refine WL.alloc (arr := #[(.slice none 0 0)]) rfl Tryd.zeroValue23 rfl hS ?_
  clear hS
  intro b_16 w hS
  refine WL.store_box (pre := []) (old := [(.slice none 0 0)]) (rst := []) (cs := [v_12]) (arr' := #[v_12]) Tryd.sizeOf23 rfl rfl (congrArg Array.toList (cells_one (OwnSl.one h_14))) ⟨(OwnSl.one h_14), trivial⟩ rfl rfl rfl rfl hS ?_
  clear hS
  intro w hS
  refine WL.nil ?_
  refine WQ.next ?_
  refine WC.sub (m := [(0, .int .i64 n_1), (1, v_4), (2, v_7), (8, .pointer (some ⟨b_16, 0, none⟩))]) ⟨rfl, rfl, rfl, rfl, trivial⟩ ?_
  refine WC.seq ?_
  refine WC.region ?_
  refine WL.run hS rfl rfl rfl (ex_makeFunc (vs := [.pointer (some ⟨b_16, 0, none⟩)]) ⟨rfl, trivial⟩) ?_
  refine WL.run hS rfl rfl rfl (ex_assign rfl) ?_
  refine WL.nil ?_
  refine WQ.next ?_
  refine WC.sub (m := [(0, .int .i64 n_1), (1, v_4), (2, v_7), (8, .pointer (some ⟨b_16, 0, none⟩)), (9, .func (.func 23) #[] #[.pointer (some ⟨b_16, 0, none⟩)])]) ⟨rfl, rfl, rfl, rfl, rfl, trivial⟩ ?_
  refine WC.seq ?_
  refine WC.region ?_
  refine WL.run hS rfl rfl rfl (ex_makeFunc (vs := [.pointer (some ⟨b_16, 0, none⟩)]) ⟨rfl, trivial⟩) ?_
  refine WL.run hS rfl rfl rfl (ex_assign rfl) ?_
  refine WL.nil ?_
  refine WQ.next ?_
  refine WC.sub (m := [(0, .int .i64 n_1), (1, v_4), (2, v_7), (8, .pointer (some ⟨b_16, 0, none⟩)), (9, .func (.func 23) #[] #[.pointer (some ⟨b_16, 0, none⟩)]), (10, .func (.func 24) #[] #[.pointer (some ⟨b_16, 0, none⟩)])]) ⟨rfl, rfl, rfl, rfl, rfl, rfl, trivial⟩ ?_
  refine WC.seq ?_
  refine WC.seq ?_
  refine WC.region ?_
  refine WL.run hS rfl rfl rfl (ex_move rfl) ?_
  have hl_19 : Len given_6 := h_8.bound
  replace hV := hV hl_19
  refine WL.run hS rfl rfl rfl (ex_len_sl Tryd.underlying23 rfl h_8) ?_
  refine WL.run hS rfl rfl rfl (ex_move rfl) ?_
  refine WL.nil ?_
  refine WQ.next ?_
  refine WC.sub (m := [(0, .int .i64 n_1), (1, v_4), (8, .pointer (some ⟨b_16, 0, none⟩)), (9, .func (.func 23) #[] #[.pointer (some ⟨b_16, 0, none⟩)]), (10, .func (.func 24) #[] #[.pointer (some ⟨b_16, 0, none⟩)]), (26, v_7), (27, .int .i64 (given_6.length : Int)), (28, .int .i64 0)]) ⟨rfl, rfl, rfl, rfl, rfl, rfl, rfl, rfl, trivial⟩ ?_
  refine WC.block ?_
  replace hS := hS.f2
  replace hS := hS.f2
  obtain ⟨I_59, mu_60, hI_4572, hV⟩ := hV
  refine WC.loop (σ := (List Int) × Int) (fun s a w => ∃ (c_37 : List Int) (x_41 : Int) (v_38 : Value) (fp_39 : Seg), s = (c_37, x_41) ∧ I_59 (c_37, x_41) ∧ OwnSl H (cInt .i64) 3 v_38 c_37 fp_39 ∧ I64 x_41 ∧ St w0 H ([(b_16, .cells #[v_38] 23 (0, 0))] ++ (fp_39 ++ L)) w ∧ Fr 101 [(0, .int .i64 n_1), (1, v_4), (8, .pointer (some ⟨b_16, 0, none⟩)), (9, .func (.func 23) #[] #[.pointer (some ⟨b_16, 0, none⟩)]), (10, .func (.func 24) #[] #[.pointer (some ⟨b_16, 0, none⟩)]), (26, v_7), (27, .int .i64 (given_6.length : Int)), (28, .int .i64 x_41)] a) mu_60 ((List.replicate (n_1 + 1).toNat 0), 0) ?_ ?_
  · exact fun a ha => ⟨(List.replicate (n_1 + 1).toNat 0), 0, v_12, fp_13, rfl, hI_4572, h_14, (by unfold I64; omega), hS, ha.of_sub ⟨rfl, rfl, rfl, rfl, rfl, rfl, rfl, rfl, trivial⟩⟩
  · clear hS hI_4572
    rintro _ a w ⟨c_37, x_41, v_38, fp_39, rfl, hI, h_40, hr_42, hS, ha⟩
    refine in_frame ha ?_
    clear ha
    replace hV := hV _ hI
    clear hI
    refine WC.seq ?_
    refine WC.region ?_
    refine WL.run hS rfl rfl rfl (ex_lss rfl rfl) ?_
    refine WL.nil ?_
    refine WQ.next ?_
    refine WC.seq ?_
    refine WC.cond rfl ?_ ?_
    · intro hc_4571
      replace hV := hV.1 (of_decide_eq_true hc_4571)
      refine WC.skip ?_
      refine WQ.next ?_
      refine WC.sub (m := [(0, .int .i64 n_1), (1, v_4), (8, .pointer (some ⟨b_16, 0, none⟩)), (9, .func (.func 23) #[] #[.pointer (some ⟨b_16, 0, none⟩)]), (10, .func (.func 24) #[] #[.pointer (some ⟨b_16, 0, none⟩)]), (26, v_7), (27, .int .i64 (given_6.length : Int)), (28, .int .i64 x_41)]) ⟨rfl, rfl, rfl, rfl, rfl, rfl, rfl, rfl, trivial⟩ ?_
      refine WC.seq ?_
      refine WC.block ?_
      refine WC.seq ?_
      refine WC.region ?_
      obtain ⟨hin_62, hV⟩ := hV
      refine WL.runx hS rfl rfl rfl (ex_index Tryd.underlying23 Tryd.sizeOf3 rfl rfl h_8 hin_62) ?_
      intro p_63 hp_64
      refine WL.runx hS rfl rfl rfl (ex_load Tryd.isAgg3 rfl rfl hp_64) ?_
      intro u_65 hu_66
      obtain ⟨rfl, hr_67⟩ := cInt_rep hu_66
      replace hr_67 := has_I64 hr_67
      replace hV := hV hr_67
      refine WL.run hS rfl rfl rfl (ex_assign rfl) ?_
      refine WL.nil ?_
      refine WQ.next ?_
      refine WC.sub (m := [(0, .int .i64 n_1), (1, v_4), (8, .pointer (some ⟨b_16, 0, none⟩)), (9, .func (.func 23) #[] #[.pointer (some ⟨b_16, 0, none⟩)]), (10, .func (.func 24) #[] #[.pointer (some ⟨b_16, 0, none⟩)]), (12, .int .i64 (ix given_6 x_41)), (26, v_7), (27, .int .i64 (given_6.length : Int)), (28, .int .i64 x_41)]) ⟨rfl, rfl, rfl, rfl, rfl, rfl, rfl, rfl, rfl, trivial⟩ ?_
      refine WC.seq ?_
      refine WC.region ?_
      refine WL.run hS rfl rfl rfl (ex_move rfl) ?_
      refine WL.run hS rfl rfl rfl (ex_move rfl) ?_
      replace hS := hS.f2
      replace hS := hS.f2
      refine WL.call rfl rfl rfl (enters_c (vs := [.int .i64 (ix given_6 x_41)]) (caps := [.pointer (some ⟨b_16, 0, none⟩)]) rfl Tryd.call23 ⟨rfl, trivial⟩) (S_followSet  hr_67 h_40 hS hV) ?_
      clear hV hS
      rintro _ w ⟨r_68, c_69, v_70, fp_71, hV, rfl, h_72, hS⟩
      refine ⟨_, rfl, ?_⟩
      refine WL.run hS rfl rfl rfl (ex_not rfl) ?_
      refine WL.nil ?_
      refine WQ.next ?_
      refine WC.sub (m := [(0, .int .i64 n_1), (1, v_4), (8, .pointer (some ⟨b_16, 0, none⟩)), (9, .func (.func 23) #[] #[.pointer (some ⟨b_16, 0, none⟩)]), (10, .func (.func 24) #[] #[.pointer (some ⟨b_16, 0, none⟩)]), (26, v_7), (27, .int .i64 (given_6.length : Int)), (28, .int .i64 x_41), (35, .bool (!r_68))]) ⟨rfl, rfl, rfl, rfl, rfl, rfl, rfl, rfl, rfl, trivial⟩ ?_
      refine WC.cond rfl ?_ ?_
      · intro hc_76
        replace hV := hV.1 hc_76
        refine WC.seq ?_
        refine WC.region ?_
        refine WL.run hS rfl rfl rfl (ex_assign rfl) ?_
        refine WL.run hS rfl rfl rfl (ex_assign rfl) ?_
        refine WL.nil ?_
        refine WQ.next ?_
        refine WC.sub (m := [(6, (.slice none 0 0)), (7, .bool false)]) ⟨rfl, rfl, trivial⟩ ?_
        replace hS := hS.drop
        replace hS := hS.drop
        refine WC.ret ?_
        refine WQ.out nofun ?_
        refine WQ.pass nofun ?_
        refine WQ.pass nofun ?_
        refine WQ.out nofun ?_
        refine WQ.pass nofun ?_
        replace hS := hS.nilseg
        exact leave2 rfl rfl rfl ⟨([] : List Int), false, (.slice none 0 0), ([] : Seg), hV, rfl, OwnSl.nil, hS⟩
      · intro hc_76
        replace hV := hV.2 hc_76
        refine WC.skip ?_
        refine WQ.out nofun ?_
        refine WQ.next ?_
        refine WC.sub (m := [(0, .int .i64 n_1), (1, v_4), (8, .pointer (some ⟨b_16, 0, none⟩)), (9, .func (.func 23) #[] #[.pointer (some ⟨b_16, 0, none⟩)]), (10, .func (.func 24) #[] #[.pointer (some ⟨b_16, 0, none⟩)]), (26, v_7), (27, .int .i64 (given_6.length : Int)), (28, .int .i64 x_41)]) ⟨rfl, rfl, rfl, rfl, rfl, rfl, rfl, rfl, trivial⟩ ?_
        refine WC.region ?_
        obtain ⟨hi_75, hV⟩ := hV
        refine WL.run hS rfl rfl rfl (ex_add rfl rfl hi_75) ?_
        refine WL.run hS rfl rfl rfl (ex_move rfl) ?_
        refine WL.nil ?_
        replace hS := hS.f2
        replace hS := hS.f2
        exact WQ.there fun a ha => ⟨(c_69, (x_41 + 1)), ⟨c_69, (x_41 + 1), v_70, fp_71, rfl, hV.1, h_72, hi_75, hS, ha.of_sub ⟨rfl, rfl, rfl, rfl, rfl, rfl, rfl, rfl, trivial⟩⟩, hV.2⟩
    · intro hc_4571
      replace hV := hV.2 (of_decide_eq_false hc_4571)
      refine WC.exit ?_
      refine WQ.pass nofun ?_
      refine WQ.pass nofun ?_
      refine WQ.hit ?_
      refine WQ.next ?_
      refine WC.sub (m := [(0, .int .i64 n_1), (1, v_4), (8, .pointer (some ⟨b_16, 0, none⟩)), (9, .func (.func 23) #[] #[.pointer (some ⟨b_16, 0, none⟩)]), (10, .func (.func 24) #[] #[.pointer (some ⟨b_16, 0, none⟩)])]) ⟨rfl, rfl, rfl, rfl, rfl, trivial⟩ ?_
      refine WC.seq ?_
      refine WC.seq ?_
      refine WC.region ?_
      refine WL.run hS rfl rfl rfl (ex_assign rfl) ?_
      refine WL.nil ?_
      refine WQ.next ?_
      refine WC.block ?_
      replace hS := hS.f2
      replace hS := hS.f2
      obtain ⟨I_2954, mu_2955, hI_4570, hV⟩ := hV
      refine WC.loop (σ := (List Int) × Bool) (fun s a w => ∃ (c_1513 : List Int) (again_1517 : Bool) (v_1514 : Value) (fp_1515 : Seg), s = (c_1513, again_1517) ∧ I_2954 (c_1513, again_1517) ∧ OwnSl H (cInt .i64) 3 v_1514 c_1513 fp_1515 ∧ St w0 H ([(b_16, .cells #[v_1514] 23 (0, 0))] ++ (fp_1515 ++ L)) w ∧ Fr 101 [(0, .int .i64 n_1), (1, v_4), (8, .pointer (some ⟨b_16, 0, none⟩)), (9, .func (.func 23) #[] #[.pointer (some ⟨b_16, 0, none⟩)]), (10, .func (.func 24) #[] #[.pointer (some ⟨b_16, 0, none⟩)]), (13, .bool again_1517)] a) mu_2955 (c_37, true) ?_ ?_
      · exact fun a ha => ⟨c_37, true, v_38, fp_39, rfl, hI_4570, h_40, hS, ha.of_sub ⟨rfl, rfl, rfl, rfl, rfl, rfl, trivial⟩⟩
      · clear hS hI_4570
        rintro _ a w ⟨c_1513, again_1517, v_1514, fp_1515, rfl, hI, h_1516, hS, ha⟩
        refine in_frame ha ?_
        clear ha
        replace hV := hV _ hI
        clear hI
        refine WC.seq ?_
        refine WC.seq ?_
        refine WC.region ?_
        refine WL.run hS rfl rfl rfl (ex_move rfl) ?_
        refine WL.nil ?_
        refine WQ.next ?_
        refine WC.sub (m := [(0, .int .i64 n_1), (1, v_4), (8, .pointer (some ⟨b_16, 0, none⟩)), (9, .func (.func 23) #[] #[.pointer (some ⟨b_16, 0, none⟩)]), (10, .func (.func 24) #[] #[.pointer (some ⟨b_16, 0, none⟩)]), (37, .bool again_1517)]) ⟨rfl, rfl, rfl, rfl, rfl, rfl, trivial⟩ ?_
        refine WC.cond rfl ?_ ?_
        · intro hc_4569
          replace hV := hV.1 hc_4569
          refine WC.skip ?_
          refine WQ.next ?_
          refine WC.sub (m := [(0, .int .i64 n_1), (1, v_4), (8, .pointer (some ⟨b_16, 0, none⟩)), (9, .func (.func 23) #[] #[.pointer (some ⟨b_16, 0, none⟩)]), (10, .func (.func 24) #[] #[.pointer (some ⟨b_16, 0, none⟩)])]) ⟨rfl, rfl, rfl, rfl, rfl, trivial⟩ ?_
          refine WC.block ?_
          refine WC.scope ?_
          refine WC.seq ?_
          refine WC.region ?_
          refine WL.run hS rfl rfl rfl (ex_assign rfl) ?_
          refine WL.nil ?_
          refine WQ.next ?_
          refine WC.seq ?_
          refine WC.label ?_
          refine WQ.next ?_
          refine WC.seq ?_
          refine WC.region ?_
          refine WL.run hS rfl rfl rfl (ex_move rfl) ?_
          have hl_2957 : Len clauses_3 := h_5.bound
          replace hV := hV hl_2957
          refine WL.run hS rfl rfl rfl (ex_len_sl Tryd.underlying22 rfl h_5) ?_
          refine WL.run hS rfl rfl rfl (ex_move rfl) ?_
          refine WL.nil ?_
          refine WQ.next ?_
          refine WC.block ?_
          replace hS := hS.f2
          replace hS := hS.f2
          obtain ⟨I_3914, mu_3915, hI_4391, hV⟩ := hV
          refine WC.loop (σ := (List Int) × Bool × Int) (fun s a w => ∃ (c_3433 : List Int) (again_3437 : Bool) (x_3438 : Int) (v_3434 : Value) (fp_3435 : Seg), s = (c_3433, again_3437, x_3438) ∧ I_3914 (c_3433, again_3437, x_3438) ∧ OwnSl H (cInt .i64) 3 v_3434 c_3433 fp_3435 ∧ I64 x_3438 ∧ St w0 H ([(b_16, .cells #[v_3434] 23 (0, 0))] ++ (fp_3435 ++ L)) w ∧ Fr 101 [(0, .int .i64 n_1), (1, v_4), (8, .pointer (some ⟨b_16, 0, none⟩)), (9, .func (.func 23) #[] #[.pointer (some ⟨b_16, 0, none⟩)]), (10, .func (.func 24) #[] #[.pointer (some ⟨b_16, 0, none⟩)]), (13, .bool again_3437), (38, v_4), (39, .int .i64 (clauses_3.length : Int)), (40, .int .i64 x_3438)] a) mu_3915 (c_1513, false, 0) ?_ ?_
          · exact fun a ha => ⟨c_1513, false, 0, v_1514, fp_1515, rfl, hI_4391, h_1516, (by unfold I64; omega), hS, ha.of_sub ⟨rfl, rfl, rfl, rfl, rfl, rfl, rfl, rfl, rfl, trivial⟩⟩
          · clear hS hI_4391
            rintro _ a w ⟨c_3433, again_3437, x_3438, v_3434, fp_3435, rfl, hI, h_3436, hr_3439, hS, ha⟩
            refine in_frame ha ?_
            clear ha
            replace hV := hV _ hI
            clear hI
            refine WC.seq ?_
            refine WC.region ?_
            refine WL.run hS rfl rfl rfl (ex_lss rfl rfl) ?_
            refine WL.nil ?_
            refine WQ.next ?_
            refine WC.seq ?_
            refine WC.cond rfl ?_ ?_
            · intro hc_4390
              replace hV := hV.1 (of_decide_eq_true hc_4390)
              refine WC.skip ?_
              refine WQ.next ?_
              refine WC.sub (m := [(0, .int .i64 n_1), (1, v_4), (8, .pointer (some ⟨b_16, 0, none⟩)), (9, .func (.func 23) #[] #[.pointer (some ⟨b_16, 0, none⟩)]), (10, .func (.func 24) #[] #[.pointer (some ⟨b_16, 0, none⟩)]), (13, .bool again_3437), (38, v_4), (39, .int .i64 (clauses_3.length : Int)), (40, .int .i64 x_3438)]) ⟨rfl, rfl, rfl, rfl, rfl, rfl, rfl, rfl, rfl, trivial⟩ ?_
              obtain ⟨J_4155, hJ_4156, hV⟩ := hV
              refine WC.meet (fun a w => ∃ (c_4150 : List Int) (again_4154 : Bool) (v_4151 : Value) (fp_4152 : Seg), J_4155 (c_4150, again_4154) ∧ OwnSl H (cInt .i64) 3 v_4151 c_4150 fp_4152 ∧ St w0 H ([(b_16, .cells #[v_4151] 23 (0, 0))] ++ (fp_4152 ++ L)) w ∧ Fr 101 [(0, .int .i64 n_1), (1, v_4), (8, .pointer (some ⟨b_16, 0, none⟩)), (9, .func (.func 23) #[] #[.pointer (some ⟨b_16, 0, none⟩)]), (10, .func (.func 24) #[] #[.pointer (some ⟨b_16, 0, none⟩)]), (13, .bool again_4154), (38, v_4), (39, .int .i64 (clauses_3.length : Int)), (40, .int .i64 x_3438)] a) ?_ ?_
              · rintro a w ⟨c_4150, again_4154, v_4151, fp_4152, hI, h_4153, hS, ha⟩
                refine in_frame ha ?_
                clear ha hV
                have hV := hJ_4156 _ hI
                clear hI hJ_4156
                refine WC.region ?_
                obtain ⟨hi_4389, hV⟩ := hV
                refine WL.run hS rfl rfl rfl (ex_add rfl rfl hi_4389) ?_
                refine WL.run hS rfl rfl rfl (ex_move rfl) ?_
                refine WL.nil ?_
                replace hS := hS.f2
                replace hS := hS.f2
                exact WQ.there fun a ha => ⟨(c_4150, again_4154, (x_3438 + 1)), ⟨c_4150, again_4154, (x_3438 + 1), v_4151, fp_4152, rfl, hV.1, h_4153, hi_4389, hS, ha.of_sub ⟨rfl, rfl, rfl, rfl, rfl, rfl, rfl, rfl, rfl, trivial⟩⟩, hV.2⟩
              · clear hJ_4156
                refine WC.block ?_
                refine WC.seq ?_
                refine WC.region ?_
                obtain ⟨hin_4157, hV⟩ := hV
                refine WL.runx hS rfl rfl rfl (ex_index Tryd.underlying22 Tryd.sizeOf23 rfl rfl h_5 hin_4157) ?_
                intro p_4158 hp_4159
                refine WL.runx hS rfl rfl rfl (ex_load Tryd.isAgg23 rfl rfl hp_4159) ?_
                intro u_4160 hu_4161
                replace hu_4161 := cSl_rep hu_4161
                refine WL.run hS rfl rfl rfl (ex_assign rfl) ?_
                refine WL.nil ?_
                refine WQ.next ?_
                refine WC.sub (m := [(0, .int .i64 n_1), (1, v_4), (8, .pointer (some ⟨b_16, 0, none⟩)), (9, .func (.func 23) #[] #[.pointer (some ⟨b_16, 0, none⟩)]), (10, .func (.func 24) #[] #[.pointer (some ⟨b_16, 0, none⟩)]), (13, .bool again_3437), (15, u_4160), (38, v_4), (39, .int .i64 (clauses_3.length : Int)), (40, .int .i64 x_3438)]) ⟨rfl, rfl, rfl, rfl, rfl, rfl, rfl, rfl, rfl, rfl, trivial⟩ ?_
                refine WC.seq ?_
                refine WC.region ?_
                refine WL.run hS rfl rfl rfl (ex_assign rfl) ?_
                refine WL.nil ?_
                refine WQ.next ?_
                refine WC.seq ?_
                refine WC.seq ?_
                refine WC.region ?_
                refine WL.run hS rfl rfl rfl (ex_move rfl) ?_
                have hl_4162 : Len (ix clauses_3 x_3438) := hu_4161.bound
                replace hV := hV hl_4162
                refine WL.run hS rfl rfl rfl (ex_len_sl Tryd.underlying23 rfl hu_4161) ?_
                refine WL.run hS rfl rfl rfl (ex_move rfl) ?_
                refine WL.nil ?_
                refine WQ.next ?_
                refine WC.sub (m := [(0, .int .i64 n_1), (1, v_4), (8, .pointer (some ⟨b_16, 0, none⟩)), (9, .func (.func 23) #[] #[.pointer (some ⟨b_16, 0, none⟩)]), (10, .func (.func 24) #[] #[.pointer (some ⟨b_16, 0, none⟩)]), (13, .bool again_3437), (16, .int .i64 0), (38, v_4), (39, .int .i64 (clauses_3.length : Int)), (40, .int .i64 x_3438), (44, u_4160), (45, .int .i64 ((ix clauses_3 x_3438).length : Int)), (46, .int .i64 0)]) ⟨rfl, rfl, rfl, rfl, rfl, rfl, rfl, rfl, rfl, rfl, rfl, rfl, rfl, trivial⟩ ?_
                refine WC.block ?_
                replace hS := hS.f2
                replace hS := hS.f2
                obtain ⟨I_4307, mu_4308, hI_4388, hV⟩ := hV
                refine WC.loop (σ := Int × Int) (fun s a w => ∃ (left_4233 : Int) (x_4235 : Int), s = (left_4233, x_4235) ∧ I_4307 (left_4233, x_4235) ∧ I64 left_4233 ∧ I64 x_4235 ∧ St w0 H ([(b_16, .cells #[v_3434] 23 (0, 0))] ++ (fp_3435 ++ L)) w ∧ Fr 101 [(0, .int .i64 n_1), (1, v_4), (8, .pointer (some ⟨b_16, 0, none⟩)), (9, .func (.func 23) #[] #[.pointer (some ⟨b_16, 0, none⟩)]), (10, .func (.func 24) #[] #[.pointer (some ⟨b_16, 0, none⟩)]), (13, .bool again_3437), (16, .int .i64 left_4233), (38, v_4), (39, .int .i64 (clauses_3.length : Int)), (40, .int .i64 x_3438), (44, u_4160), (45, .int .i64 ((ix clauses_3 x_3438).length : Int)), (46, .int .i64 x_4235)] a) mu_4308 (0, 0) ?_ ?_
                · exact fun a ha => ⟨0, 0, rfl, hI_4388, (by unfold I64; omega), (by unfold I64; omega), hS, ha.of_sub ⟨rfl, rfl, rfl, rfl, rfl, rfl, rfl, rfl, rfl, rfl, rfl, rfl, rfl, trivial⟩⟩
                · clear hS hI_4388
                  rintro _ a w ⟨left_4233, x_4235, rfl, hI, hr_4234, hr_4236, hS, ha⟩
                  refine in_frame ha ?_
                  clear ha
                  replace hV := hV _ hI
                  clear hI
                  refine WC.seq ?_
                  refine WC.region ?_
                  refine WL.run hS rfl rfl rfl (ex_lss rfl rfl) ?_
                  refine WL.nil ?_
                  refine WQ.next ?_
                  refine WC.seq ?_
                  refine WC.cond rfl ?_ ?_
                  · intro hc_4387
                    replace hV := hV.1 (of_decide_eq_true hc_4387)
                    refine WC.skip ?_
                    refine WQ.next ?_
                    refine WC.sub (m := [(0, .int .i64 n_1), (1, v_4), (8, .pointer (some ⟨b_16, 0, none⟩)), (9, .func (.func 23) #[] #[.pointer (some ⟨b_16, 0, none⟩)]), (10, .func (.func 24) #[] #[.pointer (some ⟨b_16, 0, none⟩)]), (13, .bool again_3437), (16, .int .i64 left_4233), (38, v_4), (39, .int .i64 (clauses_3.length : Int)), (40, .int .i64 x_3438), (44, u_4160), (45, .int .i64 ((ix clauses_3 x_3438).length : Int)), (46, .int .i64 x_4235)]) ⟨rfl, rfl, rfl, rfl, rfl, rfl, rfl, rfl, rfl, rfl, rfl, rfl, rfl, trivial⟩ ?_
                    obtain ⟨J_4344, hJ_4345, hV⟩ := hV
                    refine WC.meet (fun a w => ∃ (left_4342 : Int), J_4344 left_4342 ∧ I64 left_4342 ∧ St w0 H ([(b_16, .cells #[v_3434] 23 (0, 0))] ++ (fp_3435 ++ L)) w ∧ Fr 101 [(0, .int .i64 n_1), (1, v_4), (8, .pointer (some ⟨b_16, 0, none⟩)), (9, .func (.func 23) #[] #[.pointer (some ⟨b_16, 0, none⟩)]), (10, .func (.func 24) #[] #[.pointer (some ⟨b_16, 0, none⟩)]), (13, .bool again_3437), (16, .int .i64 left_4342), (38, v_4), (39, .int .i64 (clauses_3.length : Int)), (40, .int .i64 x_3438), (44, u_4160), (45, .int .i64 ((ix clauses_3 x_3438).length : Int)), (46, .int .i64 x_4235)] a) ?_ ?_
                    · rintro a w ⟨left_4342, hI, hr_4343, hS, ha⟩
                      refine in_frame ha ?_
                      clear ha hV
                      have hV := hJ_4345 _ hI
                      clear hI hJ_4345
                      refine WC.region ?_
                      obtain ⟨hi_4378, hV⟩ := hV
                      refine WL.run hS rfl rfl rfl (ex_add rfl rfl hi_4378) ?_
                      refine WL.run hS rfl rfl rfl (ex_move rfl) ?_
                      refine WL.nil ?_
                      replace hS := hS.f2
                      replace hS := hS.f2
                      exact WQ.there fun a ha => ⟨(left_4342, (x_4235 + 1)), ⟨left_4342, (x_4235 + 1), rfl, hV.1, hr_4343, hi_4378, hS, ha.of_sub ⟨rfl, rfl, rfl, rfl, rfl, rfl, rfl, rfl, rfl, rfl, rfl, rfl, rfl, trivial⟩⟩, hV.2⟩
                    · clear hJ_4345
                      refine WC.block ?_
                      refine WC.seq ?_
                      refine WC.region ?_
                      obtain ⟨hin_4346, hV⟩ := hV
                      refine WL.runx hS rfl rfl rfl (ex_index Tryd.underlying23 Tryd.sizeOf3 rfl rfl hu_4161 hin_4346) ?_
                      intro p_4347 hp_4348
                      refine WL.runx hS rfl rfl rfl (ex_load Tryd.isAgg3 rfl rfl hp_4348) ?_
                      intro u_4349 hu_4350
                      obtain ⟨rfl, hr_4351⟩ := cInt_rep hu_4350
                      replace hr_4351 := has_I64 hr_4351
                      replace hV := hV hr_4351
                      refine WL.run hS rfl rfl rfl (ex_assign rfl) ?_
                      refine WL.nil ?_
                      refine WQ.next ?_
                      refine WC.sub (m := [(0, .int .i64 n_1), (1, v_4), (8, .pointer (some ⟨b_16, 0, none⟩)), (9, .func (.func 23) #[] #[.pointer (some ⟨b_16, 0, none⟩)]), (10, .func (.func 24) #[] #[.pointer (some ⟨b_16, 0, none⟩)]), (13, .bool again_3437), (16, .int .i64 left_4233), (18, .int .i64 (ix (ix clauses_3 x_3438) x_4235)), (38, v_4), (39, .int .i64 (clauses_3.length : Int)), (40, .int .i64 x_3438), (44, u_4160), (45, .int .i64 ((ix clauses_3 x_3438).length : Int)), (46, .int .i64 x_4235)]) ⟨rfl, rfl, rfl, rfl, rfl, rfl, rfl, rfl, rfl, rfl, rfl, rfl, rfl, rfl, trivial⟩ ?_
                      refine WC.block ?_
                      obtain ⟨J_4362, hJ_4363, hV⟩ := hV
                      refine WC.meet (fun a w => ∃ (x_4361 : Bool), J_4362 x_4361 ∧ St w0 H ([(b_16, .cells #[v_3434] 23 (0, 0))] ++ (fp_3435 ++ L)) w ∧ Fr 101 [(0, .int .i64 n_1), (1, v_4), (8, .pointer (some ⟨b_16, 0, none⟩)), (9, .func (.func 23) #[] #[.pointer (some ⟨b_16, 0, none⟩)]), (10, .func (.func 24) #[] #[.pointer (some ⟨b_16, 0, none⟩)]), (13, .bool again_3437), (16, .int .i64 left_4233), (18, .int .i64 (ix (ix clauses_3 x_3438) x_4235)), (38, v_4), (39, .int .i64 (clauses_3.length : Int)), (40, .int .i64 x_3438), (44, u_4160), (45, .int .i64 ((ix clauses_3 x_3438).length : Int)), (46, .int .i64 x_4235), (50, .bool x_4361)] a) ?_ ?_
                      · rintro a w ⟨x_4361, hI, hS, ha⟩
                        refine in_frame ha ?_
                        clear ha hV
                        have hV := hJ_4363 _ hI
                        clear hI hJ_4363
                        refine WC.cond rfl ?_ ?_
                        · intro hc_4377
                          replace hV := hV.1 hc_4377
                          refine WC.exit ?_
                          refine WQ.by rfl ?_
                          refine WQ.by rfl ?_
                          refine WQ.pass nofun ?_
                          refine WQ.pass nofun ?_
                          refine WQ.by rfl ?_
                          refine WQ.pass nofun ?_
                          refine WQ.hit ?_
                          replace hS := hS.f2
                          replace hS := hS.f2
                          exact WQ.there fun a ha => ⟨c_3433, again_3437, v_3434, fp_3435, hV, h_3436, hS, ha.of_sub ⟨rfl, rfl, rfl, rfl, rfl, rfl, rfl, rfl, rfl, trivial⟩⟩
                        · intro hc_4377
                          replace hV := hV.2 hc_4377
                          refine WC.seq ?_
                          refine WC.region ?_
                          refine WL.run hS rfl rfl rfl (ex_move rfl) ?_
                          refine WL.run hS rfl rfl rfl (ex_move rfl) ?_
                          replace hS := hS.f2
                          replace hS := hS.f2
                          refine WL.call rfl rfl rfl (enters_c (vs := [.int .i64 (ix (ix clauses_3 x_3438) x_4235)]) (caps := [.pointer (some ⟨b_16, 0, none⟩)]) rfl Tryd.call24 ⟨rfl, trivial⟩) (S_followOf  hr_4351 h_3436 hS hV) ?_
                          clear hV hS
                          rintro _ w ⟨r_4373, hV, rfl, hr_4374, hS⟩
                          refine ⟨_, rfl, ?_⟩
                          refine WL.run hS rfl rfl rfl (ex_eql rfl rfl) ?_
                          refine WL.run hS rfl rfl rfl (ex_assign rfl) ?_
                          refine WL.nil ?_
                          refine WQ.next ?_
                          refine WC.sub (m := [(0, .int .i64 n_1), (1, v_4), (8, .pointer (some ⟨b_16, 0, none⟩)), (9, .func (.func 23) #[] #[.pointer (some ⟨b_16, 0, none⟩)]), (10, .func (.func 24) #[] #[.pointer (some ⟨b_16, 0, none⟩)]), (13, .bool again_3437), (16, .int .i64 left_4233), (18, .int .i64 (ix (ix clauses_3 x_3438) x_4235)), (38, v_4), (39, .int .i64 (clauses_3.length : Int)), (40, .int .i64 x_3438), (44, u_4160), (45, .int .i64 ((ix clauses_3 x_3438).length : Int)), (46, .int .i64 x_4235), (68, .bool (decide (r_4373 = 0)))]) ⟨rfl, rfl, rfl, rfl, rfl, rfl, rfl, rfl, rfl, rfl, rfl, rfl, rfl, rfl, rfl, trivial⟩ ?_
                          refine WC.cond rfl ?_ ?_
                          · intro hc_4376
                            replace hV := hV.1 (of_decide_eq_true hc_4376)
                            refine WC.region ?_
                            refine WL.run hS rfl rfl rfl (ex_move rfl) ?_
                            refine WL.run hS rfl rfl rfl (ex_assign rfl) ?_
                            refine WL.nil ?_
                            refine WQ.out nofun ?_
                            refine WQ.out nofun ?_
                            replace hS := hS.f2
                            replace hS := hS.f2
                            exact WQ.there fun a ha => ⟨(ix (ix clauses_3 x_3438) x_4235), hV, hr_4351, hS, ha.of_sub ⟨rfl, rfl, rfl, rfl, rfl, rfl, rfl, rfl, rfl, rfl, rfl, rfl, rfl, trivial⟩⟩
                          · intro hc_4376
                            replace hV := hV.2 (of_decide_eq_false hc_4376)
                            refine WC.skip ?_
                            refine WQ.out nofun ?_
                            refine WQ.out nofun ?_
                            replace hS := hS.f2
                            replace hS := hS.f2
                            exact WQ.there fun a ha => ⟨left_4233, hV, hr_4234, hS, ha.of_sub ⟨rfl, rfl, rfl, rfl, rfl, rfl, rfl, rfl, rfl, rfl, rfl, rfl, rfl, trivial⟩⟩
                      · clear hJ_4363
                        refine WC.seq ?_
                        refine WC.region ?_
                        refine WL.run hS rfl rfl rfl (ex_move rfl) ?_
                        refine WL.run hS rfl rfl rfl (ex_move rfl) ?_
                        replace hS := hS.f2
                        replace hS := hS.f2
                        refine WL.call rfl rfl rfl (enters_c (vs := [.int .i64 (ix (ix clauses_3 x_3438) x_4235)]) (caps := [.pointer (some ⟨b_16, 0, none⟩)]) rfl Tryd.call24 ⟨rfl, trivial⟩) (S_followOf  hr_4351 h_3436 hS hV) ?_
                        clear hV hS
                        rintro _ w ⟨r_4364, hV, rfl, hr_4365, hS⟩
                        refine ⟨_, rfl, ?_⟩
                        refine WL.run hS rfl rfl rfl (ex_gtr rfl rfl) ?_
                        refine WL.run hS rfl rfl rfl (ex_assign rfl) ?_
                        refine WL.nil ?_
                        refine WQ.next ?_
                        refine WC.sub (m := [(0, .int .i64 n_1), (1, v_4), (8, .pointer (some ⟨b_16, 0, none⟩)), (9, .func (.func 23) #[] #[.pointer (some ⟨b_16, 0, none⟩)]), (10, .func (.func 24) #[] #[.pointer (some ⟨b_16, 0, none⟩)]), (13, .bool again_3437), (16, .int .i64 left_4233), (18, .int .i64 (ix (ix clauses_3 x_3438) x_4235)), (38, v_4), (39, .int .i64 (clauses_3.length : Int)), (40, .int .i64 x_3438), (44, u_4160), (45, .int .i64 ((ix clauses_3 x_3438).length : Int)), (46, .int .i64 x_4235), (50, .bool (decide (0 < r_4364)))]) ⟨rfl, rfl, rfl, rfl, rfl, rfl, rfl, rfl, rfl, rfl, rfl, rfl, rfl, rfl, rfl, trivial⟩ ?_
                        refine WC.cond rfl ?_ ?_
                        · intro hc_4372
                          replace hV := hV.1 (of_decide_eq_true hc_4372)
                          refine WC.skip ?_
                          replace hS := hS.f2
                          replace hS := hS.f2
                          exact WQ.there fun a ha => ⟨decide (0 < r_4364), hV, hS, ha.of_sub ⟨rfl, rfl, rfl, rfl, rfl, rfl, rfl, rfl, rfl, rfl, rfl, rfl, rfl, rfl, rfl, trivial⟩⟩
                        · intro hc_4372
                          replace hV := hV.2 (of_decide_eq_false hc_4372)
                          refine WC.region ?_
                          refine WL.run hS rfl rfl rfl (ex_move rfl) ?_
                          refine WL.run hS rfl rfl rfl (ex_move rfl) ?_
                          replace hS := hS.f2
                          replace hS := hS.f2
                          refine WL.call rfl rfl rfl (enters_c (vs := [.int .i64 (ix (ix clauses_3 x_3438) x_4235)]) (caps := [.pointer (some ⟨b_16, 0, none⟩)]) rfl Tryd.call24 ⟨rfl, trivial⟩) (S_followOf  hr_4351 h_3436 hS hV) ?_
                          clear hV hS
                          rintro _ w ⟨r_4367, hV, rfl, hr_4368, hS⟩
                          refine ⟨_, rfl, ?_⟩
                          refine WL.run hS rfl rfl rfl (ex_eql rfl rfl) ?_
                          refine WL.run hS rfl rfl rfl (ex_move rfl) ?_
                          rcases Bool.eq_false_or_eq_true (decide (r_4367 = 0)) with hg_4370 | hg_4370
                          · replace hV := hV.1 (of_decide_eq_true hg_4370)
                            refine WL.unguard rfl rfl hg_4370 ?_
                            refine WL.run hS rfl rfl rfl (ex_move rfl) ?_
                            refine WL.unguard rfl rfl hg_4370 ?_
                            refine WL.run hS rfl rfl rfl (ex_neq rfl rfl) ?_
                            refine WL.run hS rfl rfl rfl (ex_pick_t rfl hg_4370 rfl) ?_
                            refine WL.run hS rfl rfl rfl (ex_move rfl) ?_
                            rcases Bool.eq_false_or_eq_true (decide (left_4233 ≠ 0)) with hg_4371 | hg_4371
                            · replace hV := hV.1 (of_decide_eq_true hg_4371)
                              refine WL.unguard rfl rfl hg_4371 ?_
                              refine WL.run hS rfl rfl rfl (ex_move rfl) ?_
                              refine WL.unguard rfl rfl hg_4371 ?_
                              refine WL.run hS rfl rfl rfl (ex_move rfl) ?_
                              refine WL.unguard rfl rfl hg_4371 ?_
                              refine WL.run hS rfl rfl rfl (ex_neq rfl rfl) ?_
                              refine WL.run hS rfl rfl rfl (ex_pick_t rfl hg_4371 rfl) ?_
                              refine WL.run hS rfl rfl rfl (ex_assign rfl) ?_
                              refine WL.nil ?_
                              replace hS := hS.f2
                              replace hS := hS.f2
                              exact WQ.there fun a ha => ⟨decide (left_4233 ≠ (ix (ix clauses_3 x_3438) x_4235)), hV, hS, ha.of_sub ⟨rfl, rfl, rfl, rfl, rfl, rfl, rfl, rfl, rfl, rfl, rfl, rfl, rfl, rfl, rfl, trivial⟩⟩
                            · replace hV := hV.2 (of_decide_eq_false hg_4371)
                              refine WL.skip_g rfl rfl rfl hg_4371 rfl rfl ?_
                              refine WL.skip_g rfl rfl rfl hg_4371 rfl rfl ?_
                              refine WL.skip_g rfl rfl rfl hg_4371 rfl rfl ?_
                              refine WL.run hS rfl rfl rfl (ex_pick_f rfl hg_4371 rfl) ?_
                              refine WL.run hS rfl rfl rfl (ex_assign rfl) ?_
                              refine WL.nil ?_
                              replace hS := hS.f2
                              replace hS := hS.f2
                              exact WQ.there fun a ha => ⟨false, hV, hS, ha.of_sub ⟨rfl, rfl, rfl, rfl, rfl, rfl, rfl, rfl, rfl, rfl, rfl, rfl, rfl, rfl, rfl, trivial⟩⟩
                          · replace hV := hV.2 (of_decide_eq_false hg_4370)
                            refine WL.skip_g rfl rfl rfl hg_4370 rfl rfl ?_
                            refine WL.skip_g rfl rfl rfl hg_4370 rfl rfl ?_
                            refine WL.run hS rfl rfl rfl (ex_pick_f rfl hg_4370 rfl) ?_
                            refine WL.run hS rfl rfl rfl (ex_move rfl) ?_
                            refine WL.skip_g rfl rfl rfl rfl rfl rfl ?_
                            refine WL.skip_g rfl rfl rfl rfl rfl rfl ?_
                            refine WL.skip_g rfl rfl rfl rfl rfl rfl ?_
                            refine WL.run hS rfl rfl rfl (ex_pick_f rfl rfl rfl) ?_
                            refine WL.run hS rfl rfl rfl (ex_assign rfl) ?_
                            refine WL.nil ?_
                            replace hS := hS.f2
                            replace hS := hS.f2
                            exact WQ.there fun a ha => ⟨false, hV, hS, ha.of_sub ⟨rfl, rfl, rfl, rfl, rfl, rfl, rfl, rfl, rfl, rfl, rfl, rfl, rfl, rfl, rfl, trivial⟩⟩
                  · intro hc_4387
                    replace hV := hV.2 (of_decide_eq_false hc_4387)
                    refine WC.exit ?_
                    refine WQ.pass nofun ?_
                    refine WQ.pass nofun ?_
                    refine WQ.hit ?_
                    refine WQ.next ?_
                    refine WC.sub (m := [(0, .int .i64 n_1), (1, v_4), (8, .pointer (some ⟨b_16, 0, none⟩)), (9, .func (.func 23) #[] #[.pointer (some ⟨b_16, 0, none⟩)]), (10, .func (.func 24) #[] #[.pointer (some ⟨b_16, 0, none⟩)]), (16, .int .i64 left_4233), (38, v_4), (39, .int .i64 (clauses_3.length : Int)), (40, .int .i64 x_3438)]) ⟨rfl, rfl, rfl, rfl, rfl, rfl, rfl, rfl, rfl, trivial⟩ ?_
                    refine WC.seq ?_
                    refine WC.seq ?_
                    refine WC.region ?_
                    refine WL.run hS rfl rfl rfl (ex_move rfl) ?_
                    refine WL.run hS rfl rfl rfl (ex_eql rfl rfl) ?_
                    refine WL.nil ?_
                    refine WQ.next ?_
                    refine WC.sub (m := [(0, .int .i64 n_1), (1, v_4), (8, .pointer (some ⟨b_16, 0, none⟩)), (9, .func (.func 23) #[] #[.pointer (some ⟨b_16, 0, none⟩)]), (10, .func (.func 24) #[] #[.pointer (some ⟨b_16, 0, none⟩)]), (16, .int .i64 left_4233), (38, v_4), (39, .int .i64 (clauses_3.length : Int)), (40, .int .i64 x_3438), (76, .bool (decide (left_4233 = 0)))]) ⟨rfl, rfl, rfl, rfl, rfl, rfl, rfl, rfl, rfl, rfl, trivial⟩ ?_
                    refine WC.cond rfl ?_ ?_
                    · intro hc_4386
                      replace hV := hV.1 (of_decide_eq_true hc_4386)
                      refine WC.seq ?_
                      refine WC.region ?_
                      refine WL.run hS rfl rfl rfl (ex_assign rfl) ?_
                      refine WL.run hS rfl rfl rfl (ex_assign rfl) ?_
                      refine WL.nil ?_
                      refine WQ.next ?_
                      refine WC.sub (m := [(6, (.slice none 0 0)), (7, .bool false)]) ⟨rfl, rfl, trivial⟩ ?_
                      replace hS := hS.drop
                      replace hS := hS.drop
                      refine WC.ret ?_
                      refine WQ.pass nofun ?_
                      refine WQ.out nofun ?_
                      refine WQ.pass nofun ?_
                      refine WQ.pass nofun ?_
                      refine WQ.out nofun ?_
                      refine WQ.inScope nofun ?_
                      refine WQ.out nofun ?_
                      refine WQ.pass nofun ?_
                      refine WQ.out nofun ?_
                      refine WQ.pass nofun ?_
                      replace hS := hS.nilseg
                      exact leave2 rfl rfl rfl ⟨([] : List Int), false, (.slice none 0 0), ([] : Seg), hV, rfl, OwnSl.nil, hS⟩
                    · intro hc_4386
                      replace hV := hV.2 (of_decide_eq_false hc_4386)
                      refine WC.skip ?_
                      refine WQ.next ?_
                      refine WC.sub (m := [(0, .int .i64 n_1), (1, v_4), (8, .pointer (some ⟨b_16, 0, none⟩)), (9, .func (.func 23) #[] #[.pointer (some ⟨b_16, 0, none⟩)]), (10, .func (.func 24) #[] #[.pointer (some ⟨b_16, 0, none⟩)]), (16, .int .i64 left_4233), (38, v_4), (39, .int .i64 (clauses_3.length : Int)), (40, .int .i64 x_3438)]) ⟨rfl, rfl, rfl, rfl, rfl, rfl, rfl, rfl, rfl, trivial⟩ ?_
                      refine WC.seq ?_
                      refine WC.region ?_
                      refine WL.run hS rfl rfl rfl (ex_move rfl) ?_
                      refine WL.run hS rfl rfl rfl (ex_move rfl) ?_
                      replace hS := hS.f2
                      replace hS := hS.f2
                      refine WL.call rfl rfl rfl (enters_c (vs := [.int .i64 left_4233]) (caps := [.pointer (some ⟨b_16, 0, none⟩)]) rfl Tryd.call23 ⟨rfl, trivial⟩) (S_followSet  hr_4234 h_3436 hS hV) ?_
                      clear hV hS
                      rintro _ w ⟨r_4380, c_4381, v_4382, fp_4383, hV, rfl, h_4384, hS⟩
                      refine ⟨_, rfl, ?_⟩
                      refine WL.nil ?_
                      refine WQ.next ?_
                      refine WC.sub (m := [(0, .int .i64 n_1), (1, v_4), (8, .pointer (some ⟨b_16, 0, none⟩)), (9, .func (.func 23) #[] #[.pointer (some ⟨b_16, 0, none⟩)]), (10, .func (.func 24) #[] #[.pointer (some ⟨b_16, 0, none⟩)]), (38, v_4), (39, .int .i64 (clauses_3.length : Int)), (40, .int .i64 x_3438)]) ⟨rfl, rfl, rfl, rfl, rfl, rfl, rfl, rfl, trivial⟩ ?_
                      refine WC.region ?_
                      refine WL.run hS rfl rfl rfl (ex_assign rfl) ?_
                      refine WL.nil ?_
                      refine WQ.out nofun ?_
                      replace hS := hS.f2
                      replace hS := hS.f2
                      exact WQ.there fun a ha => ⟨c_4381, true, v_4382, fp_4383, hV, h_4384, hS, ha.of_sub ⟨rfl, rfl, rfl, rfl, rfl, rfl, rfl, rfl, rfl, trivial⟩⟩
            · intro hc_4390
              replace hV := hV.2 (of_decide_eq_false hc_4390)
              refine WC.exit ?_
              refine WQ.pass nofun ?_
              refine WQ.pass nofun ?_
              refine WQ.hit ?_
              refine WQ.inScope nofun ?_
              refine WQ.out nofun ?_
              replace hS := hS.f2
              replace hS := hS.f2
              exact WQ.there fun a ha => ⟨(c_3433, again_3437), ⟨c_3433, again_3437, v_3434, fp_3435, rfl, hV.1, h_3436, hS, ha.of_sub ⟨rfl, rfl, rfl, rfl, rfl, rfl, trivial⟩⟩, hV.2⟩
        · intro hc_4569
          replace hV := hV.2 hc_4569
          refine WC.exit ?_
          refine WQ.pass nofun ?_
          refine WQ.pass nofun ?_
          refine WQ.hit ?_
          refine WQ.next ?_
          refine WC.sub (m := [(0, .int .i64 n_1), (8, .pointer (some ⟨b_16, 0, none⟩))]) ⟨rfl, rfl, trivial⟩ ?_
          refine WC.seq ?_
          refine WC.region ?_
          refine WL.run hS rfl rfl rfl (ex_assign rfl) ?_
          refine WL.nil ?_
          refine WQ.next ?_
          refine WC.seq ?_
          refine WC.seq ?_
          refine WC.region ?_
          refine WL.run hS rfl rfl rfl (ex_assign rfl) ?_
          refine WL.nil ?_
          refine WQ.next ?_
          refine WC.block ?_
          replace hS := hS.nilseg
          replace hS := hS.f3
          replace hS := hS.f3
          obtain ⟨I_4510, mu_4511, hI_4568, hV⟩ := hV
          refine WC.loop (σ := (List Int) × Int) (fun s a w => ∃ (out_4449 : List Int) (v_4453 : Int) (v_4450 : Value) (fp_4451 : Seg), s = (out_4449, v_4453) ∧ I_4510 (out_4449, v_4453) ∧ OwnSl H (cInt .i64) 3 v_4450 out_4449 fp_4451 ∧ I64 v_4453 ∧ St w0 H ([(b_16, .cells #[v_1514] 23 (0, 0))] ++ (fp_1515 ++ (fp_4451 ++ L))) w ∧ Fr 101 [(0, .int .i64 n_1), (8, .pointer (some ⟨b_16, 0, none⟩)), (19, v_4450), (20, .int .i64 v_4453)] a) mu_4511 (([] : List Int), 1) ?_ ?_
          · exact fun a ha => ⟨([] : List Int), 1, (.slice none 0 0), ([] : Seg), rfl, hI_4568, OwnSl.nil, (by unfold I64; omega), hS, ha.of_sub ⟨rfl, rfl, rfl, rfl, trivial⟩⟩
          · clear hS hI_4568
            rintro _ a w ⟨out_4449, v_4453, v_4450, fp_4451, rfl, hI, h_4452, hr_4454, hS, ha⟩
            refine in_frame ha ?_
            clear ha
            replace hV := hV _ hI
            clear hI
            refine WC.seq ?_
            refine WC.seq ?_
            refine WC.region ?_
            refine WL.run hS rfl rfl rfl (ex_move rfl) ?_
            refine WL.run hS rfl rfl rfl (ex_move rfl) ?_
            refine WL.run hS rfl rfl rfl (ex_leq rfl rfl) ?_
            refine WL.nil ?_
            refine WQ.next ?_
            refine WC.sub (m := [(0, .int .i64 n_1), (8, .pointer (some ⟨b_16, 0, none⟩)), (19, v_4450), (20, .int .i64 v_4453), (83, .bool (decide (v_4453 ≤ n_1)))]) ⟨rfl, rfl, rfl, rfl, rfl, trivial⟩ ?_
            refine WC.cond rfl ?_ ?_
            · intro hc_4567
              replace hV := hV.1 (of_decide_eq_true hc_4567)
              refine WC.skip ?_
              refine WQ.next ?_
              refine WC.sub (m := [(0, .int .i64 n_1), (8, .pointer (some ⟨b_16, 0, none⟩)), (19, v_4450), (20, .int .i64 v_4453)]) ⟨rfl, rfl, rfl, rfl, trivial⟩ ?_
              obtain ⟨J_4541, hJ_4542, hV⟩ := hV
              refine WC.meet (fun a w => ∃ (out_4537 : List Int) (v_4538 : Value) (fp_4539 : Seg), J_4541 out_4537 ∧ OwnSl H (cInt .i64) 3 v_4538 out_4537 fp_4539 ∧ St w0 H ([(b_16, .cells #[v_1514] 23 (0, 0))] ++ (fp_1515 ++ (fp_4539 ++ L))) w ∧ Fr 101 [(0, .int .i64 n_1), (8, .pointer (some ⟨b_16, 0, none⟩)), (19, v_4538), (20, .int .i64 v_4453)] a) ?_ ?_
              · rintro a w ⟨out_4537, v_4538, fp_4539, hI, h_4540, hS, ha⟩
                refine in_frame ha ?_
                clear ha hV
                have hV := hJ_4542 _ hI
                clear hI hJ_4542
                refine WC.region ?_
                refine WL.run hS rfl rfl rfl (ex_move rfl) ?_
                obtain ⟨hi_4566, hV⟩ := hV
                refine WL.run hS rfl rfl rfl (ex_add rfl rfl hi_4566) ?_
                refine WL.run hS rfl rfl rfl (ex_assign rfl) ?_
                refine WL.nil ?_
                replace hS := hS.f3
                replace hS := hS.f3
                replace hS := hS.f3
                exact WQ.there fun a ha => ⟨(out_4537, (v_4453 + 1)), ⟨out_4537, (v_4453 + 1), v_4538, fp_4539, rfl, hV.1, h_4540, hi_4566, hS, ha.of_sub ⟨rfl, rfl, rfl, rfl, trivial⟩⟩, hV.2⟩
              · clear hJ_4542
                refine WC.block ?_
                refine WC.seq ?_
                refine WC.region ?_
                refine WL.run hS rfl rfl rfl (ex_load_box Tryd.isAgg23 rfl rfl) ?_
                refine WL.run hS rfl rfl rfl (ex_move rfl) ?_
                obtain ⟨hin_4543, hV⟩ := hV
                refine WL.runx hS rfl rfl rfl (ex_index_own Tryd.underlying23 Tryd.sizeOf3 rfl rfl h_1516 hin_4543) ?_
                intro p_4544 hp_4545
                replace hS := hS.f2
                refine WL.runx hS rfl rfl rfl (ex_load_own (w := w) hS Tryd.isAgg3 rfl rfl h_1516 hp_4545 hin_4543) ?_
                intro u_4546 hu_4547
                obtain ⟨rfl, hr_4548⟩ := cInt_rep hu_4547
                replace hr_4548 := has_I64 hr_4548
                replace hV := hV hr_4548
                refine WL.run hS rfl rfl rfl (ex_neq rfl rfl) ?_
                refine WL.nil ?_
                refine WQ.next ?_
                refine WC.sub (m := [(0, .int .i64 n_1), (8, .pointer (some ⟨b_16, 0, none⟩)), (19, v_4450), (20, .int .i64 v_4453), (90, .bool (decide ((ix c_1513 v_4453) ≠ 0)))]) ⟨rfl, rfl, rfl, rfl, rfl, trivial⟩ ?_
                refine WC.cond rfl ?_ ?_
                · intro hc_4565
                  replace hV := hV.1 (of_decide_eq_true hc_4565)
                  refine WC.region ?_
                  refine WL.run hS rfl rfl rfl (ex_move rfl) ?_
                  refine WL.run hS rfl rfl rfl (ex_move rfl) ?_
                  replace hS := hS.f2
                  refine WL.run hS rfl rfl rfl (ex_load_box Tryd.isAgg23 rfl rfl) ?_
                  refine WL.run hS rfl rfl rfl (ex_move rfl) ?_
                  obtain ⟨hin_4549, hV⟩ := hV
                  refine WL.runx hS rfl rfl rfl (ex_index_own Tryd.underlying23 Tryd.sizeOf3 rfl rfl h_1516 hin_4549) ?_
                  intro p_4550 hp_4551
                  replace hS := hS.f2
                  refine WL.runx hS rfl rfl rfl (ex_load_own (w := w) hS Tryd.isAgg3 rfl rfl h_1516 hp_4551 hin_4549) ?_
                  intro u_4552 hu_4553
                  obtain ⟨rfl, hr_4554⟩ := cInt_rep hu_4553
                  replace hr_4554 := has_I64 hr_4554
                  replace hV := hV hr_4554
                  obtain ⟨hi_4555, hV⟩ := hV
                  refine WL.run hS rfl rfl rfl (ex_mul rfl rfl hi_4555) ?_
                  refine WL.build1 (c := (cInt .i64)) rfl Tryd.underlying23 Tryd.info3 rfl rfl (cInt_mk (I64.has hi_4555)) hS ?_
                  clear hS
                  intro v_4557 w fp_4558 h_4559 hS
                  obtain ⟨hr_4560, hV⟩ := hV
                  replace hS := hS.f4
                  refine WL.append (c := (cInt .i64)) (xs := out_4449) (ys := ([(v_4453 * (ix c_1513 v_4453))])) rfl Tryd.underlying23 Tryd.info3 rfl rfl rfl hS h_4452 (h_4559.src hS.f2) hr_4560.1 hr_4560.2 ?_
                  clear hS
                  intro v_4561 w fp_4562 h_4563 hS
                  refine WL.run hS rfl rfl rfl (ex_assign rfl) ?_
                  refine WL.nil ?_
                  refine WQ.out nofun ?_
                  replace hS := hS.f2.drop
                  replace hS := hS.f2
                  replace hS := hS.f3
                  exact WQ.there fun a ha => ⟨(out_4449 ++ ([(v_4453 * (ix c_1513 v_4453))])), v_4561, fp_4562, hV, h_4563, hS, ha.of_sub ⟨rfl, rfl, rfl, rfl, trivial⟩⟩
                · intro hc_4565
                  replace hV := hV.2 (of_decide_eq_false hc_4565)
                  refine WC.skip ?_
                  refine WQ.out nofun ?_
                  replace hS := hS.f3
                  replace hS := hS.f2
                  replace hS := hS.f3
                  exact WQ.there fun a ha => ⟨out_4449, v_4450, fp_4451, hV, h_4452, hS, ha.of_sub ⟨rfl, rfl, rfl, rfl, trivial⟩⟩
            · intro hc_4567
              replace hV := hV.2 (of_decide_eq_false hc_4567)
              refine WC.exit ?_
              refine WQ.pass nofun ?_
              refine WQ.pass nofun ?_
              refine WQ.hit ?_
              refine WQ.next ?_
              refine WC.sub (m := [(19, v_4450)]) ⟨rfl, trivial⟩ ?_
              replace hS := hS.drop
              replace hS := hS.drop
              refine WC.seq ?_
              refine WC.region ?_
              refine WL.run hS rfl rfl rfl (ex_move rfl) ?_
              refine WL.run hS rfl rfl rfl (ex_assign rfl) ?_
              refine WL.run hS rfl rfl rfl (ex_assign rfl) ?_
              refine WL.nil ?_
              refine WQ.next ?_
              refine WC.sub (m := [(6, v_4450), (7, .bool true)]) ⟨rfl, rfl, trivial⟩ ?_
              refine WC.ret ?_
              exact leave2 rfl rfl rfl ⟨out_4449, true, v_4450, fp_4451, hV, rfl, h_4452, hS⟩

theorem S_Follow {w0 : World} {H : View} {L : Seg} {w : World} {n_1 : Int} {v_4 : Value} {clauses_3 : List (List Int)} {v_7 : Value} {given_6 : List Int} {Q : (List Int) → Bool → (Option Int) → Prop} (hr_2 : I64 n_1) (h_5 : IsSl H (cSl (cInt .i64)) v_4 clauses_3) (h_8 : IsSl H (cInt .i64) v_7 given_6) (hS : St w0 H (L) w) (hV : V_Follow n_1 clauses_3 given_6 Q) :
    Calls Tryd.prog 5 #[.int .i64 n_1, v_4, v_7] w fun e w' => ∃ (r1 : List Int) (r2 : Bool) (r3 : Option Int) (v1 : Value) (fp1 : Seg), Q r1 r2 r3 ∧ e = .returned (.tuple #[v1, .bool r2, errV 40 r3]) ∧ OwnSl H (cInt .i64) 3 v1 r1 fp1 ∧ St w0 H (fp1 ++ L) w' := by
  unfold V_Follow at hV
  refine enter Tryd.func5 rfl Tryd.ntmps5 rfl (lk_args_cons (d := 0) (v := .int .i64 n_1) rfl (lk_args_cons (d := 1) (v := v_4) rfl (lk_args_cons (d := 2) (v := v_7) rfl (lk_args_nil _)))) ?_
  refine WC.seq ?_
  refine WC.region ?_
  refine WL.run hS rfl rfl rfl (ex_assign rfl) ?_
  refine WL.run hS rfl rfl rfl (ex_assign rfl) ?_
  refine WL.run hS rfl rfl rfl (ex_assign rfl) ?_
  refine WL.nil ?_
  refine WQ.next ?_
  refine WC.sub (m := [(0, .int .i64 n_1), (1, v_4), (2, v_7)]) ⟨rfl, rfl, rfl, trivial⟩ ?_
  refine WC.seq ?_
  refine WC.seq ?_
  refine WC.region ?_
  refine WL.run hS rfl rfl rfl (ex_move rfl) ?_
  refine WL.run hS rfl rfl rfl (ex_move rfl) ?_
  refine WL.run hS rfl rfl rfl (ex_move rfl) ?_
  refine WL.call rfl rfl rfl (enters0 (vs := [.int .i64 n_1, v_4, v_7]) Tryd.call13 ⟨rfl, rfl, rfl, trivial⟩) (S_checked  hr_2 h_5 h_8 hS hV) ?_
  clear hV hS
  rintro _ w ⟨r_10, hV, rfl, hS⟩
  refine ⟨_, rfl, ?_⟩
  refine WL.run hS rfl rfl rfl (ex_assign rfl) ?_
  refine WL.nil ?_
  refine WQ.next ?_
  refine WC.sub (m := [(0, .int .i64 n_1), (1, v_4), (2, v_7), (9, (errV 40 r_10))]) ⟨rfl, rfl, rfl, rfl, trivial⟩ ?_
  refine WC.seq ?_
  refine WC.region ?_
  refine WL.run hS rfl rfl rfl (ex_move rfl) ?_
  refine WL.run hS rfl rfl rfl (ex_err_neq (T := 40) (e := r_10) Tryd.iface26 rfl rfl) ?_
  refine WL.nil ?_
  refine WQ.next ?_
  refine WC.sub (m := [(0, .int .i64 n_1), (1, v_4), (2, v_7), (9, (errV 40 r_10)), (17, .bool (decide (r_10 ≠ none)))]) ⟨rfl, rfl, rfl, rfl, rfl, trivial⟩ ?_
  refine WC.cond rfl ?_ ?_
  · intro hc_20
    replace hV := hV.1 (of_decide_eq_true hc_20)
    refine WC.seq ?_
    refine WC.region ?_
    refine WL.run hS rfl rfl rfl (ex_move rfl) ?_
    refine WL.run hS rfl rfl rfl (ex_assign rfl) ?_
    refine WL.run hS rfl rfl rfl (ex_assign rfl) ?_
    refine WL.run hS rfl rfl rfl (ex_assign rfl) ?_
    refine WL.nil ?_
    refine WQ.next ?_
    refine WC.sub (m := [(6, (.slice none 0 0)), (7, .bool false), (8, (errV 40 r_10))]) ⟨rfl, rfl, rfl, trivial⟩ ?_
    refine WC.ret ?_
    refine WQ.pass nofun ?_
    replace hS := hS.nilseg
    exact leave3 rfl rfl rfl rfl ⟨([] : List Int), false, r_10, (.slice none 0 0), ([] : Seg), hV, rfl, OwnSl.nil, hS⟩
  · intro hc_20
    replace hV := hV.2 (of_decide_eq_false hc_20)
    refine WC.skip ?_
    refine WQ.next ?_
    refine WC.sub (m := [(0, .int .i64 n_1), (1, v_4), (2, v_7)]) ⟨rfl, rfl, rfl, trivial⟩ ?_
    refine WC.seq ?_
    refine WC.region ?_
    refine WL.run hS rfl rfl rfl (ex_move rfl) ?_
    refine WL.run hS rfl rfl rfl (ex_move rfl) ?_
    refine WL.run hS rfl rfl rfl (ex_move rfl) ?_
    refine WL.call rfl rfl rfl (enters0 (vs := [.int .i64 n_1, v_4, v_7]) Tryd.call14 ⟨rfl, rfl, rfl, trivial⟩) (S_follow  hr_2 h_5 h_8 hS hV) ?_
    clear hV hS
    rintro _ w ⟨r_13, r_18, v_14, fp_15, hV, rfl, h_16, hS⟩
    refine ⟨_, rfl, ?_⟩
    refine WL.run hS rfl rfl rfl (ex_move rfl) ?_
    refine WL.run hS rfl rfl rfl (ex_extract rfl rfl) ?_
    refine WL.run hS rfl rfl rfl (ex_extract rfl rfl) ?_
    refine WL.run hS rfl rfl rfl (ex_assign rfl) ?_
    refine WL.run hS rfl rfl rfl (ex_assign rfl) ?_
    refine WL.nil ?_
    refine WQ.next ?_
    refine WC.sub (m := [(10, v_14), (11, .bool r_18)]) ⟨rfl, rfl, trivial⟩ ?_
    refine WC.seq ?_
    refine WC.region ?_
    refine WL.run hS rfl rfl rfl (ex_move rfl) ?_
    refine WL.run hS rfl rfl rfl (ex_move rfl) ?_
    refine WL.run hS rfl rfl rfl (ex_assign rfl) ?_
    refine WL.run hS rfl rfl rfl (ex_assign rfl) ?_
    refine WL.run hS rfl rfl rfl (ex_assign rfl) ?_
    refine WL.nil ?_
    refine WQ.next ?_
    refine WC.sub (m := [(6, v_14), (7, .bool r_18), (8, .nilIface)]) ⟨rfl, rfl, rfl, trivial⟩ ?_
    refine WC.ret ?_
    exact leave3 rfl rfl rfl rfl ⟨r_13, r_18, none, v_14, fp_15, hV, rfl, h_16, hS⟩

theorem S_refTrue {w0 : World} {H : View} {L : Seg} {w : World} {v_2 : Value} {val_1 : List Int} {Q : (List Int) → Prop} (h_3 : IsSl H (cInt .i64) v_2 val_1) (hS : St w0 H (L) w) (hV : V_refTrue val_1 Q) :
    Calls Tryd.prog 12 #[v_2] w fun e w' => ∃ (r1 : List Int) (v1 : Value) (fp1 : Seg), Q r1 ∧ e = .returned (v1) ∧ OwnSl H (cInt .i64) 3 v1 r1 fp1 ∧ St w0 H (fp1 ++ L) w' := by
  unfold V_refTrue at hV
  refine enter Tryd.func12 rfl Tryd.ntmps12 rfl (lk_args_cons (d := 0) (v := v_2) rfl (lk_args_nil _)) ?_
  refine WC.seq ?_
  refine WC.region ?_
  refine WL.run hS rfl rfl rfl (ex_assign rfl) ?_
  refine WL.nil ?_
  refine WQ.next ?_
  refine WC.sub (m := [(0, v_2)]) ⟨rfl, trivial⟩ ?_
  refine WC.seq ?_
  refine WC.region ?_
  refine WL.run hS rfl rfl rfl (ex_assign rfl) ?_
  refine WL.nil ?_
  refine WQ.next ?_
  refine WC.seq ?_
  refine WC.seq ?_
  refine WC.region ?_
  refine WL.run hS rfl rfl rfl (ex_assign rfl) ?_
  refine WL.nil ?_
  refine WQ.next ?_
  refine WC.block ?_
  replace hS := hS.nilseg
  obtain ⟨I_125, mu_126, hI_184, hV⟩ := hV
  refine WC.loop (σ := (List Int) × Int) (fun s a w => ∃ (l_63 : List Int) (i_67 : Int) (v_64 : Value) (fp_65 : Seg), s = (l_63, i_67) ∧ I_125 (l_63, i_67) ∧ OwnSl H (cInt .i64) 3 v_64 l_63 fp_65 ∧ I64 i_67 ∧ St w0 H (fp_65 ++ L) w ∧ Fr 26 [(0, v_2), (3, v_64), (4, .int .i64 i_67)] a) mu_126 (([] : List Int), 1) ?_ ?_
  · exact fun a ha => ⟨([] : List Int), 1, (.slice none 0 0), ([] : Seg), rfl, hI_184, OwnSl.nil, (by unfold I64; omega), hS, ha.of_sub ⟨rfl, rfl, rfl, trivial⟩⟩
  · clear hS hI_184
    rintro _ a w ⟨l_63, i_67, v_64, fp_65, rfl, hI, h_66, hr_68, hS, ha⟩
    refine in_frame ha ?_
    clear ha
    replace hV := hV _ hI
    clear hI
    refine WC.seq ?_
    refine WC.seq ?_
    refine WC.region ?_
    refine WL.run hS rfl rfl rfl (ex_move rfl) ?_
    refine WL.run hS rfl rfl rfl (ex_move rfl) ?_
    have hl_128 : Len val_1 := h_3.bound
    replace hV := hV hl_128
    refine WL.run hS rfl rfl rfl (ex_len_sl Tryd.underlying23 rfl h_3) ?_
    refine WL.run hS rfl rfl rfl (ex_lss rfl rfl) ?_
    refine WL.nil ?_
    refine WQ.next ?_
    refine WC.sub (m := [(0, v_2), (3, v_64), (4, .int .i64 i_67), (8, .bool (decide (i_67 < (val_1.length : Int))))]) ⟨rfl, rfl, rfl, rfl, trivial⟩ ?_
    refine WC.cond rfl ?_ ?_
    · intro hc_183
      replace hV := hV.1 (of_decide_eq_true hc_183)
      refine WC.skip ?_
      refine WQ.next ?_
      refine WC.sub (m := [(0, v_2), (3, v_64), (4, .int .i64 i_67)]) ⟨rfl, rfl, rfl, trivial⟩ ?_
      obtain ⟨J_157, hJ_158, hV⟩ := hV
      refine WC.meet (fun a w => ∃ (l_153 : List Int) (v_154 : Value) (fp_155 : Seg), J_157 l_153 ∧ OwnSl H (cInt .i64) 3 v_154 l_153 fp_155 ∧ St w0 H (fp_155 ++ L) w ∧ Fr 26 [(0, v_2), (3, v_154), (4, .int .i64 i_67)] a) ?_ ?_
      · rintro a w ⟨l_153, v_154, fp_155, hI, h_156, hS, ha⟩
        refine in_frame ha ?_
        clear ha hV
        have hV := hJ_158 _ hI
        clear hI hJ_158
        refine WC.region ?_
        refine WL.run hS rfl rfl rfl (ex_move rfl) ?_
        obtain ⟨hi_182, hV⟩ := hV
        refine WL.run hS rfl rfl rfl (ex_add rfl rfl hi_182) ?_
        refine WL.run hS rfl rfl rfl (ex_assign rfl) ?_
        refine WL.nil ?_
        exact WQ.there fun a ha => ⟨(l_153, (i_67 + 1)), ⟨l_153, (i_67 + 1), v_154, fp_155, rfl, hV.1, h_156, hi_182, hS, ha.of_sub ⟨rfl, rfl, rfl, trivial⟩⟩, hV.2⟩
      · clear hJ_158
        refine WC.block ?_
        refine WC.seq ?_
        refine WC.region ?_
        refine WL.run hS rfl rfl rfl (ex_move rfl) ?_
        refine WL.run hS rfl rfl rfl (ex_move rfl) ?_
        obtain ⟨hin_159, hV⟩ := hV
        refine WL.runx hS rfl rfl rfl (ex_index Tryd.underlying23 Tryd.sizeOf3 rfl rfl h_3 hin_159) ?_
        intro p_160 hp_161
        refine WL.runx hS rfl rfl rfl (ex_load Tryd.isAgg3 rfl rfl hp_161) ?_
        intro u_162 hu_163
        obtain ⟨rfl, hr_164⟩ := cInt_rep hu_163
        replace hr_164 := has_I64 hr_164
        replace hV := hV hr_164
        refine WL.run hS rfl rfl rfl (ex_neq rfl rfl) ?_
        refine WL.nil ?_
        refine WQ.next ?_
        refine WC.sub (m := [(0, v_2), (3, v_64), (4, .int .i64 i_67), (15, .bool (decide ((ix val_1 i_67) ≠ 0)))]) ⟨rfl, rfl, rfl, rfl, trivial⟩ ?_
        refine WC.cond rfl ?_ ?_
        · intro hc_181
          replace hV := hV.1 (of_decide_eq_true hc_181)
          refine WC.region ?_
          refine WL.run hS rfl rfl rfl (ex_move rfl) ?_
          refine WL.run hS rfl rfl rfl (ex_move rfl) ?_
          refine WL.run hS rfl rfl rfl (ex_move rfl) ?_
          obtain ⟨hin_165, hV⟩ := hV
          refine WL.runx hS rfl rfl rfl (ex_index Tryd.underlying23 Tryd.sizeOf3 rfl rfl h_3 hin_165) ?_
          intro p_166 hp_167
          refine WL.runx hS rfl rfl rfl (ex_load Tryd.isAgg3 rfl rfl hp_167) ?_
          intro u_168 hu_169
          obtain ⟨rfl, hr_170⟩ := cInt_rep hu_169
          replace hr_170 := has_I64 hr_170
          replace hV := hV hr_170
          refine WL.run hS rfl rfl rfl (ex_move rfl) ?_
          obtain ⟨hi_171, hV⟩ := hV
          refine WL.run hS rfl rfl rfl (ex_mul rfl rfl hi_171) ?_
          refine WL.build1 (c := (cInt .i64)) rfl Tryd.underlying23 Tryd.info3 rfl rfl (cInt_mk (I64.has hi_171)) hS ?_
          clear hS
          intro v_173 w fp_174 h_175 hS
          obtain ⟨hr_176, hV⟩ := hV
          replace hS := hS.f2
          refine WL.append (c := (cInt .i64)) (xs := l_63) (ys := ([((ix val_1 i_67) * i_67)])) rfl Tryd.underlying23 Tryd.info3 rfl rfl rfl hS h_66 (h_175.src hS.f2) hr_176.1 hr_176.2 ?_
          clear hS
          intro v_177 w fp_178 h_179 hS
          refine WL.run hS rfl rfl rfl (ex_assign rfl) ?_
          refine WL.nil ?_
          refine WQ.out nofun ?_
          replace hS := hS.f2.drop
          exact WQ.there fun a ha => ⟨(l_63 ++ ([((ix val_1 i_67) * i_67)])), v_177, fp_178, hV, h_179, hS, ha.of_sub ⟨rfl, rfl, rfl, trivial⟩⟩
        · intro hc_181
          replace hV := hV.2 (of_decide_eq_false hc_181)
          refine WC.skip ?_
          refine WQ.out nofun ?_
          exact WQ.there fun a ha => ⟨l_63, v_64, fp_65, hV, h_66, hS, ha.of_sub ⟨rfl, rfl, rfl, trivial⟩⟩
    · intro hc_183
      replace hV := hV.2 (of_decide_eq_false hc_183)
      refine WC.exit ?_
      refine WQ.pass nofun ?_
      refine WQ.pass nofun ?_
      refine WQ.hit ?_
      refine WQ.next ?_
      refine WC.sub (m := [(3, v_64)]) ⟨rfl, trivial⟩ ?_
      refine WC.seq ?_
      refine WC.region ?_
      refine WL.run hS rfl rfl rfl (ex_move rfl) ?_
      refine WL.run hS rfl rfl rfl (ex_assign rfl) ?_
      refine WL.nil ?_
      refine WQ.next ?_
      refine WC.sub (m := [(2, v_64)]) ⟨rfl, trivial⟩ ?_
      refine WC.ret ?_
      exact leave1 rfl rfl ⟨l_63, v_64, fp_65, hV, rfl, h_66, hS⟩

theorem S_lawLiterals {w0 : World} {H : View} {L : Seg} {w : World} {n_1 : Int} {v_4 : Value} {l_3 : List Int} {Q : Bool → Prop} (hr_2 : I64 n_1) (h_5 : IsSl H (cInt .i64) v_4 l_3) (hS : St w0 H (L) w) (hV : V_lawLiterals n_1 l_3 Q) :
    Calls Tryd.prog 7 #[.int .i64 n_1, v_4] w fun e w' => ∃ (r1 : Bool), Q r1 ∧ e = .returned (.bool r1) ∧ St w0 H (L) w' := by
  unfold V_lawLiterals at hV
  refine enter Tryd.func7 rfl Tryd.ntmps7 rfl (lk_args_cons (d := 0) (v := .int .i64 n_1) rfl (lk_args_cons (d := 1) (v := v_4) rfl (lk_args_nil _))) ?_
  refine WC.seq ?_
  refine WC.region ?_
  refine WL.run hS rfl rfl rfl (ex_assign rfl) ?_
  refine WL.nil ?_
  refine WQ.next ?_
  refine WC.sub (m := [(0, .int .i64 n_1), (1, v_4)]) ⟨rfl, rfl, trivial⟩ ?_
  refine WC.seq ?_
  refine WC.seq ?_
  refine WC.region ?_
  refine WL.run hS rfl rfl rfl (ex_assign rfl) ?_
  refine WL.nil ?_
  refine WQ.next ?_
  refine WC.block ?_
  obtain ⟨I_32, mu_33, hI_47, hV⟩ := hV
  refine WC.loop (σ := Int) (fun s a w => ∃ (i_18 : Int), s = i_18 ∧ I_32 i_18 ∧ I64 i_18 ∧ St w0 H (L) w ∧ Fr 21 [(0, .int .i64 n_1), (1, v_4), (5, .int .i64 i_18)] a) mu_33 0 ?_ ?_
  · exact fun a ha => ⟨0, rfl, hI_47, (by unfold I64; omega), hS, ha.of_sub ⟨rfl, rfl, rfl, trivial⟩⟩
  · clear hS hI_47
    rintro i_18 a w ⟨_, rfl, hI, hr_19, hS, ha⟩
    refine in_frame ha ?_
    clear ha
    replace hV := hV _ hI
    clear hI
    refine WC.seq ?_
    refine WC.seq ?_
    refine WC.region ?_
    refine WL.run hS rfl rfl rfl (ex_move rfl) ?_
    refine WL.run hS rfl rfl rfl (ex_move rfl) ?_
    have hl_35 : Len l_3 := h_5.bound
    replace hV := hV hl_35
    refine WL.run hS rfl rfl rfl (ex_len_sl Tryd.underlying23 rfl h_5) ?_
    refine WL.run hS rfl rfl rfl (ex_lss rfl rfl) ?_
    refine WL.nil ?_
    refine WQ.next ?_
    refine WC.sub (m := [(0, .int .i64 n_1), (1, v_4), (5, .int .i64 i_18), (10, .bool (decide (i_18 < (l_3.length : Int))))]) ⟨rfl, rfl, rfl, rfl, trivial⟩ ?_
    refine WC.cond rfl ?_ ?_
    · intro hc_46
      replace hV := hV.1 (of_decide_eq_true hc_46)
      refine WC.skip ?_
      refine WQ.next ?_
      refine WC.sub (m := [(0, .int .i64 n_1), (1, v_4), (5, .int .i64 i_18)]) ⟨rfl, rfl, rfl, trivial⟩ ?_
      refine WC.seq ?_
      refine WC.block ?_
      refine WC.seq ?_
      refine WC.region ?_
      refine WL.run hS rfl rfl rfl (ex_move rfl) ?_
      refine WL.run hS rfl rfl rfl (ex_move rfl) ?_
      refine WL.run hS rfl rfl rfl (ex_move rfl) ?_
      obtain ⟨hin_36, hV⟩ := hV
      refine WL.runx hS rfl rfl rfl (ex_index Tryd.underlying23 Tryd.sizeOf3 rfl rfl h_5 hin_36) ?_
      intro p_37 hp_38
      refine WL.runx hS rfl rfl rfl (ex_load Tryd.isAgg3 rfl rfl hp_38) ?_
      intro u_39 hu_40
      obtain ⟨rfl, hr_41⟩ := cInt_rep hu_40
      replace hr_41 := has_I64 hr_41
      replace hV := hV hr_41
      refine WL.call rfl rfl rfl (enters0 (vs := [.int .i64 n_1, .int .i64 (ix l_3 i_18)]) Tryd.call16 ⟨rfl, rfl, trivial⟩) (S_Literal  hr_2 hr_41 hS hV) ?_
      clear hV hS
      rintro _ w ⟨r_42, hV, rfl, hS⟩
      refine ⟨_, rfl, ?_⟩
      refine WL.run hS rfl rfl rfl (ex_assign rfl) ?_
      refine WL.nil ?_
      refine WQ.next ?_
      refine WC.sub (m := [(0, .int .i64 n_1), (1, v_4), (5, .int .i64 i_18), (6, .bool r_42)]) ⟨rfl, rfl, rfl, rfl, trivial⟩ ?_
      refine WC.seq ?_
      refine WC.region ?_
      refine WL.run hS rfl rfl rfl (ex_move rfl) ?_
      refine WL.run hS rfl rfl rfl (ex_not rfl) ?_
      refine WL.nil ?_
      refine WQ.next ?_
      refine WC.sub (m := [(0, .int .i64 n_1), (1, v_4), (5, .int .i64 i_18), (20, .bool (!r_42))]) ⟨rfl, rfl, rfl, rfl, trivial⟩ ?_
      refine WC.cond rfl ?_ ?_
      · intro hc_45
        replace hV := hV.1 hc_45
        refine WC.seq ?_
        refine WC.region ?_
        refine WL.run hS rfl rfl rfl (ex_assign rfl) ?_
        refine WL.nil ?_
        refine WQ.next ?_
        refine WC.sub (m := [(4, .bool false)]) ⟨rfl, trivial⟩ ?_
        refine WC.ret ?_
        refine WQ.out nofun ?_
        refine WQ.pass nofun ?_
        refine WQ.pass nofun ?_
        refine WQ.out nofun ?_
        refine WQ.pass nofun ?_
        exact leave1 rfl rfl ⟨false, hV, rfl, hS⟩
      · intro hc_45
        replace hV := hV.2 hc_45
        refine WC.skip ?_
        refine WQ.out nofun ?_
        refine WQ.next ?_
        refine WC.sub (m := [(0, .int .i64 n_1), (1, v_4), (5, .int .i64 i_18)]) ⟨rfl, rfl, rfl, trivial⟩ ?_
        refine WC.region ?_
        refine WL.run hS rfl rfl rfl (ex_move rfl) ?_
        obtain ⟨hi_44, hV⟩ := hV
        refine WL.run hS rfl rfl rfl (ex_add rfl rfl hi_44) ?_
        refine WL.run hS rfl rfl rfl (ex_assign rfl) ?_
        refine WL.nil ?_
        exact WQ.there fun a ha => ⟨(i_18 + 1), ⟨(i_18 + 1), rfl, hV.1, hi_44, hS, ha.of_sub ⟨rfl, rfl, rfl, trivial⟩⟩, hV.2⟩
    · intro hc_46
      replace hV := hV.2 (of_decide_eq_false hc_46)
      refine WC.exit ?_
      refine WQ.pass nofun ?_
      refine WQ.pass nofun ?_
      refine WQ.hit ?_
      refine WQ.next ?_
      refine WC.sub (m := []) trivial ?_
      refine WC.seq ?_
      refine WC.region ?_
      refine WL.run hS rfl rfl rfl (ex_assign rfl) ?_
      refine WL.nil ?_
      refine WQ.next ?_
      refine WC.ret ?_
      exact leave1 rfl rfl ⟨true, hV, rfl, hS⟩

theorem S_Told {w0 : World} {H : View} {L : Seg} {w : World} {err_1 : Option Int} {Q : Int → Prop} (hG : Glob H) (hS : St w0 H (L) w) (hV : V_Told err_1 Q) :
    Calls Tryd.prog 17 #[(errV 40 err_1)] w fun e w' => ∃ (r1 : Int), Q r1 ∧ e = .returned (.int .i64 r1) ∧ I64 r1 ∧ St w0 H (L) w' := by
  unfold V_Told at hV
  refine enter Tryd.func17 rfl Tryd.ntmps17 rfl (lk_args_cons (d := 0) (v := (errV 40 err_1)) rfl (lk_args_nil _)) ?_
  refine WC.seq ?_
  refine WC.region ?_
  refine WL.run hS rfl rfl rfl (ex_assign rfl) ?_
  refine WL.nil ?_
  refine WQ.next ?_
  refine WC.sub (m := [(0, (errV 40 err_1))]) ⟨rfl, trivial⟩ ?_
  refine WC.seq ?_
  refine WC.seq ?_
  refine WC.region ?_
  refine WL.run hS rfl rfl rfl (ex_move rfl) ?_
  refine WL.run hS rfl rfl rfl (ex_err_eql (T := 40) (e := err_1) Tryd.iface26 rfl rfl) ?_
  refine WL.nil ?_
  refine WQ.next ?_
  refine WC.sub (m := [(0, (errV 40 err_1)), (5, .bool (decide (err_1 = none)))]) ⟨rfl, rfl, trivial⟩ ?_
  refine WC.cond rfl ?_ ?_
  · intro hc_9
    replace hV := hV.1 (of_decide_eq_true hc_9)
    refine WC.seq ?_
    refine WC.region ?_
    refine WL.run hS rfl rfl rfl (ex_assign rfl) ?_
    refine WL.nil ?_
    refine WQ.next ?_
    refine WC.sub (m := [(2, .int .i64 0)]) ⟨rfl, trivial⟩ ?_
    refine WC.ret ?_
    refine WQ.pass nofun ?_
    exact leave1 rfl rfl ⟨0, hV, rfl, (by unfold I64; omega), hS⟩
  · intro hc_9
    replace hV := hV.2 (of_decide_eq_false hc_9)
    refine WC.skip ?_
    refine WQ.next ?_
    refine WC.sub (m := [(0, (errV 40 err_1))]) ⟨rfl, trivial⟩ ?_
    refine WC.seq ?_
    refine WC.region ?_
    refine WL.alloc (arr := #[.int .i64 0]) rfl Tryd.zeroValue40 rfl hS ?_
    clear hS
    intro b_2 w hS
    refine WL.nil ?_
    refine WQ.next ?_
    refine WC.seq ?_
    refine WC.seq ?_
    refine WC.region ?_
    refine WL.run hS rfl rfl rfl (ex_move rfl) ?_
    refine WL.run hS rfl rfl rfl (ex_makeIface Tryd.concrete50 rfl) ?_
    refine WL.call rfl rfl rfl (enters0 (vs := [(errV 40 err_1), .iface 50 (.pointer (some ⟨b_2, 0, none⟩))]) Tryd.call25 ⟨rfl, rfl, trivial⟩) (S_As  (by unfold I64; omega) hG hS hV) ?_
    clear hV hS
    rintro _ w ⟨r_4, c_5, hV, rfl, hr_6, hS⟩
    refine ⟨_, rfl, ?_⟩
    refine WL.nil ?_
    refine WQ.next ?_
    refine WC.sub (m := [(3, .pointer (some ⟨b_2, 0, none⟩)), (8, .bool r_4)]) ⟨rfl, rfl, trivial⟩ ?_
    refine WC.cond rfl ?_ ?_
    · intro hc_8
      replace hV := hV.1 hc_8
      refine WC.seq ?_
      refine WC.region ?_
      refine WL.run hS rfl rfl rfl (ex_load_box Tryd.isAgg40 rfl rfl) ?_
      refine WL.run hS rfl rfl rfl (ex_assign rfl) ?_
      refine WL.nil ?_
      refine WQ.next ?_
      refine WC.sub (m := [(2, .int .i64 c_5)]) ⟨rfl, trivial⟩ ?_
      replace hS := hS.drop
      refine WC.ret ?_
      refine WQ.pass nofun ?_
      exact leave1 rfl rfl ⟨c_5, hV, rfl, hr_6, hS⟩
    · intro hc_8
      replace hV := hV.2 hc_8
      refine WC.skip ?_
      refine WQ.next ?_
      refine WC.sub (m := []) trivial ?_
      replace hS := hS.drop
      refine WC.seq ?_
      refine WC.region ?_
      refine WL.run hS rfl rfl rfl (ex_assign rfl) ?_
      refine WL.nil ?_
      refine WQ.next ?_
      refine WC.ret ?_
      exact leave1 rfl rfl ⟨(-1), hV, rfl, (by unfold I64; omega), hS⟩

theorem S_Error {w0 : World} {H : View} {L : Seg} {w : World} {err_1 : Option Int} {e_2 : Int} {Q : Bool → Prop} (hr_3 : I64 e_2) (hG : Glob H) (hS : St w0 H (L) w) (hV : V_Error err_1 e_2 Q) :
    Calls Tryd.prog 8 #[(errV 40 err_1), .int .i64 e_2] w fun e w' => ∃ (r1 : Bool), Q r1 ∧ e = .returned (.bool r1) ∧ St w0 H (L) w' := by
  unfold V_Error at hV
  refine enter Tryd.func8 rfl Tryd.ntmps8 rfl (lk_args_cons (d := 0) (v := (errV 40 err_1)) rfl (lk_args_cons (d := 1) (v := .int .i64 e_2) rfl (lk_args_nil _))) ?_
  refine WC.seq ?_
  refine WC.region ?_
  refine WL.run hS rfl rfl rfl (ex_assign rfl) ?_
  refine WL.nil ?_
  refine WQ.next ?_
  refine WC.sub (m := [(0, (errV 40 err_1)), (1, .int .i64 e_2)]) ⟨rfl, rfl, trivial⟩ ?_
  refine WC.seq ?_
  refine WC.region ?_
  refine WL.run hS rfl rfl rfl (ex_move rfl) ?_
  refine WL.call rfl rfl rfl (enters0 (vs := [(errV 40 err_1)]) Tryd.call17 ⟨rfl, trivial⟩) (S_Told  hG hS hV) ?_
  clear hV hS
  rintro _ w ⟨r_4, hV, rfl, hr_5, hS⟩
  refine ⟨_, rfl, ?_⟩
  refine WL.run hS rfl rfl rfl (ex_assign rfl) ?_
  refine WL.nil ?_
  refine WQ.next ?_
  refine WC.sub (m := [(1, .int .i64 e_2), (5, .int .i64 r_4)]) ⟨rfl, rfl, trivial⟩ ?_
  refine WC.seq ?_
  refine WC.region ?_
  refine WL.run hS rfl rfl rfl (ex_move rfl) ?_
  refine WL.run hS rfl rfl rfl (ex_move rfl) ?_
  refine WL.run hS rfl rfl rfl (ex_eql rfl rfl) ?_
  refine WL.run hS rfl rfl rfl (ex_assign rfl) ?_
  refine WL.nil ?_
  refine WQ.next ?_
  refine WC.sub (m := [(4, .bool (decide (r_4 = e_2)))]) ⟨rfl, trivial⟩ ?_
  refine WC.ret ?_
  exact leave1 rfl rfl ⟨decide (r_4 = e_2), hV, rfl, hS⟩

end Go.Proofs.YtdflojjpjklbfaaDoor
