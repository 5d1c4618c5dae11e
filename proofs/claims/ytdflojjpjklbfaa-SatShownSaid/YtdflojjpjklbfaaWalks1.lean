/- For each function: called, it does its work where its condition is so. Printed by program. -/
import Derived.Test.YtdflojjpjklbfaaFacts
import Derived.Test.YtdflojjpjklbfaaConds
import Derived.Test.YtdflojjpjklbfaaManS
set_option linter.unusedVariables false
set_option maxRecDepth 100000
namespace Go.Proofs.Ytdflojjpjklbfaa
open Go.Vc
theorem S_sameInts {w0 : World} {H : View} {L : Seg} {w : World} {v_2 : Value} {a_1 : List Int} {v_5 : Value} {b_4 : List Int} {Q : Bool → Prop} (h_3 : IsSl H (cInt .i64) v_2 a_1) (h_6 : IsSl H (cInt .i64) v_5 b_4) (hS : St w0 H (L) w) (hV : V_sameInts a_1 b_4 Q) :
    Calls Try.prog 23 #[v_2, v_5] w fun e w' => ∃ (r1 : Bool), Q r1 ∧ e = .returned (.bool r1) ∧ St w0 H (L) w' := by
  unfold V_sameInts at hV
  refine enter Try.func23 rfl Try.ntmps23 rfl (lk_args_cons (d := 0) (v := v_2) rfl (lk_args_cons (d := 1) (v := v_5) rfl (lk_args_nil _))) ?_
  refine WC.seq ?_
  refine WC.region ?_
  refine WL.run hS rfl rfl rfl (ex_assign rfl) ?_
  refine WL.nil ?_
  refine WQ.next ?_
  refine WC.sub (m := [(0, v_2), (1, v_5)]) ⟨rfl, rfl, trivial⟩ ?_
  refine WC.seq ?_
  refine WC.seq ?_
  refine WC.region ?_
  refine WL.run hS rfl rfl rfl (ex_move rfl) ?_
  have hl_7 : Len a_1 := h_3.bound
  replace hV := hV hl_7
  refine WL.run hS rfl rfl rfl (ex_len_sl Try.underlying31 rfl h_3) ?_
  refine WL.run hS rfl rfl rfl (ex_move rfl) ?_
  have hl_8 : Len b_4 := h_6.bound
  replace hV := hV hl_8
  refine WL.run hS rfl rfl rfl (ex_len_sl Try.underlying31 rfl h_6) ?_
  refine WL.run hS rfl rfl rfl (ex_neq rfl rfl) ?_
  refine WL.nil ?_
  refine WQ.next ?_
  refine WC.sub (m := [(0, v_2), (1, v_5), (10, .bool (decide ((a_1.length : Int) ≠ (b_4.length : Int))))]) ⟨rfl, rfl, rfl, trivial⟩ ?_
  refine WC.cond rfl ?_ ?_
  · intro hc_63
    replace hV := hV.1 (of_decide_eq_true hc_63)
    refine WC.seq ?_
    refine WC.region ?_
    refine WL.run hS rfl rfl rfl (ex_assign rfl) ?_
    refine WL.nil ?_
    refine WQ.next ?_
    refine WC.sub (m := [(4, .bool false)]) ⟨rfl, trivial⟩ ?_
    refine WC.ret ?_
    refine WQ.pass nofun ?_
    exact leave1 rfl rfl ⟨false, hV, rfl, hS⟩
  · intro hc_63
    replace hV := hV.2 (of_decide_eq_false hc_63)
    refine WC.skip ?_
    refine WQ.next ?_
    refine WC.sub (m := [(0, v_2), (1, v_5)]) ⟨rfl, rfl, trivial⟩ ?_
    refine WC.seq ?_
    refine WC.seq ?_
    refine WC.region ?_
    refine WL.run hS rfl rfl rfl (ex_assign rfl) ?_
    refine WL.nil ?_
    refine WQ.next ?_
    refine WC.block ?_
    obtain ⟨I_43, mu_44, hI_62, hV⟩ := hV
    refine WC.loop (σ := Int) (fun s a w => ∃ (i_25 : Int), s = i_25 ∧ I_43 i_25 ∧ I64 i_25 ∧ St w0 H (L) w ∧ Fr 26 [(0, v_2), (1, v_5), (5, .int .i64 i_25)] a) mu_44 0 ?_ ?_
    · exact fun a ha => ⟨0, rfl, hI_62, (by unfold I64; omega), hS, ha.of_sub ⟨rfl, rfl, rfl, trivial⟩⟩
    · clear hS hI_62
      rintro i_25 a w ⟨_, rfl, hI, hr_26, hS, ha⟩
      refine in_frame ha ?_
      clear ha
      replace hV := hV _ hI
      clear hI
      refine WC.seq ?_
      refine WC.seq ?_
      refine WC.region ?_
      refine WL.run hS rfl rfl rfl (ex_move rfl) ?_
      refine WL.run hS rfl rfl rfl (ex_move rfl) ?_
      have hl_46 : Len a_1 := h_3.bound
      replace hV := hV hl_46
      refine WL.run hS rfl rfl rfl (ex_len_sl Try.underlying31 rfl h_3) ?_
      refine WL.run hS rfl rfl rfl (ex_lss rfl rfl) ?_
      refine WL.nil ?_
      refine WQ.next ?_
      refine WC.sub (m := [(0, v_2), (1, v_5), (5, .int .i64 i_25), (14, .bool (decide (i_25 < (a_1.length : Int))))]) ⟨rfl, rfl, rfl, rfl, trivial⟩ ?_
      refine WC.cond rfl ?_ ?_
      · intro hc_61
        replace hV := hV.1 (of_decide_eq_true hc_61)
        refine WC.skip ?_
        refine WQ.next ?_
        refine WC.sub (m := [(0, v_2), (1, v_5), (5, .int .i64 i_25)]) ⟨rfl, rfl, rfl, trivial⟩ ?_
        refine WC.seq ?_
        refine WC.block ?_
        refine WC.seq ?_
        refine WC.quiet (C := St w0 H (L)) Try.mixed (by kernel_rfl) (hS.drawn _) ?_
        clear hS w
        refine Wq.run rfl rfl rfl (ex_move rfl) ?_
        refine Wq.run rfl rfl rfl (ex_move rfl) ?_
        obtain ⟨hin_47, hV⟩ := hV
        refine Wq.runx rfl rfl rfl (ex_index Try.underlying31 Try.sizeOf3 rfl rfl h_3 hin_47) ?_
        intro p_48 hp_49
        refine Wq.runx rfl rfl rfl (ex_load Try.isAgg3 rfl rfl hp_49) ?_
        intro u_50 hu_51
        obtain ⟨rfl, hr_52⟩ := cInt_rep hu_51
        replace hr_52 := has_I64 hr_52
        replace hV := hV hr_52
        refine Wq.run rfl rfl rfl (ex_move rfl) ?_
        refine Wq.run rfl rfl rfl (ex_move rfl) ?_
        obtain ⟨hin_53, hV⟩ := hV
        refine Wq.runx rfl rfl rfl (ex_index Try.underlying31 Try.sizeOf3 rfl rfl h_6 hin_53) ?_
        intro p_54 hp_55
        refine Wq.runx rfl rfl rfl (ex_load Try.isAgg3 rfl rfl hp_55) ?_
        intro u_56 hu_57
        obtain ⟨rfl, hr_58⟩ := cInt_rep hu_57
        replace hr_58 := has_I64 hr_58
        replace hV := hV hr_58
        refine Wq.run rfl rfl rfl (ex_neq rfl rfl) ?_
        refine Wq.nil fun w hS => ?_
        refine WQ.next ?_
        refine WC.sub (m := [(0, v_2), (1, v_5), (5, .int .i64 i_25), (25, .bool (decide ((ix a_1 i_25) ≠ (ix b_4 i_25))))]) ⟨rfl, rfl, rfl, rfl, trivial⟩ ?_
        refine WC.cond rfl ?_ ?_
        · intro hc_60
          replace hV := hV.1 (of_decide_eq_true hc_60)
          refine WC.seq ?_
          refine WC.region ?_
          refine WL.run hS rfl rfl rfl (ex_assign rfl) ?_
          refine WL.nil ?_
          refine WQ.next ?_
          refine WC.sub (m := [(4, .bool false)]) ⟨rfl, trivial⟩ ?_
          refine WC.ret ?_
          refine WQ.out nofun ?_
          refine WQ.pass nofun ?_
          refine WQ.pass nofun ?_
          refine WQ.out nofun ?_
          refine WQ.pass nofun ?_
          exact leave1 rfl rfl ⟨false, hV, rfl, hS⟩
        · intro hc_60
          replace hV := hV.2 (of_decide_eq_false hc_60)
          refine WC.skip ?_
          refine WQ.out nofun ?_
          refine WQ.next ?_
          refine WC.sub (m := [(0, v_2), (1, v_5), (5, .int .i64 i_25)]) ⟨rfl, rfl, rfl, trivial⟩ ?_
          refine WC.region ?_
          refine WL.run hS rfl rfl rfl (ex_move rfl) ?_
          obtain ⟨hi_59, hV⟩ := hV
          refine WL.run hS rfl rfl rfl (ex_add rfl rfl hi_59) ?_
          refine WL.run hS rfl rfl rfl (ex_assign rfl) ?_
          refine WL.nil ?_
          exact WQ.there fun a ha => ⟨(i_25 + 1), ⟨(i_25 + 1), rfl, hV.1, hi_59, hS, ha.of_sub ⟨rfl, rfl, rfl, trivial⟩⟩, hV.2⟩
      · intro hc_61
        replace hV := hV.2 (of_decide_eq_false hc_61)
        refine WC.exit ?_
        refine WQ.pass nofun ?_
        refine WQ.pass nofun ?_
        refine WQ.hit ?_
        refine WQ.next ?_
        refine WC.sub (m := []) trivial ?_
        refine WC.seq ?_
        refine WC.region ?_
        refine WL.run hS rfl rfl rfl (ex_assign rfl) ?_
        refine WL.nil ?_
        refine WQ.next ?_
        refine WC.ret ?_
        exact leave1 rfl rfl ⟨true, hV, rfl, hS⟩

theorem S_size {w0 : World} {H : View} {L : Seg} {w : World} {l_1 : Int} {Q : Int → Prop} (hr_2 : I64 l_1) (hS : St w0 H (L) w) (hV : V_size l_1 Q) :
    Calls Try.prog 37 #[.int .i64 l_1] w fun e w' => ∃ (r1 : Int), Q r1 ∧ e = .returned (.int .i64 r1) ∧ I64 r1 ∧ St w0 H (L) w' := by
  unfold V_size at hV
  refine enter Try.func37 rfl Try.ntmps37 rfl (lk_args_cons (d := 0) (v := .int .i64 l_1) rfl (lk_args_nil _)) ?_
  refine WC.seq ?_
  refine WC.region ?_
  refine WL.run hS rfl rfl rfl (ex_assign rfl) ?_
  refine WL.nil ?_
  refine WQ.next ?_
  refine WC.sub (m := [(0, .int .i64 l_1)]) ⟨rfl, trivial⟩ ?_
  refine WC.seq ?_
  refine WC.seq ?_
  refine WC.region ?_
  refine WL.run hS rfl rfl rfl (ex_move rfl) ?_
  refine WL.run hS rfl rfl rfl (ex_lss rfl rfl) ?_
  refine WL.nil ?_
  refine WQ.next ?_
  refine WC.sub (m := [(0, .int .i64 l_1), (4, .bool (decide (l_1 < 0)))]) ⟨rfl, rfl, trivial⟩ ?_
  refine WC.cond rfl ?_ ?_
  · intro hc_3
    replace hV := hV.1 (of_decide_eq_true hc_3)
    refine WC.seq ?_
    refine WC.region ?_
    refine WL.run hS rfl rfl rfl (ex_move rfl) ?_
    refine WL.run hS rfl rfl rfl (ex_wneg rfl hr_2) ?_
    refine WL.run hS rfl rfl rfl (ex_assign rfl) ?_
    refine WL.nil ?_
    refine WQ.next ?_
    refine WC.sub (m := [(2, .int .i64 (wneg l_1))]) ⟨rfl, trivial⟩ ?_
    refine WC.ret ?_
    refine WQ.pass nofun ?_
    exact leave1 rfl rfl ⟨(wneg l_1), hV, rfl, (wneg_I64 _ hr_2), hS⟩
  · intro hc_3
    replace hV := hV.2 (of_decide_eq_false hc_3)
    refine WC.skip ?_
    refine WQ.next ?_
    refine WC.sub (m := [(0, .int .i64 l_1)]) ⟨rfl, trivial⟩ ?_
    refine WC.seq ?_
    refine WC.region ?_
    refine WL.run hS rfl rfl rfl (ex_move rfl) ?_
    refine WL.run hS rfl rfl rfl (ex_assign rfl) ?_
    refine WL.nil ?_
    refine WQ.next ?_
    refine WC.sub (m := [(2, .int .i64 l_1)]) ⟨rfl, trivial⟩ ?_
    refine WC.ret ?_
    exact leave1 rfl rfl ⟨l_1, hV, rfl, hr_2, hS⟩

theorem S_Literal {w0 : World} {H : View} {L : Seg} {w : World} {n_1 : Int} {l_3 : Int} {Q : Bool → Prop} (hr_2 : I64 n_1) (hr_4 : I64 l_3) (hS : St w0 H (L) w) (hV : V_Literal n_1 l_3 Q) :
    Calls Try.prog 33 #[.int .i64 n_1, .int .i64 l_3] w fun e w' => ∃ (r1 : Bool), Q r1 ∧ e = .returned (.bool r1) ∧ St w0 H (L) w' := by
  unfold V_Literal at hV
  refine enter Try.func33 rfl Try.ntmps33 rfl (lk_args_cons (d := 0) (v := .int .i64 n_1) rfl (lk_args_cons (d := 1) (v := .int .i64 l_3) rfl (lk_args_nil _))) ?_
  refine WC.seq ?_
  refine WC.region ?_
  refine WL.run hS rfl rfl rfl (ex_assign rfl) ?_
  refine WL.nil ?_
  refine WQ.next ?_
  refine WC.sub (m := [(0, .int .i64 n_1), (1, .int .i64 l_3)]) ⟨rfl, rfl, trivial⟩ ?_
  obtain ⟨J_8, hJ_9, hV⟩ := hV
  refine WC.meet (fun a w => ∃ (x_7 : Bool), J_8 x_7 ∧ St w0 H (L) w ∧ Fr 18 [(4, .bool x_7)] a) ?_ ?_
  · rintro a w ⟨x_7, hI, hS, ha⟩
    refine in_frame ha ?_
    clear ha hV
    have hV := hJ_9 _ hI
    clear hI hJ_9
    refine WC.ret ?_
    exact leave1 rfl rfl ⟨x_7, hV, rfl, hS⟩
  · clear hJ_9
    refine WC.region ?_
    refine WL.run hS rfl rfl rfl (ex_move rfl) ?_
    refine WL.run hS rfl rfl rfl (ex_neq rfl rfl) ?_
    refine WL.run hS rfl rfl rfl (ex_move rfl) ?_
    rcases Bool.eq_false_or_eq_true (decide (l_3 ≠ 0)) with hg_10 | hg_10
    · replace hV := hV.1 (of_decide_eq_true hg_10)
      refine WL.unguard rfl rfl hg_10 ?_
      refine WL.run hS rfl rfl rfl (ex_move rfl) ?_
      refine WL.unguard rfl rfl hg_10 ?_
      refine WL.run hS rfl rfl rfl (ex_move rfl) ?_
      refine WL.unguard rfl rfl hg_10 ?_
      refine WL.run hS rfl rfl rfl (ex_wneg rfl hr_2) ?_
      refine WL.unguard rfl rfl hg_10 ?_
      refine WL.run hS rfl rfl rfl (ex_geq rfl rfl) ?_
      refine WL.run hS rfl rfl rfl (ex_pick_t rfl hg_10 rfl) ?_
      refine WL.run hS rfl rfl rfl (ex_move rfl) ?_
      rcases Bool.eq_false_or_eq_true (decide ((wneg n_1) ≤ l_3)) with hg_11 | hg_11
      · replace hV := hV.1 (of_decide_eq_true hg_11)
        refine WL.unguard rfl rfl hg_11 ?_
        refine WL.run hS rfl rfl rfl (ex_move rfl) ?_
        refine WL.unguard rfl rfl hg_11 ?_
        refine WL.run hS rfl rfl rfl (ex_move rfl) ?_
        refine WL.unguard rfl rfl hg_11 ?_
        refine WL.run hS rfl rfl rfl (ex_leq rfl rfl) ?_
        refine WL.run hS rfl rfl rfl (ex_pick_t rfl hg_11 rfl) ?_
        refine WL.run hS rfl rfl rfl (ex_assign rfl) ?_
        refine WL.nil ?_
        exact WQ.there fun a ha => ⟨decide (l_3 ≤ n_1), hV, hS, ha.of_sub ⟨rfl, trivial⟩⟩
      · replace hV := hV.2 (of_decide_eq_false hg_11)
        refine WL.skip_g rfl rfl rfl hg_11 rfl rfl ?_
        refine WL.skip_g rfl rfl rfl hg_11 rfl rfl ?_
        refine WL.skip_g rfl rfl rfl hg_11 rfl rfl ?_
        refine WL.run hS rfl rfl rfl (ex_pick_f rfl hg_11 rfl) ?_
        refine WL.run hS rfl rfl rfl (ex_assign rfl) ?_
        refine WL.nil ?_
        exact WQ.there fun a ha => ⟨false, hV, hS, ha.of_sub ⟨rfl, trivial⟩⟩
    · replace hV := hV.2 (of_decide_eq_false hg_10)
      refine WL.skip_g rfl rfl rfl hg_10 rfl rfl ?_
      refine WL.skip_g rfl rfl rfl hg_10 rfl rfl ?_
      refine WL.skip_g rfl rfl rfl hg_10 rfl rfl ?_
      refine WL.skip_g rfl rfl rfl hg_10 rfl rfl ?_
      refine WL.run hS rfl rfl rfl (ex_pick_f rfl hg_10 rfl) ?_
      refine WL.run hS rfl rfl rfl (ex_move rfl) ?_
      refine WL.skip_g rfl rfl rfl rfl rfl rfl ?_
      refine WL.skip_g rfl rfl rfl rfl rfl rfl ?_
      refine WL.skip_g rfl rfl rfl rfl rfl rfl ?_
      refine WL.run hS rfl rfl rfl (ex_pick_f rfl rfl rfl) ?_
      refine WL.run hS rfl rfl rfl (ex_assign rfl) ?_
      refine WL.nil ?_
      exact WQ.there fun a ha => ⟨false, hV, hS, ha.of_sub ⟨rfl, trivial⟩⟩

theorem S_refLiterals {w0 : World} {H : View} {L : Seg} {w : World} {n_1 : Int} {v_4 : Value} {l_3 : List Int} {Q : Bool → Prop} (hr_2 : I64 n_1) (h_5 : IsSl H (cInt .i64) v_4 l_3) (hS : St w0 H (L) w) (hV : V_refLiterals n_1 l_3 Q) :
    Calls Try.prog 20 #[.int .i64 n_1, v_4] w fun e w' => ∃ (r1 : Bool), Q r1 ∧ e = .returned (.bool r1) ∧ St w0 H (L) w' := by
  unfold V_refLiterals at hV
  refine enter Try.func20 rfl Try.ntmps20 rfl (lk_args_cons (d := 0) (v := .int .i64 n_1) rfl (lk_args_cons (d := 1) (v := v_4) rfl (lk_args_nil _))) ?_
  refine WC.seq ?_
  refine WC.region ?_
  refine WL.run hS rfl rfl rfl (ex_assign rfl) ?_
  refine WL.nil ?_
  refine WQ.next ?_
  refine WC.sub (m := [(0, .int .i64 n_1), (1, v_4)]) ⟨rfl, rfl, trivial⟩ ?_
  refine WC.seq ?_
  refine WC.seq ?_
  refine WC.region ?_
  refine WL.run hS rfl rfl rfl (ex_assign rfl) ?_
  refine WL.nil ?_
  refine WQ.next ?_
  refine WC.block ?_
  obtain ⟨I_32, mu_33, hI_47, hV⟩ := hV
  refine WC.loop (σ := Int) (fun s a w => ∃ (i_18 : Int), s = i_18 ∧ I_32 i_18 ∧ I64 i_18 ∧ St w0 H (L) w ∧ Fr 21 [(0, .int .i64 n_1), (1, v_4), (5, .int .i64 i_18)] a) mu_33 0 ?_ ?_
  · exact fun a ha => ⟨0, rfl, hI_47, (by unfold I64; omega), hS, ha.of_sub ⟨rfl, rfl, rfl, trivial⟩⟩
  · clear hS hI_47
    rintro i_18 a w ⟨_, rfl, hI, hr_19, hS, ha⟩
    refine in_frame ha ?_
    clear ha
    replace hV := hV _ hI
    clear hI
    refine WC.seq ?_
    refine WC.seq ?_
    refine WC.region ?_
    refine WL.run hS rfl rfl rfl (ex_move rfl) ?_
    refine WL.run hS rfl rfl rfl (ex_move rfl) ?_
    have hl_35 : Len l_3 := h_5.bound
    replace hV := hV hl_35
    refine WL.run hS rfl rfl rfl (ex_len_sl Try.underlying31 rfl h_5) ?_
    refine WL.run hS rfl rfl rfl (ex_lss rfl rfl) ?_
    refine WL.nil ?_
    refine WQ.next ?_
    refine WC.sub (m := [(0, .int .i64 n_1), (1, v_4), (5, .int .i64 i_18), (10, .bool (decide (i_18 < (l_3.length : Int))))]) ⟨rfl, rfl, rfl, rfl, trivial⟩ ?_
    refine WC.cond rfl ?_ ?_
    · intro hc_46
      replace hV := hV.1 (of_decide_eq_true hc_46)
      refine WC.skip ?_
      refine WQ.next ?_
      refine WC.sub (m := [(0, .int .i64 n_1), (1, v_4), (5, .int .i64 i_18)]) ⟨rfl, rfl, rfl, trivial⟩ ?_
      refine WC.seq ?_
      refine WC.block ?_
      refine WC.seq ?_
      refine WC.region ?_
      refine WL.run hS rfl rfl rfl (ex_move rfl) ?_
      refine WL.run hS rfl rfl rfl (ex_move rfl) ?_
      refine WL.run hS rfl rfl rfl (ex_move rfl) ?_
      obtain ⟨hin_36, hV⟩ := hV
      refine WL.runx hS rfl rfl rfl (ex_index Try.underlying31 Try.sizeOf3 rfl rfl h_5 hin_36) ?_
      intro p_37 hp_38
      refine WL.runx hS rfl rfl rfl (ex_load Try.isAgg3 rfl rfl hp_38) ?_
      intro u_39 hu_40
      obtain ⟨rfl, hr_41⟩ := cInt_rep hu_40
      replace hr_41 := has_I64 hr_41
      replace hV := hV hr_41
      refine WL.call rfl rfl rfl (enters0 (vs := [.int .i64 n_1, .int .i64 (ix l_3 i_18)]) Try.call33 ⟨rfl, rfl, trivial⟩) (S_Literal  hr_2 hr_41 hS hV) ?_
      clear hV hS
      rintro _ w ⟨r_42, hV, rfl, hS⟩
      refine ⟨_, rfl, ?_⟩
      refine WL.run hS rfl rfl rfl (ex_assign rfl) ?_
      refine WL.nil ?_
      refine WQ.next ?_
      refine WC.sub (m := [(0, .int .i64 n_1), (1, v_4), (5, .int .i64 i_18), (6, .bool r_42)]) ⟨rfl, rfl, rfl, rfl, trivial⟩ ?_
      refine WC.seq ?_
      refine WC.region ?_
      refine WL.run hS rfl rfl rfl (ex_move rfl) ?_
      refine WL.run hS rfl rfl rfl (ex_not rfl) ?_
      refine WL.nil ?_
      refine WQ.next ?_
      refine WC.sub (m := [(0, .int .i64 n_1), (1, v_4), (5, .int .i64 i_18), (20, .bool (!r_42))]) ⟨rfl, rfl, rfl, rfl, trivial⟩ ?_
      refine WC.cond rfl ?_ ?_
      · intro hc_45
        replace hV := hV.1 hc_45
        refine WC.seq ?_
        refine WC.region ?_
        refine WL.run hS rfl rfl rfl (ex_assign rfl) ?_
        refine WL.nil ?_
        refine WQ.next ?_
        refine WC.sub (m := [(4, .bool false)]) ⟨rfl, trivial⟩ ?_
        refine WC.ret ?_
        refine WQ.out nofun ?_
        refine WQ.pass nofun ?_
        refine WQ.pass nofun ?_
        refine WQ.out nofun ?_
        refine WQ.pass nofun ?_
        exact leave1 rfl rfl ⟨false, hV, rfl, hS⟩
      · intro hc_45
        replace hV := hV.2 hc_45
        refine WC.skip ?_
        refine WQ.out nofun ?_
        refine WQ.next ?_
        refine WC.sub (m := [(0, .int .i64 n_1), (1, v_4), (5, .int .i64 i_18)]) ⟨rfl, rfl, rfl, trivial⟩ ?_
        refine WC.region ?_
        refine WL.run hS rfl rfl rfl (ex_move rfl) ?_
        obtain ⟨hi_44, hV⟩ := hV
        refine WL.run hS rfl rfl rfl (ex_add rfl rfl hi_44) ?_
        refine WL.run hS rfl rfl rfl (ex_assign rfl) ?_
        refine WL.nil ?_
        exact WQ.there fun a ha => ⟨(i_18 + 1), ⟨(i_18 + 1), rfl, hV.1, hi_44, hS, ha.of_sub ⟨rfl, rfl, rfl, trivial⟩⟩, hV.2⟩
    · intro hc_46
      replace hV := hV.2 (of_decide_eq_false hc_46)
      refine WC.exit ?_
      refine WQ.pass nofun ?_
      refine WQ.pass nofun ?_
      refine WQ.hit ?_
      refine WQ.next ?_
      refine WC.sub (m := []) trivial ?_
      refine WC.seq ?_
      refine WC.region ?_
      refine WL.run hS rfl rfl rfl (ex_assign rfl) ?_
      refine WL.nil ?_
      refine WQ.next ?_
      refine WC.ret ?_
      exact leave1 rfl rfl ⟨true, hV, rfl, hS⟩

theorem S_Fault {w0 : World} {H : View} {L : Seg} {w : World} {n_1 : Int} {v_4 : Value} {clauses_3 : List (List Int)} {Q : Int → Prop} (hr_2 : I64 n_1) (h_5 : IsSl H (cSl (cInt .i64)) v_4 clauses_3) (hS : St w0 H (L) w) (hV : V_Fault n_1 clauses_3 Q) :
    Calls Try.prog 19 #[.int .i64 n_1, v_4] w fun e w' => ∃ (r1 : Int), Q r1 ∧ e = .returned (.int .i64 r1) ∧ I64 r1 ∧ St w0 H (L) w' := by
  unfold V_Fault at hV
  refine enter Try.func19 rfl Try.ntmps19 rfl (lk_args_cons (d := 0) (v := .int .i64 n_1) rfl (lk_args_cons (d := 1) (v := v_4) rfl (lk_args_nil _))) ?_
  refine WC.seq ?_
  refine WC.region ?_
  refine WL.run hS rfl rfl rfl (ex_assign rfl) ?_
  refine WL.nil ?_
  refine WQ.next ?_
  refine WC.sub (m := [(0, .int .i64 n_1), (1, v_4)]) ⟨rfl, rfl, trivial⟩ ?_
  refine WC.seq ?_
  refine WC.seq ?_
  refine WC.via (m := [(0, .int .i64 n_1), (1, v_4), (12, .bool (decide ((n_1 < 0) ∨ (16777216 < n_1))))]) ?_ ?_
  · refine WC.region ?_
    refine WL.run hS rfl rfl rfl (ex_move rfl) ?_
    refine WL.run hS rfl rfl rfl (ex_lss rfl rfl) ?_
    refine WL.run hS rfl rfl rfl (ex_move rfl) ?_
    rcases Bool.eq_false_or_eq_true (decide (n_1 < 0)) with hg_6 | hg_6
    · refine WL.skip_g rfl rfl rfl hg_6 rfl rfl ?_
      refine WL.skip_g rfl rfl rfl hg_6 rfl rfl ?_
      refine WL.run hS rfl rfl rfl (ex_pick_t rfl hg_6 rfl) ?_
      refine WL.sub (m := [(0, .int .i64 n_1), (1, v_4), (7, .int .i64 n_1), (8, .bool (decide (n_1 < 0))), (9, .bool (decide (n_1 < 0))), (10, undef), (11, undef), (12, .bool (decide ((n_1 < 0) ∨ (16777216 < n_1))))]) ⟨rfl, rfl, rfl, rfl, rfl, rfl, rfl, congrArg (fun b => some (Value.bool b)) (or_t hg_6 : true = decide ((n_1 < 0) ∨ (16777216 < n_1))), trivial⟩ ?_
      exact WL.nil (At.of ⟨rfl, rfl, rfl, trivial⟩)
    · refine WL.unguard rfl rfl hg_6 ?_
      refine WL.run hS rfl rfl rfl (ex_move rfl) ?_
      refine WL.unguard rfl rfl hg_6 ?_
      refine WL.run hS rfl rfl rfl (ex_gtr rfl rfl) ?_
      refine WL.run hS rfl rfl rfl (ex_pick_f rfl hg_6 rfl) ?_
      refine WL.sub (m := [(0, .int .i64 n_1), (1, v_4), (7, .int .i64 n_1), (8, .bool (decide (n_1 < 0))), (9, .bool (decide (n_1 < 0))), (10, .int .i64 n_1), (11, .bool (decide (16777216 < n_1))), (12, .bool (decide ((n_1 < 0) ∨ (16777216 < n_1))))]) ⟨rfl, rfl, rfl, rfl, rfl, rfl, rfl, congrArg (fun b => some (Value.bool b)) (or_f hg_6 : decide (16777216 < n_1) = decide ((n_1 < 0) ∨ (16777216 < n_1))), trivial⟩ ?_
      exact WL.nil (At.of ⟨rfl, rfl, rfl, trivial⟩)
  · refine WQ.next ?_
    refine WC.cond rfl ?_ ?_
    · intro hc_48
      replace hV := hV.1 (of_decide_eq_true hc_48)
      refine WC.seq ?_
      refine WC.region ?_
      refine WL.run hS rfl rfl rfl (ex_assign rfl) ?_
      refine WL.nil ?_
      refine WQ.next ?_
      refine WC.sub (m := [(4, .int .i64 5)]) ⟨rfl, trivial⟩ ?_
      refine WC.ret ?_
      refine WQ.pass nofun ?_
      exact leave1 rfl rfl ⟨5, hV, rfl, (by unfold I64; omega), hS⟩
    · intro hc_48
      replace hV := hV.2 (of_decide_eq_false hc_48)
      refine WC.skip ?_
      refine WQ.next ?_
      refine WC.sub (m := [(0, .int .i64 n_1), (1, v_4)]) ⟨rfl, rfl, trivial⟩ ?_
      refine WC.seq ?_
      refine WC.seq ?_
      refine WC.region ?_
      refine WL.run hS rfl rfl rfl (ex_move rfl) ?_
      have hl_7 : Len clauses_3 := h_5.bound
      replace hV := hV hl_7
      refine WL.run hS rfl rfl rfl (ex_len_sl Try.underlying22 rfl h_5) ?_
      refine WL.run hS rfl rfl rfl (ex_gtr rfl rfl) ?_
      refine WL.nil ?_
      refine WQ.next ?_
      refine WC.sub (m := [(0, .int .i64 n_1), (1, v_4), (15, .bool (decide (33554432 < (clauses_3.length : Int))))]) ⟨rfl, rfl, rfl, trivial⟩ ?_
      refine WC.cond rfl ?_ ?_
      · intro hc_47
        replace hV := hV.1 (of_decide_eq_true hc_47)
        refine WC.seq ?_
        refine WC.region ?_
        refine WL.run hS rfl rfl rfl (ex_assign rfl) ?_
        refine WL.nil ?_
        refine WQ.next ?_
        refine WC.sub (m := [(4, .int .i64 6)]) ⟨rfl, trivial⟩ ?_
        refine WC.ret ?_
        refine WQ.pass nofun ?_
        exact leave1 rfl rfl ⟨6, hV, rfl, (by unfold I64; omega), hS⟩
      · intro hc_47
        replace hV := hV.2 (of_decide_eq_false hc_47)
        refine WC.skip ?_
        refine WQ.next ?_
        refine WC.sub (m := [(0, .int .i64 n_1), (1, v_4)]) ⟨rfl, rfl, trivial⟩ ?_
        refine WC.seq ?_
        refine WC.seq ?_
        refine WC.region ?_
        refine WL.run hS rfl rfl rfl (ex_assign rfl) ?_
        refine WL.nil ?_
        refine WQ.next ?_
        refine WC.block ?_
        obtain ⟨I_32, mu_33, hI_46, hV⟩ := hV
        refine WC.loop (σ := Int) (fun s a w => ∃ (i_19 : Int), s = i_19 ∧ I_32 i_19 ∧ I64 i_19 ∧ St w0 H (L) w ∧ Fr 30 [(0, .int .i64 n_1), (1, v_4), (5, .int .i64 i_19)] a) mu_33 0 ?_ ?_
        · exact fun a ha => ⟨0, rfl, hI_46, (by unfold I64; omega), hS, ha.of_sub ⟨rfl, rfl, rfl, trivial⟩⟩
        · clear hS hI_46
          rintro i_19 a w ⟨_, rfl, hI, hr_20, hS, ha⟩
          refine in_frame ha ?_
          clear ha
          replace hV := hV _ hI
          clear hI
          refine WC.seq ?_
          refine WC.seq ?_
          refine WC.region ?_
          refine WL.run hS rfl rfl rfl (ex_move rfl) ?_
          refine WL.run hS rfl rfl rfl (ex_move rfl) ?_
          have hl_35 : Len clauses_3 := h_5.bound
          replace hV := hV hl_35
          refine WL.run hS rfl rfl rfl (ex_len_sl Try.underlying22 rfl h_5) ?_
          refine WL.run hS rfl rfl rfl (ex_lss rfl rfl) ?_
          refine WL.nil ?_
          refine WQ.next ?_
          refine WC.sub (m := [(0, .int .i64 n_1), (1, v_4), (5, .int .i64 i_19), (19, .bool (decide (i_19 < (clauses_3.length : Int))))]) ⟨rfl, rfl, rfl, rfl, trivial⟩ ?_
          refine WC.cond rfl ?_ ?_
          · intro hc_45
            replace hV := hV.1 (of_decide_eq_true hc_45)
            refine WC.skip ?_
            refine WQ.next ?_
            refine WC.sub (m := [(0, .int .i64 n_1), (1, v_4), (5, .int .i64 i_19)]) ⟨rfl, rfl, rfl, trivial⟩ ?_
            refine WC.seq ?_
            refine WC.block ?_
            refine WC.seq ?_
            refine WC.region ?_
            refine WL.run hS rfl rfl rfl (ex_move rfl) ?_
            refine WL.run hS rfl rfl rfl (ex_move rfl) ?_
            refine WL.run hS rfl rfl rfl (ex_move rfl) ?_
            obtain ⟨hin_36, hV⟩ := hV
            refine WL.runx hS rfl rfl rfl (ex_index Try.underlying22 Try.sizeOf31 rfl rfl h_5 hin_36) ?_
            intro p_37 hp_38
            refine WL.runx hS rfl rfl rfl (ex_load Try.isAgg31 rfl rfl hp_38) ?_
            intro u_39 hu_40
            replace hu_40 := cSl_rep hu_40
            refine WL.call rfl rfl rfl (enters0 (vs := [.int .i64 n_1, u_39]) Try.call20 ⟨rfl, rfl, trivial⟩) (S_refLiterals  hr_2 hu_40 hS hV) ?_
            clear hV hS
            rintro _ w ⟨r_41, hV, rfl, hS⟩
            refine ⟨_, rfl, ?_⟩
            refine WL.run hS rfl rfl rfl (ex_assign rfl) ?_
            refine WL.nil ?_
            refine WQ.next ?_
            refine WC.sub (m := [(0, .int .i64 n_1), (1, v_4), (5, .int .i64 i_19), (6, .bool r_41)]) ⟨rfl, rfl, rfl, rfl, trivial⟩ ?_
            refine WC.seq ?_
            refine WC.region ?_
            refine WL.run hS rfl rfl rfl (ex_move rfl) ?_
            refine WL.run hS rfl rfl rfl (ex_not rfl) ?_
            refine WL.nil ?_
            refine WQ.next ?_
            refine WC.sub (m := [(0, .int .i64 n_1), (1, v_4), (5, .int .i64 i_19), (29, .bool (!r_41))]) ⟨rfl, rfl, rfl, rfl, trivial⟩ ?_
            refine WC.cond rfl ?_ ?_
            · intro hc_44
              replace hV := hV.1 hc_44
              refine WC.seq ?_
              refine WC.region ?_
              refine WL.run hS rfl rfl rfl (ex_assign rfl) ?_
              refine WL.nil ?_
              refine WQ.next ?_
              refine WC.sub (m := [(4, .int .i64 5)]) ⟨rfl, trivial⟩ ?_
              refine WC.ret ?_
              refine WQ.out nofun ?_
              refine WQ.pass nofun ?_
              refine WQ.pass nofun ?_
              refine WQ.out nofun ?_
              refine WQ.pass nofun ?_
              exact leave1 rfl rfl ⟨5, hV, rfl, (by unfold I64; omega), hS⟩
            · intro hc_44
              replace hV := hV.2 hc_44
              refine WC.skip ?_
              refine WQ.out nofun ?_
              refine WQ.next ?_
              refine WC.sub (m := [(0, .int .i64 n_1), (1, v_4), (5, .int .i64 i_19)]) ⟨rfl, rfl, rfl, trivial⟩ ?_
              refine WC.region ?_
              refine WL.run hS rfl rfl rfl (ex_move rfl) ?_
              obtain ⟨hi_43, hV⟩ := hV
              refine WL.run hS rfl rfl rfl (ex_add rfl rfl hi_43) ?_
              refine WL.run hS rfl rfl rfl (ex_assign rfl) ?_
              refine WL.nil ?_
              exact WQ.there fun a ha => ⟨(i_19 + 1), ⟨(i_19 + 1), rfl, hV.1, hi_43, hS, ha.of_sub ⟨rfl, rfl, rfl, trivial⟩⟩, hV.2⟩
          · intro hc_45
            replace hV := hV.2 (of_decide_eq_false hc_45)
            refine WC.exit ?_
            refine WQ.pass nofun ?_
            refine WQ.pass nofun ?_
            refine WQ.hit ?_
            refine WQ.next ?_
            refine WC.sub (m := []) trivial ?_
            refine WC.seq ?_
            refine WC.region ?_
            refine WL.run hS rfl rfl rfl (ex_assign rfl) ?_
            refine WL.nil ?_
            refine WQ.next ?_
            refine WC.ret ?_
            exact leave1 rfl rfl ⟨0, hV, rfl, (by unfold I64; omega), hS⟩

theorem S_refSet {w0 : World} {H : View} {L : Seg} {w : World} {v_2 : Value} {val_1 : List Int} {fp_4 : Seg} {l_6 : Int} {Q : Bool → (List Int) → Prop} (h_3 : OwnSl H (cInt .i64) 3 v_2 val_1 fp_4) (hr_7 : I64 l_6) (hS : St w0 H (fp_4 ++ L) w) (hV : V_refSet val_1 l_6 Q) :
    Calls Try.prog 35 #[v_2, .int .i64 l_6] w fun e w' => ∃ (r1 : Bool) (r2 : List Int) (fp2 : Seg), Q r1 r2 ∧ e = .returned (.bool r1) ∧ OwnSl H (cInt .i64) 3 v_2 r2 fp2 ∧ St w0 H (fp2 ++ L) w' := by
  unfold V_refSet at hV
  refine enter Try.func35 rfl Try.ntmps35 rfl (lk_args_cons (d := 0) (v := v_2) rfl (lk_args_cons (d := 1) (v := .int .i64 l_6) rfl (lk_args_nil _))) ?_
  refine WC.seq ?_
  refine WC.region ?_
  refine WL.run hS rfl rfl rfl (ex_assign rfl) ?_
  refine WL.nil ?_
  refine WQ.next ?_
  refine WC.sub (m := [(0, v_2), (1, .int .i64 l_6)]) ⟨rfl, rfl, trivial⟩ ?_
  refine WC.seq ?_
  refine WC.region ?_
  refine WL.run hS rfl rfl rfl (ex_assign rfl) ?_
  refine WL.nil ?_
  refine WQ.next ?_
  obtain ⟨J_11, hJ_12, hV⟩ := hV
  refine WC.meet (fun a w => ∃ (v_9 : Int), J_11 v_9 ∧ I64 v_9 ∧ St w0 H (fp_4 ++ L) w ∧ Fr 22 [(0, v_2), (1, .int .i64 l_6), (5, .int .i64 v_9)] a) ?_ ?_
  · rintro a w ⟨v_9, hI, hr_10, hS, ha⟩
    refine in_frame ha ?_
    clear ha hV
    have hV := hJ_12 _ hI
    clear hI hJ_12
    refine WC.seq ?_
    refine WC.region ?_
    refine WL.run hS rfl rfl rfl (ex_move rfl) ?_
    refine WL.call rfl rfl rfl (enters0 (vs := [.int .i64 l_6]) Try.call37 ⟨rfl, trivial⟩) (S_size  hr_7 hS hV) ?_
    clear hV hS
    rintro _ w ⟨r_14, hV, rfl, hr_15, hS⟩
    refine ⟨_, rfl, ?_⟩
    refine WL.run hS rfl rfl rfl (ex_assign rfl) ?_
    refine WL.nil ?_
    refine WQ.next ?_
    refine WC.sub (m := [(0, v_2), (5, .int .i64 v_9), (6, .int .i64 r_14)]) ⟨rfl, rfl, rfl, trivial⟩ ?_
    refine WC.seq ?_
    refine WC.seq ?_
    refine WC.region ?_
    refine WL.run hS rfl rfl rfl (ex_move rfl) ?_
    refine WL.run hS rfl rfl rfl (ex_move rfl) ?_
    obtain ⟨hin_17, hV⟩ := hV
    refine WL.runx hS rfl rfl rfl (ex_index_own Try.underlying31 Try.sizeOf3 rfl rfl h_3 hin_17) ?_
    intro p_18 hp_19
    refine WL.runx hS rfl rfl rfl (ex_load_own (w := w) hS Try.isAgg3 rfl rfl h_3 hp_19 hin_17) ?_
    intro u_20 hu_21
    obtain ⟨rfl, hr_22⟩ := cInt_rep hu_21
    replace hr_22 := has_I64 hr_22
    replace hV := hV hr_22
    refine WL.run hS rfl rfl rfl (ex_move rfl) ?_
    obtain ⟨hi_23, hV⟩ := hV
    refine WL.run hS rfl rfl rfl (ex_neg rfl hi_23) ?_
    refine WL.run hS rfl rfl rfl (ex_eql rfl rfl) ?_
    refine WL.nil ?_
    refine WQ.next ?_
    refine WC.sub (m := [(0, v_2), (5, .int .i64 v_9), (6, .int .i64 r_14), (17, .bool (decide ((ix val_1 r_14) = (-v_9))))]) ⟨rfl, rfl, rfl, rfl, trivial⟩ ?_
    refine WC.cond rfl ?_ ?_
    · intro hc_29
      replace hV := hV.1 (of_decide_eq_true hc_29)
      refine WC.seq ?_
      refine WC.region ?_
      refine WL.run hS rfl rfl rfl (ex_assign rfl) ?_
      refine WL.nil ?_
      refine WQ.next ?_
      refine WC.sub (m := [(4, .bool false)]) ⟨rfl, trivial⟩ ?_
      refine WC.ret ?_
      refine WQ.pass nofun ?_
      exact leave1 rfl rfl ⟨false, val_1, fp_4, hV, rfl, h_3, hS⟩
    · intro hc_29
      replace hV := hV.2 (of_decide_eq_false hc_29)
      refine WC.skip ?_
      refine WQ.next ?_
      refine WC.sub (m := [(0, v_2), (5, .int .i64 v_9), (6, .int .i64 r_14)]) ⟨rfl, rfl, rfl, trivial⟩ ?_
      refine WC.seq ?_
      refine WC.region ?_
      refine WL.run hS rfl rfl rfl (ex_move rfl) ?_
      refine WL.run hS rfl rfl rfl (ex_move rfl) ?_
      refine WL.run hS rfl rfl rfl (ex_move rfl) ?_
      obtain ⟨hin_24, hV⟩ := hV
      refine WL.runx hS rfl rfl rfl (ex_index_own Try.underlying31 Try.sizeOf3 rfl rfl h_3 hin_24) ?_
      intro p_25 hp_26
      refine WL.store_own Try.sizeOf3 rfl rfl rfl (cInt_mk (I64.has hr_10)) hS h_3 hp_26 hin_24 ?_
      clear hS
      intro w fp_28 h_27 hS
      refine WL.nil ?_
      refine WQ.next ?_
      refine WC.sub (m := []) trivial ?_
      refine WC.seq ?_
      refine WC.region ?_
      refine WL.run hS rfl rfl rfl (ex_assign rfl) ?_
      refine WL.nil ?_
      refine WQ.next ?_
      refine WC.ret ?_
      exact leave1 rfl rfl ⟨true, (val_1.set r_14.toNat v_9), fp_28, hV, rfl, h_27, hS⟩
  · clear hJ_12
    refine WC.seq ?_
    refine WC.region ?_
    refine WL.run hS rfl rfl rfl (ex_move rfl) ?_
    refine WL.run hS rfl rfl rfl (ex_lss rfl rfl) ?_
    refine WL.nil ?_
    refine WQ.next ?_
    refine WC.sub (m := [(0, v_2), (1, .int .i64 l_6), (5, .int .i64 1), (8, .bool (decide (l_6 < 0)))]) ⟨rfl, rfl, rfl, rfl, trivial⟩ ?_
    refine WC.cond rfl ?_ ?_
    · intro hc_13
      replace hV := hV.1 (of_decide_eq_true hc_13)
      refine WC.region ?_
      refine WL.run hS rfl rfl rfl (ex_assign rfl) ?_
      refine WL.nil ?_
      exact WQ.there fun a ha => ⟨(-1), hV, (by unfold I64; omega), hS, ha.of_sub ⟨rfl, rfl, rfl, trivial⟩⟩
    · intro hc_13
      replace hV := hV.2 (of_decide_eq_false hc_13)
      refine WC.skip ?_
      exact WQ.there fun a ha => ⟨1, hV, (by unfold I64; omega), hS, ha.of_sub ⟨rfl, rfl, rfl, trivial⟩⟩

theorem S_refUnit {w0 : World} {H : View} {L : Seg} {w : World} {v_2 : Value} {val_1 : List Int} {v_5 : Value} {c_4 : List Int} {Q : Int → Int → Prop} (h_3 : IsSl H (cInt .i64) v_2 val_1) (h_6 : IsSl H (cInt .i64) v_5 c_4) (hS : St w0 H (L) w) (hV : V_refUnit val_1 c_4 Q) :
    Calls Try.prog 36 #[v_2, v_5] w fun e w' => ∃ (r1 : Int) (r2 : Int), Q r1 r2 ∧ e = .returned (.tuple #[.int .i64 r1, .int .i64 r2]) ∧ I64 r1 ∧ I64 r2 ∧ St w0 H (L) w' := by
  unfold V_refUnit at hV
  refine enter Try.func36 rfl Try.ntmps36 rfl (lk_args_cons (d := 0) (v := v_2) rfl (lk_args_cons (d := 1) (v := v_5) rfl (lk_args_nil _))) ?_
  refine WC.seq ?_
  refine WC.region ?_
  refine WL.run hS rfl rfl rfl (ex_assign rfl) ?_
  refine WL.run hS rfl rfl rfl (ex_assign rfl) ?_
  refine WL.nil ?_
  refine WQ.next ?_
  refine WC.sub (m := [(0, v_2), (1, v_5)]) ⟨rfl, rfl, trivial⟩ ?_
  refine WC.seq ?_
  refine WC.region ?_
  refine WL.run hS rfl rfl rfl (ex_assign rfl) ?_
  refine WL.nil ?_
  refine WQ.next ?_
  refine WC.seq ?_
  refine WC.seq ?_
  refine WC.region ?_
  refine WL.run hS rfl rfl rfl (ex_assign rfl) ?_
  refine WL.nil ?_
  refine WQ.next ?_
  refine WC.block ?_
  obtain ⟨I_277, mu_278, hI_414, hV⟩ := hV
  refine WC.loop (σ := Int × Int) (fun s a w => ∃ (xopen_140 : Int) (i_142 : Int), s = (xopen_140, i_142) ∧ I_277 (xopen_140, i_142) ∧ I64 xopen_140 ∧ I64 i_142 ∧ St w0 H (L) w ∧ Fr 57 [(0, v_2), (1, v_5), (6, .int .i64 xopen_140), (7, .int .i64 i_142)] a) mu_278 (0, 0) ?_ ?_
  · exact fun a ha => ⟨0, 0, rfl, hI_414, (by unfold I64; omega), (by unfold I64; omega), hS, ha.of_sub ⟨rfl, rfl, rfl, rfl, trivial⟩⟩
  · clear hS hI_414
    rintro _ a w ⟨xopen_140, i_142, rfl, hI, hr_141, hr_143, hS, ha⟩
    refine in_frame ha ?_
    clear ha
    replace hV := hV _ hI
    clear hI
    refine WC.seq ?_
    refine WC.seq ?_
    refine WC.region ?_
    refine WL.run hS rfl rfl rfl (ex_move rfl) ?_
    refine WL.run hS rfl rfl rfl (ex_move rfl) ?_
    have hl_280 : Len c_4 := h_6.bound
    replace hV := hV hl_280
    refine WL.run hS rfl rfl rfl (ex_len_sl Try.underlying31 rfl h_6) ?_
    refine WL.run hS rfl rfl rfl (ex_lss rfl rfl) ?_
    refine WL.nil ?_
    refine WQ.next ?_
    refine WC.sub (m := [(0, v_2), (1, v_5), (6, .int .i64 xopen_140), (7, .int .i64 i_142), (13, .bool (decide (i_142 < (c_4.length : Int))))]) ⟨rfl, rfl, rfl, rfl, rfl, trivial⟩ ?_
    refine WC.cond rfl ?_ ?_
    · intro hc_413
      replace hV := hV.1 (of_decide_eq_true hc_413)
      refine WC.skip ?_
      refine WQ.next ?_
      refine WC.sub (m := [(0, v_2), (1, v_5), (6, .int .i64 xopen_140), (7, .int .i64 i_142)]) ⟨rfl, rfl, rfl, rfl, trivial⟩ ?_
      obtain ⟨J_346, hJ_347, hV⟩ := hV
      refine WC.meet (fun a w => ∃ (xopen_344 : Int), J_346 xopen_344 ∧ I64 xopen_344 ∧ St w0 H (L) w ∧ Fr 57 [(0, v_2), (1, v_5), (6, .int .i64 xopen_344), (7, .int .i64 i_142)] a) ?_ ?_
      · rintro a w ⟨xopen_344, hI, hr_345, hS, ha⟩
        refine in_frame ha ?_
        clear ha hV
        have hV := hJ_347 _ hI
        clear hI hJ_347
        refine WC.region ?_
        refine WL.run hS rfl rfl rfl (ex_move rfl) ?_
        obtain ⟨hi_411, hV⟩ := hV
        refine WL.run hS rfl rfl rfl (ex_add rfl rfl hi_411) ?_
        refine WL.run hS rfl rfl rfl (ex_assign rfl) ?_
        refine WL.nil ?_
        exact WQ.there fun a ha => ⟨(xopen_344, (i_142 + 1)), ⟨xopen_344, (i_142 + 1), rfl, hV.1, hr_345, hi_411, hS, ha.of_sub ⟨rfl, rfl, rfl, rfl, trivial⟩⟩, hV.2⟩
      · clear hJ_347
        refine WC.block ?_
        refine WC.seq ?_
        refine WC.region ?_
        refine WL.run hS rfl rfl rfl (ex_move rfl) ?_
        refine WL.run hS rfl rfl rfl (ex_move rfl) ?_
        obtain ⟨hin_348, hV⟩ := hV
        refine WL.runx hS rfl rfl rfl (ex_index Try.underlying31 Try.sizeOf3 rfl rfl h_6 hin_348) ?_
        intro p_349 hp_350
        refine WL.runx hS rfl rfl rfl (ex_load Try.isAgg3 rfl rfl hp_350) ?_
        intro u_351 hu_352
        obtain ⟨rfl, hr_353⟩ := cInt_rep hu_352
        replace hr_353 := has_I64 hr_353
        replace hV := hV hr_353
        refine WL.call rfl rfl rfl (enters0 (vs := [.int .i64 (ix c_4 i_142)]) Try.call37 ⟨rfl, trivial⟩) (S_size  hr_353 hS hV) ?_
        clear hV hS
        rintro _ w ⟨r_354, hV, rfl, hr_355, hS⟩
        refine ⟨_, rfl, ?_⟩
        refine WL.run hS rfl rfl rfl (ex_assign rfl) ?_
        refine WL.nil ?_
        refine WQ.next ?_
        refine WC.sub (m := [(0, v_2), (1, v_5), (6, .int .i64 xopen_140), (7, .int .i64 i_142), (8, .int .i64 r_354)]) ⟨rfl, rfl, rfl, rfl, rfl, trivial⟩ ?_
        refine WC.seq ?_
        refine WC.region ?_
        refine WL.run hS rfl rfl rfl (ex_move rfl) ?_
        refine WL.run hS rfl rfl rfl (ex_move rfl) ?_
        obtain ⟨hin_357, hV⟩ := hV
        refine WL.runx hS rfl rfl rfl (ex_index Try.underlying31 Try.sizeOf3 rfl rfl h_3 hin_357) ?_
        intro p_358 hp_359
        refine WL.runx hS rfl rfl rfl (ex_load Try.isAgg3 rfl rfl hp_359) ?_
        intro u_360 hu_361
        obtain ⟨rfl, hr_362⟩ := cInt_rep hu_361
        replace hr_362 := has_I64 hr_362
        replace hV := hV hr_362
        refine WL.run hS rfl rfl rfl (ex_assign rfl) ?_
        refine WL.nil ?_
        refine WQ.next ?_
        refine WC.sub (m := [(0, v_2), (1, v_5), (6, .int .i64 xopen_140), (7, .int .i64 i_142), (9, .int .i64 (ix val_1 r_354))]) ⟨rfl, rfl, rfl, rfl, rfl, trivial⟩ ?_
        obtain ⟨J_373, hJ_374, hV⟩ := hV
        refine WC.meet (fun a w => ∃ (v_371 : Int), J_373 v_371 ∧ I64 v_371 ∧ St w0 H (L) w ∧ Fr 57 [(0, v_2), (1, v_5), (6, .int .i64 xopen_140), (7, .int .i64 i_142), (9, .int .i64 v_371)] a) ?_ ?_
        · rintro a w ⟨v_371, hI, hr_372, hS, ha⟩
          refine in_frame ha ?_
          clear ha hV
          have hV := hJ_374 _ hI
          clear hI hJ_374
          refine WC.seq ?_
          refine WC.seq ?_
          refine WC.region ?_
          refine WL.run hS rfl rfl rfl (ex_move rfl) ?_
          refine WL.run hS rfl rfl rfl (ex_gtr rfl rfl) ?_
          refine WL.nil ?_
          refine WQ.next ?_
          refine WC.sub (m := [(0, v_2), (1, v_5), (6, .int .i64 xopen_140), (7, .int .i64 i_142), (9, .int .i64 v_371), (33, .bool (decide (0 < v_371)))]) ⟨rfl, rfl, rfl, rfl, rfl, rfl, trivial⟩ ?_
          refine WC.cond rfl ?_ ?_
          · intro hc_410
            replace hV := hV.1 (of_decide_eq_true hc_410)
            refine WC.seq ?_
            refine WC.region ?_
            refine WL.run hS rfl rfl rfl (ex_assign rfl) ?_
            refine WL.run hS rfl rfl rfl (ex_assign rfl) ?_
            refine WL.nil ?_
            refine WQ.next ?_
            refine WC.sub (m := [(4, .int .i64 0), (5, .int .i64 2)]) ⟨rfl, rfl, trivial⟩ ?_
            refine WC.ret ?_
            refine WQ.pass nofun ?_
            refine WQ.out nofun ?_
            refine WQ.pass nofun ?_
            refine WQ.pass nofun ?_
            refine WQ.out nofun ?_
            refine WQ.pass nofun ?_
            exact leave2 rfl rfl rfl ⟨0, 2, hV, rfl, (by unfold I64; omega), (by unfold I64; omega), hS⟩
          · intro hc_410
            replace hV := hV.2 (of_decide_eq_false hc_410)
            refine WC.skip ?_
            refine WQ.next ?_
            refine WC.sub (m := [(0, v_2), (1, v_5), (6, .int .i64 xopen_140), (7, .int .i64 i_142), (9, .int .i64 v_371)]) ⟨rfl, rfl, rfl, rfl, rfl, trivial⟩ ?_
            refine WC.seq ?_
            obtain ⟨J_392, hJ_393, hV⟩ := hV
            refine WC.meet (fun a w => ∃ (x_391 : Bool), J_392 x_391 ∧ St w0 H (L) w ∧ Fr 57 [(0, v_2), (1, v_5), (6, .int .i64 xopen_140), (7, .int .i64 i_142), (9, .int .i64 v_371), (47, .bool x_391)] a) ?_ ?_
            · rintro a w ⟨x_391, hI, hS, ha⟩
              refine in_frame ha ?_
              clear ha hV
              have hV := hJ_393 _ hI
              clear hI hJ_393
              refine WC.cond rfl ?_ ?_
              · intro hc_409
                replace hV := hV.1 hc_409
                refine WC.seq ?_
                refine WC.region ?_
                refine WL.run hS rfl rfl rfl (ex_assign rfl) ?_
                refine WL.run hS rfl rfl rfl (ex_assign rfl) ?_
                refine WL.nil ?_
                refine WQ.next ?_
                refine WC.sub (m := [(4, .int .i64 0), (5, .int .i64 2)]) ⟨rfl, rfl, trivial⟩ ?_
                refine WC.ret ?_
                refine WQ.pass nofun ?_
                refine WQ.out nofun ?_
                refine WQ.pass nofun ?_
                refine WQ.pass nofun ?_
                refine WQ.out nofun ?_
                refine WQ.pass nofun ?_
                exact leave2 rfl rfl rfl ⟨0, 2, hV, rfl, (by unfold I64; omega), (by unfold I64; omega), hS⟩
              · intro hc_409
                replace hV := hV.2 hc_409
                refine WC.skip ?_
                refine WQ.next ?_
                refine WC.sub (m := [(0, v_2), (1, v_5), (6, .int .i64 xopen_140), (7, .int .i64 i_142), (9, .int .i64 v_371)]) ⟨rfl, rfl, rfl, rfl, rfl, trivial⟩ ?_
                refine WC.seq ?_
                refine WC.region ?_
                refine WL.run hS rfl rfl rfl (ex_move rfl) ?_
                refine WL.run hS rfl rfl rfl (ex_eql rfl rfl) ?_
                refine WL.nil ?_
                refine WQ.next ?_
                refine WC.sub (m := [(0, v_2), (1, v_5), (6, .int .i64 xopen_140), (7, .int .i64 i_142), (49, .bool (decide (v_371 = 0)))]) ⟨rfl, rfl, rfl, rfl, rfl, trivial⟩ ?_
                refine WC.cond rfl ?_ ?_
                · intro hc_408
                  replace hV := hV.1 (of_decide_eq_true hc_408)
                  refine WC.region ?_
                  refine WL.run hS rfl rfl rfl (ex_move rfl) ?_
                  refine WL.run hS rfl rfl rfl (ex_move rfl) ?_
                  obtain ⟨hin_402, hV⟩ := hV
                  refine WL.runx hS rfl rfl rfl (ex_index Try.underlying31 Try.sizeOf3 rfl rfl h_6 hin_402) ?_
                  intro p_403 hp_404
                  refine WL.runx hS rfl rfl rfl (ex_load Try.isAgg3 rfl rfl hp_404) ?_
                  intro u_405 hu_406
                  obtain ⟨rfl, hr_407⟩ := cInt_rep hu_406
                  replace hr_407 := has_I64 hr_407
                  replace hV := hV hr_407
                  refine WL.run hS rfl rfl rfl (ex_assign rfl) ?_
                  refine WL.nil ?_
                  refine WQ.out nofun ?_
                  exact WQ.there fun a ha => ⟨(ix c_4 i_142), hV, hr_407, hS, ha.of_sub ⟨rfl, rfl, rfl, rfl, trivial⟩⟩
                · intro hc_408
                  replace hV := hV.2 (of_decide_eq_false hc_408)
                  refine WC.skip ?_
                  refine WQ.out nofun ?_
                  exact WQ.there fun a ha => ⟨xopen_140, hV, hr_141, hS, ha.of_sub ⟨rfl, rfl, rfl, rfl, trivial⟩⟩
            · clear hJ_393
              refine WC.region ?_
              refine WL.run hS rfl rfl rfl (ex_move rfl) ?_
              refine WL.run hS rfl rfl rfl (ex_eql rfl rfl) ?_
              refine WL.run hS rfl rfl rfl (ex_move rfl) ?_
              rcases Bool.eq_false_or_eq_true (decide (v_371 = 0)) with hg_394 | hg_394
              · replace hV := hV.1 (of_decide_eq_true hg_394)
                refine WL.unguard rfl rfl hg_394 ?_
                refine WL.run hS rfl rfl rfl (ex_move rfl) ?_
                refine WL.unguard rfl rfl hg_394 ?_
                refine WL.run hS rfl rfl rfl (ex_neq rfl rfl) ?_
                refine WL.run hS rfl rfl rfl (ex_pick_t rfl hg_394 rfl) ?_
                refine WL.run hS rfl rfl rfl (ex_move rfl) ?_
                rcases Bool.eq_false_or_eq_true (decide (xopen_140 ≠ 0)) with hg_395 | hg_395
                · replace hV := hV.1 (of_decide_eq_true hg_395)
                  refine WL.unguard rfl rfl hg_395 ?_
                  refine WL.run hS rfl rfl rfl (ex_move rfl) ?_
                  refine WL.unguard rfl rfl hg_395 ?_
                  refine WL.run hS rfl rfl rfl (ex_move rfl) ?_
                  refine WL.unguard rfl rfl hg_395 ?_
                  obtain ⟨hin_396, hV⟩ := hV
                  refine WL.runx hS rfl rfl rfl (ex_index Try.underlying31 Try.sizeOf3 rfl rfl h_6 hin_396) ?_
                  intro p_397 hp_398
                  refine WL.unguard rfl rfl hg_395 ?_
                  refine WL.runx hS rfl rfl rfl (ex_load Try.isAgg3 rfl rfl hp_398) ?_
                  intro u_399 hu_400
                  obtain ⟨rfl, hr_401⟩ := cInt_rep hu_400
                  replace hr_401 := has_I64 hr_401
                  replace hV := hV hr_401
                  refine WL.unguard rfl rfl hg_395 ?_
                  refine WL.run hS rfl rfl rfl (ex_move rfl) ?_
                  refine WL.unguard rfl rfl hg_395 ?_
                  refine WL.run hS rfl rfl rfl (ex_neq rfl rfl) ?_
                  refine WL.run hS rfl rfl rfl (ex_pick_t rfl hg_395 rfl) ?_
                  refine WL.nil ?_
                  exact WQ.there fun a ha => ⟨decide ((ix c_4 i_142) ≠ xopen_140), hV, hS, ha.of_sub ⟨rfl, rfl, rfl, rfl, rfl, rfl, trivial⟩⟩
                · replace hV := hV.2 (of_decide_eq_false hg_395)
                  refine WL.skip_g rfl rfl rfl hg_395 rfl rfl ?_
                  refine WL.skip_g rfl rfl rfl hg_395 rfl rfl ?_
                  refine WL.skip_g rfl rfl rfl hg_395 rfl rfl ?_
                  refine WL.skip_g rfl rfl rfl hg_395 rfl rfl ?_
                  refine WL.skip_g rfl rfl rfl hg_395 rfl rfl ?_
                  refine WL.skip_g rfl rfl rfl hg_395 rfl rfl ?_
                  refine WL.run hS rfl rfl rfl (ex_pick_f rfl hg_395 rfl) ?_
                  refine WL.nil ?_
                  exact WQ.there fun a ha => ⟨false, hV, hS, ha.of_sub ⟨rfl, rfl, rfl, rfl, rfl, rfl, trivial⟩⟩
              · replace hV := hV.2 (of_decide_eq_false hg_394)
                refine WL.skip_g rfl rfl rfl hg_394 rfl rfl ?_
                refine WL.skip_g rfl rfl rfl hg_394 rfl rfl ?_
                refine WL.run hS rfl rfl rfl (ex_pick_f rfl hg_394 rfl) ?_
                refine WL.run hS rfl rfl rfl (ex_move rfl) ?_
                refine WL.skip_g rfl rfl rfl rfl rfl rfl ?_
                refine WL.skip_g rfl rfl rfl rfl rfl rfl ?_
                refine WL.skip_g rfl rfl rfl rfl rfl rfl ?_
                refine WL.skip_g rfl rfl rfl rfl rfl rfl ?_
                refine WL.skip_g rfl rfl rfl rfl rfl rfl ?_
                refine WL.skip_g rfl rfl rfl rfl rfl rfl ?_
                refine WL.run hS rfl rfl rfl (ex_pick_f rfl rfl rfl) ?_
                refine WL.nil ?_
                exact WQ.there fun a ha => ⟨false, hV, hS, ha.of_sub ⟨rfl, rfl, rfl, rfl, rfl, rfl, trivial⟩⟩
        · clear hJ_374
          refine WC.seq ?_
          refine WC.region ?_
          refine WL.run hS rfl rfl rfl (ex_move rfl) ?_
          refine WL.run hS rfl rfl rfl (ex_move rfl) ?_
          obtain ⟨hin_375, hV⟩ := hV
          refine WL.runx hS rfl rfl rfl (ex_index Try.underlying31 Try.sizeOf3 rfl rfl h_6 hin_375) ?_
          intro p_376 hp_377
          refine WL.runx hS rfl rfl rfl (ex_load Try.isAgg3 rfl rfl hp_377) ?_
          intro u_378 hu_379
          obtain ⟨rfl, hr_380⟩ := cInt_rep hu_379
          replace hr_380 := has_I64 hr_380
          replace hV := hV hr_380
          refine WL.run hS rfl rfl rfl (ex_lss rfl rfl) ?_
          refine WL.nil ?_
          refine WQ.next ?_
          refine WC.sub (m := [(0, v_2), (1, v_5), (6, .int .i64 xopen_140), (7, .int .i64 i_142), (9, .int .i64 (ix val_1 r_354)), (29, .bool (decide ((ix c_4 i_142) < 0)))]) ⟨rfl, rfl, rfl, rfl, rfl, rfl, trivial⟩ ?_
          refine WC.cond rfl ?_ ?_
          · intro hc_382
            replace hV := hV.1 (of_decide_eq_true hc_382)
            refine WC.region ?_
            refine WL.run hS rfl rfl rfl (ex_move rfl) ?_
            obtain ⟨hi_381, hV⟩ := hV
            refine WL.run hS rfl rfl rfl (ex_neg rfl hi_381) ?_
            refine WL.run hS rfl rfl rfl (ex_assign rfl) ?_
            refine WL.nil ?_
            exact WQ.there fun a ha => ⟨(-(ix val_1 r_354)), hV, hi_381, hS, ha.of_sub ⟨rfl, rfl, rfl, rfl, rfl, trivial⟩⟩
          · intro hc_382
            replace hV := hV.2 (of_decide_eq_false hc_382)
            refine WC.skip ?_
            exact WQ.there fun a ha => ⟨(ix val_1 r_354), hV, hr_362, hS, ha.of_sub ⟨rfl, rfl, rfl, rfl, rfl, trivial⟩⟩
    · intro hc_413
      replace hV := hV.2 (of_decide_eq_false hc_413)
      refine WC.exit ?_
      refine WQ.pass nofun ?_
      refine WQ.pass nofun ?_
      refine WQ.hit ?_
      refine WQ.next ?_
      refine WC.sub (m := [(6, .int .i64 xopen_140)]) ⟨rfl, trivial⟩ ?_
      refine WC.seq ?_
      refine WC.seq ?_
      refine WC.region ?_
      refine WL.run hS rfl rfl rfl (ex_move rfl) ?_
      refine WL.run hS rfl rfl rfl (ex_eql rfl rfl) ?_
      refine WL.nil ?_
      refine WQ.next ?_
      refine WC.sub (m := [(6, .int .i64 xopen_140), (55, .bool (decide (xopen_140 = 0)))]) ⟨rfl, rfl, trivial⟩ ?_
      refine WC.cond rfl ?_ ?_
      · intro hc_412
        replace hV := hV.1 (of_decide_eq_true hc_412)
        refine WC.seq ?_
        refine WC.region ?_
        refine WL.run hS rfl rfl rfl (ex_assign rfl) ?_
        refine WL.run hS rfl rfl rfl (ex_assign rfl) ?_
        refine WL.nil ?_
        refine WQ.next ?_
        refine WC.sub (m := [(4, .int .i64 0), (5, .int .i64 0)]) ⟨rfl, rfl, trivial⟩ ?_
        refine WC.ret ?_
        refine WQ.pass nofun ?_
        exact leave2 rfl rfl rfl ⟨0, 0, hV, rfl, (by unfold I64; omega), (by unfold I64; omega), hS⟩
      · intro hc_412
        replace hV := hV.2 (of_decide_eq_false hc_412)
        refine WC.skip ?_
        refine WQ.next ?_
        refine WC.sub (m := [(6, .int .i64 xopen_140)]) ⟨rfl, trivial⟩ ?_
        refine WC.seq ?_
        refine WC.region ?_
        refine WL.run hS rfl rfl rfl (ex_move rfl) ?_
        refine WL.run hS rfl rfl rfl (ex_assign rfl) ?_
        refine WL.run hS rfl rfl rfl (ex_assign rfl) ?_
        refine WL.nil ?_
        refine WQ.next ?_
        refine WC.sub (m := [(4, .int .i64 xopen_140), (5, .int .i64 1)]) ⟨rfl, rfl, trivial⟩ ?_
        refine WC.ret ?_
        exact leave2 rfl rfl rfl ⟨xopen_140, 1, hV, rfl, hr_141, (by unfold I64; omega), hS⟩

theorem S_refFollow {w0 : World} {H : View} {L : Seg} {w : World} {n_1 : Int} {v_4 : Value} {clauses_3 : List (List Int)} {v_7 : Value} {given_6 : List Int} {Q : (List Int) → Bool → Prop} (hr_2 : I64 n_1) (h_5 : IsSl H (cSl (cInt .i64)) v_4 clauses_3) (h_8 : IsSl H (cInt .i64) v_7 given_6) (hS : St w0 H (L) w) (hV : V_refFollow n_1 clauses_3 given_6 Q) :
    Calls Try.prog 22 #[.int .i64 n_1, v_4, v_7] w fun e w' => ∃ (r1 : List Int) (r2 : Bool) (v1 : Value) (fp1 : Seg), Q r1 r2 ∧ e = .returned (.tuple #[v1, .bool r2]) ∧ OwnSl H (cInt .i64) 3 v1 r1 fp1 ∧ St w0 H (fp1 ++ L) w' := by
  unfold V_refFollow at hV
  refine enter Try.func22 rfl Try.ntmps22 rfl (lk_args_cons (d := 0) (v := .int .i64 n_1) rfl (lk_args_cons (d := 1) (v := v_4) rfl (lk_args_cons (d := 2) (v := v_7) rfl (lk_args_nil _)))) ?_
  refine WC.seq ?_
  refine WC.region ?_
  refine WL.run hS rfl rfl rfl (ex_assign rfl) ?_
  refine WL.run hS rfl rfl rfl (ex_assign rfl) ?_
  refine WL.nil ?_
  refine WQ.next ?_
  refine WC.sub (m := [(0, .int .i64 n_1), (1, v_4), (2, v_7)]) ⟨rfl, rfl, rfl, trivial⟩ ?_
  refine WC.seq ?_
  refine WC.region ?_
  refine WL.run hS rfl rfl rfl (ex_move rfl) ?_
  obtain ⟨hi_10, hV⟩ := hV
  refine WL.run hS rfl rfl rfl (ex_add rfl rfl hi_10) ?_
  obtain ⟨hm_15, hV⟩ := hV
  refine WL.make (c := (cInt .i64)) (z0 := 0) rfl Try.underlying31 Try.info3 rfl ⟨rfl, I64.has (by unfold I64; omega)⟩ rfl rfl hm_15.1 hm_15.2.1 hm_15.2.2 hS ?_
  clear hS
  intro v_12 w fp_13 h_14 hS
  refine WL.run hS rfl rfl rfl (ex_assign rfl) ?_
  refine WL.nil ?_
  refine WQ.next ?_
  refine WC.sub (m := [(1, v_4), (2, v_7), (8, v_12)]) ⟨rfl, rfl, rfl, trivial⟩ ?_
  refine WC.seq ?_
  refine WC.seq ?_
  refine WC.region ?_
  refine WL.run hS rfl rfl rfl (ex_assign rfl) ?_
  refine WL.nil ?_
  refine WQ.next ?_
  refine WC.block ?_
  obtain ⟨I_55, mu_56, hI_599, hV⟩ := hV
  refine WC.loop (σ := (List Int) × Int) (fun s a w => ∃ (val_33 : List Int) (i_37 : Int) (v_34 : Value) (fp_35 : Seg), s = (val_33, i_37) ∧ I_55 (val_33, i_37) ∧ OwnSl H (cInt .i64) 3 v_34 val_33 fp_35 ∧ I64 i_37 ∧ St w0 H (fp_35 ++ L) w ∧ Fr 57 [(1, v_4), (2, v_7), (8, v_34), (9, .int .i64 i_37)] a) mu_56 ((List.replicate (n_1 + 1).toNat 0), 0) ?_ ?_
  · exact fun a ha => ⟨(List.replicate (n_1 + 1).toNat 0), 0, v_12, fp_13, rfl, hI_599, h_14, (by unfold I64; omega), hS, ha.of_sub ⟨rfl, rfl, rfl, rfl, trivial⟩⟩
  · clear hS hI_599
    rintro _ a w ⟨val_33, i_37, v_34, fp_35, rfl, hI, h_36, hr_38, hS, ha⟩
    refine in_frame ha ?_
    clear ha
    replace hV := hV _ hI
    clear hI
    refine WC.seq ?_
    refine WC.seq ?_
    refine WC.region ?_
    refine WL.run hS rfl rfl rfl (ex_move rfl) ?_
    refine WL.run hS rfl rfl rfl (ex_move rfl) ?_
    have hl_58 : Len given_6 := h_8.bound
    replace hV := hV hl_58
    refine WL.run hS rfl rfl rfl (ex_len_sl Try.underlying31 rfl h_8) ?_
    refine WL.run hS rfl rfl rfl (ex_lss rfl rfl) ?_
    refine WL.nil ?_
    refine WQ.next ?_
    refine WC.sub (m := [(1, v_4), (2, v_7), (8, v_34), (9, .int .i64 i_37), (21, .bool (decide (i_37 < (given_6.length : Int))))]) ⟨rfl, rfl, rfl, rfl, rfl, trivial⟩ ?_
    refine WC.cond rfl ?_ ?_
    · intro hc_598
      replace hV := hV.1 (of_decide_eq_true hc_598)
      refine WC.skip ?_
      refine WQ.next ?_
      refine WC.sub (m := [(1, v_4), (2, v_7), (8, v_34), (9, .int .i64 i_37)]) ⟨rfl, rfl, rfl, rfl, trivial⟩ ?_
      refine WC.seq ?_
      refine WC.block ?_
      refine WC.seq ?_
      refine WC.region ?_
      refine WL.run hS rfl rfl rfl (ex_move rfl) ?_
      refine WL.run hS rfl rfl rfl (ex_move rfl) ?_
      refine WL.run hS rfl rfl rfl (ex_move rfl) ?_
      obtain ⟨hin_59, hV⟩ := hV
      refine WL.runx hS rfl rfl rfl (ex_index Try.underlying31 Try.sizeOf3 rfl rfl h_8 hin_59) ?_
      intro p_60 hp_61
      refine WL.runx hS rfl rfl rfl (ex_load Try.isAgg3 rfl rfl hp_61) ?_
      intro u_62 hu_63
      obtain ⟨rfl, hr_64⟩ := cInt_rep hu_63
      replace hr_64 := has_I64 hr_64
      replace hV := hV hr_64
      refine WL.call rfl rfl rfl (enters0 (vs := [v_34, .int .i64 (ix given_6 i_37)]) Try.call35 ⟨rfl, rfl, trivial⟩) (S_refSet  h_36 hr_64 hS hV) ?_
      clear hV hS
      rintro _ w ⟨r_65, c_66, fp_67, hV, rfl, h_68, hS⟩
      refine ⟨_, rfl, ?_⟩
      refine WL.run hS rfl rfl rfl (ex_assign rfl) ?_
      refine WL.nil ?_
      refine WQ.next ?_
      refine WC.sub (m := [(1, v_4), (2, v_7), (8, v_34), (9, .int .i64 i_37), (10, .bool r_65)]) ⟨rfl, rfl, rfl, rfl, rfl, trivial⟩ ?_
      refine WC.seq ?_
      refine WC.region ?_
      refine WL.run hS rfl rfl rfl (ex_move rfl) ?_
      refine WL.run hS rfl rfl rfl (ex_not rfl) ?_
      refine WL.nil ?_
      refine WQ.next ?_
      refine WC.sub (m := [(1, v_4), (2, v_7), (8, v_34), (9, .int .i64 i_37), (31, .bool (!r_65))]) ⟨rfl, rfl, rfl, rfl, rfl, trivial⟩ ?_
      refine WC.cond rfl ?_ ?_
      · intro hc_72
        replace hV := hV.1 hc_72
        refine WC.seq ?_
        refine WC.region ?_
        refine WL.run hS rfl rfl rfl (ex_assign rfl) ?_
        refine WL.run hS rfl rfl rfl (ex_assign rfl) ?_
        refine WL.nil ?_
        refine WQ.next ?_
        refine WC.sub (m := [(6, (.slice none 0 0)), (7, .bool false)]) ⟨rfl, rfl, trivial⟩ ?_
        replace hS := hS.drop
        refine WC.ret ?_
        refine WQ.out nofun ?_
        refine WQ.pass nofun ?_
        refine WQ.pass nofun ?_
        refine WQ.out nofun ?_
        refine WQ.pass nofun ?_
        replace hS := hS.nilseg
        exact leave2 rfl rfl rfl ⟨([] : List Int), false, (.slice none 0 0), ([] : Seg), hV, rfl, OwnSl.nil, hS⟩
      · intro hc_72
        replace hV := hV.2 hc_72
        refine WC.skip ?_
        refine WQ.out nofun ?_
        refine WQ.next ?_
        refine WC.sub (m := [(1, v_4), (2, v_7), (8, v_34), (9, .int .i64 i_37)]) ⟨rfl, rfl, rfl, rfl, trivial⟩ ?_
        refine WC.region ?_
        refine WL.run hS rfl rfl rfl (ex_move rfl) ?_
        obtain ⟨hi_71, hV⟩ := hV
        refine WL.run hS rfl rfl rfl (ex_add rfl rfl hi_71) ?_
        refine WL.run hS rfl rfl rfl (ex_assign rfl) ?_
        refine WL.nil ?_
        exact WQ.there fun a ha => ⟨(c_66, (i_37 + 1)), ⟨c_66, (i_37 + 1), v_34, fp_67, rfl, hV.1, h_68, hi_71, hS, ha.of_sub ⟨rfl, rfl, rfl, rfl, trivial⟩⟩, hV.2⟩
    · intro hc_598
      replace hV := hV.2 (of_decide_eq_false hc_598)
      refine WC.exit ?_
      refine WQ.pass nofun ?_
      refine WQ.pass nofun ?_
      refine WQ.hit ?_
      refine WQ.next ?_
      refine WC.sub (m := [(1, v_4), (8, v_34)]) ⟨rfl, rfl, trivial⟩ ?_
      refine WC.block ?_
      obtain ⟨I_422, mu_423, hI_597, hV⟩ := hV
      refine WC.loop (σ := (List Int)) (fun s a w => ∃ (val_246 : List Int) (v_247 : Value) (fp_248 : Seg), s = val_246 ∧ I_422 val_246 ∧ OwnSl H (cInt .i64) 3 v_247 val_246 fp_248 ∧ St w0 H (fp_248 ++ L) w ∧ Fr 57 [(1, v_4), (8, v_247)] a) mu_423 val_33 ?_ ?_
      · exact fun a ha => ⟨val_33, v_34, fp_35, rfl, hI_597, h_36, hS, ha.of_sub ⟨rfl, rfl, trivial⟩⟩
      · clear hS hI_597
        rintro val_246 a w ⟨_, v_247, fp_248, rfl, hI, h_249, hS, ha⟩
        refine in_frame ha ?_
        clear ha
        replace hV := hV _ hI
        clear hI
        refine WC.block ?_
        refine WC.seq ?_
        refine WC.region ?_
        refine WL.run hS rfl rfl rfl (ex_assign rfl) ?_
        refine WL.nil ?_
        refine WQ.next ?_
        refine WC.seq ?_
        refine WC.seq ?_
        refine WC.region ?_
        refine WL.run hS rfl rfl rfl (ex_assign rfl) ?_
        refine WL.nil ?_
        refine WQ.next ?_
        refine WC.block ?_
        obtain ⟨I_539, mu_540, hI_596, hV⟩ := hV
        refine WC.loop (σ := (List Int) × Bool × Int) (fun s a w => ∃ (val_479 : List Int) (more_483 : Bool) (i_484 : Int) (v_480 : Value) (fp_481 : Seg), s = (val_479, more_483, i_484) ∧ I_539 (val_479, more_483, i_484) ∧ OwnSl H (cInt .i64) 3 v_480 val_479 fp_481 ∧ I64 i_484 ∧ St w0 H (fp_481 ++ L) w ∧ Fr 57 [(1, v_4), (8, v_480), (11, .bool more_483), (12, .int .i64 i_484)] a) mu_540 (val_246, false, 0) ?_ ?_
        · exact fun a ha => ⟨val_246, false, 0, v_247, fp_248, rfl, hI_596, h_249, (by unfold I64; omega), hS, ha.of_sub ⟨rfl, rfl, rfl, rfl, trivial⟩⟩
        · clear hS hI_596
          rintro _ a w ⟨val_479, more_483, i_484, v_480, fp_481, rfl, hI, h_482, hr_485, hS, ha⟩
          refine in_frame ha ?_
          clear ha
          replace hV := hV _ hI
          clear hI
          refine WC.seq ?_
          refine WC.seq ?_
          refine WC.region ?_
          refine WL.run hS rfl rfl rfl (ex_move rfl) ?_
          refine WL.run hS rfl rfl rfl (ex_move rfl) ?_
          have hl_542 : Len clauses_3 := h_5.bound
          replace hV := hV hl_542
          refine WL.run hS rfl rfl rfl (ex_len_sl Try.underlying22 rfl h_5) ?_
          refine WL.run hS rfl rfl rfl (ex_lss rfl rfl) ?_
          refine WL.nil ?_
          refine WQ.next ?_
          refine WC.sub (m := [(1, v_4), (8, v_480), (11, .bool more_483), (12, .int .i64 i_484), (35, .bool (decide (i_484 < (clauses_3.length : Int))))]) ⟨rfl, rfl, rfl, rfl, rfl, trivial⟩ ?_
          refine WC.cond rfl ?_ ?_
          · intro hc_595
            replace hV := hV.1 (of_decide_eq_true hc_595)
            refine WC.skip ?_
            refine WQ.next ?_
            refine WC.sub (m := [(1, v_4), (8, v_480), (11, .bool more_483), (12, .int .i64 i_484)]) ⟨rfl, rfl, rfl, rfl, trivial⟩ ?_
            obtain ⟨J_570, hJ_571, hV⟩ := hV
            refine WC.meet (fun a w => ∃ (val_565 : List Int) (more_569 : Bool) (v_566 : Value) (fp_567 : Seg), J_570 (val_565, more_569) ∧ OwnSl H (cInt .i64) 3 v_566 val_565 fp_567 ∧ St w0 H (fp_567 ++ L) w ∧ Fr 57 [(1, v_4), (8, v_566), (11, .bool more_569), (12, .int .i64 i_484)] a) ?_ ?_
            · rintro a w ⟨val_565, more_569, v_566, fp_567, hI, h_568, hS, ha⟩
              refine in_frame ha ?_
              clear ha hV
              have hV := hJ_571 _ hI
              clear hI hJ_571
              refine WC.region ?_
              refine WL.run hS rfl rfl rfl (ex_move rfl) ?_
              obtain ⟨hi_593, hV⟩ := hV
              refine WL.run hS rfl rfl rfl (ex_add rfl rfl hi_593) ?_
              refine WL.run hS rfl rfl rfl (ex_assign rfl) ?_
              refine WL.nil ?_
              exact WQ.there fun a ha => ⟨(val_565, more_569, (i_484 + 1)), ⟨val_565, more_569, (i_484 + 1), v_566, fp_567, rfl, hV.1, h_568, hi_593, hS, ha.of_sub ⟨rfl, rfl, rfl, rfl, trivial⟩⟩, hV.2⟩
            · clear hJ_571
              refine WC.block ?_
              refine WC.seq ?_
              refine WC.region ?_
              refine WL.run hS rfl rfl rfl (ex_move rfl) ?_
              refine WL.run hS rfl rfl rfl (ex_move rfl) ?_
              refine WL.run hS rfl rfl rfl (ex_move rfl) ?_
              obtain ⟨hin_572, hV⟩ := hV
              refine WL.runx hS rfl rfl rfl (ex_index Try.underlying22 Try.sizeOf31 rfl rfl h_5 hin_572) ?_
              intro p_573 hp_574
              refine WL.runx hS rfl rfl rfl (ex_load Try.isAgg31 rfl rfl hp_574) ?_
              intro u_575 hu_576
              replace hu_576 := cSl_rep hu_576
              have hL_577 := hS.freeze
              refine WL.call rfl rfl rfl (enters0 (vs := [v_480, u_575]) Try.call36 ⟨rfl, rfl, trivial⟩) (S_refUnit  (h_482.share hS.put_le) (hu_576.mono hS.put_le) hL_577 hV) ?_
              clear hV
              rintro _ w ⟨r_578, r_580, hV, rfl, hr_579, hr_581, hL_582⟩
              refine ⟨_, rfl, ?_⟩
              have hB_584 := hS.back hL_582
              clear hS
              have hS := hB_584
              refine WL.run hS rfl rfl rfl (ex_move rfl) ?_
              refine WL.run hS rfl rfl rfl (ex_extract rfl rfl) ?_
              refine WL.run hS rfl rfl rfl (ex_extract rfl rfl) ?_
              refine WL.run hS rfl rfl rfl (ex_assign rfl) ?_
              refine WL.run hS rfl rfl rfl (ex_assign rfl) ?_
              refine WL.nil ?_
              refine WQ.next ?_
              refine WC.sub (m := [(1, v_4), (8, v_480), (11, .bool more_483), (12, .int .i64 i_484), (13, .int .i64 r_578), (14, .int .i64 r_580)]) ⟨rfl, rfl, rfl, rfl, rfl, rfl, trivial⟩ ?_
              refine WC.seq ?_
              refine WC.seq ?_
              refine WC.region ?_
              refine WL.run hS rfl rfl rfl (ex_move rfl) ?_
              refine WL.run hS rfl rfl rfl (ex_eql rfl rfl) ?_
              refine WL.nil ?_
              refine WQ.next ?_
              refine WC.sub (m := [(1, v_4), (8, v_480), (11, .bool more_483), (12, .int .i64 i_484), (13, .int .i64 r_578), (14, .int .i64 r_580), (48, .bool (decide (r_580 = 0)))]) ⟨rfl, rfl, rfl, rfl, rfl, rfl, rfl, trivial⟩ ?_
              refine WC.cond rfl ?_ ?_
              · intro hc_592
                replace hV := hV.1 (of_decide_eq_true hc_592)
                refine WC.seq ?_
                refine WC.region ?_
                refine WL.run hS rfl rfl rfl (ex_assign rfl) ?_
                refine WL.run hS rfl rfl rfl (ex_assign rfl) ?_
                refine WL.nil ?_
                refine WQ.next ?_
                refine WC.sub (m := [(6, (.slice none 0 0)), (7, .bool false)]) ⟨rfl, rfl, trivial⟩ ?_
                replace hS := hS.drop
                refine WC.ret ?_
                refine WQ.pass nofun ?_
                refine WQ.out nofun ?_
                refine WQ.pass nofun ?_
                refine WQ.pass nofun ?_
                refine WQ.out nofun ?_
                refine WQ.pass nofun ?_
                refine WQ.out nofun ?_
                refine WQ.pass nofun ?_
                refine WQ.out nofun ?_
                replace hS := hS.nilseg
                exact leave2 rfl rfl rfl ⟨([] : List Int), false, (.slice none 0 0), ([] : Seg), hV, rfl, OwnSl.nil, hS⟩
              · intro hc_592
                replace hV := hV.2 (of_decide_eq_false hc_592)
                refine WC.skip ?_
                refine WQ.next ?_
                refine WC.sub (m := [(1, v_4), (8, v_480), (11, .bool more_483), (12, .int .i64 i_484), (13, .int .i64 r_578), (14, .int .i64 r_580)]) ⟨rfl, rfl, rfl, rfl, rfl, rfl, trivial⟩ ?_
                refine WC.seq ?_
                refine WC.region ?_
                refine WL.run hS rfl rfl rfl (ex_move rfl) ?_
                refine WL.run hS rfl rfl rfl (ex_eql rfl rfl) ?_
                refine WL.nil ?_
                refine WQ.next ?_
                refine WC.sub (m := [(1, v_4), (8, v_480), (11, .bool more_483), (12, .int .i64 i_484), (13, .int .i64 r_578), (50, .bool (decide (r_580 = 1)))]) ⟨rfl, rfl, rfl, rfl, rfl, rfl, trivial⟩ ?_
                refine WC.cond rfl ?_ ?_
                · intro hc_591
                  replace hV := hV.1 (of_decide_eq_true hc_591)
                  refine WC.seq ?_
                  refine WC.region ?_
                  refine WL.run hS rfl rfl rfl (ex_move rfl) ?_
                  refine WL.run hS rfl rfl rfl (ex_move rfl) ?_
                  refine WL.call rfl rfl rfl (enters0 (vs := [v_480, .int .i64 r_578]) Try.call35 ⟨rfl, rfl, trivial⟩) (S_refSet  h_482 hr_579 hS hV) ?_
                  clear hV hS
                  rintro _ w ⟨r_586, c_587, fp_588, hV, rfl, h_589, hS⟩
                  refine ⟨_, rfl, ?_⟩
                  refine WL.nil ?_
                  refine WQ.next ?_
                  refine WC.sub (m := [(1, v_4), (8, v_480), (12, .int .i64 i_484)]) ⟨rfl, rfl, rfl, trivial⟩ ?_
                  refine WC.region ?_
                  refine WL.run hS rfl rfl rfl (ex_assign rfl) ?_
                  refine WL.nil ?_
                  refine WQ.out nofun ?_
                  exact WQ.there fun a ha => ⟨c_587, true, v_480, fp_588, hV, h_589, hS, ha.of_sub ⟨rfl, rfl, rfl, rfl, trivial⟩⟩
                · intro hc_591
                  replace hV := hV.2 (of_decide_eq_false hc_591)
                  refine WC.skip ?_
                  refine WQ.out nofun ?_
                  exact WQ.there fun a ha => ⟨val_479, more_483, v_480, fp_481, hV, h_482, hS, ha.of_sub ⟨rfl, rfl, rfl, rfl, trivial⟩⟩
          · intro hc_595
            replace hV := hV.2 (of_decide_eq_false hc_595)
            refine WC.exit ?_
            refine WQ.pass nofun ?_
            refine WQ.pass nofun ?_
            refine WQ.hit ?_
            refine WQ.next ?_
            refine WC.sub (m := [(1, v_4), (8, v_480), (11, .bool more_483)]) ⟨rfl, rfl, rfl, trivial⟩ ?_
            refine WC.seq ?_
            refine WC.region ?_
            refine WL.run hS rfl rfl rfl (ex_move rfl) ?_
            refine WL.run hS rfl rfl rfl (ex_not rfl) ?_
            refine WL.nil ?_
            refine WQ.next ?_
            refine WC.sub (m := [(1, v_4), (8, v_480), (55, .bool (!more_483))]) ⟨rfl, rfl, rfl, trivial⟩ ?_
            refine WC.cond rfl ?_ ?_
            · intro hc_594
              replace hV := hV.1 hc_594
              refine WC.seq ?_
              refine WC.region ?_
              refine WL.run hS rfl rfl rfl (ex_move rfl) ?_
              refine WL.run hS rfl rfl rfl (ex_assign rfl) ?_
              refine WL.run hS rfl rfl rfl (ex_assign rfl) ?_
              refine WL.nil ?_
              refine WQ.next ?_
              refine WC.sub (m := [(6, v_480), (7, .bool true)]) ⟨rfl, rfl, trivial⟩ ?_
              refine WC.ret ?_
              refine WQ.out nofun ?_
              refine WQ.pass nofun ?_
              refine WQ.out nofun ?_
              exact leave2 rfl rfl rfl ⟨val_479, true, v_480, fp_481, hV, rfl, h_482, hS⟩
            · intro hc_594
              replace hV := hV.2 hc_594
              refine WC.skip ?_
              refine WQ.out nofun ?_
              exact WQ.there fun a ha => ⟨val_479, ⟨val_479, v_480, fp_481, rfl, hV.1, h_482, hS, ha.of_sub ⟨rfl, rfl, trivial⟩⟩, hV.2⟩

theorem S_within {w0 : World} {H : View} {L : Seg} {w : World} {v_2 : Value} {a_1 : List Int} {v_5 : Value} {b_4 : List Int} {Q : Bool → Prop} (h_3 : IsSl H (cInt .i64) v_2 a_1) (h_6 : IsSl H (cInt .i64) v_5 b_4) (hS : St w0 H (L) w) (hV : V_within a_1 b_4 Q) :
    Calls Try.prog 44 #[v_2, v_5] w fun e w' => ∃ (r1 : Bool), Q r1 ∧ e = .returned (.bool r1) ∧ St w0 H (L) w' := by
  unfold V_within at hV
  refine enter Try.func44 rfl Try.ntmps44 rfl (lk_args_cons (d := 0) (v := v_2) rfl (lk_args_cons (d := 1) (v := v_5) rfl (lk_args_nil _))) ?_
  refine WC.seq ?_
  refine WC.region ?_
  refine WL.run hS rfl rfl rfl (ex_assign rfl) ?_
  refine WL.nil ?_
  refine WQ.next ?_
  refine WC.sub (m := [(0, v_2), (1, v_5)]) ⟨rfl, rfl, trivial⟩ ?_
  refine WC.seq ?_
  refine WC.seq ?_
  refine WC.region ?_
  refine WL.run hS rfl rfl rfl (ex_assign rfl) ?_
  refine WL.nil ?_
  refine WQ.next ?_
  refine WC.block ?_
  obtain ⟨I_213, mu_214, hI_318, hV⟩ := hV
  refine WC.loop (σ := Int) (fun s a w => ∃ (i_109 : Int), s = i_109 ∧ I_213 i_109 ∧ I64 i_109 ∧ St w0 H (L) w ∧ Fr 34 [(0, v_2), (1, v_5), (5, .int .i64 i_109)] a) mu_214 0 ?_ ?_
  · exact fun a ha => ⟨0, rfl, hI_318, (by unfold I64; omega), hS, ha.of_sub ⟨rfl, rfl, rfl, trivial⟩⟩
  · clear hS hI_318
    rintro i_109 a w ⟨_, rfl, hI, hr_110, hS, ha⟩
    refine in_frame ha ?_
    clear ha
    replace hV := hV _ hI
    clear hI
    refine WC.seq ?_
    refine WC.seq ?_
    refine WC.region ?_
    refine WL.run hS rfl rfl rfl (ex_move rfl) ?_
    refine WL.run hS rfl rfl rfl (ex_move rfl) ?_
    have hl_216 : Len a_1 := h_3.bound
    replace hV := hV hl_216
    refine WL.run hS rfl rfl rfl (ex_len_sl Try.underlying31 rfl h_3) ?_
    refine WL.run hS rfl rfl rfl (ex_lss rfl rfl) ?_
    refine WL.nil ?_
    refine WQ.next ?_
    refine WC.sub (m := [(0, v_2), (1, v_5), (5, .int .i64 i_109), (11, .bool (decide (i_109 < (a_1.length : Int))))]) ⟨rfl, rfl, rfl, rfl, trivial⟩ ?_
    refine WC.cond rfl ?_ ?_
    · intro hc_317
      replace hV := hV.1 (of_decide_eq_true hc_317)
      refine WC.skip ?_
      refine WQ.next ?_
      refine WC.sub (m := [(0, v_2), (1, v_5), (5, .int .i64 i_109)]) ⟨rfl, rfl, rfl, trivial⟩ ?_
      refine WC.seq ?_
      refine WC.block ?_
      refine WC.seq ?_
      refine WC.region ?_
      refine WL.run hS rfl rfl rfl (ex_assign rfl) ?_
      refine WL.nil ?_
      refine WQ.next ?_
      refine WC.seq ?_
      refine WC.seq ?_
      refine WC.region ?_
      refine WL.run hS rfl rfl rfl (ex_assign rfl) ?_
      refine WL.nil ?_
      refine WQ.next ?_
      refine WC.block ?_
      obtain ⟨I_279, mu_280, hI_316, hV⟩ := hV
      refine WC.loop (σ := Bool × Int) (fun s a w => ∃ (there_244 : Bool) (k_245 : Int), s = (there_244, k_245) ∧ I_279 (there_244, k_245) ∧ I64 k_245 ∧ St w0 H (L) w ∧ Fr 34 [(0, v_2), (1, v_5), (5, .int .i64 i_109), (6, .bool there_244), (7, .int .i64 k_245)] a) mu_280 (false, 0) ?_ ?_
      · exact fun a ha => ⟨false, 0, rfl, hI_316, (by unfold I64; omega), hS, ha.of_sub ⟨rfl, rfl, rfl, rfl, rfl, trivial⟩⟩
      · clear hS hI_316
        rintro _ a w ⟨there_244, k_245, rfl, hI, hr_246, hS, ha⟩
        refine in_frame ha ?_
        clear ha
        replace hV := hV _ hI
        clear hI
        refine WC.seq ?_
        refine WC.seq ?_
        refine WC.region ?_
        refine WL.run hS rfl rfl rfl (ex_move rfl) ?_
        refine WL.run hS rfl rfl rfl (ex_move rfl) ?_
        have hl_282 : Len b_4 := h_6.bound
        replace hV := hV hl_282
        refine WL.run hS rfl rfl rfl (ex_len_sl Try.underlying31 rfl h_6) ?_
        refine WL.run hS rfl rfl rfl (ex_lss rfl rfl) ?_
        refine WL.nil ?_
        refine WQ.next ?_
        refine WC.sub (m := [(0, v_2), (1, v_5), (5, .int .i64 i_109), (6, .bool there_244), (7, .int .i64 k_245), (17, .bool (decide (k_245 < (b_4.length : Int))))]) ⟨rfl, rfl, rfl, rfl, rfl, rfl, trivial⟩ ?_
        refine WC.cond rfl ?_ ?_
        · intro hc_315
          replace hV := hV.1 (of_decide_eq_true hc_315)
          refine WC.skip ?_
          refine WQ.next ?_
          refine WC.sub (m := [(0, v_2), (1, v_5), (5, .int .i64 i_109), (6, .bool there_244), (7, .int .i64 k_245)]) ⟨rfl, rfl, rfl, rfl, rfl, trivial⟩ ?_
          obtain ⟨J_297, hJ_298, hV⟩ := hV
          refine WC.meet (fun a w => ∃ (there_296 : Bool), J_297 there_296 ∧ St w0 H (L) w ∧ Fr 34 [(0, v_2), (1, v_5), (5, .int .i64 i_109), (6, .bool there_296), (7, .int .i64 k_245)] a) ?_ ?_
          · rintro a w ⟨there_296, hI, hS, ha⟩
            refine in_frame ha ?_
            clear ha hV
            have hV := hJ_298 _ hI
            clear hI hJ_298
            refine WC.region ?_
            refine WL.run hS rfl rfl rfl (ex_move rfl) ?_
            obtain ⟨hi_312, hV⟩ := hV
            refine WL.run hS rfl rfl rfl (ex_add rfl rfl hi_312) ?_
            refine WL.run hS rfl rfl rfl (ex_assign rfl) ?_
            refine WL.nil ?_
            exact WQ.there fun a ha => ⟨(there_296, (k_245 + 1)), ⟨there_296, (k_245 + 1), rfl, hV.1, hi_312, hS, ha.of_sub ⟨rfl, rfl, rfl, rfl, rfl, trivial⟩⟩, hV.2⟩
          · clear hJ_298
            refine WC.block ?_
            refine WC.quiet (C := St w0 H (L)) Try.mixed (by kernel_rfl) (hS.drawn _) ?_
            clear hS w
            refine Wq.run rfl rfl rfl (ex_move rfl) ?_
            refine Wq.run rfl rfl rfl (ex_move rfl) ?_
            rcases Bool.eq_false_or_eq_true there_244 with hg_299 | hg_299
            · replace hV := hV.1 hg_299
              refine Wq.skip_g rfl rfl rfl hg_299 rfl rfl ?_
              refine Wq.skip_g rfl rfl rfl hg_299 rfl rfl ?_
              refine Wq.skip_g rfl rfl rfl hg_299 rfl rfl ?_
              refine Wq.skip_g rfl rfl rfl hg_299 rfl rfl ?_
              refine Wq.skip_g rfl rfl rfl hg_299 rfl rfl ?_
              refine Wq.skip_g rfl rfl rfl hg_299 rfl rfl ?_
              refine Wq.skip_g rfl rfl rfl hg_299 rfl rfl ?_
              refine Wq.skip_g rfl rfl rfl hg_299 rfl rfl ?_
              refine Wq.skip_g rfl rfl rfl hg_299 rfl rfl ?_
              refine Wq.run rfl rfl rfl (ex_pick_t rfl hg_299 rfl) ?_
              refine Wq.run rfl rfl rfl (ex_assign rfl) ?_
              refine Wq.nil fun w hS => ?_
              refine WQ.out nofun ?_
              exact WQ.there fun a ha => ⟨true, hV, hS, ha.of_sub ⟨rfl, rfl, rfl, rfl, rfl, trivial⟩⟩
            · replace hV := hV.2 hg_299
              refine Wq.unguard rfl rfl hg_299 ?_
              refine Wq.run rfl rfl rfl (ex_move rfl) ?_
              refine Wq.unguard rfl rfl hg_299 ?_
              refine Wq.run rfl rfl rfl (ex_move rfl) ?_
              refine Wq.unguard rfl rfl hg_299 ?_
              obtain ⟨hin_300, hV⟩ := hV
              refine Wq.runx rfl rfl rfl (ex_index Try.underlying31 Try.sizeOf3 rfl rfl h_3 hin_300) ?_
              intro p_301 hp_302
              refine Wq.unguard rfl rfl hg_299 ?_
              refine Wq.runx rfl rfl rfl (ex_load Try.isAgg3 rfl rfl hp_302) ?_
              intro u_303 hu_304
              obtain ⟨rfl, hr_305⟩ := cInt_rep hu_304
              replace hr_305 := has_I64 hr_305
              replace hV := hV hr_305
              refine Wq.unguard rfl rfl hg_299 ?_
              refine Wq.run rfl rfl rfl (ex_move rfl) ?_
              refine Wq.unguard rfl rfl hg_299 ?_
              refine Wq.run rfl rfl rfl (ex_move rfl) ?_
              refine Wq.unguard rfl rfl hg_299 ?_
              obtain ⟨hin_306, hV⟩ := hV
              refine Wq.runx rfl rfl rfl (ex_index Try.underlying31 Try.sizeOf3 rfl rfl h_6 hin_306) ?_
              intro p_307 hp_308
              refine Wq.unguard rfl rfl hg_299 ?_
              refine Wq.runx rfl rfl rfl (ex_load Try.isAgg3 rfl rfl hp_308) ?_
              intro u_309 hu_310
              obtain ⟨rfl, hr_311⟩ := cInt_rep hu_310
              replace hr_311 := has_I64 hr_311
              replace hV := hV hr_311
              refine Wq.unguard rfl rfl hg_299 ?_
              refine Wq.run rfl rfl rfl (ex_eql rfl rfl) ?_
              refine Wq.run rfl rfl rfl (ex_pick_f rfl hg_299 rfl) ?_
              refine Wq.run rfl rfl rfl (ex_assign rfl) ?_
              refine Wq.nil fun w hS => ?_
              refine WQ.out nofun ?_
              exact WQ.there fun a ha => ⟨decide ((ix a_1 i_109) = (ix b_4 k_245)), hV, hS, ha.of_sub ⟨rfl, rfl, rfl, rfl, rfl, trivial⟩⟩
        · intro hc_315
          replace hV := hV.2 (of_decide_eq_false hc_315)
          refine WC.exit ?_
          refine WQ.pass nofun ?_
          refine WQ.pass nofun ?_
          refine WQ.hit ?_
          refine WQ.next ?_
          refine WC.sub (m := [(0, v_2), (1, v_5), (5, .int .i64 i_109), (6, .bool there_244)]) ⟨rfl, rfl, rfl, rfl, trivial⟩ ?_
          refine WC.seq ?_
          refine WC.region ?_
          refine WL.run hS rfl rfl rfl (ex_move rfl) ?_
          refine WL.run hS rfl rfl rfl (ex_not rfl) ?_
          refine WL.nil ?_
          refine WQ.next ?_
          refine WC.sub (m := [(0, v_2), (1, v_5), (5, .int .i64 i_109), (33, .bool (!there_244))]) ⟨rfl, rfl, rfl, rfl, trivial⟩ ?_
          refine WC.cond rfl ?_ ?_
          · intro hc_314
            replace hV := hV.1 hc_314
            refine WC.seq ?_
            refine WC.region ?_
            refine WL.run hS rfl rfl rfl (ex_assign rfl) ?_
            refine WL.nil ?_
            refine WQ.next ?_
            refine WC.sub (m := [(4, .bool false)]) ⟨rfl, trivial⟩ ?_
            refine WC.ret ?_
            refine WQ.out nofun ?_
            refine WQ.pass nofun ?_
            refine WQ.pass nofun ?_
            refine WQ.out nofun ?_
            refine WQ.pass nofun ?_
            exact leave1 rfl rfl ⟨false, hV, rfl, hS⟩
          · intro hc_314
            replace hV := hV.2 hc_314
            refine WC.skip ?_
            refine WQ.out nofun ?_
            refine WQ.next ?_
            refine WC.sub (m := [(0, v_2), (1, v_5), (5, .int .i64 i_109)]) ⟨rfl, rfl, rfl, trivial⟩ ?_
            refine WC.region ?_
            refine WL.run hS rfl rfl rfl (ex_move rfl) ?_
            obtain ⟨hi_313, hV⟩ := hV
            refine WL.run hS rfl rfl rfl (ex_add rfl rfl hi_313) ?_
            refine WL.run hS rfl rfl rfl (ex_assign rfl) ?_
            refine WL.nil ?_
            exact WQ.there fun a ha => ⟨(i_109 + 1), ⟨(i_109 + 1), rfl, hV.1, hi_313, hS, ha.of_sub ⟨rfl, rfl, rfl, trivial⟩⟩, hV.2⟩
    · intro hc_317
      replace hV := hV.2 (of_decide_eq_false hc_317)
      refine WC.exit ?_
      refine WQ.pass nofun ?_
      refine WQ.pass nofun ?_
      refine WQ.hit ?_
      refine WQ.next ?_
      refine WC.sub (m := []) trivial ?_
      refine WC.seq ?_
      refine WC.region ?_
      refine WL.run hS rfl rfl rfl (ex_assign rfl) ?_
      refine WL.nil ?_
      refine WQ.next ?_
      refine WC.ret ?_
      exact leave1 rfl rfl ⟨true, hV, rfl, hS⟩

theorem S_refAlike {w0 : World} {H : View} {L : Seg} {w : World} {v_2 : Value} {a_1 : List Int} {v_5 : Value} {b_4 : List Int} {Q : Bool → Prop} (h_3 : IsSl H (cInt .i64) v_2 a_1) (h_6 : IsSl H (cInt .i64) v_5 b_4) (hS : St w0 H (L) w) (hV : V_refAlike a_1 b_4 Q) :
    Calls Try.prog 34 #[v_2, v_5] w fun e w' => ∃ (r1 : Bool), Q r1 ∧ e = .returned (.bool r1) ∧ St w0 H (L) w' := by
  unfold V_refAlike at hV
  refine enter Try.func34 rfl Try.ntmps34 rfl (lk_args_cons (d := 0) (v := v_2) rfl (lk_args_cons (d := 1) (v := v_5) rfl (lk_args_nil _))) ?_
  refine WC.seq ?_
  refine WC.region ?_
  refine WL.run hS rfl rfl rfl (ex_assign rfl) ?_
  refine WL.nil ?_
  refine WQ.next ?_
  refine WC.sub (m := [(0, v_2), (1, v_5)]) ⟨rfl, rfl, trivial⟩ ?_
  refine WC.seq ?_
  refine WC.region ?_
  refine WL.run hS rfl rfl rfl (ex_move rfl) ?_
  refine WL.run hS rfl rfl rfl (ex_move rfl) ?_
  refine WL.call rfl rfl rfl (enters0 (vs := [v_2, v_5]) Try.call44 ⟨rfl, rfl, trivial⟩) (S_within  h_3 h_6 hS hV) ?_
  clear hV hS
  rintro _ w ⟨r_7, hV, rfl, hS⟩
  refine ⟨_, rfl, ?_⟩
  refine WL.run hS rfl rfl rfl (ex_assign rfl) ?_
  refine WL.nil ?_
  refine WQ.next ?_
  refine WC.sub (m := [(0, v_2), (1, v_5), (5, .bool r_7)]) ⟨rfl, rfl, rfl, trivial⟩ ?_
  refine WC.seq ?_
  refine WC.region ?_
  refine WL.run hS rfl rfl rfl (ex_move rfl) ?_
  refine WL.run hS rfl rfl rfl (ex_move rfl) ?_
  refine WL.call rfl rfl rfl (enters0 (vs := [v_5, v_2]) Try.call44 ⟨rfl, rfl, trivial⟩) (S_within  h_6 h_3 hS hV) ?_
  clear hV hS
  rintro _ w ⟨r_9, hV, rfl, hS⟩
  refine ⟨_, rfl, ?_⟩
  refine WL.run hS rfl rfl rfl (ex_assign rfl) ?_
  refine WL.nil ?_
  refine WQ.next ?_
  refine WC.sub (m := [(5, .bool r_7), (6, .bool r_9)]) ⟨rfl, rfl, trivial⟩ ?_
  refine WC.seq ?_
  refine WC.via (m := [(4, .bool (decide ((r_7 = true) ∧ (r_9 = true))))]) ?_ ?_
  · refine WC.region ?_
    refine WL.run hS rfl rfl rfl (ex_move rfl) ?_
    refine WL.run hS rfl rfl rfl (ex_move rfl) ?_
    rcases Bool.eq_false_or_eq_true r_7 with hg_11 | hg_11
    · refine WL.unguard rfl rfl hg_11 ?_
      refine WL.run hS rfl rfl rfl (ex_move rfl) ?_
      refine WL.run hS rfl rfl rfl (ex_pick_t rfl hg_11 rfl) ?_
      refine WL.sub (m := [(5, .bool r_7), (6, .bool r_9), (13, .bool r_7), (14, .bool r_7), (15, .bool r_9), (16, .bool (decide ((r_7 = true) ∧ (r_9 = true))))]) ⟨rfl, rfl, rfl, rfl, rfl, congrArg (fun b => some (Value.bool b)) ((dec_true _).trans (and_t ((dec_true _).symm.trans hg_11) : decide (r_9 = true) = decide ((r_7 = true) ∧ (r_9 = true)))), trivial⟩ ?_
      refine WL.run hS rfl rfl rfl (ex_assign rfl) ?_
      exact WL.nil (At.of ⟨rfl, trivial⟩)
    · refine WL.skip_g rfl rfl rfl hg_11 rfl rfl ?_
      refine WL.run hS rfl rfl rfl (ex_pick_f rfl hg_11 rfl) ?_
      refine WL.sub (m := [(5, .bool r_7), (6, .bool r_9), (13, .bool r_7), (14, .bool r_7), (15, undef), (16, .bool (decide ((r_7 = true) ∧ (r_9 = true))))]) ⟨rfl, rfl, rfl, rfl, rfl, congrArg (fun b => some (Value.bool b)) (and_f ((dec_true _).symm.trans hg_11) : false = decide ((r_7 = true) ∧ (r_9 = true))), trivial⟩ ?_
      refine WL.run hS rfl rfl rfl (ex_assign rfl) ?_
      exact WL.nil (At.of ⟨rfl, trivial⟩)
  · refine WQ.next ?_
    refine WC.ret ?_
    exact leave1 rfl rfl ⟨decide ((r_7 = true) ∧ (r_9 = true)), hV, rfl, hS⟩

theorem S_gone {w0 : World} {H : View} {L : Seg} {w : World} {v_2 : Value} {l_1 : List (List Int)} {fp_4 : Seg} {v_7 : Value} {c_6 : List Int} {Q : (List (List Int)) → Prop} (h_3 : OwnSl H (cSl (cInt .i64)) 31 v_2 l_1 fp_4) (h_8 : IsSl H (cInt .i64) v_7 c_6) (hS : St w0 H (fp_4 ++ L) w) (hV : V_gone l_1 c_6 Q) :
    Calls Try.prog 21 #[v_2, v_7] w fun e w' => ∃ (r1 : List (List Int)) (v1 : Value) (fp1 : Seg), Q r1 ∧ e = .returned (v1) ∧ OwnSl H (cSl (cInt .i64)) 31 v1 r1 fp1 ∧ St w0 H (fp1 ++ L) w' := by
  unfold V_gone at hV
  refine enter Try.func21 rfl Try.ntmps21 rfl (lk_args_cons (d := 0) (v := v_2) rfl (lk_args_cons (d := 1) (v := v_7) rfl (lk_args_nil _))) ?_
  refine WC.seq ?_
  refine WC.region ?_
  refine WL.run hS rfl rfl rfl (ex_assign rfl) ?_
  refine WL.nil ?_
  refine WQ.next ?_
  refine WC.sub (m := [(0, v_2), (1, v_7)]) ⟨rfl, rfl, trivial⟩ ?_
  refine WC.seq ?_
  refine WC.seq ?_
  refine WC.region ?_
  refine WL.run hS rfl rfl rfl (ex_assign rfl) ?_
  refine WL.nil ?_
  refine WQ.next ?_
  refine WC.block ?_
  obtain ⟨I_70, mu_71, hI_102, hV⟩ := hV
  refine WC.loop (σ := Int) (fun s a w => ∃ (i_39 : Int), s = i_39 ∧ I_70 i_39 ∧ I64 i_39 ∧ St w0 H (fp_4 ++ L) w ∧ Fr 34 [(0, v_2), (1, v_7), (5, .int .i64 i_39)] a) mu_71 0 ?_ ?_
  · exact fun a ha => ⟨0, rfl, hI_102, (by unfold I64; omega), hS, ha.of_sub ⟨rfl, rfl, rfl, trivial⟩⟩
  · clear hS hI_102
    rintro i_39 a w ⟨_, rfl, hI, hr_40, hS, ha⟩
    refine in_frame ha ?_
    clear ha
    replace hV := hV _ hI
    clear hI
    refine WC.seq ?_
    refine WC.seq ?_
    refine WC.region ?_
    refine WL.run hS rfl rfl rfl (ex_move rfl) ?_
    refine WL.run hS rfl rfl rfl (ex_move rfl) ?_
    have hl_73 : Len l_1 := h_3.bound
    replace hV := hV hl_73
    refine WL.run hS rfl rfl rfl (ex_len_own Try.underlying22 rfl h_3) ?_
    refine WL.run hS rfl rfl rfl (ex_lss rfl rfl) ?_
    refine WL.nil ?_
    refine WQ.next ?_
    refine WC.sub (m := [(0, v_2), (1, v_7), (5, .int .i64 i_39), (11, .bool (decide (i_39 < (l_1.length : Int))))]) ⟨rfl, rfl, rfl, rfl, trivial⟩ ?_
    refine WC.cond rfl ?_ ?_
    · intro hc_101
      replace hV := hV.1 (of_decide_eq_true hc_101)
      refine WC.skip ?_
      refine WQ.next ?_
      refine WC.sub (m := [(0, v_2), (1, v_7), (5, .int .i64 i_39)]) ⟨rfl, rfl, rfl, trivial⟩ ?_
      refine WC.seq ?_
      refine WC.block ?_
      refine WC.seq ?_
      refine WC.region ?_
      refine WL.run hS rfl rfl rfl (ex_move rfl) ?_
      refine WL.run hS rfl rfl rfl (ex_move rfl) ?_
      obtain ⟨hin_74, hV⟩ := hV
      refine WL.runx hS rfl rfl rfl (ex_index_own Try.underlying22 Try.sizeOf31 rfl rfl h_3 hin_74) ?_
      intro p_75 hp_76
      refine WL.runx hS rfl rfl rfl (ex_load_own (w := w) hS Try.isAgg31 rfl rfl h_3 hp_76 hin_74) ?_
      intro u_77 hu_78
      replace hu_78 := cSl_rep hu_78
      refine WL.run hS rfl rfl rfl (ex_move rfl) ?_
      refine WL.call rfl rfl rfl (enters0 (vs := [u_77, v_7]) Try.call34 ⟨rfl, rfl, trivial⟩) (S_refAlike  hu_78 h_8 hS hV) ?_
      clear hV hS
      rintro _ w ⟨r_79, hV, rfl, hS⟩
      refine ⟨_, rfl, ?_⟩
      refine WL.run hS rfl rfl rfl (ex_assign rfl) ?_
      refine WL.nil ?_
      refine WQ.next ?_
      refine WC.sub (m := [(0, v_2), (1, v_7), (5, .int .i64 i_39), (6, .bool r_79)]) ⟨rfl, rfl, rfl, rfl, trivial⟩ ?_
      refine WC.seq ?_
      refine WC.region ?_
      refine WL.run hS rfl rfl rfl (ex_move rfl) ?_
      refine WL.nil ?_
      refine WQ.next ?_
      refine WC.sub (m := [(0, v_2), (1, v_7), (5, .int .i64 i_39), (20, .bool r_79)]) ⟨rfl, rfl, rfl, rfl, trivial⟩ ?_
      refine WC.cond rfl ?_ ?_
      · intro hc_100
        replace hV := hV.1 hc_100
        refine WC.seq ?_
        refine WC.region ?_
        refine WL.run hS rfl rfl rfl (ex_assign rfl) ?_
        refine WL.nil ?_
        refine WQ.next ?_
        refine WC.sub (m := [(0, v_2), (5, .int .i64 i_39), (7, (.slice none 0 0))]) ⟨rfl, rfl, rfl, trivial⟩ ?_
        refine WC.seq ?_
        refine WC.region ?_
        refine WL.run hS rfl rfl rfl (ex_move rfl) ?_
        refine WL.run hS rfl rfl rfl (ex_move rfl) ?_
        refine WL.run hS rfl rfl rfl (ex_move rfl) ?_
        obtain ⟨hb_82, hV⟩ := hV
        refine WL.runx hS rfl rfl rfl (ex_slice_hi_own Try.underlying22 Try.sizeOf31 rfl rfl h_3 hb_82) ?_
        intro v_83 h_84
        obtain ⟨hr_85, hV⟩ := hV
        replace hS := hS.nilseg
        refine WL.append (c := (cSl (cInt .i64))) (xs := ([] : List (List Int))) (ys := (l_1.take i_39.toNat)) rfl Try.underlying22 Try.info31 rfl rfl rfl hS OwnSl.nil (h_84 hS.f2) hr_85.1 hr_85.2 ?_
        clear hS
        intro v_86 w fp_87 h_88 hS
        rw [List.nil_append] at h_88
        refine WL.run hS rfl rfl rfl (ex_assign rfl) ?_
        refine WL.nil ?_
        refine WQ.next ?_
        refine WC.sub (m := [(0, v_2), (5, .int .i64 i_39), (7, v_86)]) ⟨rfl, rfl, rfl, trivial⟩ ?_
        refine WC.seq ?_
        refine WC.region ?_
        refine WL.run hS rfl rfl rfl (ex_move rfl) ?_
        refine WL.run hS rfl rfl rfl (ex_move rfl) ?_
        refine WL.run hS rfl rfl rfl (ex_move rfl) ?_
        obtain ⟨hi_90, hV⟩ := hV
        refine WL.run hS rfl rfl rfl (ex_add rfl rfl hi_90) ?_
        obtain ⟨hb_91, hV⟩ := hV
        refine WL.runx hS rfl rfl rfl (ex_slice_lo_own Try.underlying22 Try.sizeOf31 rfl rfl h_3 hb_91) ?_
        intro v_92 h_93
        obtain ⟨hr_94, hV⟩ := hV
        replace hS := hS.f2
        replace hS := hS.f2
        refine WL.append (c := (cSl (cInt .i64))) (xs := (l_1.take i_39.toNat)) (ys := (l_1.drop (i_39 + 1).toNat)) rfl Try.underlying22 Try.info31 rfl rfl rfl hS h_88 (h_93 hS.f2) hr_94.1 hr_94.2 ?_
        clear hS
        intro v_95 w fp_96 h_97 hS
        refine WL.run hS rfl rfl rfl (ex_assign rfl) ?_
        refine WL.nil ?_
        refine WQ.next ?_
        refine WC.sub (m := [(7, v_95)]) ⟨rfl, trivial⟩ ?_
        replace hS := hS.f2.drop
        refine WC.seq ?_
        refine WC.region ?_
        refine WL.run hS rfl rfl rfl (ex_move rfl) ?_
        refine WL.run hS rfl rfl rfl (ex_assign rfl) ?_
        refine WL.nil ?_
        refine WQ.next ?_
        refine WC.sub (m := [(4, v_95)]) ⟨rfl, trivial⟩ ?_
        refine WC.ret ?_
        refine WQ.out nofun ?_
        refine WQ.pass nofun ?_
        refine WQ.pass nofun ?_
        refine WQ.out nofun ?_
        refine WQ.pass nofun ?_
        exact leave1 rfl rfl ⟨((l_1.take i_39.toNat) ++ (l_1.drop (i_39 + 1).toNat)), v_95, fp_96, hV, rfl, h_97, hS⟩
      · intro hc_100
        replace hV := hV.2 hc_100
        refine WC.skip ?_
        refine WQ.out nofun ?_
        refine WQ.next ?_
        refine WC.sub (m := [(0, v_2), (1, v_7), (5, .int .i64 i_39)]) ⟨rfl, rfl, rfl, trivial⟩ ?_
        refine WC.region ?_
        refine WL.run hS rfl rfl rfl (ex_move rfl) ?_
        obtain ⟨hi_99, hV⟩ := hV
        refine WL.run hS rfl rfl rfl (ex_add rfl rfl hi_99) ?_
        refine WL.run hS rfl rfl rfl (ex_assign rfl) ?_
        refine WL.nil ?_
        exact WQ.there fun a ha => ⟨(i_39 + 1), ⟨(i_39 + 1), rfl, hV.1, hi_99, hS, ha.of_sub ⟨rfl, rfl, rfl, trivial⟩⟩, hV.2⟩
    · intro hc_101
      replace hV := hV.2 (of_decide_eq_false hc_101)
      refine WC.exit ?_
      refine WQ.pass nofun ?_
      refine WQ.pass nofun ?_
      refine WQ.hit ?_
      refine WQ.next ?_
      refine WC.sub (m := [(0, v_2)]) ⟨rfl, trivial⟩ ?_
      refine WC.seq ?_
      refine WC.region ?_
      refine WL.run hS rfl rfl rfl (ex_move rfl) ?_
      refine WL.run hS rfl rfl rfl (ex_assign rfl) ?_
      refine WL.nil ?_
      refine WQ.next ?_
      refine WC.sub (m := [(4, v_2)]) ⟨rfl, trivial⟩ ?_
      refine WC.ret ?_
      exact leave1 rfl rfl ⟨l_1, v_2, fp_4, hV, rfl, h_3, hS⟩

theorem S_Makes {w0 : World} {H : View} {L : Seg} {w : World} {v_2 : Value} {c_1 : List Int} {v_5 : Value} {model_4 : List Bool} {Q : Bool → Prop} (h_3 : IsSl H (cInt .i64) v_2 c_1) (h_6 : IsSl H cBool v_5 model_4) (hS : St w0 H (L) w) (hV : V_Makes c_1 model_4 Q) :
    Calls Try.prog 24 #[v_2, v_5] w fun e w' => ∃ (r1 : Bool), Q r1 ∧ e = .returned (.bool r1) ∧ St w0 H (L) w' := by
  unfold V_Makes at hV
  refine enter Try.func24 rfl Try.ntmps24 rfl (lk_args_cons (d := 0) (v := v_2) rfl (lk_args_cons (d := 1) (v := v_5) rfl (lk_args_nil _))) ?_
  refine WC.seq ?_
  refine WC.region ?_
  refine WL.run hS rfl rfl rfl (ex_assign rfl) ?_
  refine WL.nil ?_
  refine WQ.next ?_
  refine WC.sub (m := [(0, v_2), (1, v_5)]) ⟨rfl, rfl, trivial⟩ ?_
  refine WC.seq ?_
  refine WC.seq ?_
  refine WC.region ?_
  refine WL.run hS rfl rfl rfl (ex_assign rfl) ?_
  refine WL.nil ?_
  refine WQ.next ?_
  refine WC.block ?_
  obtain ⟨I_101, mu_102, hI_150, hV⟩ := hV
  refine WC.loop (σ := Int) (fun s a w => ∃ (i_53 : Int), s = i_53 ∧ I_101 i_53 ∧ I64 i_53 ∧ St w0 H (L) w ∧ Fr 39 [(0, v_2), (1, v_5), (5, .int .i64 i_53)] a) mu_102 0 ?_ ?_
  · exact fun a ha => ⟨0, rfl, hI_150, (by unfold I64; omega), hS, ha.of_sub ⟨rfl, rfl, rfl, trivial⟩⟩
  · clear hS hI_150
    rintro i_53 a w ⟨_, rfl, hI, hr_54, hS, ha⟩
    refine in_frame ha ?_
    clear ha
    replace hV := hV _ hI
    clear hI
    refine WC.seq ?_
    refine WC.seq ?_
    refine WC.region ?_
    refine WL.run hS rfl rfl rfl (ex_move rfl) ?_
    refine WL.run hS rfl rfl rfl (ex_move rfl) ?_
    have hl_104 : Len c_1 := h_3.bound
    replace hV := hV hl_104
    refine WL.run hS rfl rfl rfl (ex_len_sl Try.underlying31 rfl h_3) ?_
    refine WL.run hS rfl rfl rfl (ex_lss rfl rfl) ?_
    refine WL.nil ?_
    refine WQ.next ?_
    refine WC.sub (m := [(0, v_2), (1, v_5), (5, .int .i64 i_53), (10, .bool (decide (i_53 < (c_1.length : Int))))]) ⟨rfl, rfl, rfl, rfl, trivial⟩ ?_
    refine WC.cond rfl ?_ ?_
    · intro hc_149
      replace hV := hV.1 (of_decide_eq_true hc_149)
      refine WC.skip ?_
      refine WQ.next ?_
      refine WC.sub (m := [(0, v_2), (1, v_5), (5, .int .i64 i_53)]) ⟨rfl, rfl, rfl, trivial⟩ ?_
      refine WC.seq ?_
      refine WC.block ?_
      refine WC.seq ?_
      refine WC.region ?_
      refine WL.run hS rfl rfl rfl (ex_move rfl) ?_
      refine WL.run hS rfl rfl rfl (ex_move rfl) ?_
      obtain ⟨hin_105, hV⟩ := hV
      refine WL.runx hS rfl rfl rfl (ex_index Try.underlying31 Try.sizeOf3 rfl rfl h_3 hin_105) ?_
      intro p_106 hp_107
      refine WL.runx hS rfl rfl rfl (ex_load Try.isAgg3 rfl rfl hp_107) ?_
      intro u_108 hu_109
      obtain ⟨rfl, hr_110⟩ := cInt_rep hu_109
      replace hr_110 := has_I64 hr_110
      replace hV := hV hr_110
      refine WL.call rfl rfl rfl (enters0 (vs := [.int .i64 (ix c_1 i_53)]) Try.call37 ⟨rfl, trivial⟩) (S_size  hr_110 hS hV) ?_
      clear hV hS
      rintro _ w ⟨r_111, hV, rfl, hr_112, hS⟩
      refine ⟨_, rfl, ?_⟩
      refine WL.run hS rfl rfl rfl (ex_assign rfl) ?_
      refine WL.nil ?_
      refine WQ.next ?_
      refine WC.sub (m := [(0, v_2), (1, v_5), (5, .int .i64 i_53), (6, .int .i64 r_111)]) ⟨rfl, rfl, rfl, rfl, trivial⟩ ?_
      obtain ⟨J_130, hJ_131, hV⟩ := hV
      refine WC.meet (fun a w => ∃ (x_129 : Bool), J_130 x_129 ∧ St w0 H (L) w ∧ Fr 39 [(0, v_2), (1, v_5), (5, .int .i64 i_53), (38, .bool x_129)] a) ?_ ?_
      · rintro a w ⟨x_129, hI, hS, ha⟩
        refine in_frame ha ?_
        clear ha hV
        have hV := hJ_131 _ hI
        clear hI hJ_131
        refine WC.cond rfl ?_ ?_
        · intro hc_148
          replace hV := hV.1 hc_148
          refine WC.seq ?_
          refine WC.region ?_
          refine WL.run hS rfl rfl rfl (ex_assign rfl) ?_
          refine WL.nil ?_
          refine WQ.next ?_
          refine WC.sub (m := [(4, .bool true)]) ⟨rfl, trivial⟩ ?_
          refine WC.ret ?_
          refine WQ.out nofun ?_
          refine WQ.pass nofun ?_
          refine WQ.pass nofun ?_
          refine WQ.out nofun ?_
          refine WQ.pass nofun ?_
          exact leave1 rfl rfl ⟨true, hV, rfl, hS⟩
        · intro hc_148
          replace hV := hV.2 hc_148
          refine WC.skip ?_
          refine WQ.out nofun ?_
          refine WQ.next ?_
          refine WC.sub (m := [(0, v_2), (1, v_5), (5, .int .i64 i_53)]) ⟨rfl, rfl, rfl, trivial⟩ ?_
          refine WC.region ?_
          refine WL.run hS rfl rfl rfl (ex_move rfl) ?_
          obtain ⟨hi_147, hV⟩ := hV
          refine WL.run hS rfl rfl rfl (ex_add rfl rfl hi_147) ?_
          refine WL.run hS rfl rfl rfl (ex_assign rfl) ?_
          refine WL.nil ?_
          exact WQ.there fun a ha => ⟨(i_53 + 1), ⟨(i_53 + 1), rfl, hV.1, hi_147, hS, ha.of_sub ⟨rfl, rfl, rfl, trivial⟩⟩, hV.2⟩
      · clear hJ_131
        refine WC.quiet (C := St w0 H (L)) Try.mixed (by kernel_rfl) (hS.drawn _) ?_
        clear hS w
        refine Wq.run rfl rfl rfl (ex_move rfl) ?_
        refine Wq.run rfl rfl rfl (ex_gtr rfl rfl) ?_
        refine Wq.run rfl rfl rfl (ex_move rfl) ?_
        rcases Bool.eq_false_or_eq_true (decide (0 < r_111)) with hg_132 | hg_132
        · replace hV := hV.1 (of_decide_eq_true hg_132)
          refine Wq.unguard rfl rfl hg_132 ?_
          refine Wq.run rfl rfl rfl (ex_move rfl) ?_
          refine Wq.unguard rfl rfl hg_132 ?_
          refine Wq.run rfl rfl rfl (ex_move rfl) ?_
          refine Wq.unguard rfl rfl hg_132 ?_
          have hl_133 : Len model_4 := h_6.bound
          replace hV := hV hl_133
          refine Wq.run rfl rfl rfl (ex_len_sl Try.underlying27 rfl h_6) ?_
          refine Wq.unguard rfl rfl hg_132 ?_
          refine Wq.run rfl rfl rfl (ex_leq rfl rfl) ?_
          refine Wq.run rfl rfl rfl (ex_pick_t rfl hg_132 rfl) ?_
          refine Wq.run rfl rfl rfl (ex_move rfl) ?_
          rcases Bool.eq_false_or_eq_true (decide (r_111 ≤ (model_4.length : Int))) with hg_134 | hg_134
          · replace hV := hV.1 (of_decide_eq_true hg_134)
            refine Wq.unguard rfl rfl hg_134 ?_
            refine Wq.run rfl rfl rfl (ex_move rfl) ?_
            refine Wq.unguard rfl rfl hg_134 ?_
            refine Wq.run rfl rfl rfl (ex_move rfl) ?_
            refine Wq.unguard rfl rfl hg_134 ?_
            obtain ⟨hi_135, hV⟩ := hV
            refine Wq.run rfl rfl rfl (ex_sub rfl rfl hi_135) ?_
            refine Wq.unguard rfl rfl hg_134 ?_
            obtain ⟨hin_136, hV⟩ := hV
            refine Wq.runx rfl rfl rfl (ex_index Try.underlying27 Try.sizeOf4 rfl rfl h_6 hin_136) ?_
            intro p_137 hp_138
            refine Wq.unguard rfl rfl hg_134 ?_
            refine Wq.runx rfl rfl rfl (ex_load Try.isAgg4 rfl rfl hp_138) ?_
            intro u_139 hu_140
            obtain rfl := cBool_rep hu_140
            refine Wq.unguard rfl rfl hg_134 ?_
            refine Wq.run rfl rfl rfl (ex_move rfl) ?_
            refine Wq.unguard rfl rfl hg_134 ?_
            refine Wq.run rfl rfl rfl (ex_move rfl) ?_
            refine Wq.unguard rfl rfl hg_134 ?_
            obtain ⟨hin_141, hV⟩ := hV
            refine Wq.runx rfl rfl rfl (ex_index Try.underlying31 Try.sizeOf3 rfl rfl h_3 hin_141) ?_
            intro p_142 hp_143
            refine Wq.unguard rfl rfl hg_134 ?_
            refine Wq.runx rfl rfl rfl (ex_load Try.isAgg3 rfl rfl hp_143) ?_
            intro u_144 hu_145
            obtain ⟨rfl, hr_146⟩ := cInt_rep hu_145
            replace hr_146 := has_I64 hr_146
            replace hV := hV hr_146
            refine Wq.unguard rfl rfl hg_134 ?_
            refine Wq.run rfl rfl rfl (ex_gtr rfl rfl) ?_
            refine Wq.unguard rfl rfl hg_134 ?_
            refine Wq.run rfl rfl rfl (ex_beql Try.underlying4 rfl rfl) ?_
            refine Wq.run rfl rfl rfl (ex_pick_t rfl hg_134 rfl) ?_
            refine Wq.nil fun w hS => ?_
            exact WQ.there fun a ha => ⟨((ix model_4 (r_111 - 1)) == (decide (0 < (ix c_1 i_53)))), hV, hS, ha.of_sub ⟨rfl, rfl, rfl, rfl, trivial⟩⟩
          · replace hV := hV.2 (of_decide_eq_false hg_134)
            refine Wq.skip_g rfl rfl rfl hg_134 rfl rfl ?_
            refine Wq.skip_g rfl rfl rfl hg_134 rfl rfl ?_
            refine Wq.skip_g rfl rfl rfl hg_134 rfl rfl ?_
            refine Wq.skip_g rfl rfl rfl hg_134 rfl rfl ?_
            refine Wq.skip_g rfl rfl rfl hg_134 rfl rfl ?_
            refine Wq.skip_g rfl rfl rfl hg_134 rfl rfl ?_
            refine Wq.skip_g rfl rfl rfl hg_134 rfl rfl ?_
            refine Wq.skip_g rfl rfl rfl hg_134 rfl rfl ?_
            refine Wq.skip_g rfl rfl rfl hg_134 rfl rfl ?_
            refine Wq.skip_g rfl rfl rfl hg_134 rfl rfl ?_
            refine Wq.skip_g rfl rfl rfl hg_134 rfl rfl ?_
            refine Wq.run rfl rfl rfl (ex_pick_f rfl hg_134 rfl) ?_
            refine Wq.nil fun w hS => ?_
            exact WQ.there fun a ha => ⟨false, hV, hS, ha.of_sub ⟨rfl, rfl, rfl, rfl, trivial⟩⟩
        · replace hV := hV.2 (of_decide_eq_false hg_132)
          refine Wq.skip_g rfl rfl rfl hg_132 rfl rfl ?_
          refine Wq.skip_g rfl rfl rfl hg_132 rfl rfl ?_
          refine Wq.skip_g rfl rfl rfl hg_132 rfl rfl ?_
          refine Wq.skip_g rfl rfl rfl hg_132 rfl rfl ?_
          refine Wq.run rfl rfl rfl (ex_pick_f rfl hg_132 rfl) ?_
          refine Wq.run rfl rfl rfl (ex_move rfl) ?_
          refine Wq.skip_g rfl rfl rfl rfl rfl rfl ?_
          refine Wq.skip_g rfl rfl rfl rfl rfl rfl ?_
          refine Wq.skip_g rfl rfl rfl rfl rfl rfl ?_
          refine Wq.skip_g rfl rfl rfl rfl rfl rfl ?_
          refine Wq.skip_g rfl rfl rfl rfl rfl rfl ?_
          refine Wq.skip_g rfl rfl rfl rfl rfl rfl ?_
          refine Wq.skip_g rfl rfl rfl rfl rfl rfl ?_
          refine Wq.skip_g rfl rfl rfl rfl rfl rfl ?_
          refine Wq.skip_g rfl rfl rfl rfl rfl rfl ?_
          refine Wq.skip_g rfl rfl rfl rfl rfl rfl ?_
          refine Wq.skip_g rfl rfl rfl rfl rfl rfl ?_
          refine Wq.run rfl rfl rfl (ex_pick_f rfl rfl rfl) ?_
          refine Wq.nil fun w hS => ?_
          exact WQ.there fun a ha => ⟨false, hV, hS, ha.of_sub ⟨rfl, rfl, rfl, rfl, trivial⟩⟩
    · intro hc_149
      replace hV := hV.2 (of_decide_eq_false hc_149)
      refine WC.exit ?_
      refine WQ.pass nofun ?_
      refine WQ.pass nofun ?_
      refine WQ.hit ?_
      refine WQ.next ?_
      refine WC.sub (m := []) trivial ?_
      refine WC.seq ?_
      refine WC.region ?_
      refine WL.run hS rfl rfl rfl (ex_assign rfl) ?_
      refine WL.nil ?_
      refine WQ.next ?_
      refine WC.ret ?_
      exact leave1 rfl rfl ⟨false, hV, rfl, hS⟩

theorem S_Models {w0 : World} {H : View} {L : Seg} {w : World} {v_2 : Value} {clauses_1 : List (List Int)} {v_5 : Value} {model_4 : List Bool} {Q : Bool → Prop} (h_3 : IsSl H (cSl (cInt .i64)) v_2 clauses_1) (h_6 : IsSl H cBool v_5 model_4) (hS : St w0 H (L) w) (hV : V_Models clauses_1 model_4 Q) :
    Calls Try.prog 10 #[v_2, v_5] w fun e w' => ∃ (r1 : Bool), Q r1 ∧ e = .returned (.bool r1) ∧ St w0 H (L) w' := by
  unfold V_Models at hV
  refine enter Try.func10 rfl Try.ntmps10 rfl (lk_args_cons (d := 0) (v := v_2) rfl (lk_args_cons (d := 1) (v := v_5) rfl (lk_args_nil _))) ?_
  refine WC.seq ?_
  refine WC.region ?_
  refine WL.run hS rfl rfl rfl (ex_assign rfl) ?_
  refine WL.nil ?_
  refine WQ.next ?_
  refine WC.sub (m := [(0, v_2), (1, v_5)]) ⟨rfl, rfl, trivial⟩ ?_
  refine WC.seq ?_
  refine WC.seq ?_
  refine WC.region ?_
  refine WL.run hS rfl rfl rfl (ex_assign rfl) ?_
  refine WL.nil ?_
  refine WQ.next ?_
  refine WC.block ?_
  obtain ⟨I_31, mu_32, hI_45, hV⟩ := hV
  refine WC.loop (σ := Int) (fun s a w => ∃ (i_18 : Int), s = i_18 ∧ I_31 i_18 ∧ I64 i_18 ∧ St w0 H (L) w ∧ Fr 21 [(0, v_2), (1, v_5), (5, .int .i64 i_18)] a) mu_32 0 ?_ ?_
  · exact fun a ha => ⟨0, rfl, hI_45, (by unfold I64; omega), hS, ha.of_sub ⟨rfl, rfl, rfl, trivial⟩⟩
  · clear hS hI_45
    rintro i_18 a w ⟨_, rfl, hI, hr_19, hS, ha⟩
    refine in_frame ha ?_
    clear ha
    replace hV := hV _ hI
    clear hI
    refine WC.seq ?_
    refine WC.seq ?_
    refine WC.region ?_
    refine WL.run hS rfl rfl rfl (ex_move rfl) ?_
    refine WL.run hS rfl rfl rfl (ex_move rfl) ?_
    have hl_34 : Len clauses_1 := h_3.bound
    replace hV := hV hl_34
    refine WL.run hS rfl rfl rfl (ex_len_sl Try.underlying22 rfl h_3) ?_
    refine WL.run hS rfl rfl rfl (ex_lss rfl rfl) ?_
    refine WL.nil ?_
    refine WQ.next ?_
    refine WC.sub (m := [(0, v_2), (1, v_5), (5, .int .i64 i_18), (10, .bool (decide (i_18 < (clauses_1.length : Int))))]) ⟨rfl, rfl, rfl, rfl, trivial⟩ ?_
    refine WC.cond rfl ?_ ?_
    · intro hc_44
      replace hV := hV.1 (of_decide_eq_true hc_44)
      refine WC.skip ?_
      refine WQ.next ?_
      refine WC.sub (m := [(0, v_2), (1, v_5), (5, .int .i64 i_18)]) ⟨rfl, rfl, rfl, trivial⟩ ?_
      refine WC.seq ?_
      refine WC.block ?_
      refine WC.seq ?_
      refine WC.region ?_
      refine WL.run hS rfl rfl rfl (ex_move rfl) ?_
      refine WL.run hS rfl rfl rfl (ex_move rfl) ?_
      obtain ⟨hin_35, hV⟩ := hV
      refine WL.runx hS rfl rfl rfl (ex_index Try.underlying22 Try.sizeOf31 rfl rfl h_3 hin_35) ?_
      intro p_36 hp_37
      refine WL.runx hS rfl rfl rfl (ex_load Try.isAgg31 rfl rfl hp_37) ?_
      intro u_38 hu_39
      replace hu_39 := cSl_rep hu_39
      refine WL.run hS rfl rfl rfl (ex_move rfl) ?_
      refine WL.call rfl rfl rfl (enters0 (vs := [u_38, v_5]) Try.call24 ⟨rfl, rfl, trivial⟩) (S_Makes  hu_39 h_6 hS hV) ?_
      clear hV hS
      rintro _ w ⟨r_40, hV, rfl, hS⟩
      refine ⟨_, rfl, ?_⟩
      refine WL.run hS rfl rfl rfl (ex_assign rfl) ?_
      refine WL.nil ?_
      refine WQ.next ?_
      refine WC.sub (m := [(0, v_2), (1, v_5), (5, .int .i64 i_18), (6, .bool r_40)]) ⟨rfl, rfl, rfl, rfl, trivial⟩ ?_
      refine WC.seq ?_
      refine WC.region ?_
      refine WL.run hS rfl rfl rfl (ex_move rfl) ?_
      refine WL.run hS rfl rfl rfl (ex_not rfl) ?_
      refine WL.nil ?_
      refine WQ.next ?_
      refine WC.sub (m := [(0, v_2), (1, v_5), (5, .int .i64 i_18), (20, .bool (!r_40))]) ⟨rfl, rfl, rfl, rfl, trivial⟩ ?_
      refine WC.cond rfl ?_ ?_
      · intro hc_43
        replace hV := hV.1 hc_43
        refine WC.seq ?_
        refine WC.region ?_
        refine WL.run hS rfl rfl rfl (ex_assign rfl) ?_
        refine WL.nil ?_
        refine WQ.next ?_
        refine WC.sub (m := [(4, .bool false)]) ⟨rfl, trivial⟩ ?_
        refine WC.ret ?_
        refine WQ.out nofun ?_
        refine WQ.pass nofun ?_
        refine WQ.pass nofun ?_
        refine WQ.out nofun ?_
        refine WQ.pass nofun ?_
        exact leave1 rfl rfl ⟨false, hV, rfl, hS⟩
      · intro hc_43
        replace hV := hV.2 hc_43
        refine WC.skip ?_
        refine WQ.out nofun ?_
        refine WQ.next ?_
        refine WC.sub (m := [(0, v_2), (1, v_5), (5, .int .i64 i_18)]) ⟨rfl, rfl, rfl, trivial⟩ ?_
        refine WC.region ?_
        refine WL.run hS rfl rfl rfl (ex_move rfl) ?_
        obtain ⟨hi_42, hV⟩ := hV
        refine WL.run hS rfl rfl rfl (ex_add rfl rfl hi_42) ?_
        refine WL.run hS rfl rfl rfl (ex_assign rfl) ?_
        refine WL.nil ?_
        exact WQ.there fun a ha => ⟨(i_18 + 1), ⟨(i_18 + 1), rfl, hV.1, hi_42, hS, ha.of_sub ⟨rfl, rfl, rfl, trivial⟩⟩, hV.2⟩
    · intro hc_44
      replace hV := hV.2 (of_decide_eq_false hc_44)
      refine WC.exit ?_
      refine WQ.pass nofun ?_
      refine WQ.pass nofun ?_
      refine WQ.hit ?_
      refine WQ.next ?_
      refine WC.sub (m := []) trivial ?_
      refine WC.seq ?_
      refine WC.region ?_
      refine WL.run hS rfl rfl rfl (ex_assign rfl) ?_
      refine WL.nil ?_
      refine WQ.next ?_
      refine WC.ret ?_
      exact leave1 rfl rfl ⟨true, hV, rfl, hS⟩

theorem S_copied {w0 : World} {H : View} {L : Seg} {w : World} {v_2 : Value} {l_1 : List (List Int)} {Q : (List (List Int)) → Prop} (h_3 : IsSl H (cSl (cInt .i64)) v_2 l_1) (hS : St w0 H (L) w) (hV : V_copied l_1 Q) :
    Calls Try.prog 5 #[v_2] w fun e w' => ∃ (r1 : List (List Int)) (v1 : Value) (fp1 : Seg) (H' : View), Q r1 ∧ e = .returned (v1) ∧ View.le H H' ∧ OwnSl H' (cSl (cInt .i64)) 31 v1 r1 fp1 ∧ St w0 H' (fp1 ++ L) w' := by
  unfold V_copied at hV
  refine enter Try.func5 rfl Try.ntmps5 rfl (lk_args_cons (d := 0) (v := v_2) rfl (lk_args_nil _)) ?_
  refine WC.seq ?_
  refine WC.region ?_
  refine WL.run hS rfl rfl rfl (ex_assign rfl) ?_
  refine WL.nil ?_
  refine WQ.next ?_
  refine WC.sub (m := [(0, v_2)]) ⟨rfl, trivial⟩ ?_
  refine WC.seq ?_
  refine WC.region ?_
  refine WL.run hS rfl rfl rfl (ex_assign rfl) ?_
  refine WL.nil ?_
  refine WQ.next ?_
  refine WC.seq ?_
  refine WC.seq ?_
  refine WC.region ?_
  refine WL.run hS rfl rfl rfl (ex_assign rfl) ?_
  refine WL.nil ?_
  refine WQ.next ?_
  refine WC.block ?_
  replace hS := hS.nilseg
  obtain ⟨I_104, mu_105, hI_136, hV⟩ := hV
  refine WC.loop (σ := (List (List Int)) × Int) (fun s a w => ∃ (out_69 : List (List Int)) (i_73 : Int) (H_66 : View) (v_70 : Value) (fp_71 : Seg), s = (out_69, i_73) ∧ I_104 (out_69, i_73) ∧ View.le H H_66 ∧ OwnSl H_66 (cSl (cInt .i64)) 31 v_70 out_69 fp_71 ∧ I64 i_73 ∧ St w0 H_66 (fp_71 ++ L) w ∧ Fr 23 [(0, v_2), (3, v_70), (4, .int .i64 i_73)] a) mu_105 (([] : List (List Int)), 0) ?_ ?_
  · exact fun a ha => ⟨([] : List (List Int)), 0, H, (.slice none 0 0), ([] : Seg), rfl, hI_136, (View.le.refl _), OwnSl.nil, (by unfold I64; omega), hS, ha.of_sub ⟨rfl, rfl, rfl, trivial⟩⟩
  · clear hS hI_136
    rintro _ a w ⟨out_69, i_73, H_66, v_70, fp_71, rfl, hI, le_67, h_72, hr_74, hS, ha⟩
    refine in_frame ha ?_
    clear ha
    replace hV := hV _ hI
    clear hI
    refine WC.seq ?_
    refine WC.seq ?_
    refine WC.region ?_
    refine WL.run hS rfl rfl rfl (ex_move rfl) ?_
    refine WL.run hS rfl rfl rfl (ex_move rfl) ?_
    have hl_107 : Len l_1 := (h_3.mono le_67).bound
    replace hV := hV hl_107
    refine WL.run hS rfl rfl rfl (ex_len_sl Try.underlying22 rfl (h_3.mono le_67)) ?_
    refine WL.run hS rfl rfl rfl (ex_lss rfl rfl) ?_
    refine WL.nil ?_
    refine WQ.next ?_
    refine WC.sub (m := [(0, v_2), (3, v_70), (4, .int .i64 i_73), (9, .bool (decide (i_73 < (l_1.length : Int))))]) ⟨rfl, rfl, rfl, rfl, trivial⟩ ?_
    refine WC.cond rfl ?_ ?_
    · intro hc_135
      replace hV := hV.1 (of_decide_eq_true hc_135)
      refine WC.skip ?_
      refine WQ.next ?_
      refine WC.sub (m := [(0, v_2), (3, v_70), (4, .int .i64 i_73)]) ⟨rfl, rfl, rfl, trivial⟩ ?_
      refine WC.seq ?_
      refine WC.block ?_
      refine WC.seq ?_
      refine WC.region ?_
      refine WL.build0 (α := Int) (c := (cInt .i64)) rfl Try.underlying31 Try.sizeOf3 hS ?_
      clear hS
      intro v_109 w fp_110 h_111 hS
      refine WL.run hS rfl rfl rfl (ex_move rfl) ?_
      refine WL.run hS rfl rfl rfl (ex_move rfl) ?_
      obtain ⟨hin_112, hV⟩ := hV
      refine WL.runx hS rfl rfl rfl (ex_index Try.underlying22 Try.sizeOf31 rfl rfl (h_3.mono le_67) hin_112) ?_
      intro p_113 hp_114
      refine WL.runx hS rfl rfl rfl (ex_load Try.isAgg31 rfl rfl hp_114) ?_
      intro u_115 hu_116
      replace hu_116 := cSl_rep hu_116
      obtain ⟨hr_117, hV⟩ := hV
      refine WL.append (c := (cInt .i64)) (xs := ([] : List Int)) (ys := (ix l_1 i_73)) rfl Try.underlying31 Try.info3 rfl rfl rfl hS h_111 (hu_116.src hS) hr_117.1 hr_117.2 ?_
      clear hS
      intro v_118 w fp_119 h_120 hS
      rw [List.nil_append] at h_120
      refine WL.run hS rfl rfl rfl (ex_assign rfl) ?_
      refine WL.nil ?_
      refine WQ.next ?_
      refine WC.sub (m := [(0, v_2), (3, v_70), (4, .int .i64 i_73), (5, v_118)]) ⟨rfl, rfl, rfl, rfl, trivial⟩ ?_
      refine WC.region ?_
      refine WL.run hS rfl rfl rfl (ex_move rfl) ?_
      refine WL.run hS rfl rfl rfl (ex_move rfl) ?_
      obtain ⟨H_126, le_127, h_128, hS⟩ : ∃ K, View.le H_66 K ∧ IsSl K (cInt .i64) v_118 (ix l_1 i_73) ∧ St w0 K (fp_71 ++ L) w := ⟨_, hS.put_le, h_120.share hS.put_le, hS.freeze⟩
      refine WL.build1 (c := (cSl (cInt .i64))) rfl Try.underlying22 Try.info31 rfl rfl (cSl_mk h_128) hS ?_
      clear hS
      intro v_123 w fp_124 h_125 hS
      obtain ⟨hr_129, hV⟩ := hV
      replace hS := hS.f2
      refine WL.append (c := (cSl (cInt .i64))) (xs := out_69) (ys := ([(ix l_1 i_73)])) rfl Try.underlying22 Try.info31 rfl rfl rfl hS (h_72.mono le_127) (h_125.src hS.f2) hr_129.1 hr_129.2 ?_
      clear hS
      intro v_130 w fp_131 h_132 hS
      refine WL.run hS rfl rfl rfl (ex_assign rfl) ?_
      refine WL.nil ?_
      refine WQ.out nofun ?_
      refine WQ.next ?_
      refine WC.sub (m := [(0, v_2), (3, v_130), (4, .int .i64 i_73)]) ⟨rfl, rfl, rfl, trivial⟩ ?_
      replace hS := hS.f2.drop
      refine WC.region ?_
      refine WL.run hS rfl rfl rfl (ex_move rfl) ?_
      obtain ⟨hi_134, hV⟩ := hV
      refine WL.run hS rfl rfl rfl (ex_add rfl rfl hi_134) ?_
      refine WL.run hS rfl rfl rfl (ex_assign rfl) ?_
      refine WL.nil ?_
      exact WQ.there fun a ha => ⟨((out_69 ++ ([(ix l_1 i_73)])), (i_73 + 1)), ⟨(out_69 ++ ([(ix l_1 i_73)])), (i_73 + 1), H_126, v_130, fp_131, rfl, hV.1, (((View.le.refl _).trans le_67).trans le_127), h_132, hi_134, hS, ha.of_sub ⟨rfl, rfl, rfl, trivial⟩⟩, hV.2⟩
    · intro hc_135
      replace hV := hV.2 (of_decide_eq_false hc_135)
      refine WC.exit ?_
      refine WQ.pass nofun ?_
      refine WQ.pass nofun ?_
      refine WQ.hit ?_
      refine WQ.next ?_
      refine WC.sub (m := [(3, v_70)]) ⟨rfl, trivial⟩ ?_
      refine WC.seq ?_
      refine WC.region ?_
      refine WL.run hS rfl rfl rfl (ex_move rfl) ?_
      refine WL.run hS rfl rfl rfl (ex_assign rfl) ?_
      refine WL.nil ?_
      refine WQ.next ?_
      refine WC.sub (m := [(2, v_70)]) ⟨rfl, trivial⟩ ?_
      refine WC.ret ?_
      exact leave1 rfl rfl ⟨out_69, v_70, fp_71, H_66, hV, rfl, ((View.le.refl _).trans le_67), h_72, hS⟩

theorem S_sameClauses {w0 : World} {H : View} {L : Seg} {w : World} {v_2 : Value} {a_1 : List (List Int)} {v_5 : Value} {b_4 : List (List Int)} {Q : Bool → Prop} (h_3 : IsSl H (cSl (cInt .i64)) v_2 a_1) (h_6 : IsSl H (cSl (cInt .i64)) v_5 b_4) (hS : St w0 H (L) w) (hV : V_sameClauses a_1 b_4 Q) :
    Calls Try.prog 8 #[v_2, v_5] w fun e w' => ∃ (r1 : Bool), Q r1 ∧ e = .returned (.bool r1) ∧ St w0 H (L) w' := by
  unfold V_sameClauses at hV
  refine enter Try.func8 rfl Try.ntmps8 rfl (lk_args_cons (d := 0) (v := v_2) rfl (lk_args_cons (d := 1) (v := v_5) rfl (lk_args_nil _))) ?_
  refine WC.seq ?_
  refine WC.region ?_
  refine WL.run hS rfl rfl rfl (ex_assign rfl) ?_
  refine WL.nil ?_
  refine WQ.next ?_
  refine WC.sub (m := [(0, v_2), (1, v_5)]) ⟨rfl, rfl, trivial⟩ ?_
  refine WC.seq ?_
  refine WC.seq ?_
  refine WC.region ?_
  refine WL.run hS rfl rfl rfl (ex_move rfl) ?_
  have hl_7 : Len a_1 := h_3.bound
  replace hV := hV hl_7
  refine WL.run hS rfl rfl rfl (ex_len_sl Try.underlying22 rfl h_3) ?_
  refine WL.run hS rfl rfl rfl (ex_move rfl) ?_
  have hl_8 : Len b_4 := h_6.bound
  replace hV := hV hl_8
  refine WL.run hS rfl rfl rfl (ex_len_sl Try.underlying22 rfl h_6) ?_
  refine WL.run hS rfl rfl rfl (ex_neq rfl rfl) ?_
  refine WL.nil ?_
  refine WQ.next ?_
  refine WC.sub (m := [(0, v_2), (1, v_5), (11, .bool (decide ((a_1.length : Int) ≠ (b_4.length : Int))))]) ⟨rfl, rfl, rfl, trivial⟩ ?_
  refine WC.cond rfl ?_ ?_
  · intro hc_66
    replace hV := hV.1 (of_decide_eq_true hc_66)
    refine WC.seq ?_
    refine WC.region ?_
    refine WL.run hS rfl rfl rfl (ex_assign rfl) ?_
    refine WL.nil ?_
    refine WQ.next ?_
    refine WC.sub (m := [(4, .bool false)]) ⟨rfl, trivial⟩ ?_
    refine WC.ret ?_
    refine WQ.pass nofun ?_
    exact leave1 rfl rfl ⟨false, hV, rfl, hS⟩
  · intro hc_66
    replace hV := hV.2 (of_decide_eq_false hc_66)
    refine WC.skip ?_
    refine WQ.next ?_
    refine WC.sub (m := [(0, v_2), (1, v_5)]) ⟨rfl, rfl, trivial⟩ ?_
    refine WC.seq ?_
    refine WC.seq ?_
    refine WC.region ?_
    refine WL.run hS rfl rfl rfl (ex_assign rfl) ?_
    refine WL.nil ?_
    refine WQ.next ?_
    refine WC.block ?_
    obtain ⟨I_45, mu_46, hI_65, hV⟩ := hV
    refine WC.loop (σ := Int) (fun s a w => ∃ (i_26 : Int), s = i_26 ∧ I_45 i_26 ∧ I64 i_26 ∧ St w0 H (L) w ∧ Fr 29 [(0, v_2), (1, v_5), (5, .int .i64 i_26)] a) mu_46 0 ?_ ?_
    · exact fun a ha => ⟨0, rfl, hI_65, (by unfold I64; omega), hS, ha.of_sub ⟨rfl, rfl, rfl, trivial⟩⟩
    · clear hS hI_65
      rintro i_26 a w ⟨_, rfl, hI, hr_27, hS, ha⟩
      refine in_frame ha ?_
      clear ha
      replace hV := hV _ hI
      clear hI
      refine WC.seq ?_
      refine WC.seq ?_
      refine WC.region ?_
      refine WL.run hS rfl rfl rfl (ex_move rfl) ?_
      refine WL.run hS rfl rfl rfl (ex_move rfl) ?_
      have hl_48 : Len a_1 := h_3.bound
      replace hV := hV hl_48
      refine WL.run hS rfl rfl rfl (ex_len_sl Try.underlying22 rfl h_3) ?_
      refine WL.run hS rfl rfl rfl (ex_lss rfl rfl) ?_
      refine WL.nil ?_
      refine WQ.next ?_
      refine WC.sub (m := [(0, v_2), (1, v_5), (5, .int .i64 i_26), (15, .bool (decide (i_26 < (a_1.length : Int))))]) ⟨rfl, rfl, rfl, rfl, trivial⟩ ?_
      refine WC.cond rfl ?_ ?_
      · intro hc_64
        replace hV := hV.1 (of_decide_eq_true hc_64)
        refine WC.skip ?_
        refine WQ.next ?_
        refine WC.sub (m := [(0, v_2), (1, v_5), (5, .int .i64 i_26)]) ⟨rfl, rfl, rfl, trivial⟩ ?_
        refine WC.seq ?_
        refine WC.block ?_
        refine WC.seq ?_
        refine WC.quiet (C := St w0 H (L)) Try.mixed (by kernel_rfl) (hS.drawn _) ?_
        clear hS w
        refine Wq.run rfl rfl rfl (ex_move rfl) ?_
        refine Wq.run rfl rfl rfl (ex_move rfl) ?_
        obtain ⟨hin_49, hV⟩ := hV
        refine Wq.runx rfl rfl rfl (ex_index Try.underlying22 Try.sizeOf31 rfl rfl h_3 hin_49) ?_
        intro p_50 hp_51
        refine Wq.runx rfl rfl rfl (ex_load Try.isAgg31 rfl rfl hp_51) ?_
        intro u_52 hu_53
        replace hu_53 := cSl_rep hu_53
        refine Wq.run rfl rfl rfl (ex_move rfl) ?_
        refine Wq.run rfl rfl rfl (ex_move rfl) ?_
        obtain ⟨hin_54, hV⟩ := hV
        refine Wq.runx rfl rfl rfl (ex_index Try.underlying22 Try.sizeOf31 rfl rfl h_6 hin_54) ?_
        intro p_55 hp_56
        refine Wq.runx rfl rfl rfl (ex_load Try.isAgg31 rfl rfl hp_56) ?_
        intro u_57 hu_58
        replace hu_58 := cSl_rep hu_58
        obtain ⟨r_59, h_60, hV⟩ := hV
        refine Wq.call (v := .bool r_59) rfl rfl rfl (fun w => enters0 (vs := [u_52, u_57]) Try.call23 ⟨rfl, rfl, trivial⟩) (fun w hS => (S_sameInts (Q := fun y0 => y0 = r_59)  hu_53 hu_58 hS h_60).mono ?_) ?_
        · rintro e w' ⟨_, rfl, he, hS⟩
          exact ⟨he, hS⟩
        refine Wq.run rfl rfl rfl (ex_assign rfl) ?_
        refine Wq.nil fun w hS => ?_
        refine WQ.next ?_
        refine WC.sub (m := [(0, v_2), (1, v_5), (5, .int .i64 i_26), (6, .bool r_59)]) ⟨rfl, rfl, rfl, rfl, trivial⟩ ?_
        refine WC.seq ?_
        refine WC.region ?_
        refine WL.run hS rfl rfl rfl (ex_move rfl) ?_
        refine WL.run hS rfl rfl rfl (ex_not rfl) ?_
        refine WL.nil ?_
        refine WQ.next ?_
        refine WC.sub (m := [(0, v_2), (1, v_5), (5, .int .i64 i_26), (28, .bool (!r_59))]) ⟨rfl, rfl, rfl, rfl, trivial⟩ ?_
        refine WC.cond rfl ?_ ?_
        · intro hc_63
          replace hV := hV.1 hc_63
          refine WC.seq ?_
          refine WC.region ?_
          refine WL.run hS rfl rfl rfl (ex_assign rfl) ?_
          refine WL.nil ?_
          refine WQ.next ?_
          refine WC.sub (m := [(4, .bool false)]) ⟨rfl, trivial⟩ ?_
          refine WC.ret ?_
          refine WQ.out nofun ?_
          refine WQ.pass nofun ?_
          refine WQ.pass nofun ?_
          refine WQ.out nofun ?_
          refine WQ.pass nofun ?_
          exact leave1 rfl rfl ⟨false, hV, rfl, hS⟩
        · intro hc_63
          replace hV := hV.2 hc_63
          refine WC.skip ?_
          refine WQ.out nofun ?_
          refine WQ.next ?_
          refine WC.sub (m := [(0, v_2), (1, v_5), (5, .int .i64 i_26)]) ⟨rfl, rfl, rfl, trivial⟩ ?_
          refine WC.region ?_
          refine WL.run hS rfl rfl rfl (ex_move rfl) ?_
          obtain ⟨hi_62, hV⟩ := hV
          refine WL.run hS rfl rfl rfl (ex_add rfl rfl hi_62) ?_
          refine WL.run hS rfl rfl rfl (ex_assign rfl) ?_
          refine WL.nil ?_
          exact WQ.there fun a ha => ⟨(i_26 + 1), ⟨(i_26 + 1), rfl, hV.1, hi_62, hS, ha.of_sub ⟨rfl, rfl, rfl, trivial⟩⟩, hV.2⟩
      · intro hc_64
        replace hV := hV.2 (of_decide_eq_false hc_64)
        refine WC.exit ?_
        refine WQ.pass nofun ?_
        refine WQ.pass nofun ?_
        refine WQ.hit ?_
        refine WQ.next ?_
        refine WC.sub (m := []) trivial ?_
        refine WC.seq ?_
        refine WC.region ?_
        refine WL.run hS rfl rfl rfl (ex_assign rfl) ?_
        refine WL.nil ?_
        refine WQ.next ?_
        refine WC.ret ?_
        exact leave1 rfl rfl ⟨true, hV, rfl, hS⟩

theorem S_refChecked {w0 : World} {H : View} {L : Seg} {w : World} {n_1 : Int} {v_4 : Value} {clauses_3 : List (List Int)} {v_7 : Value} {proof_6 : List (Bool × List Int)} {Q : Bool → Prop} (hr_2 : I64 n_1) (h_5 : IsSl H (cSl (cInt .i64)) v_4 clauses_3) (h_8 : IsSl H (cPair cBool (cSl (cInt .i64))) v_7 proof_6) (hS : St w0 H (L) w) (hV : V_refChecked n_1 clauses_3 proof_6 Q) :
    Calls Try.prog 7 #[.int .i64 n_1, v_4, v_7] w fun e w' => ∃ (r1 : Bool), Q r1 ∧ e = .returned (.bool r1) ∧ St w0 H (L) w' := by
  unfold V_refChecked at hV
  refine enter Try.func7 rfl Try.ntmps7 rfl (lk_args_cons (d := 0) (v := .int .i64 n_1) rfl (lk_args_cons (d := 1) (v := v_4) rfl (lk_args_cons (d := 2) (v := v_7) rfl (lk_args_nil _)))) ?_
  refine WC.seq ?_
  refine WC.region ?_
  refine WL.run hS rfl rfl rfl (ex_assign rfl) ?_
  refine WL.nil ?_
  refine WQ.next ?_
  refine WC.sub (m := [(0, .int .i64 n_1), (1, v_4), (2, v_7)]) ⟨rfl, rfl, rfl, trivial⟩ ?_
  refine WC.seq ?_
  refine WC.region ?_
  refine WL.run hS rfl rfl rfl (ex_move rfl) ?_
  refine WL.run hS rfl rfl rfl (ex_move rfl) ?_
  refine WL.call rfl rfl rfl (enters0 (vs := [.int .i64 n_1, v_4]) Try.call19 ⟨rfl, rfl, trivial⟩) (S_Fault  hr_2 h_5 hS hV) ?_
  clear hV hS
  rintro _ w ⟨r_9, hV, rfl, hr_10, hS⟩
  refine ⟨_, rfl, ?_⟩
  refine WL.run hS rfl rfl rfl (ex_assign rfl) ?_
  refine WL.nil ?_
  refine WQ.next ?_
  refine WC.sub (m := [(0, .int .i64 n_1), (1, v_4), (2, v_7), (7, .int .i64 r_9)]) ⟨rfl, rfl, rfl, rfl, trivial⟩ ?_
  refine WC.seq ?_
  refine WC.seq ?_
  refine WC.region ?_
  refine WL.run hS rfl rfl rfl (ex_move rfl) ?_
  refine WL.run hS rfl rfl rfl (ex_neq rfl rfl) ?_
  refine WL.nil ?_
  refine WQ.next ?_
  refine WC.sub (m := [(0, .int .i64 n_1), (1, v_4), (2, v_7), (22, .bool (decide (r_9 ≠ 0)))]) ⟨rfl, rfl, rfl, rfl, trivial⟩ ?_
  refine WC.cond rfl ?_ ?_
  · intro hc_796
    replace hV := hV.1 (of_decide_eq_true hc_796)
    refine WC.seq ?_
    refine WC.region ?_
    refine WL.run hS rfl rfl rfl (ex_assign rfl) ?_
    refine WL.nil ?_
    refine WQ.next ?_
    refine WC.sub (m := [(6, .bool false)]) ⟨rfl, trivial⟩ ?_
    refine WC.ret ?_
    refine WQ.pass nofun ?_
    exact leave1 rfl rfl ⟨false, hV, rfl, hS⟩
  · intro hc_796
    replace hV := hV.2 (of_decide_eq_false hc_796)
    refine WC.skip ?_
    refine WQ.next ?_
    refine WC.sub (m := [(0, .int .i64 n_1), (1, v_4), (2, v_7)]) ⟨rfl, rfl, rfl, trivial⟩ ?_
    refine WC.seq ?_
    refine WC.seq ?_
    refine WC.region ?_
    refine WL.run hS rfl rfl rfl (ex_assign rfl) ?_
    refine WL.nil ?_
    refine WQ.next ?_
    refine WC.block ?_
    obtain ⟨I_40, mu_41, hI_795, hV⟩ := hV
    refine WC.loop (σ := Int) (fun s a w => ∃ (i_25 : Int), s = i_25 ∧ I_40 i_25 ∧ I64 i_25 ∧ St w0 H (L) w ∧ Fr 93 [(0, .int .i64 n_1), (1, v_4), (2, v_7), (8, .int .i64 i_25)] a) mu_41 0 ?_ ?_
    · exact fun a ha => ⟨0, rfl, hI_795, (by unfold I64; omega), hS, ha.of_sub ⟨rfl, rfl, rfl, rfl, trivial⟩⟩
    · clear hS hI_795
      rintro i_25 a w ⟨_, rfl, hI, hr_26, hS, ha⟩
      refine in_frame ha ?_
      clear ha
      replace hV := hV _ hI
      clear hI
      refine WC.seq ?_
      refine WC.seq ?_
      refine WC.region ?_
      refine WL.run hS rfl rfl rfl (ex_move rfl) ?_
      refine WL.run hS rfl rfl rfl (ex_move rfl) ?_
      have hl_43 : Len proof_6 := h_8.bound
      replace hV := hV hl_43
      refine WL.run hS rfl rfl rfl (ex_len_sl Try.underlying23 rfl h_8) ?_
      refine WL.run hS rfl rfl rfl (ex_lss rfl rfl) ?_
      refine WL.nil ?_
      refine WQ.next ?_
      refine WC.sub (m := [(0, .int .i64 n_1), (1, v_4), (2, v_7), (8, .int .i64 i_25), (26, .bool (decide (i_25 < (proof_6.length : Int))))]) ⟨rfl, rfl, rfl, rfl, rfl, trivial⟩ ?_
      refine WC.cond rfl ?_ ?_
      · intro hc_794
        replace hV := hV.1 (of_decide_eq_true hc_794)
        refine WC.skip ?_
        refine WQ.next ?_
        refine WC.sub (m := [(0, .int .i64 n_1), (1, v_4), (2, v_7), (8, .int .i64 i_25)]) ⟨rfl, rfl, rfl, rfl, trivial⟩ ?_
        refine WC.seq ?_
        refine WC.block ?_
        refine WC.seq ?_
        refine WC.region ?_
        refine WL.run hS rfl rfl rfl (ex_move rfl) ?_
        refine WL.run hS rfl rfl rfl (ex_move rfl) ?_
        refine WL.run hS rfl rfl rfl (ex_move rfl) ?_
        obtain ⟨hin_44, hV⟩ := hV
        refine WL.runx hS rfl rfl rfl (ex_index Try.underlying23 Try.sizeOf36 rfl rfl h_8 hin_44) ?_
        intro p_45 hp_46
        refine WL.runx hS rfl rfl rfl (ex_fieldAddr_pt (d := (cSl (cInt .i64))) Try.underlying36 rfl Try.sizeOf31 rfl hp_46 Part.snd) ?_
        intro p_48 hp_47
        refine WL.runx hS rfl rfl rfl (ex_load Try.isAgg31 rfl rfl hp_47) ?_
        intro u_49 hu_50
        replace hu_50 := cSl_rep hu_50
        refine WL.call rfl rfl rfl (enters0 (vs := [.int .i64 n_1, u_49]) Try.call20 ⟨rfl, rfl, trivial⟩) (S_refLiterals  hr_2 hu_50 hS hV) ?_
        clear hV hS
        rintro _ w ⟨r_51, hV, rfl, hS⟩
        refine ⟨_, rfl, ?_⟩
        refine WL.run hS rfl rfl rfl (ex_assign rfl) ?_
        refine WL.nil ?_
        refine WQ.next ?_
        refine WC.sub (m := [(0, .int .i64 n_1), (1, v_4), (2, v_7), (8, .int .i64 i_25), (9, .bool r_51)]) ⟨rfl, rfl, rfl, rfl, rfl, trivial⟩ ?_
        refine WC.seq ?_
        refine WC.region ?_
        refine WL.run hS rfl rfl rfl (ex_move rfl) ?_
        refine WL.run hS rfl rfl rfl (ex_not rfl) ?_
        refine WL.nil ?_
        refine WQ.next ?_
        refine WC.sub (m := [(0, .int .i64 n_1), (1, v_4), (2, v_7), (8, .int .i64 i_25), (37, .bool (!r_51))]) ⟨rfl, rfl, rfl, rfl, rfl, trivial⟩ ?_
        refine WC.cond rfl ?_ ?_
        · intro hc_54
          replace hV := hV.1 hc_54
          refine WC.seq ?_
          refine WC.region ?_
          refine WL.run hS rfl rfl rfl (ex_assign rfl) ?_
          refine WL.nil ?_
          refine WQ.next ?_
          refine WC.sub (m := [(6, .bool false)]) ⟨rfl, trivial⟩ ?_
          refine WC.ret ?_
          refine WQ.out nofun ?_
          refine WQ.pass nofun ?_
          refine WQ.pass nofun ?_
          refine WQ.out nofun ?_
          refine WQ.pass nofun ?_
          exact leave1 rfl rfl ⟨false, hV, rfl, hS⟩
        · intro hc_54
          replace hV := hV.2 hc_54
          refine WC.skip ?_
          refine WQ.out nofun ?_
          refine WQ.next ?_
          refine WC.sub (m := [(0, .int .i64 n_1), (1, v_4), (2, v_7), (8, .int .i64 i_25)]) ⟨rfl, rfl, rfl, rfl, trivial⟩ ?_
          refine WC.region ?_
          refine WL.run hS rfl rfl rfl (ex_move rfl) ?_
          obtain ⟨hi_53, hV⟩ := hV
          refine WL.run hS rfl rfl rfl (ex_add rfl rfl hi_53) ?_
          refine WL.run hS rfl rfl rfl (ex_assign rfl) ?_
          refine WL.nil ?_
          exact WQ.there fun a ha => ⟨(i_25 + 1), ⟨(i_25 + 1), rfl, hV.1, hi_53, hS, ha.of_sub ⟨rfl, rfl, rfl, rfl, trivial⟩⟩, hV.2⟩
      · intro hc_794
        replace hV := hV.2 (of_decide_eq_false hc_794)
        refine WC.exit ?_
        refine WQ.pass nofun ?_
        refine WQ.pass nofun ?_
        refine WQ.hit ?_
        refine WQ.next ?_
        refine WC.sub (m := [(0, .int .i64 n_1), (1, v_4), (2, v_7)]) ⟨rfl, rfl, rfl, trivial⟩ ?_
        refine WC.seq ?_
        refine WC.region ?_
        refine WL.run hS rfl rfl rfl (ex_assign rfl) ?_
        refine WL.nil ?_
        refine WQ.next ?_
        refine WC.seq ?_
        refine WC.region ?_
        refine WL.run hS rfl rfl rfl (ex_move rfl) ?_
        refine WL.run hS rfl rfl rfl (ex_move rfl) ?_
        obtain ⟨hr_56, hV⟩ := hV
        replace hS := hS.nilseg
        refine WL.append (c := (cSl (cInt .i64))) (xs := ([] : List (List Int))) (ys := clauses_3) rfl Try.underlying22 Try.info31 rfl rfl rfl hS OwnSl.nil (h_5.src hS) hr_56.1 hr_56.2 ?_
        clear hS
        intro v_57 w fp_58 h_59 hS
        rw [List.nil_append] at h_59
        refine WL.run hS rfl rfl rfl (ex_assign rfl) ?_
        refine WL.nil ?_
        refine WQ.next ?_
        refine WC.sub (m := [(0, .int .i64 n_1), (2, v_7), (10, v_57)]) ⟨rfl, rfl, rfl, trivial⟩ ?_
        refine WC.seq ?_
        refine WC.region ?_
        refine WL.run hS rfl rfl rfl (ex_assign rfl) ?_
        refine WL.nil ?_
        refine WQ.next ?_
        refine WC.seq ?_
        refine WC.seq ?_
        refine WC.region ?_
        refine WL.run hS rfl rfl rfl (ex_assign rfl) ?_
        refine WL.nil ?_
        refine WQ.next ?_
        refine WC.block ?_
        obtain ⟨I_549, mu_550, hI_793, hV⟩ := hV
        refine WC.loop (σ := (List (List Int)) × Bool × Int) (fun s a w => ∃ (l_301 : List (List Int)) (shown_305 : Bool) (i_306 : Int) (v_302 : Value) (fp_303 : Seg), s = (l_301, shown_305, i_306) ∧ I_549 (l_301, shown_305, i_306) ∧ OwnSl H (cSl (cInt .i64)) 31 v_302 l_301 fp_303 ∧ I64 i_306 ∧ St w0 H (fp_303 ++ L) w ∧ Fr 93 [(0, .int .i64 n_1), (2, v_7), (10, v_302), (11, .bool shown_305), (12, .int .i64 i_306)] a) mu_550 (clauses_3, false, 0) ?_ ?_
        · exact fun a ha => ⟨clauses_3, false, 0, v_57, fp_58, rfl, hI_793, h_59, (by unfold I64; omega), hS, ha.of_sub ⟨rfl, rfl, rfl, rfl, rfl, trivial⟩⟩
        · clear hS hI_793
          rintro _ a w ⟨l_301, shown_305, i_306, v_302, fp_303, rfl, hI, h_304, hr_307, hS, ha⟩
          refine in_frame ha ?_
          clear ha
          replace hV := hV _ hI
          clear hI
          refine WC.seq ?_
          refine WC.seq ?_
          refine WC.region ?_
          refine WL.run hS rfl rfl rfl (ex_move rfl) ?_
          refine WL.run hS rfl rfl rfl (ex_move rfl) ?_
          have hl_552 : Len proof_6 := h_8.bound
          replace hV := hV hl_552
          refine WL.run hS rfl rfl rfl (ex_len_sl Try.underlying23 rfl h_8) ?_
          refine WL.run hS rfl rfl rfl (ex_lss rfl rfl) ?_
          refine WL.nil ?_
          refine WQ.next ?_
          refine WC.sub (m := [(0, .int .i64 n_1), (2, v_7), (10, v_302), (11, .bool shown_305), (12, .int .i64 i_306), (44, .bool (decide (i_306 < (proof_6.length : Int))))]) ⟨rfl, rfl, rfl, rfl, rfl, rfl, trivial⟩ ?_
          refine WC.cond rfl ?_ ?_
          · intro hc_792
            replace hV := hV.1 (of_decide_eq_true hc_792)
            refine WC.skip ?_
            refine WQ.next ?_
            refine WC.sub (m := [(0, .int .i64 n_1), (2, v_7), (10, v_302), (11, .bool shown_305), (12, .int .i64 i_306)]) ⟨rfl, rfl, rfl, rfl, rfl, trivial⟩ ?_
            obtain ⟨J_674, hJ_675, hV⟩ := hV
            refine WC.meet (fun a w => ∃ (l_669 : List (List Int)) (shown_673 : Bool) (v_670 : Value) (fp_671 : Seg), J_674 (l_669, shown_673) ∧ OwnSl H (cSl (cInt .i64)) 31 v_670 l_669 fp_671 ∧ St w0 H (fp_671 ++ L) w ∧ Fr 93 [(0, .int .i64 n_1), (2, v_7), (10, v_670), (11, .bool shown_673), (12, .int .i64 i_306)] a) ?_ ?_
            · rintro a w ⟨l_669, shown_673, v_670, fp_671, hI, h_672, hS, ha⟩
              refine in_frame ha ?_
              clear ha hV
              have hV := hJ_675 _ hI
              clear hI hJ_675
              refine WC.region ?_
              refine WL.run hS rfl rfl rfl (ex_move rfl) ?_
              obtain ⟨hi_791, hV⟩ := hV
              refine WL.run hS rfl rfl rfl (ex_add rfl rfl hi_791) ?_
              refine WL.run hS rfl rfl rfl (ex_assign rfl) ?_
              refine WL.nil ?_
              exact WQ.there fun a ha => ⟨(l_669, shown_673, (i_306 + 1)), ⟨l_669, shown_673, (i_306 + 1), v_670, fp_671, rfl, hV.1, h_672, hi_791, hS, ha.of_sub ⟨rfl, rfl, rfl, rfl, rfl, trivial⟩⟩, hV.2⟩
            · clear hJ_675
              refine WC.block ?_
              refine WC.seq ?_
              refine WC.region ?_
              refine WL.run hS rfl rfl rfl (ex_move rfl) ?_
              refine WL.run hS rfl rfl rfl (ex_move rfl) ?_
              obtain ⟨hin_676, hV⟩ := hV
              refine WL.runx hS rfl rfl rfl (ex_index Try.underlying23 Try.sizeOf36 rfl rfl h_8 hin_676) ?_
              intro p_677 hp_678
              refine WL.runx hS rfl rfl rfl (ex_fieldAddr_pt (d := (cSl (cInt .i64))) Try.underlying36 rfl Try.sizeOf31 rfl hp_678 Part.snd) ?_
              intro p_680 hp_679
              refine WL.runx hS rfl rfl rfl (ex_load Try.isAgg31 rfl rfl hp_679) ?_
              intro u_681 hu_682
              replace hu_682 := cSl_rep hu_682
              refine WL.run hS rfl rfl rfl (ex_assign rfl) ?_
              refine WL.nil ?_
              refine WQ.next ?_
              refine WC.sub (m := [(0, .int .i64 n_1), (2, v_7), (10, v_302), (11, .bool shown_305), (12, .int .i64 i_306), (13, u_681)]) ⟨rfl, rfl, rfl, rfl, rfl, rfl, trivial⟩ ?_
              refine WC.seq ?_
              refine WC.seq ?_
              refine WC.region ?_
              refine WL.run hS rfl rfl rfl (ex_move rfl) ?_
              refine WL.run hS rfl rfl rfl (ex_move rfl) ?_
              obtain ⟨hin_683, hV⟩ := hV
              refine WL.runx hS rfl rfl rfl (ex_index Try.underlying23 Try.sizeOf36 rfl rfl h_8 hin_683) ?_
              intro p_684 hp_685
              refine WL.runx hS rfl rfl rfl (ex_fieldAddr_pt (d := cBool) Try.underlying36 rfl Try.sizeOf4 rfl hp_685 Part.fst) ?_
              intro p_687 hp_686
              refine WL.runx hS rfl rfl rfl (ex_load Try.isAgg4 rfl rfl hp_686) ?_
              intro u_688 hu_689
              obtain rfl := cBool_rep hu_689
              refine WL.nil ?_
              refine WQ.next ?_
              refine WC.sub (m := [(0, .int .i64 n_1), (2, v_7), (10, v_302), (11, .bool shown_305), (12, .int .i64 i_306), (13, u_681), (56, .bool ((ix proof_6 i_306).1))]) ⟨rfl, rfl, rfl, rfl, rfl, rfl, rfl, trivial⟩ ?_
              refine WC.cond rfl ?_ ?_
              · intro hc_790
                replace hV := hV.1 hc_790
                refine WC.seq ?_
                refine WC.region ?_
                refine WL.run hS rfl rfl rfl (ex_move rfl) ?_
                refine WL.run hS rfl rfl rfl (ex_move rfl) ?_
                refine WL.call rfl rfl rfl (enters0 (vs := [v_302, u_681]) Try.call21 ⟨rfl, rfl, trivial⟩) (S_gone  h_304 hu_682 hS hV) ?_
                clear hV hS
                rintro _ w ⟨r_690, v_691, fp_692, hV, rfl, h_693, hS⟩
                refine ⟨_, rfl, ?_⟩
                refine WL.run hS rfl rfl rfl (ex_assign rfl) ?_
                refine WL.nil ?_
                refine WQ.next ?_
                refine WC.sub (m := [(0, .int .i64 n_1), (2, v_7), (10, v_691), (11, .bool shown_305), (12, .int .i64 i_306)]) ⟨rfl, rfl, rfl, rfl, rfl, trivial⟩ ?_
                refine WC.exit ?_
                refine WQ.pass nofun ?_
                refine WQ.hit ?_
                exact WQ.there fun a ha => ⟨r_690, shown_305, v_691, fp_692, hV, h_693, hS, ha.of_sub ⟨rfl, rfl, rfl, rfl, rfl, trivial⟩⟩
              · intro hc_790
                replace hV := hV.2 hc_790
                refine WC.skip ?_
                refine WQ.next ?_
                refine WC.sub (m := [(0, .int .i64 n_1), (2, v_7), (10, v_302), (11, .bool shown_305), (12, .int .i64 i_306), (13, u_681)]) ⟨rfl, rfl, rfl, rfl, rfl, rfl, trivial⟩ ?_
                refine WC.seq ?_
                refine WC.region ?_
                refine WL.run hS rfl rfl rfl (ex_assign rfl) ?_
                refine WL.nil ?_
                refine WQ.next ?_
                refine WC.seq ?_
                refine WC.seq ?_
                refine WC.region ?_
                refine WL.run hS rfl rfl rfl (ex_assign rfl) ?_
                refine WL.nil ?_
                refine WQ.next ?_
                refine WC.block ?_
                replace hS := hS.nilseg
                replace hS := hS.f2
                obtain ⟨I_742, mu_743, hI_789, hV⟩ := hV
                refine WC.loop (σ := (List Int) × Int) (fun s a w => ∃ (opposite_717 : List Int) (k_721 : Int) (v_718 : Value) (fp_719 : Seg), s = (opposite_717, k_721) ∧ I_742 (opposite_717, k_721) ∧ OwnSl H (cInt .i64) 3 v_718 opposite_717 fp_719 ∧ I64 k_721 ∧ St w0 H (fp_303 ++ (fp_719 ++ L)) w ∧ Fr 93 [(0, .int .i64 n_1), (2, v_7), (10, v_302), (11, .bool shown_305), (12, .int .i64 i_306), (13, u_681), (14, v_718), (15, .int .i64 k_721)] a) mu_743 (([] : List Int), 0) ?_ ?_
                · exact fun a ha => ⟨([] : List Int), 0, (.slice none 0 0), ([] : Seg), rfl, hI_789, OwnSl.nil, (by unfold I64; omega), hS, ha.of_sub ⟨rfl, rfl, rfl, rfl, rfl, rfl, rfl, rfl, trivial⟩⟩
                · clear hS hI_789
                  rintro _ a w ⟨opposite_717, k_721, v_718, fp_719, rfl, hI, h_720, hr_722, hS, ha⟩
                  refine in_frame ha ?_
                  clear ha
                  replace hV := hV _ hI
                  clear hI
                  refine WC.seq ?_
                  refine WC.seq ?_
                  refine WC.region ?_
                  refine WL.run hS rfl rfl rfl (ex_move rfl) ?_
                  refine WL.run hS rfl rfl rfl (ex_move rfl) ?_
                  have hl_745 : Len ((ix proof_6 i_306).2) := hu_682.bound
                  replace hV := hV hl_745
                  refine WL.run hS rfl rfl rfl (ex_len_sl Try.underlying31 rfl hu_682) ?_
                  refine WL.run hS rfl rfl rfl (ex_lss rfl rfl) ?_
                  refine WL.nil ?_
                  refine WQ.next ?_
                  refine WC.sub (m := [(0, .int .i64 n_1), (2, v_7), (10, v_302), (11, .bool shown_305), (12, .int .i64 i_306), (13, u_681), (14, v_718), (15, .int .i64 k_721), (63, .bool (decide (k_721 < (((ix proof_6 i_306).2).length : Int))))]) ⟨rfl, rfl, rfl, rfl, rfl, rfl, rfl, rfl, rfl, trivial⟩ ?_
                  refine WC.cond rfl ?_ ?_
                  · intro hc_788
                    replace hV := hV.1 (of_decide_eq_true hc_788)
                    refine WC.skip ?_
                    refine WQ.next ?_
                    refine WC.sub (m := [(0, .int .i64 n_1), (2, v_7), (10, v_302), (11, .bool shown_305), (12, .int .i64 i_306), (13, u_681), (14, v_718), (15, .int .i64 k_721)]) ⟨rfl, rfl, rfl, rfl, rfl, rfl, rfl, rfl, trivial⟩ ?_
                    refine WC.seq ?_
                    refine WC.block ?_
                    refine WC.region ?_
                    refine WL.run hS rfl rfl rfl (ex_move rfl) ?_
                    refine WL.run hS rfl rfl rfl (ex_move rfl) ?_
                    refine WL.run hS rfl rfl rfl (ex_move rfl) ?_
                    obtain ⟨hin_746, hV⟩ := hV
                    refine WL.runx hS rfl rfl rfl (ex_index Try.underlying31 Try.sizeOf3 rfl rfl hu_682 hin_746) ?_
                    intro p_747 hp_748
                    refine WL.runx hS rfl rfl rfl (ex_load Try.isAgg3 rfl rfl hp_748) ?_
                    intro u_749 hu_750
                    obtain ⟨rfl, hr_751⟩ := cInt_rep hu_750
                    replace hr_751 := has_I64 hr_751
                    replace hV := hV hr_751
                    obtain ⟨hi_752, hV⟩ := hV
                    refine WL.run hS rfl rfl rfl (ex_neg rfl hi_752) ?_
                    refine WL.build1 (c := (cInt .i64)) rfl Try.underlying31 Try.info3 rfl rfl (cInt_mk (I64.has hi_752)) hS ?_
                    clear hS
                    intro v_754 w fp_755 h_756 hS
                    obtain ⟨hr_757, hV⟩ := hV
                    replace hS := hS.f3
                    refine WL.append (c := (cInt .i64)) (xs := opposite_717) (ys := ([(-(ix ((ix proof_6 i_306).2) k_721))])) rfl Try.underlying31 Try.info3 rfl rfl rfl hS h_720 (h_756.src hS.f2) hr_757.1 hr_757.2 ?_
                    clear hS
                    intro v_758 w fp_759 h_760 hS
                    refine WL.run hS rfl rfl rfl (ex_assign rfl) ?_
                    refine WL.nil ?_
                    refine WQ.out nofun ?_
                    refine WQ.next ?_
                    refine WC.sub (m := [(0, .int .i64 n_1), (2, v_7), (10, v_302), (11, .bool shown_305), (12, .int .i64 i_306), (13, u_681), (14, v_758), (15, .int .i64 k_721)]) ⟨rfl, rfl, rfl, rfl, rfl, rfl, rfl, rfl, trivial⟩ ?_
                    replace hS := hS.f2.drop
                    refine WC.region ?_
                    refine WL.run hS rfl rfl rfl (ex_move rfl) ?_
                    obtain ⟨hi_762, hV⟩ := hV
                    refine WL.run hS rfl rfl rfl (ex_add rfl rfl hi_762) ?_
                    refine WL.run hS rfl rfl rfl (ex_assign rfl) ?_
                    refine WL.nil ?_
                    replace hS := hS.f2
                    exact WQ.there fun a ha => ⟨((opposite_717 ++ ([(-(ix ((ix proof_6 i_306).2) k_721))])), (k_721 + 1)), ⟨(opposite_717 ++ ([(-(ix ((ix proof_6 i_306).2) k_721))])), (k_721 + 1), v_758, fp_759, rfl, hV.1, h_760, hi_762, hS, ha.of_sub ⟨rfl, rfl, rfl, rfl, rfl, rfl, rfl, rfl, trivial⟩⟩, hV.2⟩
                  · intro hc_788
                    replace hV := hV.2 (of_decide_eq_false hc_788)
                    refine WC.exit ?_
                    refine WQ.pass nofun ?_
                    refine WQ.pass nofun ?_
                    refine WQ.hit ?_
                    refine WQ.next ?_
                    refine WC.sub (m := [(0, .int .i64 n_1), (2, v_7), (10, v_302), (11, .bool shown_305), (12, .int .i64 i_306), (13, u_681), (14, v_718)]) ⟨rfl, rfl, rfl, rfl, rfl, rfl, rfl, trivial⟩ ?_
                    refine WC.seq ?_
                    refine WC.region ?_
                    refine WL.run hS rfl rfl rfl (ex_move rfl) ?_
                    refine WL.run hS rfl rfl rfl (ex_move rfl) ?_
                    refine WL.run hS rfl rfl rfl (ex_move rfl) ?_
                    replace hS := hS.f2
                    replace hS := hS.f2
                    have hL_763 := hS.freeze
                    have hL_764 := hL_763.freeze
                    refine WL.call rfl rfl rfl (enters0 (vs := [.int .i64 n_1, v_302, v_718]) Try.call22 ⟨rfl, rfl, rfl, trivial⟩) (S_refFollow  hr_2 ((h_304.share hS.put_le).mono hL_763.put_le) ((h_720.mono hS.put_le).share hL_763.put_le) hL_764 hV) ?_
                    clear hV
                    rintro _ w ⟨r_765, r_770, v_766, fp_767, hV, rfl, h_768, hL_771⟩
                    refine ⟨_, rfl, ?_⟩
                    have hB_773 := hL_763.back hL_771
                    have hB_774 := hS.back hB_773
                    clear hS
                    have hS := hB_774
                    replace h_768 := rep_own (K := H) h_768 (fun _ _ h => h)
                    refine WL.run hS rfl rfl rfl (ex_move rfl) ?_
                    refine WL.run hS rfl rfl rfl (ex_extract rfl rfl) ?_
                    refine WL.run hS rfl rfl rfl (ex_extract rfl rfl) ?_
                    refine WL.run hS rfl rfl rfl (ex_assign rfl) ?_
                    refine WL.run hS rfl rfl rfl (ex_assign rfl) ?_
                    refine WL.nil ?_
                    refine WQ.next ?_
                    refine WC.sub (m := [(0, .int .i64 n_1), (2, v_7), (10, v_302), (11, .bool shown_305), (12, .int .i64 i_306), (13, u_681), (17, .bool r_770)]) ⟨rfl, rfl, rfl, rfl, rfl, rfl, rfl, trivial⟩ ?_
                    replace hS := hS.f2.drop
                    replace hS := hS.f2.drop
                    refine WC.seq ?_
                    refine WC.seq ?_
                    refine WC.region ?_
                    refine WL.run hS rfl rfl rfl (ex_move rfl) ?_
                    refine WL.nil ?_
                    refine WQ.next ?_
                    refine WC.sub (m := [(0, .int .i64 n_1), (2, v_7), (10, v_302), (11, .bool shown_305), (12, .int .i64 i_306), (13, u_681), (81, .bool r_770)]) ⟨rfl, rfl, rfl, rfl, rfl, rfl, rfl, trivial⟩ ?_
                    refine WC.cond rfl ?_ ?_
                    · intro hc_787
                      replace hV := hV.1 hc_787
                      refine WC.seq ?_
                      refine WC.region ?_
                      refine WL.run hS rfl rfl rfl (ex_assign rfl) ?_
                      refine WL.nil ?_
                      refine WQ.next ?_
                      refine WC.sub (m := [(6, .bool false)]) ⟨rfl, trivial⟩ ?_
                      replace hS := hS.drop
                      refine WC.ret ?_
                      refine WQ.pass nofun ?_
                      refine WQ.out nofun ?_
                      refine WQ.pass nofun ?_
                      refine WQ.pass nofun ?_
                      refine WQ.out nofun ?_
                      refine WQ.pass nofun ?_
                      exact leave1 rfl rfl ⟨false, hV, rfl, hS⟩
                    · intro hc_787
                      replace hV := hV.2 hc_787
                      refine WC.skip ?_
                      refine WQ.next ?_
                      refine WC.sub (m := [(0, .int .i64 n_1), (2, v_7), (10, v_302), (11, .bool shown_305), (12, .int .i64 i_306), (13, u_681)]) ⟨rfl, rfl, rfl, rfl, rfl, rfl, trivial⟩ ?_
                      refine WC.seq ?_
                      refine WC.region ?_
                      refine WL.run hS rfl rfl rfl (ex_move rfl) ?_
                      refine WL.run hS rfl rfl rfl (ex_move rfl) ?_
                      refine WL.build1 (c := (cSl (cInt .i64))) rfl Try.underlying22 Try.info31 rfl rfl (cSl_mk hu_682) hS ?_
                      clear hS
                      intro v_776 w fp_777 h_778 hS
                      obtain ⟨hr_779, hV⟩ := hV
                      replace hS := hS.f2
                      refine WL.append (c := (cSl (cInt .i64))) (xs := l_301) (ys := ([((ix proof_6 i_306).2)])) rfl Try.underlying22 Try.info31 rfl rfl rfl hS h_304 (h_778.src hS.f2) hr_779.1 hr_779.2 ?_
                      clear hS
                      intro v_780 w fp_781 h_782 hS
                      refine WL.run hS rfl rfl rfl (ex_assign rfl) ?_
                      refine WL.nil ?_
                      refine WQ.next ?_
                      refine WC.sub (m := [(0, .int .i64 n_1), (2, v_7), (10, v_780), (11, .bool shown_305), (12, .int .i64 i_306), (13, u_681)]) ⟨rfl, rfl, rfl, rfl, rfl, rfl, trivial⟩ ?_
                      replace hS := hS.f2.drop
                      have hl_784 : Len ((ix proof_6 i_306).2) := hu_682.bound
                      replace hV := hV hl_784
                      refine WC.via (m := [(0, .int .i64 n_1), (2, v_7), (10, v_780), (11, .bool (decide ((shown_305 = true) ∨ ((((ix proof_6 i_306).2).length : Int) = 0)))), (12, .int .i64 i_306)]) ?_ ?_
                      · refine WC.region ?_
                        refine WL.run hS rfl rfl rfl (ex_move rfl) ?_
                        refine WL.run hS rfl rfl rfl (ex_move rfl) ?_
                        rcases Bool.eq_false_or_eq_true shown_305 with hg_785 | hg_785
                        · refine WL.skip_g rfl rfl rfl hg_785 rfl rfl ?_
                          refine WL.skip_g rfl rfl rfl hg_785 rfl rfl ?_
                          refine WL.skip_g rfl rfl rfl hg_785 rfl rfl ?_
                          refine WL.run hS rfl rfl rfl (ex_pick_t rfl hg_785 rfl) ?_
                          refine WL.sub (m := [(0, .int .i64 n_1), (2, v_7), (10, v_780), (11, .bool shown_305), (12, .int .i64 i_306), (13, u_681), (86, .bool shown_305), (87, .bool shown_305), (88, undef), (89, undef), (90, undef), (91, .bool (decide ((shown_305 = true) ∨ ((((ix proof_6 i_306).2).length : Int) = 0))))]) ⟨rfl, rfl, rfl, rfl, rfl, rfl, rfl, rfl, rfl, rfl, rfl, congrArg (fun b => some (Value.bool b)) (or_t ((dec_true _).symm.trans hg_785) : true = decide ((shown_305 = true) ∨ ((((ix proof_6 i_306).2).length : Int) = 0))), trivial⟩ ?_
                          refine WL.run hS rfl rfl rfl (ex_assign rfl) ?_
                          exact WL.nil (At.of ⟨rfl, rfl, rfl, rfl, rfl, trivial⟩)
                        · refine WL.unguard rfl rfl hg_785 ?_
                          refine WL.run hS rfl rfl rfl (ex_move rfl) ?_
                          refine WL.unguard rfl rfl hg_785 ?_
                          refine WL.run hS rfl rfl rfl (ex_len_sl Try.underlying31 rfl hu_682) ?_
                          refine WL.unguard rfl rfl hg_785 ?_
                          refine WL.run hS rfl rfl rfl (ex_eql rfl rfl) ?_
                          refine WL.run hS rfl rfl rfl (ex_pick_f rfl hg_785 rfl) ?_
                          refine WL.sub (m := [(0, .int .i64 n_1), (2, v_7), (10, v_780), (11, .bool shown_305), (12, .int .i64 i_306), (13, u_681), (86, .bool shown_305), (87, .bool shown_305), (88, u_681), (89, .int .i64 (((ix proof_6 i_306).2).length : Int)), (90, .bool (decide ((((ix proof_6 i_306).2).length : Int) = 0))), (91, .bool (decide ((shown_305 = true) ∨ ((((ix proof_6 i_306).2).length : Int) = 0))))]) ⟨rfl, rfl, rfl, rfl, rfl, rfl, rfl, rfl, rfl, rfl, rfl, congrArg (fun b => some (Value.bool b)) (or_f ((dec_true _).symm.trans hg_785) : decide ((((ix proof_6 i_306).2).length : Int) = 0) = decide ((shown_305 = true) ∨ ((((ix proof_6 i_306).2).length : Int) = 0))), trivial⟩ ?_
                          refine WL.run hS rfl rfl rfl (ex_assign rfl) ?_
                          exact WL.nil (At.of ⟨rfl, rfl, rfl, rfl, rfl, trivial⟩)
                      · refine WQ.out nofun ?_
                        exact WQ.there fun a ha => ⟨(l_301 ++ ([((ix proof_6 i_306).2)])), decide ((shown_305 = true) ∨ ((((ix proof_6 i_306).2).length : Int) = 0)), v_780, fp_781, hV, h_782, hS, ha.of_sub ⟨rfl, rfl, rfl, rfl, rfl, trivial⟩⟩
          · intro hc_792
            replace hV := hV.2 (of_decide_eq_false hc_792)
            refine WC.exit ?_
            refine WQ.pass nofun ?_
            refine WQ.pass nofun ?_
            refine WQ.hit ?_
            refine WQ.next ?_
            refine WC.sub (m := [(11, .bool shown_305)]) ⟨rfl, trivial⟩ ?_
            replace hS := hS.drop
            refine WC.seq ?_
            refine WC.region ?_
            refine WL.run hS rfl rfl rfl (ex_move rfl) ?_
            refine WL.run hS rfl rfl rfl (ex_assign rfl) ?_
            refine WL.nil ?_
            refine WQ.next ?_
            refine WC.sub (m := [(6, .bool shown_305)]) ⟨rfl, trivial⟩ ?_
            refine WC.ret ?_
            exact leave1 rfl rfl ⟨shown_305, hV, rfl, hS⟩

theorem S_valid1 {w0 : World} {H : View} {L : Seg} {w : World} {l_1 : Int} {b_4 : Nat} {c_3_6 : Int} {Q : Bool → Prop} (hr_2 : I64 l_1) (hr_7 : I64 c_3_6) (hS : St w0 H ([(b_4, .cells #[.int .i64 c_3_6] 3 (0, 0))] ++ L) w) (hV : V_valid1 l_1 c_3_6 Q) :
    Calls Try.prog 28 #[.int .i64 l_1, .pointer (some ⟨b_4, 0, none⟩)] w fun e w' => ∃ (r1 : Bool), Q r1 ∧ e = .returned (.bool r1) ∧ St w0 H ([(b_4, .cells #[.int .i64 c_3_6] 3 (0, 0))] ++ L) w' := by
  unfold V_valid1 at hV
  refine enter Try.func28 rfl Try.ntmps28 rfl (lk_args_cons (d := 0) (v := .int .i64 l_1) rfl (lk_args_cons (d := 1) (v := .pointer (some ⟨b_4, 0, none⟩)) rfl (lk_args_nil _))) ?_
  refine WC.seq ?_
  refine WC.region ?_
  refine WL.run hS rfl rfl rfl (ex_assign rfl) ?_
  refine WL.nil ?_
  refine WQ.next ?_
  refine WC.sub (m := [(0, .int .i64 l_1), (1, .pointer (some ⟨b_4, 0, none⟩))]) ⟨rfl, rfl, trivial⟩ ?_
  obtain ⟨J_12, hJ_13, hV⟩ := hV
  refine WC.meet (fun a w => ∃ (x_11 : Bool), J_12 x_11 ∧ St w0 H ([(b_4, .cells #[.int .i64 c_3_6] 3 (0, 0))] ++ L) w ∧ Fr 17 [(3, .bool x_11)] a) ?_ ?_
  · rintro a w ⟨x_11, hI, hS, ha⟩
    refine in_frame ha ?_
    clear ha hV
    have hV := hJ_13 _ hI
    clear hI hJ_13
    refine WC.ret ?_
    exact leave1 rfl rfl ⟨x_11, hV, rfl, hS⟩
  · clear hJ_13
    refine WC.region ?_
    refine WL.run hS rfl rfl rfl (ex_move rfl) ?_
    refine WL.run hS rfl rfl rfl (ex_eql rfl rfl) ?_
    refine WL.run hS rfl rfl rfl (ex_move rfl) ?_
    rcases Bool.eq_false_or_eq_true (decide (l_1 = 0)) with hg_14 | hg_14
    · replace hV := hV.1 (of_decide_eq_true hg_14)
      refine WL.skip_g rfl rfl rfl hg_14 rfl rfl ?_
      refine WL.skip_g rfl rfl rfl hg_14 rfl rfl ?_
      refine WL.skip_g rfl rfl rfl hg_14 rfl rfl ?_
      refine WL.run hS rfl rfl rfl (ex_pick_t rfl hg_14 rfl) ?_
      refine WL.run hS rfl rfl rfl (ex_move rfl) ?_
      refine WL.skip_g rfl rfl rfl rfl rfl rfl ?_
      refine WL.skip_g rfl rfl rfl rfl rfl rfl ?_
      refine WL.skip_g rfl rfl rfl rfl rfl rfl ?_
      refine WL.skip_g rfl rfl rfl rfl rfl rfl ?_
      refine WL.run hS rfl rfl rfl (ex_pick_t rfl rfl rfl) ?_
      refine WL.run hS rfl rfl rfl (ex_assign rfl) ?_
      refine WL.nil ?_
      exact WQ.there fun a ha => ⟨true, hV, hS, ha.of_sub ⟨rfl, trivial⟩⟩
    · replace hV := hV.2 (of_decide_eq_false hg_14)
      refine WL.unguard rfl rfl hg_14 ?_
      refine WL.run hS rfl rfl rfl (ex_move rfl) ?_
      refine WL.unguard rfl rfl hg_14 ?_
      refine WL.run hS rfl rfl rfl (ex_load_box Try.isAgg3 rfl rfl) ?_
      refine WL.unguard rfl rfl hg_14 ?_
      refine WL.run hS rfl rfl rfl (ex_gtr rfl rfl) ?_
      refine WL.run hS rfl rfl rfl (ex_pick_f rfl hg_14 rfl) ?_
      refine WL.run hS rfl rfl rfl (ex_move rfl) ?_
      rcases Bool.eq_false_or_eq_true (decide (c_3_6 < l_1)) with hg_15 | hg_15
      · replace hV := hV.1 (of_decide_eq_true hg_15)
        refine WL.skip_g rfl rfl rfl hg_15 rfl rfl ?_
        refine WL.skip_g rfl rfl rfl hg_15 rfl rfl ?_
        refine WL.skip_g rfl rfl rfl hg_15 rfl rfl ?_
        refine WL.skip_g rfl rfl rfl hg_15 rfl rfl ?_
        refine WL.run hS rfl rfl rfl (ex_pick_t rfl hg_15 rfl) ?_
        refine WL.run hS rfl rfl rfl (ex_assign rfl) ?_
        refine WL.nil ?_
        exact WQ.there fun a ha => ⟨true, hV, hS, ha.of_sub ⟨rfl, trivial⟩⟩
      · replace hV := hV.2 (of_decide_eq_false hg_15)
        refine WL.unguard rfl rfl hg_15 ?_
        refine WL.run hS rfl rfl rfl (ex_move rfl) ?_
        refine WL.unguard rfl rfl hg_15 ?_
        refine WL.run hS rfl rfl rfl (ex_load_box Try.isAgg3 rfl rfl) ?_
        refine WL.unguard rfl rfl hg_15 ?_
        obtain ⟨hi_16, hV⟩ := hV
        refine WL.run hS rfl rfl rfl (ex_neg rfl hi_16) ?_
        refine WL.unguard rfl rfl hg_15 ?_
        refine WL.run hS rfl rfl rfl (ex_lss rfl rfl) ?_
        refine WL.run hS rfl rfl rfl (ex_pick_f rfl hg_15 rfl) ?_
        refine WL.run hS rfl rfl rfl (ex_assign rfl) ?_
        refine WL.nil ?_
        exact WQ.there fun a ha => ⟨decide (l_1 < (-c_3_6)), hV, hS, ha.of_sub ⟨rfl, trivial⟩⟩

theorem S_IndexFuncI {w0 : World} {H : View} {L : Seg} {w : World} {v_2 : Value} {s_1 : List Int} {fc1 : FuncId} {caps1 : List Value} {fpc1 : Seg} {G1 : Int → (Bool → Prop) → Prop} {Q : Int → Prop} (h_3 : IsSl H (cInt .i64) v_2 s_1) (hb1 : ∀ (args : Array Value) (w : World), (callFunc fc1 args).run Try.prog w = .ok (.enter fc1 args) w) (hF1 : ∀ {H' : View} {L' : Seg} {w' : World} {x1 : Int} {K : Bool → Prop}, View.le H H' → I64 x1 → St w0 H' (fpc1 ++ L') w' → G1 x1 K → Calls Try.prog fc1 (([.int .i64 x1] : List Value) ++ caps1).toArray w' fun e w'' => ∃ r : Bool, K r ∧ e = .returned (.bool r) ∧ St w0 H' (fpc1 ++ L') w'') (hS : St w0 H (fpc1 ++ L) w) (hV : V_IndexFuncI s_1 G1 Q) :
    Calls Try.prog 38 #[v_2, .func (.func fc1) #[] caps1.toArray] w fun e w' => ∃ (r1 : Int), Q r1 ∧ e = .returned (.int .i64 r1) ∧ I64 r1 ∧ St w0 H (fpc1 ++ L) w' := by
  unfold V_IndexFuncI at hV
  refine enter Try.func38 rfl Try.ntmps38 rfl (lk_args_cons (d := 0) (v := v_2) rfl (lk_args_cons (d := 1) (v := .func (.func fc1) #[] caps1.toArray) rfl (lk_args_nil _))) ?_
  refine WC.seq ?_
  refine WC.region ?_
  refine WL.run hS rfl rfl rfl (ex_assign rfl) ?_
  refine WL.nil ?_
  refine WQ.next ?_
  refine WC.sub (m := [(0, v_2), (1, .func (.func fc1) #[] caps1.toArray)]) ⟨rfl, rfl, trivial⟩ ?_
  refine WC.seq ?_
  refine WC.seq ?_
  refine WC.region ?_
  refine WL.run hS rfl rfl rfl (ex_move rfl) ?_
  have hl_6 : Len s_1 := h_3.bound
  replace hV := hV hl_6
  refine WL.run hS rfl rfl rfl (ex_len_sl Try.underlying31 rfl h_3) ?_
  refine WL.run hS rfl rfl rfl (ex_move rfl) ?_
  refine WL.nil ?_
  refine WQ.next ?_
  refine WC.sub (m := [(0, v_2), (1, .func (.func fc1) #[] caps1.toArray), (7, .int .i64 (s_1.length : Int)), (8, .int .i64 0)]) ⟨rfl, rfl, rfl, rfl, trivial⟩ ?_
  refine WC.block ?_
  obtain ⟨I_29, mu_30, hI_42, hV⟩ := hV
  refine WC.loop (σ := Int) (fun s a w => ∃ (x_17 : Int), s = x_17 ∧ I_29 x_17 ∧ I64 x_17 ∧ St w0 H (fpc1 ++ L) w ∧ Fr 19 [(0, v_2), (1, .func (.func fc1) #[] caps1.toArray), (7, .int .i64 (s_1.length : Int)), (8, .int .i64 x_17)] a) mu_30 0 ?_ ?_
  · exact fun a ha => ⟨0, rfl, hI_42, (by unfold I64; omega), hS, ha.of_sub ⟨rfl, rfl, rfl, rfl, trivial⟩⟩
  · clear hS hI_42
    rintro x_17 a w ⟨_, rfl, hI, hr_18, hS, ha⟩
    refine in_frame ha ?_
    clear ha
    replace hV := hV _ hI
    clear hI
    refine WC.seq ?_
    refine WC.region ?_
    refine WL.run hS rfl rfl rfl (ex_lss rfl rfl) ?_
    refine WL.nil ?_
    refine WQ.next ?_
    refine WC.seq ?_
    refine WC.cond rfl ?_ ?_
    · intro hc_41
      replace hV := hV.1 (of_decide_eq_true hc_41)
      refine WC.skip ?_
      refine WQ.next ?_
      refine WC.sub (m := [(0, v_2), (1, .func (.func fc1) #[] caps1.toArray), (7, .int .i64 (s_1.length : Int)), (8, .int .i64 x_17)]) ⟨rfl, rfl, rfl, rfl, trivial⟩ ?_
      refine WC.seq ?_
      refine WC.block ?_
      refine WC.seq ?_
      refine WC.region ?_
      refine WL.run hS rfl rfl rfl (ex_move rfl) ?_
      refine WL.run hS rfl rfl rfl (ex_assign rfl) ?_
      refine WL.nil ?_
      refine WQ.next ?_
      refine WC.sub (m := [(0, v_2), (1, .func (.func fc1) #[] caps1.toArray), (5, .int .i64 x_17), (7, .int .i64 (s_1.length : Int)), (8, .int .i64 x_17)]) ⟨rfl, rfl, rfl, rfl, rfl, trivial⟩ ?_
      refine WC.seq ?_
      refine WC.region ?_
      refine WL.run hS rfl rfl rfl (ex_move rfl) ?_
      refine WL.run hS rfl rfl rfl (ex_move rfl) ?_
      refine WL.run hS rfl rfl rfl (ex_move rfl) ?_
      obtain ⟨hin_32, hV⟩ := hV
      refine WL.runx hS rfl rfl rfl (ex_index Try.underlying31 Try.sizeOf3 rfl rfl h_3 hin_32) ?_
      intro p_33 hp_34
      refine WL.runx hS rfl rfl rfl (ex_load Try.isAgg3 rfl rfl hp_34) ?_
      intro u_35 hu_36
      obtain ⟨rfl, hr_37⟩ := cInt_rep hu_36
      replace hr_37 := has_I64 hr_37
      replace hV := hV hr_37
      refine WL.call rfl rfl rfl (enters_c (vs := [.int .i64 (ix s_1 x_17)]) (caps := caps1) rfl hb1 ⟨rfl, trivial⟩) (hF1 (View.le.refl _) hr_37 hS hV) ?_
      clear hV hS
      rintro _ w ⟨r_38, hV, rfl, hS⟩
      refine ⟨_, rfl, ?_⟩
      refine WL.nil ?_
      refine WQ.next ?_
      refine WC.sub (m := [(0, v_2), (1, .func (.func fc1) #[] caps1.toArray), (5, .int .i64 x_17), (7, .int .i64 (s_1.length : Int)), (8, .int .i64 x_17), (16, .bool r_38)]) ⟨rfl, rfl, rfl, rfl, rfl, rfl, trivial⟩ ?_
      refine WC.cond rfl ?_ ?_
      · intro hc_40
        replace hV := hV.1 hc_40
        refine WC.seq ?_
        refine WC.region ?_
        refine WL.run hS rfl rfl rfl (ex_move rfl) ?_
        refine WL.run hS rfl rfl rfl (ex_assign rfl) ?_
        refine WL.nil ?_
        refine WQ.next ?_
        refine WC.sub (m := [(4, .int .i64 x_17)]) ⟨rfl, trivial⟩ ?_
        refine WC.ret ?_
        refine WQ.out nofun ?_
        refine WQ.pass nofun ?_
        refine WQ.pass nofun ?_
        refine WQ.out nofun ?_
        refine WQ.pass nofun ?_
        exact leave1 rfl rfl ⟨x_17, hV, rfl, hr_18, hS⟩
      · intro hc_40
        replace hV := hV.2 hc_40
        refine WC.skip ?_
        refine WQ.out nofun ?_
        refine WQ.next ?_
        refine WC.sub (m := [(0, v_2), (1, .func (.func fc1) #[] caps1.toArray), (7, .int .i64 (s_1.length : Int)), (8, .int .i64 x_17)]) ⟨rfl, rfl, rfl, rfl, trivial⟩ ?_
        refine WC.region ?_
        obtain ⟨hi_39, hV⟩ := hV
        refine WL.run hS rfl rfl rfl (ex_add rfl rfl hi_39) ?_
        refine WL.run hS rfl rfl rfl (ex_move rfl) ?_
        refine WL.nil ?_
        exact WQ.there fun a ha => ⟨(x_17 + 1), ⟨(x_17 + 1), rfl, hV.1, hi_39, hS, ha.of_sub ⟨rfl, rfl, rfl, rfl, trivial⟩⟩, hV.2⟩
    · intro hc_41
      replace hV := hV.2 (of_decide_eq_false hc_41)
      refine WC.exit ?_
      refine WQ.pass nofun ?_
      refine WQ.pass nofun ?_
      refine WQ.hit ?_
      refine WQ.next ?_
      refine WC.sub (m := []) trivial ?_
      refine WC.seq ?_
      refine WC.region ?_
      refine WL.run hS rfl rfl rfl (ex_assign rfl) ?_
      refine WL.nil ?_
      refine WQ.next ?_
      refine WC.ret ?_
      exact leave1 rfl rfl ⟨(-1), hV, rfl, (by unfold I64; omega), hS⟩

theorem S_ContainsFuncI {w0 : World} {H : View} {L : Seg} {w : World} {v_2 : Value} {s_1 : List Int} {fc1 : FuncId} {caps1 : List Value} {fpc1 : Seg} {G1 : Int → (Bool → Prop) → Prop} {Q : Bool → Prop} (h_3 : IsSl H (cInt .i64) v_2 s_1) (hb1 : ∀ (args : Array Value) (w : World), (callFunc fc1 args).run Try.prog w = .ok (.enter fc1 args) w) (hF1 : ∀ {H' : View} {L' : Seg} {w' : World} {x1 : Int} {K : Bool → Prop}, View.le H H' → I64 x1 → St w0 H' (fpc1 ++ L') w' → G1 x1 K → Calls Try.prog fc1 (([.int .i64 x1] : List Value) ++ caps1).toArray w' fun e w'' => ∃ r : Bool, K r ∧ e = .returned (.bool r) ∧ St w0 H' (fpc1 ++ L') w'') (hS : St w0 H (fpc1 ++ L) w) (hV : V_ContainsFuncI s_1 G1 Q) :
    Calls Try.prog 27 #[v_2, .func (.func fc1) #[] caps1.toArray] w fun e w' => ∃ (r1 : Bool), Q r1 ∧ e = .returned (.bool r1) ∧ St w0 H (fpc1 ++ L) w' := by
  unfold V_ContainsFuncI at hV
  refine enter Try.func27 rfl Try.ntmps27 rfl (lk_args_cons (d := 0) (v := v_2) rfl (lk_args_cons (d := 1) (v := .func (.func fc1) #[] caps1.toArray) rfl (lk_args_nil _))) ?_
  refine WC.seq ?_
  refine WC.region ?_
  refine WL.run hS rfl rfl rfl (ex_assign rfl) ?_
  refine WL.nil ?_
  refine WQ.next ?_
  refine WC.sub (m := [(0, v_2), (1, .func (.func fc1) #[] caps1.toArray)]) ⟨rfl, rfl, trivial⟩ ?_
  refine WC.seq ?_
  refine WC.region ?_
  refine WL.run hS rfl rfl rfl (ex_move rfl) ?_
  refine WL.run hS rfl rfl rfl (ex_move rfl) ?_
  refine WL.call rfl rfl rfl (enters0 (vs := [v_2, .func (.func fc1) #[] caps1.toArray]) Try.call38 ⟨rfl, rfl, trivial⟩) (S_IndexFuncI (fc1 := fc1) (caps1 := caps1) (fpc1 := fpc1) (G1 := G1) h_3 hb1 hF1 hS hV) ?_
  clear hV hS
  rintro _ w ⟨r_6, hV, rfl, hr_7, hS⟩
  refine ⟨_, rfl, ?_⟩
  refine WL.run hS rfl rfl rfl (ex_geq rfl rfl) ?_
  refine WL.run hS rfl rfl rfl (ex_assign rfl) ?_
  refine WL.nil ?_
  refine WQ.next ?_
  refine WC.sub (m := [(4, .bool (decide (0 ≤ r_6)))]) ⟨rfl, trivial⟩ ?_
  refine WC.ret ?_
  exact leave1 rfl rfl ⟨decide (0 ≤ r_6), hV, rfl, hS⟩

theorem S_valid {w0 : World} {H : View} {L : Seg} {w : World} {n_1 : Int} {v_4 : Value} {clause_3 : List Int} {Q : Bool → Prop} (hr_2 : I64 n_1) (h_5 : IsSl H (cInt .i64) v_4 clause_3) (hS : St w0 H (L) w) (hV : V_valid n_1 clause_3 Q) :
    Calls Try.prog 13 #[.int .i64 n_1, v_4] w fun e w' => ∃ (r1 : Bool), Q r1 ∧ e = .returned (.bool r1) ∧ St w0 H (L) w' := by
  unfold V_valid at hV
  refine enter Try.func13 rfl Try.ntmps13 rfl (lk_args_cons (d := 0) (v := .int .i64 n_1) rfl (lk_args_cons (d := 1) (v := v_4) rfl (lk_args_nil _))) ?_
  refine WC.seq ?_
  refine WC.region ?_
  refine WL.box (arr := #[.int .i64 n_1]) rfl rfl rfl hS ?_
  clear hS
  intro b_6 w hS
  refine WL.run hS rfl rfl rfl (ex_assign rfl) ?_
  refine WL.nil ?_
  refine WQ.next ?_
  refine WC.sub (m := [(1, v_4), (2, .pointer (some ⟨b_6, 0, none⟩))]) ⟨rfl, rfl, trivial⟩ ?_
  refine WC.seq ?_
  refine WC.region ?_
  refine WL.run hS rfl rfl rfl (ex_move rfl) ?_
  refine WL.run hS rfl rfl rfl (ex_makeFunc (vs := [.pointer (some ⟨b_6, 0, none⟩)]) ⟨rfl, trivial⟩) ?_
  refine WL.call rfl rfl rfl (enters0 (vs := [v_4, .func (.func 28) #[] #[.pointer (some ⟨b_6, 0, none⟩)]]) Try.call27 ⟨rfl, rfl, trivial⟩) (S_ContainsFuncI (fc1 := 28) (caps1 := [.pointer (some ⟨b_6, 0, none⟩)]) (fpc1 := ([(b_6, .cells #[.int .i64 n_1] 3 (0, 0))])) (G1 := (fun x1 K => V_valid1 x1 n_1 K)) h_5 Try.call28 (fun hle hx1 hSx hVx => S_valid1 hx1 hr_2 hSx hVx) hS hV) ?_
  clear hV hS
  rintro _ w ⟨r_8, hV, rfl, hS⟩
  refine ⟨_, rfl, ?_⟩
  refine WL.run hS rfl rfl rfl (ex_not rfl) ?_
  refine WL.run hS rfl rfl rfl (ex_assign rfl) ?_
  refine WL.nil ?_
  refine WQ.next ?_
  refine WC.sub (m := [(4, .bool (!r_8))]) ⟨rfl, trivial⟩ ?_
  replace hS := hS.drop
  refine WC.ret ?_
  exact leave1 rfl rfl ⟨(!r_8), hV, rfl, hS⟩

theorem S_checked1 {w0 : World} {H : View} {L : Seg} {w : World} {v_2 : Value} {c_1 : List Int} {b_5 : Nat} {c_4_7 : Int} {Q : Bool → Prop} (h_3 : IsSl H (cInt .i64) v_2 c_1) (hr_8 : I64 c_4_7) (hS : St w0 H ([(b_5, .cells #[.int .i64 c_4_7] 3 (0, 0))] ++ L) w) (hV : V_checked1 c_1 c_4_7 Q) :
    Calls Try.prog 26 #[v_2, .pointer (some ⟨b_5, 0, none⟩)] w fun e w' => ∃ (r1 : Bool), Q r1 ∧ e = .returned (.bool r1) ∧ St w0 H ([(b_5, .cells #[.int .i64 c_4_7] 3 (0, 0))] ++ L) w' := by
  unfold V_checked1 at hV
  refine enter Try.func26 rfl Try.ntmps26 rfl (lk_args_cons (d := 0) (v := v_2) rfl (lk_args_cons (d := 1) (v := .pointer (some ⟨b_5, 0, none⟩)) rfl (lk_args_nil _))) ?_
  refine WC.seq ?_
  refine WC.region ?_
  refine WL.run hS rfl rfl rfl (ex_assign rfl) ?_
  refine WL.nil ?_
  refine WQ.next ?_
  refine WC.sub (m := [(0, v_2), (1, .pointer (some ⟨b_5, 0, none⟩))]) ⟨rfl, rfl, trivial⟩ ?_
  refine WC.seq ?_
  refine WC.region ?_
  refine WL.run hS rfl rfl rfl (ex_load_box Try.isAgg3 rfl rfl) ?_
  refine WL.run hS rfl rfl rfl (ex_move rfl) ?_
  refine WL.call rfl rfl rfl (enters0 (vs := [.int .i64 c_4_7, v_2]) Try.call13 ⟨rfl, rfl, trivial⟩) (S_valid  hr_8 h_3 hS hV) ?_
  clear hV hS
  rintro _ w ⟨r_9, hV, rfl, hS⟩
  refine ⟨_, rfl, ?_⟩
  refine WL.run hS rfl rfl rfl (ex_not rfl) ?_
  refine WL.run hS rfl rfl rfl (ex_assign rfl) ?_
  refine WL.nil ?_
  refine WQ.next ?_
  refine WC.sub (m := [(3, .bool (!r_9))]) ⟨rfl, trivial⟩ ?_
  refine WC.ret ?_
  exact leave1 rfl rfl ⟨(!r_9), hV, rfl, hS⟩

theorem S_IndexFuncL {w0 : World} {H : View} {L : Seg} {w : World} {v_2 : Value} {s_1 : List (List Int)} {fc1 : FuncId} {caps1 : List Value} {fpc1 : Seg} {G1 : (List Int) → (Bool → Prop) → Prop} {Q : Int → Prop} (h_3 : IsSl H (cSl (cInt .i64)) v_2 s_1) (hb1 : ∀ (args : Array Value) (w : World), (callFunc fc1 args).run Try.prog w = .ok (.enter fc1 args) w) (hF1 : ∀ {H' : View} {L' : Seg} {w' : World} {x1 : List Int} {u1 : Value} {K : Bool → Prop}, View.le H H' → IsSl H' (cInt .i64) u1 x1 → St w0 H' (fpc1 ++ L') w' → G1 x1 K → Calls Try.prog fc1 (([u1] : List Value) ++ caps1).toArray w' fun e w'' => ∃ r : Bool, K r ∧ e = .returned (.bool r) ∧ St w0 H' (fpc1 ++ L') w'') (hS : St w0 H (fpc1 ++ L) w) (hV : V_IndexFuncL s_1 G1 Q) :
    Calls Try.prog 14 #[v_2, .func (.func fc1) #[] caps1.toArray] w fun e w' => ∃ (r1 : Int), Q r1 ∧ e = .returned (.int .i64 r1) ∧ I64 r1 ∧ St w0 H (fpc1 ++ L) w' := by
  unfold V_IndexFuncL at hV
  refine enter Try.func14 rfl Try.ntmps14 rfl (lk_args_cons (d := 0) (v := v_2) rfl (lk_args_cons (d := 1) (v := .func (.func fc1) #[] caps1.toArray) rfl (lk_args_nil _))) ?_
  refine WC.seq ?_
  refine WC.region ?_
  refine WL.run hS rfl rfl rfl (ex_assign rfl) ?_
  refine WL.nil ?_
  refine WQ.next ?_
  refine WC.sub (m := [(0, v_2), (1, .func (.func fc1) #[] caps1.toArray)]) ⟨rfl, rfl, trivial⟩ ?_
  refine WC.seq ?_
  refine WC.seq ?_
  refine WC.region ?_
  refine WL.run hS rfl rfl rfl (ex_move rfl) ?_
  have hl_6 : Len s_1 := h_3.bound
  replace hV := hV hl_6
  refine WL.run hS rfl rfl rfl (ex_len_sl Try.underlying22 rfl h_3) ?_
  refine WL.run hS rfl rfl rfl (ex_move rfl) ?_
  refine WL.nil ?_
  refine WQ.next ?_
  refine WC.sub (m := [(0, v_2), (1, .func (.func fc1) #[] caps1.toArray), (7, .int .i64 (s_1.length : Int)), (8, .int .i64 0)]) ⟨rfl, rfl, rfl, rfl, trivial⟩ ?_
  refine WC.block ?_
  obtain ⟨I_27, mu_28, hI_39, hV⟩ := hV
  refine WC.loop (σ := Int) (fun s a w => ∃ (x_16 : Int), s = x_16 ∧ I_27 x_16 ∧ I64 x_16 ∧ St w0 H (fpc1 ++ L) w ∧ Fr 19 [(0, v_2), (1, .func (.func fc1) #[] caps1.toArray), (7, .int .i64 (s_1.length : Int)), (8, .int .i64 x_16)] a) mu_28 0 ?_ ?_
  · exact fun a ha => ⟨0, rfl, hI_39, (by unfold I64; omega), hS, ha.of_sub ⟨rfl, rfl, rfl, rfl, trivial⟩⟩
  · clear hS hI_39
    rintro x_16 a w ⟨_, rfl, hI, hr_17, hS, ha⟩
    refine in_frame ha ?_
    clear ha
    replace hV := hV _ hI
    clear hI
    refine WC.seq ?_
    refine WC.region ?_
    refine WL.run hS rfl rfl rfl (ex_lss rfl rfl) ?_
    refine WL.nil ?_
    refine WQ.next ?_
    refine WC.seq ?_
    refine WC.cond rfl ?_ ?_
    · intro hc_38
      replace hV := hV.1 (of_decide_eq_true hc_38)
      refine WC.skip ?_
      refine WQ.next ?_
      refine WC.sub (m := [(0, v_2), (1, .func (.func fc1) #[] caps1.toArray), (7, .int .i64 (s_1.length : Int)), (8, .int .i64 x_16)]) ⟨rfl, rfl, rfl, rfl, trivial⟩ ?_
      refine WC.seq ?_
      refine WC.block ?_
      refine WC.seq ?_
      refine WC.region ?_
      refine WL.run hS rfl rfl rfl (ex_move rfl) ?_
      refine WL.run hS rfl rfl rfl (ex_assign rfl) ?_
      refine WL.nil ?_
      refine WQ.next ?_
      refine WC.sub (m := [(0, v_2), (1, .func (.func fc1) #[] caps1.toArray), (5, .int .i64 x_16), (7, .int .i64 (s_1.length : Int)), (8, .int .i64 x_16)]) ⟨rfl, rfl, rfl, rfl, rfl, trivial⟩ ?_
      refine WC.seq ?_
      refine WC.region ?_
      refine WL.run hS rfl rfl rfl (ex_move rfl) ?_
      refine WL.run hS rfl rfl rfl (ex_move rfl) ?_
      refine WL.run hS rfl rfl rfl (ex_move rfl) ?_
      obtain ⟨hin_30, hV⟩ := hV
      refine WL.runx hS rfl rfl rfl (ex_index Try.underlying22 Try.sizeOf31 rfl rfl h_3 hin_30) ?_
      intro p_31 hp_32
      refine WL.runx hS rfl rfl rfl (ex_load Try.isAgg31 rfl rfl hp_32) ?_
      intro u_33 hu_34
      replace hu_34 := cSl_rep hu_34
      refine WL.call rfl rfl rfl (enters_c (vs := [u_33]) (caps := caps1) rfl hb1 ⟨rfl, trivial⟩) (hF1 (View.le.refl _) hu_34 hS hV) ?_
      clear hV hS
      rintro _ w ⟨r_35, hV, rfl, hS⟩
      refine ⟨_, rfl, ?_⟩
      refine WL.nil ?_
      refine WQ.next ?_
      refine WC.sub (m := [(0, v_2), (1, .func (.func fc1) #[] caps1.toArray), (5, .int .i64 x_16), (7, .int .i64 (s_1.length : Int)), (8, .int .i64 x_16), (16, .bool r_35)]) ⟨rfl, rfl, rfl, rfl, rfl, rfl, trivial⟩ ?_
      refine WC.cond rfl ?_ ?_
      · intro hc_37
        replace hV := hV.1 hc_37
        refine WC.seq ?_
        refine WC.region ?_
        refine WL.run hS rfl rfl rfl (ex_move rfl) ?_
        refine WL.run hS rfl rfl rfl (ex_assign rfl) ?_
        refine WL.nil ?_
        refine WQ.next ?_
        refine WC.sub (m := [(4, .int .i64 x_16)]) ⟨rfl, trivial⟩ ?_
        refine WC.ret ?_
        refine WQ.out nofun ?_
        refine WQ.pass nofun ?_
        refine WQ.pass nofun ?_
        refine WQ.out nofun ?_
        refine WQ.pass nofun ?_
        exact leave1 rfl rfl ⟨x_16, hV, rfl, hr_17, hS⟩
      · intro hc_37
        replace hV := hV.2 hc_37
        refine WC.skip ?_
        refine WQ.out nofun ?_
        refine WQ.next ?_
        refine WC.sub (m := [(0, v_2), (1, .func (.func fc1) #[] caps1.toArray), (7, .int .i64 (s_1.length : Int)), (8, .int .i64 x_16)]) ⟨rfl, rfl, rfl, rfl, trivial⟩ ?_
        refine WC.region ?_
        obtain ⟨hi_36, hV⟩ := hV
        refine WL.run hS rfl rfl rfl (ex_add rfl rfl hi_36) ?_
        refine WL.run hS rfl rfl rfl (ex_move rfl) ?_
        refine WL.nil ?_
        exact WQ.there fun a ha => ⟨(x_16 + 1), ⟨(x_16 + 1), rfl, hV.1, hi_36, hS, ha.of_sub ⟨rfl, rfl, rfl, rfl, trivial⟩⟩, hV.2⟩
    · intro hc_38
      replace hV := hV.2 (of_decide_eq_false hc_38)
      refine WC.exit ?_
      refine WQ.pass nofun ?_
      refine WQ.pass nofun ?_
      refine WQ.hit ?_
      refine WQ.next ?_
      refine WC.sub (m := []) trivial ?_
      refine WC.seq ?_
      refine WC.region ?_
      refine WL.run hS rfl rfl rfl (ex_assign rfl) ?_
      refine WL.nil ?_
      refine WQ.next ?_
      refine WC.ret ?_
      exact leave1 rfl rfl ⟨(-1), hV, rfl, (by unfold I64; omega), hS⟩

theorem S_ContainsFuncL {w0 : World} {H : View} {L : Seg} {w : World} {v_2 : Value} {s_1 : List (List Int)} {fc1 : FuncId} {caps1 : List Value} {fpc1 : Seg} {G1 : (List Int) → (Bool → Prop) → Prop} {Q : Bool → Prop} (h_3 : IsSl H (cSl (cInt .i64)) v_2 s_1) (hb1 : ∀ (args : Array Value) (w : World), (callFunc fc1 args).run Try.prog w = .ok (.enter fc1 args) w) (hF1 : ∀ {H' : View} {L' : Seg} {w' : World} {x1 : List Int} {u1 : Value} {K : Bool → Prop}, View.le H H' → IsSl H' (cInt .i64) u1 x1 → St w0 H' (fpc1 ++ L') w' → G1 x1 K → Calls Try.prog fc1 (([u1] : List Value) ++ caps1).toArray w' fun e w'' => ∃ r : Bool, K r ∧ e = .returned (.bool r) ∧ St w0 H' (fpc1 ++ L') w'') (hS : St w0 H (fpc1 ++ L) w) (hV : V_ContainsFuncL s_1 G1 Q) :
    Calls Try.prog 25 #[v_2, .func (.func fc1) #[] caps1.toArray] w fun e w' => ∃ (r1 : Bool), Q r1 ∧ e = .returned (.bool r1) ∧ St w0 H (fpc1 ++ L) w' := by
  unfold V_ContainsFuncL at hV
  refine enter Try.func25 rfl Try.ntmps25 rfl (lk_args_cons (d := 0) (v := v_2) rfl (lk_args_cons (d := 1) (v := .func (.func fc1) #[] caps1.toArray) rfl (lk_args_nil _))) ?_
  refine WC.seq ?_
  refine WC.region ?_
  refine WL.run hS rfl rfl rfl (ex_assign rfl) ?_
  refine WL.nil ?_
  refine WQ.next ?_
  refine WC.sub (m := [(0, v_2), (1, .func (.func fc1) #[] caps1.toArray)]) ⟨rfl, rfl, trivial⟩ ?_
  refine WC.seq ?_
  refine WC.region ?_
  refine WL.run hS rfl rfl rfl (ex_move rfl) ?_
  refine WL.run hS rfl rfl rfl (ex_move rfl) ?_
  refine WL.call rfl rfl rfl (enters0 (vs := [v_2, .func (.func fc1) #[] caps1.toArray]) Try.call14 ⟨rfl, rfl, trivial⟩) (S_IndexFuncL (fc1 := fc1) (caps1 := caps1) (fpc1 := fpc1) (G1 := G1) h_3 hb1 hF1 hS hV) ?_
  clear hV hS
  rintro _ w ⟨r_6, hV, rfl, hr_7, hS⟩
  refine ⟨_, rfl, ?_⟩
  refine WL.run hS rfl rfl rfl (ex_geq rfl rfl) ?_
  refine WL.run hS rfl rfl rfl (ex_assign rfl) ?_
  refine WL.nil ?_
  refine WQ.next ?_
  refine WC.sub (m := [(4, .bool (decide (0 ≤ r_6)))]) ⟨rfl, trivial⟩ ?_
  refine WC.ret ?_
  exact leave1 rfl rfl ⟨decide (0 ≤ r_6), hV, rfl, hS⟩

theorem S_checked {w0 : World} {H : View} {L : Seg} {w : World} {n_1 : Int} {v_4 : Value} {clauses_3 : List (List Int)} {v_7 : Value} {more_6 : List Int} {Q : (Option Int) → Prop} (hr_2 : I64 n_1) (h_5 : IsSl H (cSl (cInt .i64)) v_4 clauses_3) (h_8 : IsSl H (cInt .i64) v_7 more_6) (hS : St w0 H (L) w) (hV : V_checked n_1 clauses_3 more_6 Q) :
    Calls Try.prog 11 #[.int .i64 n_1, v_4, v_7] w fun e w' => ∃ (r1 : Option Int), Q r1 ∧ e = .returned (errV 47 r1) ∧ St w0 H (L) w' := by
  unfold V_checked at hV
  refine enter Try.func11 rfl Try.ntmps11 rfl (lk_args_cons (d := 0) (v := .int .i64 n_1) rfl (lk_args_cons (d := 1) (v := v_4) rfl (lk_args_cons (d := 2) (v := v_7) rfl (lk_args_nil _)))) ?_
  refine WC.seq ?_
  refine WC.region ?_
  refine WL.box (arr := #[.int .i64 n_1]) rfl rfl rfl hS ?_
  clear hS
  intro b_9 w hS
  refine WL.run hS rfl rfl rfl (ex_assign rfl) ?_
  refine WL.nil ?_
  refine WQ.next ?_
  refine WC.sub (m := [(1, v_4), (2, v_7), (3, .pointer (some ⟨b_9, 0, none⟩))]) ⟨rfl, rfl, rfl, trivial⟩ ?_
  refine WC.seq ?_
  refine WC.block ?_
  obtain ⟨J_13, hJ_14, hV⟩ := hV
  refine WC.meet (fun a w => ∃ (x_12 : Bool), J_13 x_12 ∧ St w0 H ([(b_9, .cells #[.int .i64 n_1] 3 (0, 0))] ++ L) w ∧ Fr 31 [(1, v_4), (2, v_7), (3, .pointer (some ⟨b_9, 0, none⟩)), (7, .bool x_12)] a) ?_ ?_
  · rintro a w ⟨x_12, hI, hS, ha⟩
    refine in_frame ha ?_
    clear ha hV
    have hV := hJ_14 _ hI
    clear hI hJ_14
    refine WC.cond rfl ?_ ?_
    · intro hc_32
      replace hV := hV.1 hc_32
      refine WC.seq ?_
      refine WC.region ?_
      refine WL.run hS rfl rfl rfl (ex_makeIface Try.concrete47 rfl) ?_
      refine WL.run hS rfl rfl rfl (ex_assign rfl) ?_
      refine WL.nil ?_
      refine WQ.next ?_
      refine WC.sub (m := [(6, (.iface 47 (.int .i64 5)))]) ⟨rfl, trivial⟩ ?_
      replace hS := hS.drop
      refine WC.ret ?_
      refine WQ.out nofun ?_
      refine WQ.pass nofun ?_
      exact leave1 rfl rfl ⟨(some 5), hV, rfl, hS⟩
    · intro hc_32
      replace hV := hV.2 hc_32
      refine WC.seq ?_
      refine WC.region ?_
      refine WL.run hS rfl rfl rfl (ex_move rfl) ?_
      have hl_16 : Len clauses_3 := h_5.bound
      replace hV := hV hl_16
      refine WL.run hS rfl rfl rfl (ex_len_sl Try.underlying22 rfl h_5) ?_
      refine WL.run hS rfl rfl rfl (ex_gtr rfl rfl) ?_
      refine WL.run hS rfl rfl rfl (ex_assign rfl) ?_
      refine WL.nil ?_
      refine WQ.next ?_
      refine WC.sub (m := [(1, v_4), (2, v_7), (3, .pointer (some ⟨b_9, 0, none⟩)), (15, .bool (decide (33554432 < (clauses_3.length : Int))))]) ⟨rfl, rfl, rfl, rfl, trivial⟩ ?_
      refine WC.cond rfl ?_ ?_
      · intro hc_31
        replace hV := hV.1 (of_decide_eq_true hc_31)
        refine WC.seq ?_
        refine WC.region ?_
        refine WL.run hS rfl rfl rfl (ex_makeIface Try.concrete47 rfl) ?_
        refine WL.run hS rfl rfl rfl (ex_assign rfl) ?_
        refine WL.nil ?_
        refine WQ.next ?_
        refine WC.sub (m := [(6, (.iface 47 (.int .i64 6)))]) ⟨rfl, trivial⟩ ?_
        replace hS := hS.drop
        refine WC.ret ?_
        refine WQ.out nofun ?_
        refine WQ.pass nofun ?_
        exact leave1 rfl rfl ⟨(some 6), hV, rfl, hS⟩
      · intro hc_31
        replace hV := hV.2 (of_decide_eq_false hc_31)
        obtain ⟨J_23, hJ_24, hV⟩ := hV
        refine WC.meet (fun a w => ∃ (x_22 : Bool), J_23 x_22 ∧ St w0 H (L) w ∧ Fr 31 [(20, .bool x_22)] a) ?_ ?_
        · rintro a w ⟨x_22, hI, hS, ha⟩
          refine in_frame ha ?_
          clear ha hV
          have hV := hJ_24 _ hI
          clear hI hJ_24
          refine WC.cond rfl ?_ ?_
          · intro hc_30
            replace hV := hV.1 hc_30
            refine WC.seq ?_
            refine WC.region ?_
            refine WL.run hS rfl rfl rfl (ex_makeIface Try.concrete47 rfl) ?_
            refine WL.run hS rfl rfl rfl (ex_assign rfl) ?_
            refine WL.nil ?_
            refine WQ.next ?_
            refine WC.sub (m := [(6, (.iface 47 (.int .i64 5)))]) ⟨rfl, trivial⟩ ?_
            refine WC.ret ?_
            refine WQ.out nofun ?_
            refine WQ.pass nofun ?_
            exact leave1 rfl rfl ⟨(some 5), hV, rfl, hS⟩
          · intro hc_30
            replace hV := hV.2 hc_30
            refine WC.skip ?_
            refine WQ.out nofun ?_
            refine WQ.next ?_
            refine WC.sub (m := []) trivial ?_
            refine WC.seq ?_
            refine WC.region ?_
            refine WL.run hS rfl rfl rfl (ex_assign rfl) ?_
            refine WL.nil ?_
            refine WQ.next ?_
            refine WC.ret ?_
            exact leave1 rfl rfl ⟨none, hV, rfl, hS⟩
        · clear hJ_24
          refine WC.region ?_
          refine WL.run hS rfl rfl rfl (ex_move rfl) ?_
          refine WL.run hS rfl rfl rfl (ex_makeFunc (vs := [.pointer (some ⟨b_9, 0, none⟩)]) ⟨rfl, trivial⟩) ?_
          refine WL.call rfl rfl rfl (enters0 (vs := [v_4, .func (.func 26) #[] #[.pointer (some ⟨b_9, 0, none⟩)]]) Try.call25 ⟨rfl, rfl, trivial⟩) (S_ContainsFuncL (fc1 := 26) (caps1 := [.pointer (some ⟨b_9, 0, none⟩)]) (fpc1 := ([(b_9, .cells #[.int .i64 n_1] 3 (0, 0))])) (G1 := (fun x1 K => V_checked1 x1 n_1 K)) h_5 Try.call26 (fun hle hx1 hSx hVx => S_checked1 hx1 hr_2 hSx hVx) hS hV) ?_
          clear hV hS
          rintro _ w ⟨r_25, hV, rfl, hS⟩
          refine ⟨_, rfl, ?_⟩
          refine WL.run hS rfl rfl rfl (ex_move rfl) ?_
          rcases Bool.eq_false_or_eq_true r_25 with hg_27 | hg_27
          · replace hV := hV.1 hg_27
            refine WL.skip_g rfl rfl rfl hg_27 rfl rfl ?_
            refine WL.skip_g rfl rfl rfl hg_27 rfl rfl ?_
            refine WL.skip_g rfl rfl rfl hg_27 rfl rfl ?_
            refine WL.skip_g rfl rfl rfl hg_27 rfl rfl ?_
            refine WL.run hS rfl rfl rfl (ex_pick_t rfl hg_27 rfl) ?_
            refine WL.run hS rfl rfl rfl (ex_assign rfl) ?_
            refine WL.nil ?_
            replace hS := hS.drop
            exact WQ.there fun a ha => ⟨true, hV, hS, ha.of_sub ⟨rfl, trivial⟩⟩
          · replace hV := hV.2 hg_27
            refine WL.unguard rfl rfl hg_27 ?_
            refine WL.run hS rfl rfl rfl (ex_load_box Try.isAgg3 rfl rfl) ?_
            refine WL.unguard rfl rfl hg_27 ?_
            refine WL.run hS rfl rfl rfl (ex_move rfl) ?_
            refine WL.unguard rfl rfl hg_27 ?_
            refine WL.call rfl rfl rfl (enters0 (vs := [.int .i64 n_1, v_7]) Try.call13 ⟨rfl, rfl, trivial⟩) (S_valid  hr_2 h_8 hS hV) ?_
            clear hV hS
            rintro _ w ⟨r_28, hV, rfl, hS⟩
            refine ⟨_, rfl, ?_⟩
            refine WL.unguard rfl rfl hg_27 ?_
            refine WL.run hS rfl rfl rfl (ex_not rfl) ?_
            refine WL.run hS rfl rfl rfl (ex_pick_f rfl hg_27 rfl) ?_
            refine WL.run hS rfl rfl rfl (ex_assign rfl) ?_
            refine WL.nil ?_
            replace hS := hS.drop
            exact WQ.there fun a ha => ⟨(!r_28), hV, hS, ha.of_sub ⟨rfl, trivial⟩⟩
  · clear hJ_14
    refine WC.region ?_
    refine WL.run hS rfl rfl rfl (ex_load_box Try.isAgg3 rfl rfl) ?_
    refine WL.run hS rfl rfl rfl (ex_lss rfl rfl) ?_
    refine WL.run hS rfl rfl rfl (ex_move rfl) ?_
    rcases Bool.eq_false_or_eq_true (decide (n_1 < 0)) with hg_15 | hg_15
    · replace hV := hV.1 (of_decide_eq_true hg_15)
      refine WL.skip_g rfl rfl rfl hg_15 rfl rfl ?_
      refine WL.skip_g rfl rfl rfl hg_15 rfl rfl ?_
      refine WL.run hS rfl rfl rfl (ex_pick_t rfl hg_15 rfl) ?_
      refine WL.run hS rfl rfl rfl (ex_assign rfl) ?_
      refine WL.nil ?_
      exact WQ.there fun a ha => ⟨true, hV, hS, ha.of_sub ⟨rfl, rfl, rfl, rfl, trivial⟩⟩
    · replace hV := hV.2 (of_decide_eq_false hg_15)
      refine WL.unguard rfl rfl hg_15 ?_
      refine WL.run hS rfl rfl rfl (ex_load_box Try.isAgg3 rfl rfl) ?_
      refine WL.unguard rfl rfl hg_15 ?_
      refine WL.run hS rfl rfl rfl (ex_gtr rfl rfl) ?_
      refine WL.run hS rfl rfl rfl (ex_pick_f rfl hg_15 rfl) ?_
      refine WL.run hS rfl rfl rfl (ex_assign rfl) ?_
      refine WL.nil ?_
      exact WQ.there fun a ha => ⟨decide (16777216 < n_1), hV, hS, ha.of_sub ⟨rfl, rfl, rfl, rfl, trivial⟩⟩

theorem S_CloneI {w0 : World} {H : View} {L : Seg} {w : World} {v_2 : Value} {s_1 : List Int} {Q : (List Int) → Prop} (h_3 : IsSl H (cInt .i64) v_2 s_1) (hS : St w0 H (L) w) (hV : V_CloneI s_1 Q) :
    Calls Try.prog 39 #[v_2] w fun e w' => ∃ (r1 : List Int) (v1 : Value) (fp1 : Seg), Q r1 ∧ e = .returned (v1) ∧ OwnSl H (cInt .i64) 3 v1 r1 fp1 ∧ St w0 H (fp1 ++ L) w' := by
  unfold V_CloneI at hV
  refine enter Try.func39 rfl Try.ntmps39 rfl (lk_args_cons (d := 0) (v := v_2) rfl (lk_args_nil _)) ?_
  refine WC.seq ?_
  refine WC.region ?_
  refine WL.run hS rfl rfl rfl (ex_assign rfl) ?_
  refine WL.nil ?_
  refine WQ.next ?_
  refine WC.sub (m := [(0, v_2)]) ⟨rfl, trivial⟩ ?_
  refine WC.seq ?_
  refine WC.seq ?_
  refine WC.region ?_
  refine WL.run hS rfl rfl rfl (ex_move rfl) ?_
  refine WL.runx hS rfl rfl rfl (ex_nil_eql Try.underlying31 rfl h_3) ?_
  rintro u_8 ⟨b_6, rfl, hn_7⟩
  replace hV := hV b_6 hn_7
  refine WL.nil ?_
  refine WQ.next ?_
  refine WC.sub (m := [(0, v_2), (4, .bool b_6)]) ⟨rfl, rfl, trivial⟩ ?_
  refine WC.cond rfl ?_ ?_
  · intro hc_19
    replace hV := hV.1 hc_19
    refine WC.seq ?_
    refine WC.region ?_
    refine WL.run hS rfl rfl rfl (ex_assign rfl) ?_
    refine WL.nil ?_
    refine WQ.next ?_
    refine WC.sub (m := [(2, (.slice none 0 0))]) ⟨rfl, trivial⟩ ?_
    refine WC.ret ?_
    refine WQ.pass nofun ?_
    replace hS := hS.nilseg
    exact leave1 rfl rfl ⟨([] : List Int), (.slice none 0 0), ([] : Seg), hV, rfl, OwnSl.nil, hS⟩
  · intro hc_19
    replace hV := hV.2 hc_19
    refine WC.skip ?_
    refine WQ.next ?_
    refine WC.sub (m := [(0, v_2)]) ⟨rfl, trivial⟩ ?_
    refine WC.seq ?_
    refine WC.region ?_
    refine WL.build0 (α := Int) (c := (cInt .i64)) rfl Try.underlying31 Try.sizeOf3 hS ?_
    clear hS
    intro v_11 w fp_12 h_13 hS
    refine WL.run hS rfl rfl rfl (ex_move rfl) ?_
    obtain ⟨hr_14, hV⟩ := hV
    refine WL.append (c := (cInt .i64)) (xs := ([] : List Int)) (ys := s_1) rfl Try.underlying31 Try.info3 rfl rfl rfl hS h_13 (h_3.src hS) hr_14.1 hr_14.2 ?_
    clear hS
    intro v_15 w fp_16 h_17 hS
    rw [List.nil_append] at h_17
    refine WL.run hS rfl rfl rfl (ex_assign rfl) ?_
    refine WL.nil ?_
    refine WQ.next ?_
    refine WC.sub (m := [(2, v_15)]) ⟨rfl, trivial⟩ ?_
    refine WC.ret ?_
    exact leave1 rfl rfl ⟨s_1, v_15, fp_16, hV, rfl, h_17, hS⟩

theorem S_CloneL {w0 : World} {H : View} {L : Seg} {w : World} {v_2 : Value} {s_1 : List (List Int)} {Q : (List (List Int)) → Prop} (h_3 : IsSl H (cSl (cInt .i64)) v_2 s_1) (hS : St w0 H (L) w) (hV : V_CloneL s_1 Q) :
    Calls Try.prog 12 #[v_2] w fun e w' => ∃ (r1 : List (List Int)) (v1 : Value) (fp1 : Seg), Q r1 ∧ e = .returned (v1) ∧ OwnSl H (cSl (cInt .i64)) 31 v1 r1 fp1 ∧ St w0 H (fp1 ++ L) w' := by
  unfold V_CloneL at hV
  refine enter Try.func12 rfl Try.ntmps12 rfl (lk_args_cons (d := 0) (v := v_2) rfl (lk_args_nil _)) ?_
  refine WC.seq ?_
  refine WC.region ?_
  refine WL.run hS rfl rfl rfl (ex_assign rfl) ?_
  refine WL.nil ?_
  refine WQ.next ?_
  refine WC.sub (m := [(0, v_2)]) ⟨rfl, trivial⟩ ?_
  refine WC.seq ?_
  refine WC.seq ?_
  refine WC.region ?_
  refine WL.run hS rfl rfl rfl (ex_move rfl) ?_
  refine WL.runx hS rfl rfl rfl (ex_nil_eql Try.underlying22 rfl h_3) ?_
  rintro u_8 ⟨b_6, rfl, hn_7⟩
  replace hV := hV b_6 hn_7
  refine WL.nil ?_
  refine WQ.next ?_
  refine WC.sub (m := [(0, v_2), (4, .bool b_6)]) ⟨rfl, rfl, trivial⟩ ?_
  refine WC.cond rfl ?_ ?_
  · intro hc_19
    replace hV := hV.1 hc_19
    refine WC.seq ?_
    refine WC.region ?_
    refine WL.run hS rfl rfl rfl (ex_assign rfl) ?_
    refine WL.nil ?_
    refine WQ.next ?_
    refine WC.sub (m := [(2, (.slice none 0 0))]) ⟨rfl, trivial⟩ ?_
    refine WC.ret ?_
    refine WQ.pass nofun ?_
    replace hS := hS.nilseg
    exact leave1 rfl rfl ⟨([] : List (List Int)), (.slice none 0 0), ([] : Seg), hV, rfl, OwnSl.nil, hS⟩
  · intro hc_19
    replace hV := hV.2 hc_19
    refine WC.skip ?_
    refine WQ.next ?_
    refine WC.sub (m := [(0, v_2)]) ⟨rfl, trivial⟩ ?_
    refine WC.seq ?_
    refine WC.region ?_
    refine WL.build0 (α := (List Int)) (c := (cSl (cInt .i64))) rfl Try.underlying22 Try.sizeOf31 hS ?_
    clear hS
    intro v_11 w fp_12 h_13 hS
    refine WL.run hS rfl rfl rfl (ex_move rfl) ?_
    obtain ⟨hr_14, hV⟩ := hV
    refine WL.append (c := (cSl (cInt .i64))) (xs := ([] : List (List Int))) (ys := s_1) rfl Try.underlying22 Try.info31 rfl rfl rfl hS h_13 (h_3.src hS) hr_14.1 hr_14.2 ?_
    clear hS
    intro v_15 w fp_16 h_17 hS
    rw [List.nil_append] at h_17
    refine WL.run hS rfl rfl rfl (ex_assign rfl) ?_
    refine WL.nil ?_
    refine WQ.next ?_
    refine WC.sub (m := [(2, v_15)]) ⟨rfl, trivial⟩ ?_
    refine WC.ret ?_
    exact leave1 rfl rfl ⟨s_1, v_15, fp_16, hV, rfl, h_17, hS⟩

theorem S_followSet {w0 : World} {H : View} {L : Seg} {w : World} {l_1 : Int} {b_4 : Nat} {v_7 : Value} {c_3_6 : List Int} {fp_9 : Seg} {Q : Bool → (List Int) → Prop} (hr_2 : I64 l_1) (h_8 : OwnSl H (cInt .i64) 3 v_7 c_3_6 fp_9) (hS : St w0 H ([(b_4, .cells #[v_7] 31 (0, 0))] ++ (fp_9 ++ L)) w) (hV : V_followSet l_1 c_3_6 Q) :
    Calls Try.prog 31 #[.int .i64 l_1, .pointer (some ⟨b_4, 0, none⟩)] w fun e w' => ∃ (r1 : Bool) (r2 : List Int) (v2 : Value) (fp2 : Seg), Q r1 r2 ∧ e = .returned (.bool r1) ∧ OwnSl H (cInt .i64) 3 v2 r2 fp2 ∧ St w0 H ([(b_4, .cells #[v2] 31 (0, 0))] ++ (fp2 ++ L)) w' := by
  unfold V_followSet at hV
  refine enter Try.func31 rfl Try.ntmps31 rfl (lk_args_cons (d := 0) (v := .int .i64 l_1) rfl (lk_args_cons (d := 1) (v := .pointer (some ⟨b_4, 0, none⟩)) rfl (lk_args_nil _))) ?_
  refine WC.seq ?_
  refine WC.region ?_
  refine WL.run hS rfl rfl rfl (ex_assign rfl) ?_
  refine WL.nil ?_
  refine WQ.next ?_
  refine WC.sub (m := [(0, .int .i64 l_1), (1, .pointer (some ⟨b_4, 0, none⟩))]) ⟨rfl, rfl, trivial⟩ ?_
  refine WC.seq ?_
  refine WC.region ?_
  refine WL.run hS rfl rfl rfl (ex_move rfl) ?_
  refine WL.run hS rfl rfl rfl (ex_move rfl) ?_
  obtain ⟨hi_11, hV⟩ := hV
  refine WL.run hS rfl rfl rfl (ex_neg rfl hi_11) ?_
  refine WL.run hS rfl rfl rfl (ex_max rfl rfl) ?_
  refine WL.run hS rfl rfl rfl (ex_assign rfl) ?_
  refine WL.run hS rfl rfl rfl (ex_assign rfl) ?_
  refine WL.nil ?_
  refine WQ.next ?_
  refine WC.sub (m := [(0, .int .i64 l_1), (1, .pointer (some ⟨b_4, 0, none⟩)), (4, .int .i64 (max l_1 (-l_1))), (5, .int .i64 1)]) ⟨rfl, rfl, rfl, rfl, trivial⟩ ?_
  obtain ⟨J_15, hJ_16, hV⟩ := hV
  refine WC.meet (fun a w => ∃ (x_13 : Int), J_15 x_13 ∧ I64 x_13 ∧ St w0 H ([(b_4, .cells #[v_7] 31 (0, 0))] ++ (fp_9 ++ L)) w ∧ Fr 25 [(1, .pointer (some ⟨b_4, 0, none⟩)), (4, .int .i64 (max l_1 (-l_1))), (5, .int .i64 x_13)] a) ?_ ?_
  · rintro a w ⟨x_13, hI, hr_14, hS, ha⟩
    refine in_frame ha ?_
    clear ha hV
    have hV := hJ_16 _ hI
    clear hI hJ_16
    refine WC.seq ?_
    refine WC.region ?_
    refine WL.run hS rfl rfl rfl (ex_load_box Try.isAgg31 rfl rfl) ?_
    refine WL.run hS rfl rfl rfl (ex_move rfl) ?_
    obtain ⟨hin_18, hV⟩ := hV
    refine WL.runx hS rfl rfl rfl (ex_index_own Try.underlying31 Try.sizeOf3 rfl rfl h_8 hin_18) ?_
    intro p_19 hp_20
    replace hS := hS.f2
    refine WL.runx hS rfl rfl rfl (ex_load_own (w := w) hS Try.isAgg3 rfl rfl h_8 hp_20 hin_18) ?_
    intro u_21 hu_22
    obtain ⟨rfl, hr_23⟩ := cInt_rep hu_22
    replace hr_23 := has_I64 hr_23
    replace hV := hV hr_23
    refine WL.run hS rfl rfl rfl (ex_assign rfl) ?_
    refine WL.nil ?_
    refine WQ.next ?_
    refine WC.sub (m := [(1, .pointer (some ⟨b_4, 0, none⟩)), (4, .int .i64 (max l_1 (-l_1))), (5, .int .i64 x_13), (6, .int .i64 (ix c_3_6 (max l_1 (-l_1))))]) ⟨rfl, rfl, rfl, rfl, trivial⟩ ?_
    refine WC.seq ?_
    refine WC.region ?_
    replace hS := hS.f2
    refine WL.run hS rfl rfl rfl (ex_load_box Try.isAgg31 rfl rfl) ?_
    refine WL.run hS rfl rfl rfl (ex_move rfl) ?_
    refine WL.run hS rfl rfl rfl (ex_move rfl) ?_
    obtain ⟨hin_24, hV⟩ := hV
    refine WL.runx hS rfl rfl rfl (ex_index_own Try.underlying31 Try.sizeOf3 rfl rfl h_8 hin_24) ?_
    intro p_25 hp_26
    replace hS := hS.f2
    refine WL.store_own Try.sizeOf3 rfl rfl rfl (cInt_mk (I64.has hr_14)) hS h_8 hp_26 hin_24 ?_
    clear hS
    intro w fp_28 h_27 hS
    refine WL.nil ?_
    refine WQ.next ?_
    refine WC.sub (m := [(5, .int .i64 x_13), (6, .int .i64 (ix c_3_6 (max l_1 (-l_1))))]) ⟨rfl, rfl, trivial⟩ ?_
    refine WC.seq ?_
    refine WC.region ?_
    refine WL.run hS rfl rfl rfl (ex_move rfl) ?_
    refine WL.run hS rfl rfl rfl (ex_move rfl) ?_
    obtain ⟨hi_29, hV⟩ := hV
    refine WL.run hS rfl rfl rfl (ex_neg rfl hi_29) ?_
    refine WL.run hS rfl rfl rfl (ex_neq rfl rfl) ?_
    refine WL.run hS rfl rfl rfl (ex_assign rfl) ?_
    refine WL.nil ?_
    refine WQ.next ?_
    refine WC.sub (m := [(3, .bool (decide ((ix c_3_6 (max l_1 (-l_1))) ≠ (-x_13))))]) ⟨rfl, trivial⟩ ?_
    refine WC.ret ?_
    replace hS := hS.f2
    exact leave1 rfl rfl ⟨decide ((ix c_3_6 (max l_1 (-l_1))) ≠ (-x_13)), (c_3_6.set (max l_1 (-l_1)).toNat x_13), v_7, fp_28, hV, rfl, h_27, hS⟩
  · clear hJ_16
    refine WC.seq ?_
    refine WC.region ?_
    refine WL.run hS rfl rfl rfl (ex_move rfl) ?_
    refine WL.run hS rfl rfl rfl (ex_lss rfl rfl) ?_
    refine WL.nil ?_
    refine WQ.next ?_
    refine WC.sub (m := [(1, .pointer (some ⟨b_4, 0, none⟩)), (4, .int .i64 (max l_1 (-l_1))), (5, .int .i64 1), (12, .bool (decide (l_1 < 0)))]) ⟨rfl, rfl, rfl, rfl, trivial⟩ ?_
    refine WC.cond rfl ?_ ?_
    · intro hc_17
      replace hV := hV.1 (of_decide_eq_true hc_17)
      refine WC.region ?_
      refine WL.run hS rfl rfl rfl (ex_assign rfl) ?_
      refine WL.nil ?_
      replace hS := hS.f2
      replace hS := hS.f2
      exact WQ.there fun a ha => ⟨(-1), hV, (by unfold I64; omega), hS, ha.of_sub ⟨rfl, rfl, rfl, trivial⟩⟩
    · intro hc_17
      replace hV := hV.2 (of_decide_eq_false hc_17)
      refine WC.skip ?_
      replace hS := hS.f2
      replace hS := hS.f2
      exact WQ.there fun a ha => ⟨1, hV, (by unfold I64; omega), hS, ha.of_sub ⟨rfl, rfl, rfl, trivial⟩⟩

theorem S_followOf {w0 : World} {H : View} {L : Seg} {w : World} {l_1 : Int} {b_4 : Nat} {v_7 : Value} {c_3_6 : List Int} {fp_9 : Seg} {Q : Int → Prop} (hr_2 : I64 l_1) (h_8 : OwnSl H (cInt .i64) 3 v_7 c_3_6 fp_9) (hS : St w0 H ([(b_4, .cells #[v_7] 31 (0, 0))] ++ (fp_9 ++ L)) w) (hV : V_followOf l_1 c_3_6 Q) :
    Calls Try.prog 32 #[.int .i64 l_1, .pointer (some ⟨b_4, 0, none⟩)] w fun e w' => ∃ (r1 : Int), Q r1 ∧ e = .returned (.int .i64 r1) ∧ I64 r1 ∧ St w0 H ([(b_4, .cells #[v_7] 31 (0, 0))] ++ (fp_9 ++ L)) w' := by
  unfold V_followOf at hV
  refine enter Try.func32 rfl Try.ntmps32 rfl (lk_args_cons (d := 0) (v := .int .i64 l_1) rfl (lk_args_cons (d := 1) (v := .pointer (some ⟨b_4, 0, none⟩)) rfl (lk_args_nil _))) ?_
  refine WC.seq ?_
  refine WC.region ?_
  refine WL.run hS rfl rfl rfl (ex_assign rfl) ?_
  refine WL.nil ?_
  refine WQ.next ?_
  refine WC.sub (m := [(0, .int .i64 l_1), (1, .pointer (some ⟨b_4, 0, none⟩))]) ⟨rfl, rfl, trivial⟩ ?_
  refine WC.seq ?_
  refine WC.seq ?_
  refine WC.region ?_
  refine WL.run hS rfl rfl rfl (ex_move rfl) ?_
  refine WL.run hS rfl rfl rfl (ex_lss rfl rfl) ?_
  refine WL.nil ?_
  refine WQ.next ?_
  refine WC.sub (m := [(0, .int .i64 l_1), (1, .pointer (some ⟨b_4, 0, none⟩)), (5, .bool (decide (l_1 < 0)))]) ⟨rfl, rfl, rfl, trivial⟩ ?_
  refine WC.cond rfl ?_ ?_
  · intro hc_25
    replace hV := hV.1 (of_decide_eq_true hc_25)
    refine WC.seq ?_
    refine WC.region ?_
    refine WL.run hS rfl rfl rfl (ex_load_box Try.isAgg31 rfl rfl) ?_
    refine WL.run hS rfl rfl rfl (ex_move rfl) ?_
    obtain ⟨hi_11, hV⟩ := hV
    refine WL.run hS rfl rfl rfl (ex_neg rfl hi_11) ?_
    obtain ⟨hin_12, hV⟩ := hV
    refine WL.runx hS rfl rfl rfl (ex_index_own Try.underlying31 Try.sizeOf3 rfl rfl h_8 hin_12) ?_
    intro p_13 hp_14
    replace hS := hS.f2
    refine WL.runx hS rfl rfl rfl (ex_load_own (w := w) hS Try.isAgg3 rfl rfl h_8 hp_14 hin_12) ?_
    intro u_15 hu_16
    obtain ⟨rfl, hr_17⟩ := cInt_rep hu_16
    replace hr_17 := has_I64 hr_17
    replace hV := hV hr_17
    obtain ⟨hi_18, hV⟩ := hV
    refine WL.run hS rfl rfl rfl (ex_neg rfl hi_18) ?_
    refine WL.run hS rfl rfl rfl (ex_assign rfl) ?_
    refine WL.nil ?_
    refine WQ.next ?_
    refine WC.sub (m := [(3, .int .i64 (-(ix c_3_6 (-l_1))))]) ⟨rfl, trivial⟩ ?_
    refine WC.ret ?_
    refine WQ.pass nofun ?_
    replace hS := hS.f2
    exact leave1 rfl rfl ⟨(-(ix c_3_6 (-l_1))), hV, rfl, hi_18, hS⟩
  · intro hc_25
    replace hV := hV.2 (of_decide_eq_false hc_25)
    refine WC.skip ?_
    refine WQ.next ?_
    refine WC.sub (m := [(0, .int .i64 l_1), (1, .pointer (some ⟨b_4, 0, none⟩))]) ⟨rfl, rfl, trivial⟩ ?_
    refine WC.seq ?_
    refine WC.region ?_
    refine WL.run hS rfl rfl rfl (ex_load_box Try.isAgg31 rfl rfl) ?_
    refine WL.run hS rfl rfl rfl (ex_move rfl) ?_
    obtain ⟨hin_19, hV⟩ := hV
    refine WL.runx hS rfl rfl rfl (ex_index_own Try.underlying31 Try.sizeOf3 rfl rfl h_8 hin_19) ?_
    intro p_20 hp_21
    replace hS := hS.f2
    refine WL.runx hS rfl rfl rfl (ex_load_own (w := w) hS Try.isAgg3 rfl rfl h_8 hp_21 hin_19) ?_
    intro u_22 hu_23
    obtain ⟨rfl, hr_24⟩ := cInt_rep hu_23
    replace hr_24 := has_I64 hr_24
    replace hV := hV hr_24
    refine WL.run hS rfl rfl rfl (ex_assign rfl) ?_
    refine WL.nil ?_
    refine WQ.next ?_
    refine WC.sub (m := [(3, .int .i64 (ix c_3_6 l_1))]) ⟨rfl, trivial⟩ ?_
    refine WC.ret ?_
    replace hS := hS.f2
    exact leave1 rfl rfl ⟨(ix c_3_6 l_1), hV, rfl, hr_24, hS⟩

end Go.Proofs.Ytdflojjpjklbfaa
