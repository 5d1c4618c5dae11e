/- For each function: called, it does its work where its condition is so. Printed by program. -/
import Derived.Test.YthndbddongefoaaFacts
import Derived.Test.YthndbddongefoaaConds
set_option linter.unusedVariables false
set_option maxRecDepth 100000
namespace Go.Proofs.Ythndbddongefoaa
open Go.Vc
theorem S_sameInts {w0 : World} {H : View} {L : Seg} {w : World} {v_2 : Value} {a_1 : List Int} {v_5 : Value} {b_4 : List Int} {Q : Bool → Prop} (h_3 : IsSl H (cInt .i64) v_2 a_1) (h_6 : IsSl H (cInt .i64) v_5 b_4) (hS : St w0 H L w) (hV : V_sameInts a_1 b_4 Q) :
    Calls Try.prog 7 #[v_2, v_5] w fun e w' => ∃ (r1 : Bool), Q r1 ∧ e = .returned (.bool r1) ∧ St w0 H (L) w' := by
  unfold V_sameInts at hV
  refine enter Try.func7 rfl Try.ntmps7 rfl (lk_args_cons (d := 0) (v := v_2) rfl (lk_args_cons (d := 1) (v := v_5) rfl (lk_args_nil _))) ?_
  refine WC.seq ?_
  refine WC.region ?_
  refine WL.run hS rfl rfl rfl (ex_assign rfl) ?_
  refine WL.nil ?_
  refine WQ.next ?_
  refine WC.sub (m := [(0, v_2), (1, v_5)]) ⟨rfl, rfl, trivial⟩ ?_
  refine WC.seq ?_
  refine WC.seq ?_
  refine WC.region ?_
  refine WL.run hS rfl rfl rfl (ex_move rfl) ?_
  have hl_7 : Len a_1 := h_3.bound
  replace hV := hV hl_7
  refine WL.run hS rfl rfl rfl (ex_len_sl Try.underlying22 rfl h_3) ?_
  refine WL.run hS rfl rfl rfl (ex_move rfl) ?_
  have hl_8 : Len b_4 := h_6.bound
  replace hV := hV hl_8
  refine WL.run hS rfl rfl rfl (ex_len_sl Try.underlying22 rfl h_6) ?_
  refine WL.run hS rfl rfl rfl (ex_neq rfl rfl) ?_
  refine WL.nil ?_
  refine WQ.next ?_
  refine WC.sub (m := [(0, v_2), (1, v_5), (10, .bool (decide ((a_1.length : Int) ≠ (b_4.length : Int))))]) ⟨rfl, rfl, rfl, trivial⟩ ?_
  refine WC.cond rfl ?_ ?_
  · intro hc_63
    replace hV := hV.1 (of_decide_eq_true hc_63)
    refine WC.seq ?_
    refine WC.region ?_
    refine WL.run hS rfl rfl rfl (ex_assign rfl) ?_
    refine WL.nil ?_
    refine WQ.next ?_
    refine WC.sub (m := [(4, .bool false)]) ⟨rfl, trivial⟩ ?_
    refine WC.ret ?_
    refine WQ.pass nofun ?_
    exact leave1 rfl rfl ⟨false, hV, rfl, hS⟩
  · intro hc_63
    replace hV := hV.2 (of_decide_eq_false hc_63)
    refine WC.skip ?_
    refine WQ.next ?_
    refine WC.sub (m := [(0, v_2), (1, v_5)]) ⟨rfl, rfl, trivial⟩ ?_
    refine WC.seq ?_
    refine WC.seq ?_
    refine WC.region ?_
    refine WL.run hS rfl rfl rfl (ex_assign rfl) ?_
    refine WL.nil ?_
    refine WQ.next ?_
    refine WC.block ?_
    obtain ⟨I_43, mu_44, hI_62, hV⟩ := hV
    refine WC.loop (σ := Int) (fun s a w => ∃ (i_25 : Int), s = i_25 ∧ I_43 i_25 ∧ I64 i_25 ∧ St w0 H (L) w ∧ Fr 26 [(0, v_2), (1, v_5), (5, .int .i64 i_25)] a) mu_44 0 ?_ ?_
    · exact fun a ha => ⟨0, rfl, hI_62, (by unfold I64; omega), hS, ha.of_sub ⟨rfl, rfl, rfl, trivial⟩⟩
    · clear hS hI_62
      rintro i_25 a w ⟨_, rfl, hI, hr_26, hS, ha⟩
      refine in_frame ha ?_
      clear ha
      replace hV := hV _ hI
      clear hI
      refine WC.seq ?_
      refine WC.seq ?_
      refine WC.region ?_
      refine WL.run hS rfl rfl rfl (ex_move rfl) ?_
      refine WL.run hS rfl rfl rfl (ex_move rfl) ?_
      have hl_46 : Len a_1 := h_3.bound
      replace hV := hV hl_46
      refine WL.run hS rfl rfl rfl (ex_len_sl Try.underlying22 rfl h_3) ?_
      refine WL.run hS rfl rfl rfl (ex_lss rfl rfl) ?_
      refine WL.nil ?_
      refine WQ.next ?_
      refine WC.sub (m := [(0, v_2), (1, v_5), (5, .int .i64 i_25), (14, .bool (decide (i_25 < (a_1.length : Int))))]) ⟨rfl, rfl, rfl, rfl, trivial⟩ ?_
      refine WC.cond rfl ?_ ?_
      · intro hc_61
        replace hV := hV.1 (of_decide_eq_true hc_61)
        refine WC.skip ?_
        refine WQ.next ?_
        refine WC.sub (m := [(0, v_2), (1, v_5), (5, .int .i64 i_25)]) ⟨rfl, rfl, rfl, trivial⟩ ?_
        refine WC.seq ?_
        refine WC.block ?_
        refine WC.seq ?_
        refine WC.quiet (C := St w0 H (L)) Try.mixed (by kernel_rfl) (hS.drawn _) ?_
        clear hS w
        refine Wq.run rfl rfl rfl (ex_move rfl) ?_
        refine Wq.run rfl rfl rfl (ex_move rfl) ?_
        obtain ⟨hin_47, hV⟩ := hV
        refine Wq.runx rfl rfl rfl (ex_index Try.underlying22 Try.sizeOf3 rfl rfl h_3 hin_47) ?_
        intro p_48 hp_49
        refine Wq.runx rfl rfl rfl (ex_load Try.isAgg3 rfl rfl hp_49) ?_
        intro u_50 hu_51
        obtain ⟨rfl, hr_52⟩ := cInt_rep hu_51
        replace hr_52 := has_I64 hr_52
        replace hV := hV hr_52
        refine Wq.run rfl rfl rfl (ex_move rfl) ?_
        refine Wq.run rfl rfl rfl (ex_move rfl) ?_
        obtain ⟨hin_53, hV⟩ := hV
        refine Wq.runx rfl rfl rfl (ex_index Try.underlying22 Try.sizeOf3 rfl rfl h_6 hin_53) ?_
        intro p_54 hp_55
        refine Wq.runx rfl rfl rfl (ex_load Try.isAgg3 rfl rfl hp_55) ?_
        intro u_56 hu_57
        obtain ⟨rfl, hr_58⟩ := cInt_rep hu_57
        replace hr_58 := has_I64 hr_58
        replace hV := hV hr_58
        refine Wq.run rfl rfl rfl (ex_neq rfl rfl) ?_
        refine Wq.nil fun w hS => ?_
        refine WQ.next ?_
        refine WC.sub (m := [(0, v_2), (1, v_5), (5, .int .i64 i_25), (25, .bool (decide ((ix a_1 i_25) ≠ (ix b_4 i_25))))]) ⟨rfl, rfl, rfl, rfl, trivial⟩ ?_
        refine WC.cond rfl ?_ ?_
        · intro hc_60
          replace hV := hV.1 (of_decide_eq_true hc_60)
          refine WC.seq ?_
          refine WC.region ?_
          refine WL.run hS rfl rfl rfl (ex_assign rfl) ?_
          refine WL.nil ?_
          refine WQ.next ?_
          refine WC.sub (m := [(4, .bool false)]) ⟨rfl, trivial⟩ ?_
          refine WC.ret ?_
          refine WQ.out nofun ?_
          refine WQ.pass nofun ?_
          refine WQ.pass nofun ?_
          refine WQ.out nofun ?_
          refine WQ.pass nofun ?_
          exact leave1 rfl rfl ⟨false, hV, rfl, hS⟩
        · intro hc_60
          replace hV := hV.2 (of_decide_eq_false hc_60)
          refine WC.skip ?_
          refine WQ.out nofun ?_
          refine WQ.next ?_
          refine WC.sub (m := [(0, v_2), (1, v_5), (5, .int .i64 i_25)]) ⟨rfl, rfl, rfl, trivial⟩ ?_
          refine WC.region ?_
          refine WL.run hS rfl rfl rfl (ex_move rfl) ?_
          obtain ⟨hi_59, hV⟩ := hV
          refine WL.run hS rfl rfl rfl (ex_add rfl rfl hi_59) ?_
          refine WL.run hS rfl rfl rfl (ex_assign rfl) ?_
          refine WL.nil ?_
          exact WQ.there fun a ha => ⟨(i_25 + 1), ⟨(i_25 + 1), rfl, hV.1, hi_59, hS, ha.of_sub ⟨rfl, rfl, rfl, trivial⟩⟩, hV.2⟩
      · intro hc_61
        replace hV := hV.2 (of_decide_eq_false hc_61)
        refine WC.exit ?_
        refine WQ.pass nofun ?_
        refine WQ.pass nofun ?_
        refine WQ.hit ?_
        refine WQ.next ?_
        refine WC.sub (m := []) trivial ?_
        refine WC.seq ?_
        refine WC.region ?_
        refine WL.run hS rfl rfl rfl (ex_assign rfl) ?_
        refine WL.nil ?_
        refine WQ.next ?_
        refine WC.ret ?_
        exact leave1 rfl rfl ⟨true, hV, rfl, hS⟩

theorem S_Compose {w0 : World} {H : View} {L : Seg} {w : World} {v_2 : Value} {f_1 : List Int} {v_5 : Value} {g_4 : List Int} {Q : (List Int) → Prop} (h_3 : IsSl H (cInt .i64) v_2 f_1) (h_6 : IsSl H (cInt .i64) v_5 g_4) (hS : St w0 H L w) (hV : V_Compose f_1 g_4 Q) :
    Calls Try.prog 5 #[v_2, v_5] w fun e w' => ∃ (r1 : List Int) (v1 : Value) (fp1 : Seg), Q r1 ∧ e = .returned (v1) ∧ OwnSl H (cInt .i64) 3 v1 r1 fp1 ∧ St w0 H (fp1 ++ L) w' := by
  unfold V_Compose at hV
  refine enter Try.func5 rfl Try.ntmps5 rfl (lk_args_cons (d := 0) (v := v_2) rfl (lk_args_cons (d := 1) (v := v_5) rfl (lk_args_nil _))) ?_
  refine WC.seq ?_
  refine WC.region ?_
  refine WL.run hS rfl rfl rfl (ex_assign rfl) ?_
  refine WL.nil ?_
  refine WQ.next ?_
  refine WC.sub (m := [(0, v_2), (1, v_5)]) ⟨rfl, rfl, trivial⟩ ?_
  refine WC.seq ?_
  refine WC.region ?_
  refine WL.run hS rfl rfl rfl (ex_move rfl) ?_
  have hl_8 : Len f_1 := h_3.bound
  replace hV := hV hl_8
  refine WL.run hS rfl rfl rfl (ex_len_sl Try.underlying22 rfl h_3) ?_
  obtain ⟨hm_13, hV⟩ := hV
  refine WL.make (c := (cInt .i64)) (z0 := 0) rfl Try.underlying22 Try.info3 rfl ⟨rfl, I64.has (by unfold I64; omega)⟩ rfl rfl hm_13.1 hm_13.2.1 hm_13.2.2 hS ?_
  clear hS
  intro v_10 w fp_11 h_12 hS
  refine WL.run hS rfl rfl rfl (ex_assign rfl) ?_
  refine WL.nil ?_
  refine WQ.next ?_
  refine WC.sub (m := [(0, v_2), (1, v_5), (5, v_10)]) ⟨rfl, rfl, rfl, trivial⟩ ?_
  refine WC.seq ?_
  refine WC.seq ?_
  refine WC.region ?_
  refine WL.run hS rfl rfl rfl (ex_move rfl) ?_
  have hl_14 : Len f_1 := h_3.bound
  replace hV := hV hl_14
  refine WL.run hS rfl rfl rfl (ex_len_sl Try.underlying22 rfl h_3) ?_
  refine WL.run hS rfl rfl rfl (ex_move rfl) ?_
  refine WL.nil ?_
  refine WQ.next ?_
  refine WC.sub (m := [(1, v_5), (5, v_10), (11, v_2), (12, .int .i64 (f_1.length : Int)), (13, .int .i64 0)]) ⟨rfl, rfl, rfl, rfl, rfl, trivial⟩ ?_
  refine WC.block ?_
  obtain ⟨I_144, mu_145, hI_208, hV⟩ := hV
  refine WC.loop (σ := (List Int) × Int) (fun s a w => ∃ (out_77 : List Int) (x_81 : Int) (v_78 : Value) (fp_79 : Seg), s = (out_77, x_81) ∧ I_144 (out_77, x_81) ∧ OwnSl H (cInt .i64) 3 v_78 out_77 fp_79 ∧ I64 x_81 ∧ St w0 H (fp_79 ++ L) w ∧ Fr 38 [(1, v_5), (5, v_78), (11, v_2), (12, .int .i64 (f_1.length : Int)), (13, .int .i64 x_81)] a) mu_145 ((List.replicate (f_1.length : Int).toNat 0), 0) ?_ ?_
  · exact fun a ha => ⟨(List.replicate (f_1.length : Int).toNat 0), 0, v_10, fp_11, rfl, hI_208, h_12, (by unfold I64; omega), hS, ha.of_sub ⟨rfl, rfl, rfl, rfl, rfl, trivial⟩⟩
  · clear hS hI_208
    rintro _ a w ⟨out_77, x_81, v_78, fp_79, rfl, hI, h_80, hr_82, hS, ha⟩
    refine in_frame ha ?_
    clear ha
    replace hV := hV _ hI
    clear hI
    refine WC.seq ?_
    refine WC.region ?_
    refine WL.run hS rfl rfl rfl (ex_lss rfl rfl) ?_
    refine WL.nil ?_
    refine WQ.next ?_
    refine WC.seq ?_
    refine WC.cond rfl ?_ ?_
    · intro hc_207
      replace hV := hV.1 (of_decide_eq_true hc_207)
      refine WC.skip ?_
      refine WQ.next ?_
      refine WC.sub (m := [(1, v_5), (5, v_78), (11, v_2), (12, .int .i64 (f_1.length : Int)), (13, .int .i64 x_81)]) ⟨rfl, rfl, rfl, rfl, rfl, trivial⟩ ?_
      obtain ⟨J_178, hJ_179, hV⟩ := hV
      refine WC.meet (fun a w => ∃ (out_174 : List Int) (v_175 : Value) (fp_176 : Seg), J_178 out_174 ∧ OwnSl H (cInt .i64) 3 v_175 out_174 fp_176 ∧ St w0 H (fp_176 ++ L) w ∧ Fr 38 [(1, v_5), (5, v_175), (11, v_2), (12, .int .i64 (f_1.length : Int)), (13, .int .i64 x_81)] a) ?_ ?_
      · rintro a w ⟨out_174, v_175, fp_176, hI, h_177, hS, ha⟩
        refine in_frame ha ?_
        clear ha hV
        have hV := hJ_179 _ hI
        clear hI hJ_179
        refine WC.region ?_
        obtain ⟨hi_206, hV⟩ := hV
        refine WL.run hS rfl rfl rfl (ex_add rfl rfl hi_206) ?_
        refine WL.run hS rfl rfl rfl (ex_move rfl) ?_
        refine WL.nil ?_
        exact WQ.there fun a ha => ⟨(out_174, (x_81 + 1)), ⟨out_174, (x_81 + 1), v_175, fp_176, rfl, hV.1, h_177, hi_206, hS, ha.of_sub ⟨rfl, rfl, rfl, rfl, rfl, trivial⟩⟩, hV.2⟩
      · clear hJ_179
        refine WC.block ?_
        refine WC.seq ?_
        refine WC.region ?_
        refine WL.run hS rfl rfl rfl (ex_move rfl) ?_
        obtain ⟨hin_180, hV⟩ := hV
        refine WL.runx hS rfl rfl rfl (ex_index Try.underlying22 Try.sizeOf3 rfl rfl h_3 hin_180) ?_
        intro p_181 hp_182
        refine WL.runx hS rfl rfl rfl (ex_load Try.isAgg3 rfl rfl hp_182) ?_
        intro u_183 hu_184
        obtain ⟨rfl, hr_185⟩ := cInt_rep hu_184
        replace hr_185 := has_I64 hr_185
        replace hV := hV hr_185
        refine WL.run hS rfl rfl rfl (ex_assign rfl) ?_
        refine WL.run hS rfl rfl rfl (ex_assign rfl) ?_
        refine WL.nil ?_
        refine WQ.next ?_
        refine WC.sub (m := [(1, v_5), (5, v_78), (6, .int .i64 x_81), (7, .int .i64 (ix f_1 x_81)), (11, v_2), (12, .int .i64 (f_1.length : Int)), (13, .int .i64 x_81)]) ⟨rfl, rfl, rfl, rfl, rfl, rfl, rfl, trivial⟩ ?_
        refine WC.seq ?_
        refine WC.region ?_
        refine WL.run hS rfl rfl rfl (ex_move rfl) ?_
        refine WL.run hS rfl rfl rfl (ex_move rfl) ?_
        obtain ⟨hin_186, hV⟩ := hV
        refine WL.runx hS rfl rfl rfl (ex_index_own Try.underlying22 Try.sizeOf3 rfl rfl h_80 hin_186) ?_
        intro p_187 hp_188
        refine WL.store_own Try.sizeOf3 rfl rfl rfl (cInt_mk (I64.has (by unfold I64; omega))) hS h_80 hp_188 hin_186 ?_
        clear hS
        intro w fp_190 h_189 hS
        refine WL.nil ?_
        refine WQ.next ?_
        refine WC.sub (m := [(1, v_5), (5, v_78), (6, .int .i64 x_81), (7, .int .i64 (ix f_1 x_81)), (11, v_2), (12, .int .i64 (f_1.length : Int)), (13, .int .i64 x_81)]) ⟨rfl, rfl, rfl, rfl, rfl, rfl, rfl, trivial⟩ ?_
        refine WC.seq ?_
        have hl_191 : Len g_4 := h_6.bound
        replace hV := hV hl_191
        refine WC.via (m := [(1, v_5), (5, v_78), (6, .int .i64 x_81), (7, .int .i64 (ix f_1 x_81)), (11, v_2), (12, .int .i64 (f_1.length : Int)), (13, .int .i64 x_81), (28, .bool (decide ((0 ≤ (ix f_1 x_81)) ∧ ((ix f_1 x_81) < (g_4.length : Int)))))]) ?_ ?_
        · refine WC.region ?_
          refine WL.run hS rfl rfl rfl (ex_move rfl) ?_
          refine WL.run hS rfl rfl rfl (ex_geq rfl rfl) ?_
          refine WL.run hS rfl rfl rfl (ex_move rfl) ?_
          rcases Bool.eq_false_or_eq_true (decide (0 ≤ (ix f_1 x_81))) with hg_192 | hg_192
          · refine WL.run_g hS rfl rfl rfl hg_192 rfl rfl (ex_move rfl) ?_
            refine WL.run_g hS rfl rfl rfl hg_192 rfl rfl (ex_move rfl) ?_
            refine WL.run_g hS rfl rfl rfl hg_192 rfl rfl (ex_len_sl Try.underlying22 rfl h_6) ?_
            refine WL.run_g hS rfl rfl rfl hg_192 rfl rfl (ex_lss rfl rfl) ?_
            refine WL.run hS rfl rfl rfl (ex_pick_t rfl hg_192 rfl) ?_
            refine WL.sub (m := [(1, v_5), (5, v_78), (6, .int .i64 x_81), (7, .int .i64 (ix f_1 x_81)), (11, v_2), (12, .int .i64 (f_1.length : Int)), (13, .int .i64 x_81), (21, .int .i64 (ix f_1 x_81)), (22, .bool (decide (0 ≤ (ix f_1 x_81)))), (23, .bool (decide (0 ≤ (ix f_1 x_81)))), (24, .int .i64 (ix f_1 x_81)), (25, v_5), (26, .int .i64 (g_4.length : Int)), (27, .bool (decide ((ix f_1 x_81) < (g_4.length : Int)))), (28, .bool (decide ((0 ≤ (ix f_1 x_81)) ∧ ((ix f_1 x_81) < (g_4.length : Int)))))]) ⟨rfl, rfl, rfl, rfl, rfl, rfl, rfl, rfl, rfl, rfl, rfl, rfl, rfl, rfl, congrArg (fun b => some (Value.bool b)) (and_t hg_192 : decide ((ix f_1 x_81) < (g_4.length : Int)) = decide ((0 ≤ (ix f_1 x_81)) ∧ ((ix f_1 x_81) < (g_4.length : Int)))), trivial⟩ ?_
            exact WL.nil (At.of ⟨rfl, rfl, rfl, rfl, rfl, rfl, rfl, rfl, trivial⟩)
          · refine WL.skip_g rfl rfl rfl hg_192 rfl rfl ?_
            refine WL.skip_g rfl rfl rfl hg_192 rfl rfl ?_
            refine WL.skip_g rfl rfl rfl hg_192 rfl rfl ?_
            refine WL.skip_g rfl rfl rfl hg_192 rfl rfl ?_
            refine WL.run hS rfl rfl rfl (ex_pick_f rfl hg_192 rfl) ?_
            refine WL.sub (m := [(1, v_5), (5, v_78), (6, .int .i64 x_81), (7, .int .i64 (ix f_1 x_81)), (11, v_2), (12, .int .i64 (f_1.length : Int)), (13, .int .i64 x_81), (21, .int .i64 (ix f_1 x_81)), (22, .bool (decide (0 ≤ (ix f_1 x_81)))), (23, .bool (decide (0 ≤ (ix f_1 x_81)))), (24, undef), (25, undef), (26, undef), (27, undef), (28, .bool (decide ((0 ≤ (ix f_1 x_81)) ∧ ((ix f_1 x_81) < (g_4.length : Int)))))]) ⟨rfl, rfl, rfl, rfl, rfl, rfl, rfl, rfl, rfl, rfl, rfl, rfl, rfl, rfl, congrArg (fun b => some (Value.bool b)) (and_f hg_192 : false = decide ((0 ≤ (ix f_1 x_81)) ∧ ((ix f_1 x_81) < (g_4.length : Int)))), trivial⟩ ?_
            exact WL.nil (At.of ⟨rfl, rfl, rfl, rfl, rfl, rfl, rfl, rfl, trivial⟩)
        · refine WQ.next ?_
          refine WC.cond rfl ?_ ?_
          · intro hc_205
            replace hV := hV.1 (of_decide_eq_true hc_205)
            refine WC.region ?_
            refine WL.run hS rfl rfl rfl (ex_move rfl) ?_
            refine WL.run hS rfl rfl rfl (ex_move rfl) ?_
            refine WL.run hS rfl rfl rfl (ex_move rfl) ?_
            refine WL.run hS rfl rfl rfl (ex_move rfl) ?_
            obtain ⟨hin_194, hV⟩ := hV
            refine WL.runx hS rfl rfl rfl (ex_index Try.underlying22 Try.sizeOf3 rfl rfl h_6 hin_194) ?_
            intro p_195 hp_196
            refine WL.runx hS rfl rfl rfl (ex_load Try.isAgg3 rfl rfl hp_196) ?_
            intro u_197 hu_198
            obtain ⟨rfl, hr_199⟩ := cInt_rep hu_198
            replace hr_199 := has_I64 hr_199
            replace hV := hV hr_199
            obtain ⟨hin_200, hV⟩ := hV
            refine WL.runx hS rfl rfl rfl (ex_index_own Try.underlying22 Try.sizeOf3 rfl rfl h_189 hin_200) ?_
            intro p_201 hp_202
            refine WL.store_own Try.sizeOf3 rfl rfl rfl (cInt_mk (I64.has hr_199)) hS h_189 hp_202 hin_200 ?_
            clear hS
            intro w fp_204 h_203 hS
            refine WL.nil ?_
            refine WQ.out nofun ?_
            exact WQ.there fun a ha => ⟨((out_77.set x_81.toNat (-1)).set x_81.toNat (ix g_4 (ix f_1 x_81))), v_78, fp_204, hV, h_203, hS, ha.of_sub ⟨rfl, rfl, rfl, rfl, rfl, trivial⟩⟩
          · intro hc_205
            replace hV := hV.2 (of_decide_eq_false hc_205)
            refine WC.skip ?_
            refine WQ.out nofun ?_
            exact WQ.there fun a ha => ⟨(out_77.set x_81.toNat (-1)), v_78, fp_190, hV, h_189, hS, ha.of_sub ⟨rfl, rfl, rfl, rfl, rfl, trivial⟩⟩
    · intro hc_207
      replace hV := hV.2 (of_decide_eq_false hc_207)
      refine WC.exit ?_
      refine WQ.pass nofun ?_
      refine WQ.pass nofun ?_
      refine WQ.hit ?_
      refine WQ.next ?_
      refine WC.sub (m := [(5, v_78)]) ⟨rfl, trivial⟩ ?_
      refine WC.seq ?_
      refine WC.region ?_
      refine WL.run hS rfl rfl rfl (ex_move rfl) ?_
      refine WL.run hS rfl rfl rfl (ex_assign rfl) ?_
      refine WL.nil ?_
      refine WQ.next ?_
      refine WC.sub (m := [(4, v_78)]) ⟨rfl, trivial⟩ ?_
      refine WC.ret ?_
      exact leave1 rfl rfl ⟨out_77, v_78, fp_79, hV, rfl, h_80, hS⟩

theorem S_refCompose {w0 : World} {H : View} {L : Seg} {w : World} {v_2 : Value} {f_1 : List Int} {v_5 : Value} {g_4 : List Int} {Q : (List Int) → Prop} (h_3 : IsSl H (cInt .i64) v_2 f_1) (h_6 : IsSl H (cInt .i64) v_5 g_4) (hS : St w0 H L w) (hV : V_refCompose f_1 g_4 Q) :
    Calls Try.prog 6 #[v_2, v_5] w fun e w' => ∃ (r1 : List Int) (v1 : Value) (fp1 : Seg), Q r1 ∧ e = .returned (v1) ∧ OwnSl H (cInt .i64) 3 v1 r1 fp1 ∧ St w0 H (fp1 ++ L) w' := by
  unfold V_refCompose at hV
  refine enter Try.func6 rfl Try.ntmps6 rfl (lk_args_cons (d := 0) (v := v_2) rfl (lk_args_cons (d := 1) (v := v_5) rfl (lk_args_nil _))) ?_
  refine WC.seq ?_
  refine WC.region ?_
  refine WL.run hS rfl rfl rfl (ex_assign rfl) ?_
  refine WL.nil ?_
  refine WQ.next ?_
  refine WC.sub (m := [(0, v_2), (1, v_5)]) ⟨rfl, rfl, trivial⟩ ?_
  refine WC.seq ?_
  refine WC.region ?_
  refine WL.run hS rfl rfl rfl (ex_assign rfl) ?_
  refine WL.nil ?_
  refine WQ.next ?_
  refine WC.seq ?_
  refine WC.seq ?_
  refine WC.region ?_
  refine WL.run hS rfl rfl rfl (ex_assign rfl) ?_
  refine WL.nil ?_
  refine WQ.next ?_
  refine WC.block ?_
  replace hS := hS.nilseg
  obtain ⟨I_224, mu_225, hI_331, hV⟩ := hV
  refine WC.loop (σ := (List Int) × Int) (fun s a w => ∃ (out_114 : List Int) (i_118 : Int) (v_115 : Value) (fp_116 : Seg), s = (out_114, i_118) ∧ I_224 (out_114, i_118) ∧ OwnSl H (cInt .i64) 3 v_115 out_114 fp_116 ∧ I64 i_118 ∧ St w0 H (fp_116 ++ L) w ∧ Fr 40 [(0, v_2), (1, v_5), (5, v_115), (6, .int .i64 i_118)] a) mu_225 (([] : List Int), 0) ?_ ?_
  · exact fun a ha => ⟨([] : List Int), 0, (.slice none 0 0), ([] : Seg), rfl, hI_331, OwnSl.nil, (by unfold I64; omega), hS, ha.of_sub ⟨rfl, rfl, rfl, rfl, trivial⟩⟩
  · clear hS hI_331
    rintro _ a w ⟨out_114, i_118, v_115, fp_116, rfl, hI, h_117, hr_119, hS, ha⟩
    refine in_frame ha ?_
    clear ha
    replace hV := hV _ hI
    clear hI
    refine WC.seq ?_
    refine WC.seq ?_
    refine WC.region ?_
    refine WL.run hS rfl rfl rfl (ex_move rfl) ?_
    refine WL.run hS rfl rfl rfl (ex_move rfl) ?_
    have hl_227 : Len f_1 := h_3.bound
    replace hV := hV hl_227
    refine WL.run hS rfl rfl rfl (ex_len_sl Try.underlying22 rfl h_3) ?_
    refine WL.run hS rfl rfl rfl (ex_lss rfl rfl) ?_
    refine WL.nil ?_
    refine WQ.next ?_
    refine WC.sub (m := [(0, v_2), (1, v_5), (5, v_115), (6, .int .i64 i_118), (11, .bool (decide (i_118 < (f_1.length : Int))))]) ⟨rfl, rfl, rfl, rfl, rfl, trivial⟩ ?_
    refine WC.cond rfl ?_ ?_
    · intro hc_330
      replace hV := hV.1 (of_decide_eq_true hc_330)
      refine WC.skip ?_
      refine WQ.next ?_
      refine WC.sub (m := [(0, v_2), (1, v_5), (5, v_115), (6, .int .i64 i_118)]) ⟨rfl, rfl, rfl, rfl, trivial⟩ ?_
      refine WC.seq ?_
      refine WC.block ?_
      refine WC.seq ?_
      refine WC.region ?_
      refine WL.run hS rfl rfl rfl (ex_assign rfl) ?_
      refine WL.nil ?_
      refine WQ.next ?_
      obtain ⟨J_274, hJ_275, hV⟩ := hV
      refine WC.meet (fun a w => ∃ (v_272 : Int), J_274 v_272 ∧ I64 v_272 ∧ St w0 H (fp_116 ++ L) w ∧ Fr 40 [(0, v_2), (1, v_5), (5, v_115), (6, .int .i64 i_118), (7, .int .i64 v_272)] a) ?_ ?_
      · rintro a w ⟨v_272, hI, hr_273, hS, ha⟩
        refine in_frame ha ?_
        clear ha hV
        have hV := hJ_275 _ hI
        clear hI hJ_275
        refine WC.region ?_
        refine WL.run hS rfl rfl rfl (ex_move rfl) ?_
        refine WL.run hS rfl rfl rfl (ex_move rfl) ?_
        refine WL.build1 (c := (cInt .i64)) rfl Try.underlying22 Try.info3 rfl rfl (cInt_mk (I64.has hr_273)) hS ?_
        clear hS
        intro v_321 w fp_322 h_323 hS
        obtain ⟨hr_324, hV⟩ := hV
        replace hS := hS.f2
        refine WL.append (c := (cInt .i64)) (xs := out_114) (ys := ([v_272])) rfl Try.underlying22 Try.info3 rfl rfl rfl hS h_117 (h_323.src hS.f2) hr_324.1 hr_324.2 ?_
        clear hS
        intro v_325 w fp_326 h_327 hS
        refine WL.run hS rfl rfl rfl (ex_assign rfl) ?_
        refine WL.nil ?_
        refine WQ.out nofun ?_
        refine WQ.next ?_
        refine WC.sub (m := [(0, v_2), (1, v_5), (5, v_325), (6, .int .i64 i_118)]) ⟨rfl, rfl, rfl, rfl, trivial⟩ ?_
        replace hS := hS.f2.drop
        refine WC.region ?_
        refine WL.run hS rfl rfl rfl (ex_move rfl) ?_
        obtain ⟨hi_329, hV⟩ := hV
        refine WL.run hS rfl rfl rfl (ex_add rfl rfl hi_329) ?_
        refine WL.run hS rfl rfl rfl (ex_assign rfl) ?_
        refine WL.nil ?_
        exact WQ.there fun a ha => ⟨((out_114 ++ ([v_272])), (i_118 + 1)), ⟨(out_114 ++ ([v_272])), (i_118 + 1), v_325, fp_326, rfl, hV.1, h_327, hi_329, hS, ha.of_sub ⟨rfl, rfl, rfl, rfl, trivial⟩⟩, hV.2⟩
      · clear hJ_275
        obtain ⟨J_291, hJ_292, hV⟩ := hV
        refine WC.meet (fun a w => ∃ (x_290 : Bool), J_291 x_290 ∧ St w0 H (fp_116 ++ L) w ∧ Fr 40 [(0, v_2), (1, v_5), (5, v_115), (6, .int .i64 i_118), (7, .int .i64 (-1)), (27, .bool x_290)] a) ?_ ?_
        · rintro a w ⟨x_290, hI, hS, ha⟩
          refine in_frame ha ?_
          clear ha hV
          have hV := hJ_292 _ hI
          clear hI hJ_292
          refine WC.cond rfl ?_ ?_
          · intro hc_319
            replace hV := hV.1 hc_319
            refine WC.region ?_
            refine WL.run hS rfl rfl rfl (ex_move rfl) ?_
            refine WL.run hS rfl rfl rfl (ex_move rfl) ?_
            refine WL.run hS rfl rfl rfl (ex_move rfl) ?_
            obtain ⟨hin_307, hV⟩ := hV
            refine WL.runx hS rfl rfl rfl (ex_index Try.underlying22 Try.sizeOf3 rfl rfl h_3 hin_307) ?_
            intro p_308 hp_309
            refine WL.runx hS rfl rfl rfl (ex_load Try.isAgg3 rfl rfl hp_309) ?_
            intro u_310 hu_311
            obtain ⟨rfl, hr_312⟩ := cInt_rep hu_311
            replace hr_312 := has_I64 hr_312
            replace hV := hV hr_312
            obtain ⟨hin_313, hV⟩ := hV
            refine WL.runx hS rfl rfl rfl (ex_index Try.underlying22 Try.sizeOf3 rfl rfl h_6 hin_313) ?_
            intro p_314 hp_315
            refine WL.runx hS rfl rfl rfl (ex_load Try.isAgg3 rfl rfl hp_315) ?_
            intro u_316 hu_317
            obtain ⟨rfl, hr_318⟩ := cInt_rep hu_317
            replace hr_318 := has_I64 hr_318
            replace hV := hV hr_318
            refine WL.run hS rfl rfl rfl (ex_assign rfl) ?_
            refine WL.nil ?_
            exact WQ.there fun a ha => ⟨(ix g_4 (ix f_1 i_118)), hV, hr_318, hS, ha.of_sub ⟨rfl, rfl, rfl, rfl, rfl, trivial⟩⟩
          · intro hc_319
            replace hV := hV.2 hc_319
            refine WC.skip ?_
            exact WQ.there fun a ha => ⟨(-1), hV, (by unfold I64; omega), hS, ha.of_sub ⟨rfl, rfl, rfl, rfl, rfl, trivial⟩⟩
        · clear hJ_292
          refine WC.region ?_
          refine WL.run hS rfl rfl rfl (ex_move rfl) ?_
          refine WL.run hS rfl rfl rfl (ex_move rfl) ?_
          obtain ⟨hin_293, hV⟩ := hV
          refine WL.runx hS rfl rfl rfl (ex_index Try.underlying22 Try.sizeOf3 rfl rfl h_3 hin_293) ?_
          intro p_294 hp_295
          refine WL.runx hS rfl rfl rfl (ex_load Try.isAgg3 rfl rfl hp_295) ?_
          intro u_296 hu_297
          obtain ⟨rfl, hr_298⟩ := cInt_rep hu_297
          replace hr_298 := has_I64 hr_298
          replace hV := hV hr_298
          refine WL.run hS rfl rfl rfl (ex_geq rfl rfl) ?_
          refine WL.run hS rfl rfl rfl (ex_move rfl) ?_
          rcases Bool.eq_false_or_eq_true (decide (0 ≤ (ix f_1 i_118))) with hg_299 | hg_299
          · replace hV := hV.1 (of_decide_eq_true hg_299)
            refine WL.run_g hS rfl rfl rfl hg_299 rfl rfl (ex_move rfl) ?_
            refine WL.run_g hS rfl rfl rfl hg_299 rfl rfl (ex_move rfl) ?_
            obtain ⟨hin_300, hV⟩ := hV
            refine WL.runx_g hS rfl rfl rfl hg_299 rfl rfl (ex_index Try.underlying22 Try.sizeOf3 rfl rfl h_3 hin_300) ?_
            intro p_301 hp_302
            refine WL.runx_g hS rfl rfl rfl hg_299 rfl rfl (ex_load Try.isAgg3 rfl rfl hp_302) ?_
            intro u_303 hu_304
            obtain ⟨rfl, hr_305⟩ := cInt_rep hu_304
            replace hr_305 := has_I64 hr_305
            replace hV := hV hr_305
            refine WL.run_g hS rfl rfl rfl hg_299 rfl rfl (ex_move rfl) ?_
            have hl_306 : Len g_4 := h_6.bound
            replace hV := hV hl_306
            refine WL.run_g hS rfl rfl rfl hg_299 rfl rfl (ex_len_sl Try.underlying22 rfl h_6) ?_
            refine WL.run_g hS rfl rfl rfl hg_299 rfl rfl (ex_lss rfl rfl) ?_
            refine WL.run hS rfl rfl rfl (ex_pick_t rfl hg_299 rfl) ?_
            refine WL.nil ?_
            exact WQ.there fun a ha => ⟨decide ((ix f_1 i_118) < (g_4.length : Int)), hV, hS, ha.of_sub ⟨rfl, rfl, rfl, rfl, rfl, rfl, trivial⟩⟩
          · replace hV := hV.2 (of_decide_eq_false hg_299)
            refine WL.skip_g rfl rfl rfl hg_299 rfl rfl ?_
            refine WL.skip_g rfl rfl rfl hg_299 rfl rfl ?_
            refine WL.skip_g rfl rfl rfl hg_299 rfl rfl ?_
            refine WL.skip_g rfl rfl rfl hg_299 rfl rfl ?_
            refine WL.skip_g rfl rfl rfl hg_299 rfl rfl ?_
            refine WL.skip_g rfl rfl rfl hg_299 rfl rfl ?_
            refine WL.skip_g rfl rfl rfl hg_299 rfl rfl ?_
            refine WL.run hS rfl rfl rfl (ex_pick_f rfl hg_299 rfl) ?_
            refine WL.nil ?_
            exact WQ.there fun a ha => ⟨false, hV, hS, ha.of_sub ⟨rfl, rfl, rfl, rfl, rfl, rfl, trivial⟩⟩
    · intro hc_330
      replace hV := hV.2 (of_decide_eq_false hc_330)
      refine WC.exit ?_
      refine WQ.pass nofun ?_
      refine WQ.pass nofun ?_
      refine WQ.hit ?_
      refine WQ.next ?_
      refine WC.sub (m := [(5, v_115)]) ⟨rfl, trivial⟩ ?_
      refine WC.seq ?_
      refine WC.region ?_
      refine WL.run hS rfl rfl rfl (ex_move rfl) ?_
      refine WL.run hS rfl rfl rfl (ex_assign rfl) ?_
      refine WL.nil ?_
      refine WQ.next ?_
      refine WC.sub (m := [(4, v_115)]) ⟨rfl, trivial⟩ ?_
      refine WC.ret ?_
      exact leave1 rfl rfl ⟨out_114, v_115, fp_116, hV, rfl, h_117, hS⟩

theorem S_RefineComposes {w0 : World} {H : View} {L : Seg} {w : World} {v_2 : Value} {f_1 : List Int} {v_5 : Value} {g_4 : List Int} {Q : Bool → Prop} (h_3 : IsSl H (cInt .i64) v_2 f_1) (h_6 : IsSl H (cInt .i64) v_5 g_4) (hS : St w0 H L w) (hV : V_RefineComposes f_1 g_4 Q) :
    Calls Try.prog 4 #[v_2, v_5] w fun e w' => ∃ (r1 : Bool), Q r1 ∧ e = .returned (.bool r1) ∧ St w0 H (L) w' := by
  unfold V_RefineComposes at hV
  refine enter Try.func4 rfl Try.ntmps4 rfl (lk_args_cons (d := 0) (v := v_2) rfl (lk_args_cons (d := 1) (v := v_5) rfl (lk_args_nil _))) ?_
  refine WC.seq ?_
  refine WC.region ?_
  refine WL.run hS rfl rfl rfl (ex_assign rfl) ?_
  refine WL.nil ?_
  refine WQ.next ?_
  refine WC.sub (m := [(0, v_2), (1, v_5)]) ⟨rfl, rfl, trivial⟩ ?_
  refine WC.seq ?_
  refine WC.region ?_
  refine WL.build0 (α := Int) (c := (cInt .i64)) rfl Try.underlying22 Try.sizeOf3 hS ?_
  clear hS
  intro v_8 w fp_9 h_10 hS
  refine WL.run hS rfl rfl rfl (ex_move rfl) ?_
  obtain ⟨hr_11, hV⟩ := hV
  refine WL.append (c := (cInt .i64)) (xs := ([] : List Int)) (ys := f_1) rfl Try.underlying22 Try.info3 rfl rfl rfl hS h_10 (h_3.src hS) hr_11.1 hr_11.2 ?_
  clear hS
  intro v_12 w fp_13 h_14 hS
  rw [List.nil_append] at h_14
  refine WL.run hS rfl rfl rfl (ex_assign rfl) ?_
  refine WL.nil ?_
  refine WQ.next ?_
  refine WC.sub (m := [(0, v_2), (1, v_5), (5, v_12)]) ⟨rfl, rfl, rfl, trivial⟩ ?_
  refine WC.seq ?_
  refine WC.region ?_
  refine WL.build0 (α := Int) (c := (cInt .i64)) rfl Try.underlying22 Try.sizeOf3 hS ?_
  clear hS
  intro v_17 w fp_18 h_19 hS
  refine WL.run hS rfl rfl rfl (ex_move rfl) ?_
  obtain ⟨hr_20, hV⟩ := hV
  refine WL.append (c := (cInt .i64)) (xs := ([] : List Int)) (ys := g_4) rfl Try.underlying22 Try.info3 rfl rfl rfl hS h_19 (h_6.src hS) hr_20.1 hr_20.2 ?_
  clear hS
  intro v_21 w fp_22 h_23 hS
  rw [List.nil_append] at h_23
  refine WL.run hS rfl rfl rfl (ex_assign rfl) ?_
  refine WL.nil ?_
  refine WQ.next ?_
  refine WC.sub (m := [(0, v_2), (1, v_5), (5, v_12), (6, v_21)]) ⟨rfl, rfl, rfl, rfl, trivial⟩ ?_
  refine WC.seq ?_
  refine WC.region ?_
  refine WL.run hS rfl rfl rfl (ex_move rfl) ?_
  refine WL.run hS rfl rfl rfl (ex_move rfl) ?_
  replace hS := hS.f2
  have hL_25 := hS.freeze
  have hL_26 := hL_25.freeze
  refine WL.call rfl rfl rfl (enters0 (vs := [v_12, v_21]) Try.call5 ⟨rfl, rfl, trivial⟩) (S_Compose ((h_14.share hS.put_le).mono hL_25.put_le) ((h_23.mono hS.put_le).share hL_25.put_le) hL_26 hV) ?_
  clear hV
  rintro _ w ⟨r_27, v_28, fp_29, hV, rfl, h_30, hL_32⟩
  refine ⟨_, rfl, ?_⟩
  have hB_34 := hL_25.back hL_32
  have hB_35 := hS.back hB_34
  have hS2 := hB_35
  clear hS
  have hS := hS2
  clear hS2
  replace h_30 := rep_own (K := H) h_30 (fun _ _ h => h)
  refine WL.run hS rfl rfl rfl (ex_assign rfl) ?_
  refine WL.nil ?_
  refine WQ.next ?_
  refine WC.sub (m := [(0, v_2), (1, v_5), (5, v_12), (6, v_21), (7, v_28)]) ⟨rfl, rfl, rfl, rfl, rfl, trivial⟩ ?_
  refine WC.seq ?_
  refine WC.region ?_
  refine WL.run hS rfl rfl rfl (ex_move rfl) ?_
  refine WL.run hS rfl rfl rfl (ex_move rfl) ?_
  refine WL.call rfl rfl rfl (enters0 (vs := [v_2, v_5]) Try.call6 ⟨rfl, rfl, trivial⟩) (S_refCompose h_3 h_6 hS hV) ?_
  clear hV hS
  rintro _ w ⟨r_36, v_37, fp_38, hV, rfl, h_39, hS⟩
  refine ⟨_, rfl, ?_⟩
  refine WL.run hS rfl rfl rfl (ex_assign rfl) ?_
  refine WL.nil ?_
  refine WQ.next ?_
  refine WC.sub (m := [(0, v_2), (1, v_5), (5, v_12), (6, v_21), (7, v_28), (8, v_37)]) ⟨rfl, rfl, rfl, rfl, rfl, rfl, trivial⟩ ?_
  refine WC.seq ?_
  refine WC.region ?_
  refine WL.run hS rfl rfl rfl (ex_move rfl) ?_
  refine WL.run hS rfl rfl rfl (ex_move rfl) ?_
  replace hS := hS.f4
  have hL_42 := hS.freeze
  have hL_43 := hL_42.freeze
  refine WL.call rfl rfl rfl (enters0 (vs := [v_28, v_37]) Try.call7 ⟨rfl, rfl, trivial⟩) (S_sameInts ((h_30.share hS.put_le).mono hL_42.put_le) ((h_39.mono hS.put_le).share hL_42.put_le) hL_43 hV) ?_
  clear hV
  rintro _ w ⟨r_44, hV, rfl, hL_45⟩
  refine ⟨_, rfl, ?_⟩
  have hB_47 := hL_42.back hL_45
  have hB_48 := hS.back hB_47
  have hS2 := hB_48
  clear hS
  have hS := hS2
  clear hS2
  refine WL.run hS rfl rfl rfl (ex_assign rfl) ?_
  refine WL.nil ?_
  refine WQ.next ?_
  refine WC.sub (m := [(0, v_2), (1, v_5), (5, v_12), (6, v_21), (9, .bool r_44)]) ⟨rfl, rfl, rfl, rfl, rfl, trivial⟩ ?_
  replace hS := hS.drop
  replace hS := hS.drop
  refine WC.seq ?_
  refine WC.region ?_
  refine WL.run hS rfl rfl rfl (ex_move rfl) ?_
  refine WL.run hS rfl rfl rfl (ex_move rfl) ?_
  have hL_49 := hS.freeze
  refine WL.call rfl rfl rfl (enters0 (vs := [v_12, v_2]) Try.call7 ⟨rfl, rfl, trivial⟩) (S_sameInts (h_14.share hS.put_le) (h_3.mono hS.put_le) hL_49 hV) ?_
  clear hV
  rintro _ w ⟨r_50, hV, rfl, hL_51⟩
  refine ⟨_, rfl, ?_⟩
  have hB_53 := hS.back hL_51
  have hS2 := hB_53
  clear hS
  have hS := hS2
  clear hS2
  refine WL.run hS rfl rfl rfl (ex_assign rfl) ?_
  refine WL.nil ?_
  refine WQ.next ?_
  refine WC.sub (m := [(1, v_5), (6, v_21), (9, .bool r_44), (10, .bool r_50)]) ⟨rfl, rfl, rfl, rfl, trivial⟩ ?_
  replace hS := hS.drop
  refine WC.seq ?_
  refine WC.region ?_
  refine WL.run hS rfl rfl rfl (ex_move rfl) ?_
  refine WL.run hS rfl rfl rfl (ex_move rfl) ?_
  have hL_54 := hS.freeze
  refine WL.call rfl rfl rfl (enters0 (vs := [v_21, v_5]) Try.call7 ⟨rfl, rfl, trivial⟩) (S_sameInts (h_23.share hS.put_le) (h_6.mono hS.put_le) hL_54 hV) ?_
  clear hV
  rintro _ w ⟨r_55, hV, rfl, hL_56⟩
  refine ⟨_, rfl, ?_⟩
  have hB_58 := hS.back hL_56
  have hS2 := hB_58
  clear hS
  have hS := hS2
  clear hS2
  refine WL.run hS rfl rfl rfl (ex_assign rfl) ?_
  refine WL.nil ?_
  refine WQ.next ?_
  refine WC.sub (m := [(9, .bool r_44), (10, .bool r_50), (11, .bool r_55)]) ⟨rfl, rfl, rfl, trivial⟩ ?_
  replace hS := hS.drop
  refine WC.seq ?_
  refine WC.via (m := [(4, .bool (decide (((r_44 = true) ∧ (r_50 = true)) ∧ (r_55 = true))))]) ?_ ?_
  · refine WC.region ?_
    refine WL.run hS rfl rfl rfl (ex_move rfl) ?_
    refine WL.run hS rfl rfl rfl (ex_move rfl) ?_
    rcases Bool.eq_false_or_eq_true r_44 with hg_59 | hg_59
    · refine WL.run_g hS rfl rfl rfl hg_59 rfl rfl (ex_move rfl) ?_
      refine WL.run hS rfl rfl rfl (ex_pick_t rfl hg_59 rfl) ?_
      refine WL.sub (m := [(9, .bool r_44), (10, .bool r_50), (11, .bool r_55), (33, .bool r_44), (34, .bool r_44), (35, .bool r_50), (36, .bool (decide ((r_44 = true) ∧ (r_50 = true))))]) ⟨rfl, rfl, rfl, rfl, rfl, rfl, congrArg (fun b => some (Value.bool b)) ((dec_true _).trans (and_t ((dec_true _).symm.trans hg_59) : decide (r_50 = true) = decide ((r_44 = true) ∧ (r_50 = true)))), trivial⟩ ?_
      refine WL.run hS rfl rfl rfl (ex_move rfl) ?_
      rcases Bool.eq_false_or_eq_true (decide ((r_44 = true) ∧ (r_50 = true))) with hg_60 | hg_60
      · refine WL.run_g hS rfl rfl rfl hg_60 rfl rfl (ex_move rfl) ?_
        refine WL.run hS rfl rfl rfl (ex_pick_t rfl hg_60 rfl) ?_
        refine WL.sub (m := [(9, .bool r_44), (10, .bool r_50), (11, .bool r_55), (33, .bool r_44), (34, .bool r_44), (35, .bool r_50), (36, .bool (decide ((r_44 = true) ∧ (r_50 = true)))), (37, .bool (decide ((r_44 = true) ∧ (r_50 = true)))), (38, .bool r_55), (39, .bool (decide (((r_44 = true) ∧ (r_50 = true)) ∧ (r_55 = true))))]) ⟨rfl, rfl, rfl, rfl, rfl, rfl, rfl, rfl, rfl, congrArg (fun b => some (Value.bool b)) ((dec_true _).trans (and_t hg_60 : decide (r_55 = true) = decide (((r_44 = true) ∧ (r_50 = true)) ∧ (r_55 = true)))), trivial⟩ ?_
        refine WL.run hS rfl rfl rfl (ex_assign rfl) ?_
        exact WL.nil (At.of ⟨rfl, trivial⟩)
      · refine WL.skip_g rfl rfl rfl hg_60 rfl rfl ?_
        refine WL.run hS rfl rfl rfl (ex_pick_f rfl hg_60 rfl) ?_
        refine WL.sub (m := [(9, .bool r_44), (10, .bool r_50), (11, .bool r_55), (33, .bool r_44), (34, .bool r_44), (35, .bool r_50), (36, .bool (decide ((r_44 = true) ∧ (r_50 = true)))), (37, .bool (decide ((r_44 = true) ∧ (r_50 = true)))), (38, undef), (39, .bool (decide (((r_44 = true) ∧ (r_50 = true)) ∧ (r_55 = true))))]) ⟨rfl, rfl, rfl, rfl, rfl, rfl, rfl, rfl, rfl, congrArg (fun b => some (Value.bool b)) (and_f hg_60 : false = decide (((r_44 = true) ∧ (r_50 = true)) ∧ (r_55 = true))), trivial⟩ ?_
        refine WL.run hS rfl rfl rfl (ex_assign rfl) ?_
        exact WL.nil (At.of ⟨rfl, trivial⟩)
    · refine WL.skip_g rfl rfl rfl hg_59 rfl rfl ?_
      refine WL.run hS rfl rfl rfl (ex_pick_f rfl hg_59 rfl) ?_
      refine WL.sub (m := [(9, .bool r_44), (10, .bool r_50), (11, .bool r_55), (33, .bool r_44), (34, .bool r_44), (35, undef), (36, .bool (decide ((r_44 = true) ∧ (r_50 = true))))]) ⟨rfl, rfl, rfl, rfl, rfl, rfl, congrArg (fun b => some (Value.bool b)) (and_f ((dec_true _).symm.trans hg_59) : false = decide ((r_44 = true) ∧ (r_50 = true))), trivial⟩ ?_
      refine WL.run hS rfl rfl rfl (ex_move rfl) ?_
      refine WL.skip_g rfl rfl rfl (and_f ((dec_true _).symm.trans hg_59)).symm rfl rfl ?_
      refine WL.run hS rfl rfl rfl (ex_pick_f rfl (and_f ((dec_true _).symm.trans hg_59)).symm rfl) ?_
      refine WL.sub (m := [(9, .bool r_44), (10, .bool r_50), (11, .bool r_55), (33, .bool r_44), (34, .bool r_44), (35, undef), (36, .bool (decide ((r_44 = true) ∧ (r_50 = true)))), (37, .bool (decide ((r_44 = true) ∧ (r_50 = true)))), (38, undef), (39, .bool (decide (((r_44 = true) ∧ (r_50 = true)) ∧ (r_55 = true))))]) ⟨rfl, rfl, rfl, rfl, rfl, rfl, rfl, rfl, rfl, congrArg (fun b => some (Value.bool b)) (and_f (and_f ((dec_true _).symm.trans hg_59)).symm : false = decide (((r_44 = true) ∧ (r_50 = true)) ∧ (r_55 = true))), trivial⟩ ?_
      refine WL.run hS rfl rfl rfl (ex_assign rfl) ?_
      exact WL.nil (At.of ⟨rfl, trivial⟩)
  · refine WQ.next ?_
    refine WC.ret ?_
    exact leave1 rfl rfl ⟨decide (((r_44 = true) ∧ (r_50 = true)) ∧ (r_55 = true)), hV, rfl, hS⟩

theorem S_Names {w0 : World} {H : View} {L : Seg} {w : World}  {Q : Bool → Prop}  (hS : St w0 H L w) (hV : V_Names  Q) :
    Calls Try.prog 3 #[] w fun e w' => ∃ (r1 : Bool), Q r1 ∧ e = .returned (.bool r1) ∧ St w0 H (L) w' := by
  unfold V_Names at hV
  refine enter Try.func3 rfl Try.ntmps3 rfl (lk_args_nil _) ?_
  refine WC.seq ?_
  refine WC.region ?_
  refine WL.run hS rfl rfl rfl (ex_assign rfl) ?_
  refine WL.nil ?_
  refine WQ.next ?_
  refine WC.sub (m := []) trivial ?_
  refine WC.seq ?_
  refine WC.region ?_
  refine WL.buildn (c := (cInt .i64)) (xs := [0, 1, 2, 3, 4, 5, 6, 7, 8]) (vs := [.int .i64 0, .int .i64 1, .int .i64 2, .int .i64 3, .int .i64 4, .int .i64 5, .int .i64 6, .int .i64 7, .int .i64 8]) rfl Try.underlying22 Try.info3 rfl rfl ⟨rfl, rfl, rfl, rfl, rfl, rfl, rfl, rfl, rfl, trivial⟩ rfl ⟨_, _, rfl, (cInt_mk (I64.has (by unfold I64; omega))), ⟨_, _, rfl, (cInt_mk (I64.has (by unfold I64; omega))), ⟨_, _, rfl, (cInt_mk (I64.has (by unfold I64; omega))), ⟨_, _, rfl, (cInt_mk (I64.has (by unfold I64; omega))), ⟨_, _, rfl, (cInt_mk (I64.has (by unfold I64; omega))), ⟨_, _, rfl, (cInt_mk (I64.has (by unfold I64; omega))), ⟨_, _, rfl, (cInt_mk (I64.has (by unfold I64; omega))), ⟨_, _, rfl, (cInt_mk (I64.has (by unfold I64; omega))), ⟨_, _, rfl, (cInt_mk (I64.has (by unfold I64; omega))), rfl⟩⟩⟩⟩⟩⟩⟩⟩⟩ hS rfl ?_
  clear hS
  intro v_2 w fp_3 h_4 hS
  refine WL.run hS rfl rfl rfl (ex_assign rfl) ?_
  refine WL.nil ?_
  refine WQ.next ?_
  refine WC.sub (m := [(1, v_2)]) ⟨rfl, trivial⟩ ?_
  refine WC.seq ?_
  refine WC.seq ?_
  refine WC.region ?_
  refine WL.run hS rfl rfl rfl (ex_assign rfl) ?_
  refine WL.nil ?_
  refine WQ.next ?_
  refine WC.block ?_
  obtain ⟨I_27, mu_28, hI_40, hV⟩ := hV
  refine WC.loop (σ := Int) (fun s a w => ∃ (i_15 : Int), s = i_15 ∧ I_27 i_15 ∧ I64 i_15 ∧ St w0 H (fp_3 ++ L) w ∧ Fr 16 [(1, v_2), (2, .int .i64 i_15)] a) mu_28 0 ?_ ?_
  · exact fun a ha => ⟨0, rfl, hI_40, (by unfold I64; omega), hS, ha.of_sub ⟨rfl, rfl, trivial⟩⟩
  · clear hS hI_40
    rintro i_15 a w ⟨_, rfl, hI, hr_16, hS, ha⟩
    refine in_frame ha ?_
    clear ha
    replace hV := hV _ hI
    clear hI
    refine WC.seq ?_
    refine WC.seq ?_
    refine WC.region ?_
    refine WL.run hS rfl rfl rfl (ex_move rfl) ?_
    refine WL.run hS rfl rfl rfl (ex_move rfl) ?_
    have hl_30 : Len ([0, 1, 2, 3, 4, 5, 6, 7, 8]) := h_4.bound
    replace hV := hV hl_30
    refine WL.run hS rfl rfl rfl (ex_len_own Try.underlying22 rfl h_4) ?_
    refine WL.run hS rfl rfl rfl (ex_lss rfl rfl) ?_
    refine WL.nil ?_
    refine WQ.next ?_
    refine WC.sub (m := [(1, v_2), (2, .int .i64 i_15), (7, .bool (decide (i_15 < (([0, 1, 2, 3, 4, 5, 6, 7, 8]).length : Int))))]) ⟨rfl, rfl, rfl, trivial⟩ ?_
    refine WC.cond rfl ?_ ?_
    · intro hc_39
      replace hV := hV.1 (of_decide_eq_true hc_39)
      refine WC.skip ?_
      refine WQ.next ?_
      refine WC.sub (m := [(1, v_2), (2, .int .i64 i_15)]) ⟨rfl, rfl, trivial⟩ ?_
      refine WC.seq ?_
      refine WC.block ?_
      refine WC.seq ?_
      refine WC.region ?_
      refine WL.run hS rfl rfl rfl (ex_move rfl) ?_
      refine WL.run hS rfl rfl rfl (ex_move rfl) ?_
      obtain ⟨hin_31, hV⟩ := hV
      refine WL.runx hS rfl rfl rfl (ex_index_own Try.underlying22 Try.sizeOf3 rfl rfl h_4 hin_31) ?_
      intro p_32 hp_33
      refine WL.runx hS rfl rfl rfl (ex_load_own (w := w) hS Try.isAgg3 rfl rfl h_4 hp_33 hin_31) ?_
      intro u_34 hu_35
      obtain ⟨rfl, hr_36⟩ := cInt_rep hu_35
      replace hr_36 := has_I64 hr_36
      replace hV := hV hr_36
      refine WL.run hS rfl rfl rfl (ex_move rfl) ?_
      refine WL.run hS rfl rfl rfl (ex_neq rfl rfl) ?_
      refine WL.nil ?_
      refine WQ.next ?_
      refine WC.sub (m := [(1, v_2), (2, .int .i64 i_15), (15, .bool (decide ((ix ([0, 1, 2, 3, 4, 5, 6, 7, 8]) i_15) ≠ i_15)))]) ⟨rfl, rfl, rfl, trivial⟩ ?_
      refine WC.cond rfl ?_ ?_
      · intro hc_38
        replace hV := hV.1 (of_decide_eq_true hc_38)
        refine WC.seq ?_
        refine WC.region ?_
        refine WL.run hS rfl rfl rfl (ex_assign rfl) ?_
        refine WL.nil ?_
        refine WQ.next ?_
        refine WC.sub (m := [(0, .bool false)]) ⟨rfl, trivial⟩ ?_
        replace hS := hS.drop
        refine WC.ret ?_
        refine WQ.out nofun ?_
        refine WQ.pass nofun ?_
        refine WQ.pass nofun ?_
        refine WQ.out nofun ?_
        refine WQ.pass nofun ?_
        exact leave1 rfl rfl ⟨false, hV, rfl, hS⟩
      · intro hc_38
        replace hV := hV.2 (of_decide_eq_false hc_38)
        refine WC.skip ?_
        refine WQ.out nofun ?_
        refine WQ.next ?_
        refine WC.sub (m := [(1, v_2), (2, .int .i64 i_15)]) ⟨rfl, rfl, trivial⟩ ?_
        refine WC.region ?_
        refine WL.run hS rfl rfl rfl (ex_move rfl) ?_
        obtain ⟨hi_37, hV⟩ := hV
        refine WL.run hS rfl rfl rfl (ex_add rfl rfl hi_37) ?_
        refine WL.run hS rfl rfl rfl (ex_assign rfl) ?_
        refine WL.nil ?_
        exact WQ.there fun a ha => ⟨(i_15 + 1), ⟨(i_15 + 1), rfl, hV.1, hi_37, hS, ha.of_sub ⟨rfl, rfl, trivial⟩⟩, hV.2⟩
    · intro hc_39
      replace hV := hV.2 (of_decide_eq_false hc_39)
      refine WC.exit ?_
      refine WQ.pass nofun ?_
      refine WQ.pass nofun ?_
      refine WQ.hit ?_
      refine WQ.next ?_
      refine WC.sub (m := []) trivial ?_
      replace hS := hS.drop
      refine WC.seq ?_
      refine WC.region ?_
      refine WL.run hS rfl rfl rfl (ex_assign rfl) ?_
      refine WL.nil ?_
      refine WQ.next ?_
      refine WC.ret ?_
      exact leave1 rfl rfl ⟨true, hV, rfl, hS⟩

end Go.Proofs.Ythndbddongefoaa
