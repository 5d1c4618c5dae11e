/- For each function: called, it does its work where its condition is so. Printed by program. -/
import Derived.Test.YtdflojjpjklbfaaFacts
import Derived.Test.YtdflojjpjklbfaaConds
import Derived.Test.YtdflojjpjklbfaaManS
import Derived.Test.YtdflojjpjklbfaaWalks1
set_option linter.unusedVariables false
set_option maxRecDepth 100000
namespace Go.Proofs.Ytdflojjpjklbfaa
open Go.Vc
theorem S_follow {w0 : World} {H : View} {L : Seg} {w : World} {n_1 : Int} {v_4 : Value} {clauses_3 : List (List Int)} {v_7 : Value} {given_6 : List Int} {Q : (List Int) → Bool → Prop} (hr_2 : I64 n_1) (h_5 : IsSl H (cSl (cInt .i64)) v_4 clauses_3) (h_8 : IsSl H (cInt .i64) v_7 given_6) (hS : St w0 H (L) w) (hV : V_follow n_1 clauses_3 given_6 Q) :
    Calls Try.prog 18 #[.int .i64 n_1, v_4, v_7] w fun e w' => ∃ (r1 : List Int) (r2 : Bool) (v1 : Value) (fp1 : Seg), Q r1 r2 ∧ e = .returned (.tuple #[v1, .bool r2]) ∧ OwnSl H (cInt .i64) 3 v1 r1 fp1 ∧ St w0 H (fp1 ++ L) w' := by
  unfold V_follow at hV
  refine enter Try.func18 rfl Try.ntmps18 rfl (lk_args_cons (d := 0) (v := .int .i64 n_1) rfl (lk_args_cons (d := 1) (v := v_4) rfl (lk_args_cons (d := 2) (v := v_7) rfl (lk_args_nil _)))) ?_
  refine WC.seq ?_
  refine WC.region ?_
  refine WL.run hS rfl rfl rfl (ex_assign rfl) ?_
  refine WL.run hS rfl rfl rfl (ex_assign rfl) ?_
  refine WL.nil ?_
  refine WQ.next ?_
  refine WC.sub (m := [(0, .int .i64 n_1), (1, v_4), (2, v_7)]) ⟨rfl, rfl, rfl, trivial⟩ ?_
  refine WC.seq ?_
  refine WC.region ?_
  refine WL.run hS rfl rfl rfl (ex_move rfl) ?_
  obtain ⟨hi_10, hV⟩ := hV
  refine WL.run hS rfl rfl rfl (ex_add rfl rfl hi_10) ?_
  obtain ⟨hm_15, hV⟩ := hV
  refine WL.make (c := (cInt .i64)) (z0 := 0) rfl Try.underlying31 Try.info3 rfl ⟨rfl, I64.has (by unfold I64; omega)⟩ rfl rfl hm_15.1 hm_15.2.1 hm_15.2.2 hS ?_
  clear hS
  intro v_12 w fp_13 h_14 hS
  refine WL.alloc (arr := #[(.slice none 0 0)]) rfl Try.zeroValue31 rfl hS ?_
  clear hS
  intro b_16 w hS
  refine WL.store_box (pre := []) (old := [(.slice none 0 0)]) (rst := []) (cs := [v_12]) (arr' := #[v_12]) Try.sizeOf31 rfl rfl (congrArg Array.toList (cells_one (OwnSl.one h_14))) ⟨(OwnSl.one h_14), trivial⟩ rfl rfl rfl rfl hS ?_
  clear hS
  intro w hS
  refine WL.nil ?_
  refine WQ.next ?_
  refine WC.sub (m := [(0, .int .i64 n_1), (1, v_4), (2, v_7), (8, .pointer (some ⟨b_16, 0, none⟩))]) ⟨rfl, rfl, rfl, rfl, trivial⟩ ?_
  refine WC.seq ?_
  refine WC.region ?_
  refine WL.run hS rfl rfl rfl (ex_makeFunc (vs := [.pointer (some ⟨b_16, 0, none⟩)]) ⟨rfl, trivial⟩) ?_
  refine WL.run hS rfl rfl rfl (ex_assign rfl) ?_
  refine WL.nil ?_
  refine WQ.next ?_
  refine WC.sub (m := [(0, .int .i64 n_1), (1, v_4), (2, v_7), (8, .pointer (some ⟨b_16, 0, none⟩)), (9, .func (.func 31) #[] #[.pointer (some ⟨b_16, 0, none⟩)])]) ⟨rfl, rfl, rfl, rfl, rfl, trivial⟩ ?_
  refine WC.seq ?_
  refine WC.region ?_
  refine WL.run hS rfl rfl rfl (ex_makeFunc (vs := [.pointer (some ⟨b_16, 0, none⟩)]) ⟨rfl, trivial⟩) ?_
  refine WL.run hS rfl rfl rfl (ex_assign rfl) ?_
  refine WL.nil ?_
  refine WQ.next ?_
  refine WC.sub (m := [(0, .int .i64 n_1), (1, v_4), (2, v_7), (8, .pointer (some ⟨b_16, 0, none⟩)), (9, .func (.func 31) #[] #[.pointer (some ⟨b_16, 0, none⟩)]), (10, .func (.func 32) #[] #[.pointer (some ⟨b_16, 0, none⟩)])]) ⟨rfl, rfl, rfl, rfl, rfl, rfl, trivial⟩ ?_
  refine WC.seq ?_
  refine WC.seq ?_
  refine WC.region ?_
  refine WL.run hS rfl rfl rfl (ex_move rfl) ?_
  have hl_19 : Len given_6 := h_8.bound
  replace hV := hV hl_19
  refine WL.run hS rfl rfl rfl (ex_len_sl Try.underlying31 rfl h_8) ?_
  refine WL.run hS rfl rfl rfl (ex_move rfl) ?_
  refine WL.nil ?_
  refine WQ.next ?_
  refine WC.sub (m := [(0, .int .i64 n_1), (1, v_4), (8, .pointer (some ⟨b_16, 0, none⟩)), (9, .func (.func 31) #[] #[.pointer (some ⟨b_16, 0, none⟩)]), (10, .func (.func 32) #[] #[.pointer (some ⟨b_16, 0, none⟩)]), (26, v_7), (27, .int .i64 (given_6.length : Int)), (28, .int .i64 0)]) ⟨rfl, rfl, rfl, rfl, rfl, rfl, rfl, rfl, trivial⟩ ?_
  refine WC.block ?_
  replace hS := hS.f2
  replace hS := hS.f2
  obtain ⟨I_59, mu_60, hI_4572, hV⟩ := hV
  refine WC.loop (σ := (List Int) × Int) (fun s a w => ∃ (c_37 : List Int) (x_41 : Int) (v_38 : Value) (fp_39 : Seg), s = (c_37, x_41) ∧ I_59 (c_37, x_41) ∧ OwnSl H (cInt .i64) 3 v_38 c_37 fp_39 ∧ I64 x_41 ∧ St w0 H ([(b_16, .cells #[v_38] 31 (0, 0))] ++ (fp_39 ++ L)) w ∧ Fr 101 [(0, .int .i64 n_1), (1, v_4), (8, .pointer (some ⟨b_16, 0, none⟩)), (9, .func (.func 31) #[] #[.pointer (some ⟨b_16, 0, none⟩)]), (10, .func (.func 32) #[] #[.pointer (some ⟨b_16, 0, none⟩)]), (26, v_7), (27, .int .i64 (given_6.length : Int)), (28, .int .i64 x_41)] a) mu_60 ((List.replicate (n_1 + 1).toNat 0), 0) ?_ ?_
  · exact fun a ha => ⟨(List.replicate (n_1 + 1).toNat 0), 0, v_12, fp_13, rfl, hI_4572, h_14, (by unfold I64; omega), hS, ha.of_sub ⟨rfl, rfl, rfl, rfl, rfl, rfl, rfl, rfl, trivial⟩⟩
  · clear hS hI_4572
    rintro _ a w ⟨c_37, x_41, v_38, fp_39, rfl, hI, h_40, hr_42, hS, ha⟩
    refine in_frame ha ?_
    clear ha
    replace hV := hV _ hI
    clear hI
    refine WC.seq ?_
    refine WC.region ?_
    refine WL.run hS rfl rfl rfl (ex_lss rfl rfl) ?_
    refine WL.nil ?_
    refine WQ.next ?_
    refine WC.seq ?_
    refine WC.cond rfl ?_ ?_
    · intro hc_4571
      replace hV := hV.1 (of_decide_eq_true hc_4571)
      refine WC.skip ?_
      refine WQ.next ?_
      refine WC.sub (m := [(0, .int .i64 n_1), (1, v_4), (8, .pointer (some ⟨b_16, 0, none⟩)), (9, .func (.func 31) #[] #[.pointer (some ⟨b_16, 0, none⟩)]), (10, .func (.func 32) #[] #[.pointer (some ⟨b_16, 0, none⟩)]), (26, v_7), (27, .int .i64 (given_6.length : Int)), (28, .int .i64 x_41)]) ⟨rfl, rfl, rfl, rfl, rfl, rfl, rfl, rfl, trivial⟩ ?_
      refine WC.seq ?_
      refine WC.block ?_
      refine WC.seq ?_
      refine WC.region ?_
      obtain ⟨hin_62, hV⟩ := hV
      refine WL.runx hS rfl rfl rfl (ex_index Try.underlying31 Try.sizeOf3 rfl rfl h_8 hin_62) ?_
      intro p_63 hp_64
      refine WL.runx hS rfl rfl rfl (ex_load Try.isAgg3 rfl rfl hp_64) ?_
      intro u_65 hu_66
      obtain ⟨rfl, hr_67⟩ := cInt_rep hu_66
      replace hr_67 := has_I64 hr_67
      replace hV := hV hr_67
      refine WL.run hS rfl rfl rfl (ex_assign rfl) ?_
      refine WL.nil ?_
      refine WQ.next ?_
      refine WC.sub (m := [(0, .int .i64 n_1), (1, v_4), (8, .pointer (some ⟨b_16, 0, none⟩)), (9, .func (.func 31) #[] #[.pointer (some ⟨b_16, 0, none⟩)]), (10, .func (.func 32) #[] #[.pointer (some ⟨b_16, 0, none⟩)]), (12, .int .i64 (ix given_6 x_41)), (26, v_7), (27, .int .i64 (given_6.length : Int)), (28, .int .i64 x_41)]) ⟨rfl, rfl, rfl, rfl, rfl, rfl, rfl, rfl, rfl, trivial⟩ ?_
      refine WC.seq ?_
      refine WC.region ?_
      refine WL.run hS rfl rfl rfl (ex_move rfl) ?_
      refine WL.run hS rfl rfl rfl (ex_move rfl) ?_
      replace hS := hS.f2
      replace hS := hS.f2
      refine WL.call rfl rfl rfl (enters_c (vs := [.int .i64 (ix given_6 x_41)]) (caps := [.pointer (some ⟨b_16, 0, none⟩)]) rfl Try.call31 ⟨rfl, trivial⟩) (S_followSet  hr_67 h_40 hS hV) ?_
      clear hV hS
      rintro _ w ⟨r_68, c_69, v_70, fp_71, hV, rfl, h_72, hS⟩
      refine ⟨_, rfl, ?_⟩
      refine WL.run hS rfl rfl rfl (ex_not rfl) ?_
      refine WL.nil ?_
      refine WQ.next ?_
      refine WC.sub (m := [(0, .int .i64 n_1), (1, v_4), (8, .pointer (some ⟨b_16, 0, none⟩)), (9, .func (.func 31) #[] #[.pointer (some ⟨b_16, 0, none⟩)]), (10, .func (.func 32) #[] #[.pointer (some ⟨b_16, 0, none⟩)]), (26, v_7), (27, .int .i64 (given_6.length : Int)), (28, .int .i64 x_41), (35, .bool (!r_68))]) ⟨rfl, rfl, rfl, rfl, rfl, rfl, rfl, rfl, rfl, trivial⟩ ?_
      refine WC.cond rfl ?_ ?_
      · intro hc_76
        replace hV := hV.1 hc_76
        refine WC.seq ?_
        refine WC.region ?_
        refine WL.run hS rfl rfl rfl (ex_assign rfl) ?_
        refine WL.run hS rfl rfl rfl (ex_assign rfl) ?_
        refine WL.nil ?_
        refine WQ.next ?_
        refine WC.sub (m := [(6, (.slice none 0 0)), (7, .bool false)]) ⟨rfl, rfl, trivial⟩ ?_
        replace hS := hS.drop
        replace hS := hS.drop
        refine WC.ret ?_
        refine WQ.out nofun ?_
        refine WQ.pass nofun ?_
        refine WQ.pass nofun ?_
        refine WQ.out nofun ?_
        refine WQ.pass nofun ?_
        replace hS := hS.nilseg
        exact leave2 rfl rfl rfl ⟨([] : List Int), false, (.slice none 0 0), ([] : Seg), hV, rfl, OwnSl.nil, hS⟩
      · intro hc_76
        replace hV := hV.2 hc_76
        refine WC.skip ?_
        refine WQ.out nofun ?_
        refine WQ.next ?_
        refine WC.sub (m := [(0, .int .i64 n_1), (1, v_4), (8, .pointer (some ⟨b_16, 0, none⟩)), (9, .func (.func 31) #[] #[.pointer (some ⟨b_16, 0, none⟩)]), (10, .func (.func 32) #[] #[.pointer (some ⟨b_16, 0, none⟩)]), (26, v_7), (27, .int .i64 (given_6.length : Int)), (28, .int .i64 x_41)]) ⟨rfl, rfl, rfl, rfl, rfl, rfl, rfl, rfl, trivial⟩ ?_
        refine WC.region ?_
        obtain ⟨hi_75, hV⟩ := hV
        refine WL.run hS rfl rfl rfl (ex_add rfl rfl hi_75) ?_
        refine WL.run hS rfl rfl rfl (ex_move rfl) ?_
        refine WL.nil ?_
        replace hS := hS.f2
        replace hS := hS.f2
        exact WQ.there fun a ha => ⟨(c_69, (x_41 + 1)), ⟨c_69, (x_41 + 1), v_70, fp_71, rfl, hV.1, h_72, hi_75, hS, ha.of_sub ⟨rfl, rfl, rfl, rfl, rfl, rfl, rfl, rfl, trivial⟩⟩, hV.2⟩
    · intro hc_4571
      replace hV := hV.2 (of_decide_eq_false hc_4571)
      refine WC.exit ?_
      refine WQ.pass nofun ?_
      refine WQ.pass nofun ?_
      refine WQ.hit ?_
      refine WQ.next ?_
      refine WC.sub (m := [(0, .int .i64 n_1), (1, v_4), (8, .pointer (some ⟨b_16, 0, none⟩)), (9, .func (.func 31) #[] #[.pointer (some ⟨b_16, 0, none⟩)]), (10, .func (.func 32) #[] #[.pointer (some ⟨b_16, 0, none⟩)])]) ⟨rfl, rfl, rfl, rfl, rfl, trivial⟩ ?_
      refine WC.seq ?_
      refine WC.seq ?_
      refine WC.region ?_
      refine WL.run hS rfl rfl rfl (ex_assign rfl) ?_
      refine WL.nil ?_
      refine WQ.next ?_
      refine WC.block ?_
      replace hS := hS.f2
      replace hS := hS.f2
      obtain ⟨I_2954, mu_2955, hI_4570, hV⟩ := hV
      refine WC.loop (σ := (List Int) × Bool) (fun s a w => ∃ (c_1513 : List Int) (again_1517 : Bool) (v_1514 : Value) (fp_1515 : Seg), s = (c_1513, again_1517) ∧ I_2954 (c_1513, again_1517) ∧ OwnSl H (cInt .i64) 3 v_1514 c_1513 fp_1515 ∧ St w0 H ([(b_16, .cells #[v_1514] 31 (0, 0))] ++ (fp_1515 ++ L)) w ∧ Fr 101 [(0, .int .i64 n_1), (1, v_4), (8, .pointer (some ⟨b_16, 0, none⟩)), (9, .func (.func 31) #[] #[.pointer (some ⟨b_16, 0, none⟩)]), (10, .func (.func 32) #[] #[.pointer (some ⟨b_16, 0, none⟩)]), (13, .bool again_1517)] a) mu_2955 (c_37, true) ?_ ?_
      · exact fun a ha => ⟨c_37, true, v_38, fp_39, rfl, hI_4570, h_40, hS, ha.of_sub ⟨rfl, rfl, rfl, rfl, rfl, rfl, trivial⟩⟩
      · clear hS hI_4570
        rintro _ a w ⟨c_1513, again_1517, v_1514, fp_1515, rfl, hI, h_1516, hS, ha⟩
        refine in_frame ha ?_
        clear ha
        replace hV := hV _ hI
        clear hI
        refine WC.seq ?_
        refine WC.seq ?_
        refine WC.region ?_
        refine WL.run hS rfl rfl rfl (ex_move rfl) ?_
        refine WL.nil ?_
        refine WQ.next ?_
        refine WC.sub (m := [(0, .int .i64 n_1), (1, v_4), (8, .pointer (some ⟨b_16, 0, none⟩)), (9, .func (.func 31) #[] #[.pointer (some ⟨b_16, 0, none⟩)]), (10, .func (.func 32) #[] #[.pointer (some ⟨b_16, 0, none⟩)]), (37, .bool again_1517)]) ⟨rfl, rfl, rfl, rfl, rfl, rfl, trivial⟩ ?_
        refine WC.cond rfl ?_ ?_
        · intro hc_4569
          replace hV := hV.1 hc_4569
          refine WC.skip ?_
          refine WQ.next ?_
          refine WC.sub (m := [(0, .int .i64 n_1), (1, v_4), (8, .pointer (some ⟨b_16, 0, none⟩)), (9, .func (.func 31) #[] #[.pointer (some ⟨b_16, 0, none⟩)]), (10, .func (.func 32) #[] #[.pointer (some ⟨b_16, 0, none⟩)])]) ⟨rfl, rfl, rfl, rfl, rfl, trivial⟩ ?_
          refine WC.block ?_
          refine WC.scope ?_
          refine WC.seq ?_
          refine WC.region ?_
          refine WL.run hS rfl rfl rfl (ex_assign rfl) ?_
          refine WL.nil ?_
          refine WQ.next ?_
          refine WC.seq ?_
          refine WC.label ?_
          refine WQ.next ?_
          refine WC.seq ?_
          refine WC.region ?_
          refine WL.run hS rfl rfl rfl (ex_move rfl) ?_
          have hl_2957 : Len clauses_3 := h_5.bound
          replace hV := hV hl_2957
          refine WL.run hS rfl rfl rfl (ex_len_sl Try.underlying22 rfl h_5) ?_
          refine WL.run hS rfl rfl rfl (ex_move rfl) ?_
          refine WL.nil ?_
          refine WQ.next ?_
          refine WC.block ?_
          replace hS := hS.f2
          replace hS := hS.f2
          obtain ⟨I_3914, mu_3915, hI_4391, hV⟩ := hV
          refine WC.loop (σ := (List Int) × Bool × Int) (fun s a w => ∃ (c_3433 : List Int) (again_3437 : Bool) (x_3438 : Int) (v_3434 : Value) (fp_3435 : Seg), s = (c_3433, again_3437, x_3438) ∧ I_3914 (c_3433, again_3437, x_3438) ∧ OwnSl H (cInt .i64) 3 v_3434 c_3433 fp_3435 ∧ I64 x_3438 ∧ St w0 H ([(b_16, .cells #[v_3434] 31 (0, 0))] ++ (fp_3435 ++ L)) w ∧ Fr 101 [(0, .int .i64 n_1), (1, v_4), (8, .pointer (some ⟨b_16, 0, none⟩)), (9, .func (.func 31) #[] #[.pointer (some ⟨b_16, 0, none⟩)]), (10, .func (.func 32) #[] #[.pointer (some ⟨b_16, 0, none⟩)]), (13, .bool again_3437), (38, v_4), (39, .int .i64 (clauses_3.length : Int)), (40, .int .i64 x_3438)] a) mu_3915 (c_1513, false, 0) ?_ ?_
          · exact fun a ha => ⟨c_1513, false, 0, v_1514, fp_1515, rfl, hI_4391, h_1516, (by unfold I64; omega), hS, ha.of_sub ⟨rfl, rfl, rfl, rfl, rfl, rfl, rfl, rfl, rfl, trivial⟩⟩
          · clear hS hI_4391
            rintro _ a w ⟨c_3433, again_3437, x_3438, v_3434, fp_3435, rfl, hI, h_3436, hr_3439, hS, ha⟩
            refine in_frame ha ?_
            clear ha
            replace hV := hV _ hI
            clear hI
            refine WC.seq ?_
            refine WC.region ?_
            refine WL.run hS rfl rfl rfl (ex_lss rfl rfl) ?_
            refine WL.nil ?_
            refine WQ.next ?_
            refine WC.seq ?_
            refine WC.cond rfl ?_ ?_
            · intro hc_4390
              replace hV := hV.1 (of_decide_eq_true hc_4390)
              refine WC.skip ?_
              refine WQ.next ?_
              refine WC.sub (m := [(0, .int .i64 n_1), (1, v_4), (8, .pointer (some ⟨b_16, 0, none⟩)), (9, .func (.func 31) #[] #[.pointer (some ⟨b_16, 0, none⟩)]), (10, .func (.func 32) #[] #[.pointer (some ⟨b_16, 0, none⟩)]), (13, .bool again_3437), (38, v_4), (39, .int .i64 (clauses_3.length : Int)), (40, .int .i64 x_3438)]) ⟨rfl, rfl, rfl, rfl, rfl, rfl, rfl, rfl, rfl, trivial⟩ ?_
              obtain ⟨J_4155, hJ_4156, hV⟩ := hV
              refine WC.meet (fun a w => ∃ (c_4150 : List Int) (again_4154 : Bool) (v_4151 : Value) (fp_4152 : Seg), J_4155 (c_4150, again_4154) ∧ OwnSl H (cInt .i64) 3 v_4151 c_4150 fp_4152 ∧ St w0 H ([(b_16, .cells #[v_4151] 31 (0, 0))] ++ (fp_4152 ++ L)) w ∧ Fr 101 [(0, .int .i64 n_1), (1, v_4), (8, .pointer (some ⟨b_16, 0, none⟩)), (9, .func (.func 31) #[] #[.pointer (some ⟨b_16, 0, none⟩)]), (10, .func (.func 32) #[] #[.pointer (some ⟨b_16, 0, none⟩)]), (13, .bool again_4154), (38, v_4), (39, .int .i64 (clauses_3.length : Int)), (40, .int .i64 x_3438)] a) ?_ ?_
              · rintro a w ⟨c_4150, again_4154, v_4151, fp_4152, hI, h_4153, hS, ha⟩
                refine in_frame ha ?_
                clear ha hV
                have hV := hJ_4156 _ hI
                clear hI hJ_4156
                refine WC.region ?_
                obtain ⟨hi_4389, hV⟩ := hV
                refine WL.run hS rfl rfl rfl (ex_add rfl rfl hi_4389) ?_
                refine WL.run hS rfl rfl rfl (ex_move rfl) ?_
                refine WL.nil ?_
                replace hS := hS.f2
                replace hS := hS.f2
                exact WQ.there fun a ha => ⟨(c_4150, again_4154, (x_3438 + 1)), ⟨c_4150, again_4154, (x_3438 + 1), v_4151, fp_4152, rfl, hV.1, h_4153, hi_4389, hS, ha.of_sub ⟨rfl, rfl, rfl, rfl, rfl, rfl, rfl, rfl, rfl, trivial⟩⟩, hV.2⟩
              · clear hJ_4156
                refine WC.block ?_
                refine WC.seq ?_
                refine WC.region ?_
                obtain ⟨hin_4157, hV⟩ := hV
                refine WL.runx hS rfl rfl rfl (ex_index Try.underlying22 Try.sizeOf31 rfl rfl h_5 hin_4157) ?_
                intro p_4158 hp_4159
                refine WL.runx hS rfl rfl rfl (ex_load Try.isAgg31 rfl rfl hp_4159) ?_
                intro u_4160 hu_4161
                replace hu_4161 := cSl_rep hu_4161
                refine WL.run hS rfl rfl rfl (ex_assign rfl) ?_
                refine WL.nil ?_
                refine WQ.next ?_
                refine WC.sub (m := [(0, .int .i64 n_1), (1, v_4), (8, .pointer (some ⟨b_16, 0, none⟩)), (9, .func (.func 31) #[] #[.pointer (some ⟨b_16, 0, none⟩)]), (10, .func (.func 32) #[] #[.pointer (some ⟨b_16, 0, none⟩)]), (13, .bool again_3437), (15, u_4160), (38, v_4), (39, .int .i64 (clauses_3.length : Int)), (40, .int .i64 x_3438)]) ⟨rfl, rfl, rfl, rfl, rfl, rfl, rfl, rfl, rfl, rfl, trivial⟩ ?_
                refine WC.seq ?_
                refine WC.region ?_
                refine WL.run hS rfl rfl rfl (ex_assign rfl) ?_
                refine WL.nil ?_
                refine WQ.next ?_
                refine WC.seq ?_
                refine WC.seq ?_
                refine WC.region ?_
                refine WL.run hS rfl rfl rfl (ex_move rfl) ?_
                have hl_4162 : Len (ix clauses_3 x_3438) := hu_4161.bound
                replace hV := hV hl_4162
                refine WL.run hS rfl rfl rfl (ex_len_sl Try.underlying31 rfl hu_4161) ?_
                refine WL.run hS rfl rfl rfl (ex_move rfl) ?_
                refine WL.nil ?_
                refine WQ.next ?_
                refine WC.sub (m := [(0, .int .i64 n_1), (1, v_4), (8, .pointer (some ⟨b_16, 0, none⟩)), (9, .func (.func 31) #[] #[.pointer (some ⟨b_16, 0, none⟩)]), (10, .func (.func 32) #[] #[.pointer (some ⟨b_16, 0, none⟩)]), (13, .bool again_3437), (16, .int .i64 0), (38, v_4), (39, .int .i64 (clauses_3.length : Int)), (40, .int .i64 x_3438), (44, u_4160), (45, .int .i64 ((ix clauses_3 x_3438).length : Int)), (46, .int .i64 0)]) ⟨rfl, rfl, rfl, rfl, rfl, rfl, rfl, rfl, rfl, rfl, rfl, rfl, rfl, trivial⟩ ?_
                refine WC.block ?_
                replace hS := hS.f2
                replace hS := hS.f2
                obtain ⟨I_4307, mu_4308, hI_4388, hV⟩ := hV
                refine WC.loop (σ := Int × Int) (fun s a w => ∃ (left_4233 : Int) (x_4235 : Int), s = (left_4233, x_4235) ∧ I_4307 (left_4233, x_4235) ∧ I64 left_4233 ∧ I64 x_4235 ∧ St w0 H ([(b_16, .cells #[v_3434] 31 (0, 0))] ++ (fp_3435 ++ L)) w ∧ Fr 101 [(0, .int .i64 n_1), (1, v_4), (8, .pointer (some ⟨b_16, 0, none⟩)), (9, .func (.func 31) #[] #[.pointer (some ⟨b_16, 0, none⟩)]), (10, .func (.func 32) #[] #[.pointer (some ⟨b_16, 0, none⟩)]), (13, .bool again_3437), (16, .int .i64 left_4233), (38, v_4), (39, .int .i64 (clauses_3.length : Int)), (40, .int .i64 x_3438), (44, u_4160), (45, .int .i64 ((ix clauses_3 x_3438).length : Int)), (46, .int .i64 x_4235)] a) mu_4308 (0, 0) ?_ ?_
                · exact fun a ha => ⟨0, 0, rfl, hI_4388, (by unfold I64; omega), (by unfold I64; omega), hS, ha.of_sub ⟨rfl, rfl, rfl, rfl, rfl, rfl, rfl, rfl, rfl, rfl, rfl, rfl, rfl, trivial⟩⟩
                · clear hS hI_4388
                  rintro _ a w ⟨left_4233, x_4235, rfl, hI, hr_4234, hr_4236, hS, ha⟩
                  refine in_frame ha ?_
                  clear ha
                  replace hV := hV _ hI
                  clear hI
                  refine WC.seq ?_
                  refine WC.region ?_
                  refine WL.run hS rfl rfl rfl (ex_lss rfl rfl) ?_
                  refine WL.nil ?_
                  refine WQ.next ?_
                  refine WC.seq ?_
                  refine WC.cond rfl ?_ ?_
                  · intro hc_4387
                    replace hV := hV.1 (of_decide_eq_true hc_4387)
                    refine WC.skip ?_
                    refine WQ.next ?_
                    refine WC.sub (m := [(0, .int .i64 n_1), (1, v_4), (8, .pointer (some ⟨b_16, 0, none⟩)), (9, .func (.func 31) #[] #[.pointer (some ⟨b_16, 0, none⟩)]), (10, .func (.func 32) #[] #[.pointer (some ⟨b_16, 0, none⟩)]), (13, .bool again_3437), (16, .int .i64 left_4233), (38, v_4), (39, .int .i64 (clauses_3.length : Int)), (40, .int .i64 x_3438), (44, u_4160), (45, .int .i64 ((ix clauses_3 x_3438).length : Int)), (46, .int .i64 x_4235)]) ⟨rfl, rfl, rfl, rfl, rfl, rfl, rfl, rfl, rfl, rfl, rfl, rfl, rfl, trivial⟩ ?_
                    obtain ⟨J_4344, hJ_4345, hV⟩ := hV
                    refine WC.meet (fun a w => ∃ (left_4342 : Int), J_4344 left_4342 ∧ I64 left_4342 ∧ St w0 H ([(b_16, .cells #[v_3434] 31 (0, 0))] ++ (fp_3435 ++ L)) w ∧ Fr 101 [(0, .int .i64 n_1), (1, v_4), (8, .pointer (some ⟨b_16, 0, none⟩)), (9, .func (.func 31) #[] #[.pointer (some ⟨b_16, 0, none⟩)]), (10, .func (.func 32) #[] #[.pointer (some ⟨b_16, 0, none⟩)]), (13, .bool again_3437), (16, .int .i64 left_4342), (38, v_4), (39, .int .i64 (clauses_3.length : Int)), (40, .int .i64 x_3438), (44, u_4160), (45, .int .i64 ((ix clauses_3 x_3438).length : Int)), (46, .int .i64 x_4235)] a) ?_ ?_
                    · rintro a w ⟨left_4342, hI, hr_4343, hS, ha⟩
                      refine in_frame ha ?_
                      clear ha hV
                      have hV := hJ_4345 _ hI
                      clear hI hJ_4345
                      refine WC.region ?_
                      obtain ⟨hi_4378, hV⟩ := hV
                      refine WL.run hS rfl rfl rfl (ex_add rfl rfl hi_4378) ?_
                      refine WL.run hS rfl rfl rfl (ex_move rfl) ?_
                      refine WL.nil ?_
                      replace hS := hS.f2
                      replace hS := hS.f2
                      exact WQ.there fun a ha => ⟨(left_4342, (x_4235 + 1)), ⟨left_4342, (x_4235 + 1), rfl, hV.1, hr_4343, hi_4378, hS, ha.of_sub ⟨rfl, rfl, rfl, rfl, rfl, rfl, rfl, rfl, rfl, rfl, rfl, rfl, rfl, trivial⟩⟩, hV.2⟩
                    · clear hJ_4345
                      refine WC.block ?_
                      refine WC.seq ?_
                      refine WC.region ?_
                      obtain ⟨hin_4346, hV⟩ := hV
                      refine WL.runx hS rfl rfl rfl (ex_index Try.underlying31 Try.sizeOf3 rfl rfl hu_4161 hin_4346) ?_
                      intro p_4347 hp_4348
                      refine WL.runx hS rfl rfl rfl (ex_load Try.isAgg3 rfl rfl hp_4348) ?_
                      intro u_4349 hu_4350
                      obtain ⟨rfl, hr_4351⟩ := cInt_rep hu_4350
                      replace hr_4351 := has_I64 hr_4351
                      replace hV := hV hr_4351
                      refine WL.run hS rfl rfl rfl (ex_assign rfl) ?_
                      refine WL.nil ?_
                      refine WQ.next ?_
                      refine WC.sub (m := [(0, .int .i64 n_1), (1, v_4), (8, .pointer (some ⟨b_16, 0, none⟩)), (9, .func (.func 31) #[] #[.pointer (some ⟨b_16, 0, none⟩)]), (10, .func (.func 32) #[] #[.pointer (some ⟨b_16, 0, none⟩)]), (13, .bool again_3437), (16, .int .i64 left_4233), (18, .int .i64 (ix (ix clauses_3 x_3438) x_4235)), (38, v_4), (39, .int .i64 (clauses_3.length : Int)), (40, .int .i64 x_3438), (44, u_4160), (45, .int .i64 ((ix clauses_3 x_3438).length : Int)), (46, .int .i64 x_4235)]) ⟨rfl, rfl, rfl, rfl, rfl, rfl, rfl, rfl, rfl, rfl, rfl, rfl, rfl, rfl, trivial⟩ ?_
                      refine WC.block ?_
                      obtain ⟨J_4362, hJ_4363, hV⟩ := hV
                      refine WC.meet (fun a w => ∃ (x_4361 : Bool), J_4362 x_4361 ∧ St w0 H ([(b_16, .cells #[v_3434] 31 (0, 0))] ++ (fp_3435 ++ L)) w ∧ Fr 101 [(0, .int .i64 n_1), (1, v_4), (8, .pointer (some ⟨b_16, 0, none⟩)), (9, .func (.func 31) #[] #[.pointer (some ⟨b_16, 0, none⟩)]), (10, .func (.func 32) #[] #[.pointer (some ⟨b_16, 0, none⟩)]), (13, .bool again_3437), (16, .int .i64 left_4233), (18, .int .i64 (ix (ix clauses_3 x_3438) x_4235)), (38, v_4), (39, .int .i64 (clauses_3.length : Int)), (40, .int .i64 x_3438), (44, u_4160), (45, .int .i64 ((ix clauses_3 x_3438).length : Int)), (46, .int .i64 x_4235), (50, .bool x_4361)] a) ?_ ?_
                      · rintro a w ⟨x_4361, hI, hS, ha⟩
                        refine in_frame ha ?_
                        clear ha hV
                        have hV := hJ_4363 _ hI
                        clear hI hJ_4363
                        refine WC.cond rfl ?_ ?_
                        · intro hc_4377
                          replace hV := hV.1 hc_4377
                          refine WC.exit ?_
                          refine WQ.by rfl ?_
                          refine WQ.by rfl ?_
                          refine WQ.pass nofun ?_
                          refine WQ.pass nofun ?_
                          refine WQ.by rfl ?_
                          refine WQ.pass nofun ?_
                          refine WQ.hit ?_
                          replace hS := hS.f2
                          replace hS := hS.f2
                          exact WQ.there fun a ha => ⟨c_3433, again_3437, v_3434, fp_3435, hV, h_3436, hS, ha.of_sub ⟨rfl, rfl, rfl, rfl, rfl, rfl, rfl, rfl, rfl, trivial⟩⟩
                        · intro hc_4377
                          replace hV := hV.2 hc_4377
                          refine WC.seq ?_
                          refine WC.region ?_
                          refine WL.run hS rfl rfl rfl (ex_move rfl) ?_
                          refine WL.run hS rfl rfl rfl (ex_move rfl) ?_
                          replace hS := hS.f2
                          replace hS := hS.f2
                          refine WL.call rfl rfl rfl (enters_c (vs := [.int .i64 (ix (ix clauses_3 x_3438) x_4235)]) (caps := [.pointer (some ⟨b_16, 0, none⟩)]) rfl Try.call32 ⟨rfl, trivial⟩) (S_followOf  hr_4351 h_3436 hS hV) ?_
                          clear hV hS
                          rintro _ w ⟨r_4373, hV, rfl, hr_4374, hS⟩
                          refine ⟨_, rfl, ?_⟩
                          refine WL.run hS rfl rfl rfl (ex_eql rfl rfl) ?_
                          refine WL.run hS rfl rfl rfl (ex_assign rfl) ?_
                          refine WL.nil ?_
                          refine WQ.next ?_
                          refine WC.sub (m := [(0, .int .i64 n_1), (1, v_4), (8, .pointer (some ⟨b_16, 0, none⟩)), (9, .func (.func 31) #[] #[.pointer (some ⟨b_16, 0, none⟩)]), (10, .func (.func 32) #[] #[.pointer (some ⟨b_16, 0, none⟩)]), (13, .bool again_3437), (16, .int .i64 left_4233), (18, .int .i64 (ix (ix clauses_3 x_3438) x_4235)), (38, v_4), (39, .int .i64 (clauses_3.length : Int)), (40, .int .i64 x_3438), (44, u_4160), (45, .int .i64 ((ix clauses_3 x_3438).length : Int)), (46, .int .i64 x_4235), (68, .bool (decide (r_4373 = 0)))]) ⟨rfl, rfl, rfl, rfl, rfl, rfl, rfl, rfl, rfl, rfl, rfl, rfl, rfl, rfl, rfl, trivial⟩ ?_
                          refine WC.cond rfl ?_ ?_
                          · intro hc_4376
                            replace hV := hV.1 (of_decide_eq_true hc_4376)
                            refine WC.region ?_
                            refine WL.run hS rfl rfl rfl (ex_move rfl) ?_
                            refine WL.run hS rfl rfl rfl (ex_assign rfl) ?_
                            refine WL.nil ?_
                            refine WQ.out nofun ?_
                            refine WQ.out nofun ?_
                            replace hS := hS.f2
                            replace hS := hS.f2
                            exact WQ.there fun a ha => ⟨(ix (ix clauses_3 x_3438) x_4235), hV, hr_4351, hS, ha.of_sub ⟨rfl, rfl, rfl, rfl, rfl, rfl, rfl, rfl, rfl, rfl, rfl, rfl, rfl, trivial⟩⟩
                          · intro hc_4376
                            replace hV := hV.2 (of_decide_eq_false hc_4376)
                            refine WC.skip ?_
                            refine WQ.out nofun ?_
                            refine WQ.out nofun ?_
                            replace hS := hS.f2
                            replace hS := hS.f2
                            exact WQ.there fun a ha => ⟨left_4233, hV, hr_4234, hS, ha.of_sub ⟨rfl, rfl, rfl, rfl, rfl, rfl, rfl, rfl, rfl, rfl, rfl, rfl, rfl, trivial⟩⟩
                      · clear hJ_4363
                        refine WC.seq ?_
                        refine WC.region ?_
                        refine WL.run hS rfl rfl rfl (ex_move rfl) ?_
                        refine WL.run hS rfl rfl rfl (ex_move rfl) ?_
                        replace hS := hS.f2
                        replace hS := hS.f2
                        refine WL.call rfl rfl rfl (enters_c (vs := [.int .i64 (ix (ix clauses_3 x_3438) x_4235)]) (caps := [.pointer (some ⟨b_16, 0, none⟩)]) rfl Try.call32 ⟨rfl, trivial⟩) (S_followOf  hr_4351 h_3436 hS hV) ?_
                        clear hV hS
                        rintro _ w ⟨r_4364, hV, rfl, hr_4365, hS⟩
                        refine ⟨_, rfl, ?_⟩
                        refine WL.run hS rfl rfl rfl (ex_gtr rfl rfl) ?_
                        refine WL.run hS rfl rfl rfl (ex_assign rfl) ?_
                        refine WL.nil ?_
                        refine WQ.next ?_
                        refine WC.sub (m := [(0, .int .i64 n_1), (1, v_4), (8, .pointer (some ⟨b_16, 0, none⟩)), (9, .func (.func 31) #[] #[.pointer (some ⟨b_16, 0, none⟩)]), (10, .func (.func 32) #[] #[.pointer (some ⟨b_16, 0, none⟩)]), (13, .bool again_3437), (16, .int .i64 left_4233), (18, .int .i64 (ix (ix clauses_3 x_3438) x_4235)), (38, v_4), (39, .int .i64 (clauses_3.length : Int)), (40, .int .i64 x_3438), (44, u_4160), (45, .int .i64 ((ix clauses_3 x_3438).length : Int)), (46, .int .i64 x_4235), (50, .bool (decide (0 < r_4364)))]) ⟨rfl, rfl, rfl, rfl, rfl, rfl, rfl, rfl, rfl, rfl, rfl, rfl, rfl, rfl, rfl, trivial⟩ ?_
                        refine WC.cond rfl ?_ ?_
                        · intro hc_4372
                          replace hV := hV.1 (of_decide_eq_true hc_4372)
                          refine WC.skip ?_
                          replace hS := hS.f2
                          replace hS := hS.f2
                          exact WQ.there fun a ha => ⟨decide (0 < r_4364), hV, hS, ha.of_sub ⟨rfl, rfl, rfl, rfl, rfl, rfl, rfl, rfl, rfl, rfl, rfl, rfl, rfl, rfl, rfl, trivial⟩⟩
                        · intro hc_4372
                          replace hV := hV.2 (of_decide_eq_false hc_4372)
                          refine WC.region ?_
                          refine WL.run hS rfl rfl rfl (ex_move rfl) ?_
                          refine WL.run hS rfl rfl rfl (ex_move rfl) ?_
                          replace hS := hS.f2
                          replace hS := hS.f2
                          refine WL.call rfl rfl rfl (enters_c (vs := [.int .i64 (ix (ix clauses_3 x_3438) x_4235)]) (caps := [.pointer (some ⟨b_16, 0, none⟩)]) rfl Try.call32 ⟨rfl, trivial⟩) (S_followOf  hr_4351 h_3436 hS hV) ?_
                          clear hV hS
                          rintro _ w ⟨r_4367, hV, rfl, hr_4368, hS⟩
                          refine ⟨_, rfl, ?_⟩
                          refine WL.run hS rfl rfl rfl (ex_eql rfl rfl) ?_
                          refine WL.run hS rfl rfl rfl (ex_move rfl) ?_
                          rcases Bool.eq_false_or_eq_true (decide (r_4367 = 0)) with hg_4370 | hg_4370
                          · replace hV := hV.1 (of_decide_eq_true hg_4370)
                            refine WL.unguard rfl rfl hg_4370 ?_
                            refine WL.run hS rfl rfl rfl (ex_move rfl) ?_
                            refine WL.unguard rfl rfl hg_4370 ?_
                            refine WL.run hS rfl rfl rfl (ex_neq rfl rfl) ?_
                            refine WL.run hS rfl rfl rfl (ex_pick_t rfl hg_4370 rfl) ?_
                            refine WL.run hS rfl rfl rfl (ex_move rfl) ?_
                            rcases Bool.eq_false_or_eq_true (decide (left_4233 ≠ 0)) with hg_4371 | hg_4371
                            · replace hV := hV.1 (of_decide_eq_true hg_4371)
                              refine WL.unguard rfl rfl hg_4371 ?_
                              refine WL.run hS rfl rfl rfl (ex_move rfl) ?_
                              refine WL.unguard rfl rfl hg_4371 ?_
                              refine WL.run hS rfl rfl rfl (ex_move rfl) ?_
                              refine WL.unguard rfl rfl hg_4371 ?_
                              refine WL.run hS rfl rfl rfl (ex_neq rfl rfl) ?_
                              refine WL.run hS rfl rfl rfl (ex_pick_t rfl hg_4371 rfl) ?_
                              refine WL.run hS rfl rfl rfl (ex_assign rfl) ?_
                              refine WL.nil ?_
                              replace hS := hS.f2
                              replace hS := hS.f2
                              exact WQ.there fun a ha => ⟨decide (left_4233 ≠ (ix (ix clauses_3 x_3438) x_4235)), hV, hS, ha.of_sub ⟨rfl, rfl, rfl, rfl, rfl, rfl, rfl, rfl, rfl, rfl, rfl, rfl, rfl, rfl, rfl, trivial⟩⟩
                            · replace hV := hV.2 (of_decide_eq_false hg_4371)
                              refine WL.skip_g rfl rfl rfl hg_4371 rfl rfl ?_
                              refine WL.skip_g rfl rfl rfl hg_4371 rfl rfl ?_
                              refine WL.skip_g rfl rfl rfl hg_4371 rfl rfl ?_
                              refine WL.run hS rfl rfl rfl (ex_pick_f rfl hg_4371 rfl) ?_
                              refine WL.run hS rfl rfl rfl (ex_assign rfl) ?_
                              refine WL.nil ?_
                              replace hS := hS.f2
                              replace hS := hS.f2
                              exact WQ.there fun a ha => ⟨false, hV, hS, ha.of_sub ⟨rfl, rfl, rfl, rfl, rfl, rfl, rfl, rfl, rfl, rfl, rfl, rfl, rfl, rfl, rfl, trivial⟩⟩
                          · replace hV := hV.2 (of_decide_eq_false hg_4370)
                            refine WL.skip_g rfl rfl rfl hg_4370 rfl rfl ?_
                            refine WL.skip_g rfl rfl rfl hg_4370 rfl rfl ?_
                            refine WL.run hS rfl rfl rfl (ex_pick_f rfl hg_4370 rfl) ?_
                            refine WL.run hS rfl rfl rfl (ex_move rfl) ?_
                            refine WL.skip_g rfl rfl rfl rfl rfl rfl ?_
                            refine WL.skip_g rfl rfl rfl rfl rfl rfl ?_
                            refine WL.skip_g rfl rfl rfl rfl rfl rfl ?_
                            refine WL.run hS rfl rfl rfl (ex_pick_f rfl rfl rfl) ?_
                            refine WL.run hS rfl rfl rfl (ex_assign rfl) ?_
                            refine WL.nil ?_
                            replace hS := hS.f2
                            replace hS := hS.f2
                            exact WQ.there fun a ha => ⟨false, hV, hS, ha.of_sub ⟨rfl, rfl, rfl, rfl, rfl, rfl, rfl, rfl, rfl, rfl, rfl, rfl, rfl, rfl, rfl, trivial⟩⟩
                  · intro hc_4387
                    replace hV := hV.2 (of_decide_eq_false hc_4387)
                    refine WC.exit ?_
                    refine WQ.pass nofun ?_
                    refine WQ.pass nofun ?_
                    refine WQ.hit ?_
                    refine WQ.next ?_
                    refine WC.sub (m := [(0, .int .i64 n_1), (1, v_4), (8, .pointer (some ⟨b_16, 0, none⟩)), (9, .func (.func 31) #[] #[.pointer (some ⟨b_16, 0, none⟩)]), (10, .func (.func 32) #[] #[.pointer (some ⟨b_16, 0, none⟩)]), (16, .int .i64 left_4233), (38, v_4), (39, .int .i64 (clauses_3.length : Int)), (40, .int .i64 x_3438)]) ⟨rfl, rfl, rfl, rfl, rfl, rfl, rfl, rfl, rfl, trivial⟩ ?_
                    refine WC.seq ?_
                    refine WC.seq ?_
                    refine WC.region ?_
                    refine WL.run hS rfl rfl rfl (ex_move rfl) ?_
                    refine WL.run hS rfl rfl rfl (ex_eql rfl rfl) ?_
                    refine WL.nil ?_
                    refine WQ.next ?_
                    refine WC.sub (m := [(0, .int .i64 n_1), (1, v_4), (8, .pointer (some ⟨b_16, 0, none⟩)), (9, .func (.func 31) #[] #[.pointer (some ⟨b_16, 0, none⟩)]), (10, .func (.func 32) #[] #[.pointer (some ⟨b_16, 0, none⟩)]), (16, .int .i64 left_4233), (38, v_4), (39, .int .i64 (clauses_3.length : Int)), (40, .int .i64 x_3438), (76, .bool (decide (left_4233 = 0)))]) ⟨rfl, rfl, rfl, rfl, rfl, rfl, rfl, rfl, rfl, rfl, trivial⟩ ?_
                    refine WC.cond rfl ?_ ?_
                    · intro hc_4386
                      replace hV := hV.1 (of_decide_eq_true hc_4386)
                      refine WC.seq ?_
                      refine WC.region ?_
                      refine WL.run hS rfl rfl rfl (ex_assign rfl) ?_
                      refine WL.run hS rfl rfl rfl (ex_assign rfl) ?_
                      refine WL.nil ?_
                      refine WQ.next ?_
                      refine WC.sub (m := [(6, (.slice none 0 0)), (7, .bool false)]) ⟨rfl, rfl, trivial⟩ ?_
                      replace hS := hS.drop
                      replace hS := hS.drop
                      refine WC.ret ?_
                      refine WQ.pass nofun ?_
                      refine WQ.out nofun ?_
                      refine WQ.pass nofun ?_
                      refine WQ.pass nofun ?_
                      refine WQ.out nofun ?_
                      refine WQ.inScope nofun ?_
                      refine WQ.out nofun ?_
                      refine WQ.pass nofun ?_
                      refine WQ.out nofun ?_
                      refine WQ.pass nofun ?_
                      replace hS := hS.nilseg
                      exact leave2 rfl rfl rfl ⟨([] : List Int), false, (.slice none 0 0), ([] : Seg), hV, rfl, OwnSl.nil, hS⟩
                    · intro hc_4386
                      replace hV := hV.2 (of_decide_eq_false hc_4386)
                      refine WC.skip ?_
                      refine WQ.next ?_
                      refine WC.sub (m := [(0, .int .i64 n_1), (1, v_4), (8, .pointer (some ⟨b_16, 0, none⟩)), (9, .func (.func 31) #[] #[.pointer (some ⟨b_16, 0, none⟩)]), (10, .func (.func 32) #[] #[.pointer (some ⟨b_16, 0, none⟩)]), (16, .int .i64 left_4233), (38, v_4), (39, .int .i64 (clauses_3.length : Int)), (40, .int .i64 x_3438)]) ⟨rfl, rfl, rfl, rfl, rfl, rfl, rfl, rfl, rfl, trivial⟩ ?_
                      refine WC.seq ?_
                      refine WC.region ?_
                      refine WL.run hS rfl rfl rfl (ex_move rfl) ?_
                      refine WL.run hS rfl rfl rfl (ex_move rfl) ?_
                      replace hS := hS.f2
                      replace hS := hS.f2
                      refine WL.call rfl rfl rfl (enters_c (vs := [.int .i64 left_4233]) (caps := [.pointer (some ⟨b_16, 0, none⟩)]) rfl Try.call31 ⟨rfl, trivial⟩) (S_followSet  hr_4234 h_3436 hS hV) ?_
                      clear hV hS
                      rintro _ w ⟨r_4380, c_4381, v_4382, fp_4383, hV, rfl, h_4384, hS⟩
                      refine ⟨_, rfl, ?_⟩
                      refine WL.nil ?_
                      refine WQ.next ?_
                      refine WC.sub (m := [(0, .int .i64 n_1), (1, v_4), (8, .pointer (some ⟨b_16, 0, none⟩)), (9, .func (.func 31) #[] #[.pointer (some ⟨b_16, 0, none⟩)]), (10, .func (.func 32) #[] #[.pointer (some ⟨b_16, 0, none⟩)]), (38, v_4), (39, .int .i64 (clauses_3.length : Int)), (40, .int .i64 x_3438)]) ⟨rfl, rfl, rfl, rfl, rfl, rfl, rfl, rfl, trivial⟩ ?_
                      refine WC.region ?_
                      refine WL.run hS rfl rfl rfl (ex_assign rfl) ?_
                      refine WL.nil ?_
                      refine WQ.out nofun ?_
                      replace hS := hS.f2
                      replace hS := hS.f2
                      exact WQ.there fun a ha => ⟨c_4381, true, v_4382, fp_4383, hV, h_4384, hS, ha.of_sub ⟨rfl, rfl, rfl, rfl, rfl, rfl, rfl, rfl, rfl, trivial⟩⟩
            · intro hc_4390
              replace hV := hV.2 (of_decide_eq_false hc_4390)
              refine WC.exit ?_
              refine WQ.pass nofun ?_
              refine WQ.pass nofun ?_
              refine WQ.hit ?_
              refine WQ.inScope nofun ?_
              refine WQ.out nofun ?_
              replace hS := hS.f2
              replace hS := hS.f2
              exact WQ.there fun a ha => ⟨(c_3433, again_3437), ⟨c_3433, again_3437, v_3434, fp_3435, rfl, hV.1, h_3436, hS, ha.of_sub ⟨rfl, rfl, rfl, rfl, rfl, rfl, trivial⟩⟩, hV.2⟩
        · intro hc_4569
          replace hV := hV.2 hc_4569
          refine WC.exit ?_
          refine WQ.pass nofun ?_
          refine WQ.pass nofun ?_
          refine WQ.hit ?_
          refine WQ.next ?_
          refine WC.sub (m := [(0, .int .i64 n_1), (8, .pointer (some ⟨b_16, 0, none⟩))]) ⟨rfl, rfl, trivial⟩ ?_
          refine WC.seq ?_
          refine WC.region ?_
          refine WL.run hS rfl rfl rfl (ex_assign rfl) ?_
          refine WL.nil ?_
          refine WQ.next ?_
          refine WC.seq ?_
          refine WC.seq ?_
          refine WC.region ?_
          refine WL.run hS rfl rfl rfl (ex_assign rfl) ?_
          refine WL.nil ?_
          refine WQ.next ?_
          refine WC.block ?_
          replace hS := hS.nilseg
          replace hS := hS.f3
          replace hS := hS.f3
          obtain ⟨I_4510, mu_4511, hI_4568, hV⟩ := hV
          refine WC.loop (σ := (List Int) × Int) (fun s a w => ∃ (out_4449 : List Int) (v_4453 : Int) (v_4450 : Value) (fp_4451 : Seg), s = (out_4449, v_4453) ∧ I_4510 (out_4449, v_4453) ∧ OwnSl H (cInt .i64) 3 v_4450 out_4449 fp_4451 ∧ I64 v_4453 ∧ St w0 H ([(b_16, .cells #[v_1514] 31 (0, 0))] ++ (fp_1515 ++ (fp_4451 ++ L))) w ∧ Fr 101 [(0, .int .i64 n_1), (8, .pointer (some ⟨b_16, 0, none⟩)), (19, v_4450), (20, .int .i64 v_4453)] a) mu_4511 (([] : List Int), 1) ?_ ?_
          · exact fun a ha => ⟨([] : List Int), 1, (.slice none 0 0), ([] : Seg), rfl, hI_4568, OwnSl.nil, (by unfold I64; omega), hS, ha.of_sub ⟨rfl, rfl, rfl, rfl, trivial⟩⟩
          · clear hS hI_4568
            rintro _ a w ⟨out_4449, v_4453, v_4450, fp_4451, rfl, hI, h_4452, hr_4454, hS, ha⟩
            refine in_frame ha ?_
            clear ha
            replace hV := hV _ hI
            clear hI
            refine WC.seq ?_
            refine WC.seq ?_
            refine WC.region ?_
            refine WL.run hS rfl rfl rfl (ex_move rfl) ?_
            refine WL.run hS rfl rfl rfl (ex_move rfl) ?_
            refine WL.run hS rfl rfl rfl (ex_leq rfl rfl) ?_
            refine WL.nil ?_
            refine WQ.next ?_
            refine WC.sub (m := [(0, .int .i64 n_1), (8, .pointer (some ⟨b_16, 0, none⟩)), (19, v_4450), (20, .int .i64 v_4453), (83, .bool (decide (v_4453 ≤ n_1)))]) ⟨rfl, rfl, rfl, rfl, rfl, trivial⟩ ?_
            refine WC.cond rfl ?_ ?_
            · intro hc_4567
              replace hV := hV.1 (of_decide_eq_true hc_4567)
              refine WC.skip ?_
              refine WQ.next ?_
              refine WC.sub (m := [(0, .int .i64 n_1), (8, .pointer (some ⟨b_16, 0, none⟩)), (19, v_4450), (20, .int .i64 v_4453)]) ⟨rfl, rfl, rfl, rfl, trivial⟩ ?_
              obtain ⟨J_4541, hJ_4542, hV⟩ := hV
              refine WC.meet (fun a w => ∃ (out_4537 : List Int) (v_4538 : Value) (fp_4539 : Seg), J_4541 out_4537 ∧ OwnSl H (cInt .i64) 3 v_4538 out_4537 fp_4539 ∧ St w0 H ([(b_16, .cells #[v_1514] 31 (0, 0))] ++ (fp_1515 ++ (fp_4539 ++ L))) w ∧ Fr 101 [(0, .int .i64 n_1), (8, .pointer (some ⟨b_16, 0, none⟩)), (19, v_4538), (20, .int .i64 v_4453)] a) ?_ ?_
              · rintro a w ⟨out_4537, v_4538, fp_4539, hI, h_4540, hS, ha⟩
                refine in_frame ha ?_
                clear ha hV
                have hV := hJ_4542 _ hI
                clear hI hJ_4542
                refine WC.region ?_
                refine WL.run hS rfl rfl rfl (ex_move rfl) ?_
                obtain ⟨hi_4566, hV⟩ := hV
                refine WL.run hS rfl rfl rfl (ex_add rfl rfl hi_4566) ?_
                refine WL.run hS rfl rfl rfl (ex_assign rfl) ?_
                refine WL.nil ?_
                replace hS := hS.f3
                replace hS := hS.f3
                replace hS := hS.f3
                exact WQ.there fun a ha => ⟨(out_4537, (v_4453 + 1)), ⟨out_4537, (v_4453 + 1), v_4538, fp_4539, rfl, hV.1, h_4540, hi_4566, hS, ha.of_sub ⟨rfl, rfl, rfl, rfl, trivial⟩⟩, hV.2⟩
              · clear hJ_4542
                refine WC.block ?_
                refine WC.seq ?_
                refine WC.region ?_
                refine WL.run hS rfl rfl rfl (ex_load_box Try.isAgg31 rfl rfl) ?_
                refine WL.run hS rfl rfl rfl (ex_move rfl) ?_
                obtain ⟨hin_4543, hV⟩ := hV
                refine WL.runx hS rfl rfl rfl (ex_index_own Try.underlying31 Try.sizeOf3 rfl rfl h_1516 hin_4543) ?_
                intro p_4544 hp_4545
                replace hS := hS.f2
                refine WL.runx hS rfl rfl rfl (ex_load_own (w := w) hS Try.isAgg3 rfl rfl h_1516 hp_4545 hin_4543) ?_
                intro u_4546 hu_4547
                obtain ⟨rfl, hr_4548⟩ := cInt_rep hu_4547
                replace hr_4548 := has_I64 hr_4548
                replace hV := hV hr_4548
                refine WL.run hS rfl rfl rfl (ex_neq rfl rfl) ?_
                refine WL.nil ?_
                refine WQ.next ?_
                refine WC.sub (m := [(0, .int .i64 n_1), (8, .pointer (some ⟨b_16, 0, none⟩)), (19, v_4450), (20, .int .i64 v_4453), (90, .bool (decide ((ix c_1513 v_4453) ≠ 0)))]) ⟨rfl, rfl, rfl, rfl, rfl, trivial⟩ ?_
                refine WC.cond rfl ?_ ?_
                · intro hc_4565
                  replace hV := hV.1 (of_decide_eq_true hc_4565)
                  refine WC.region ?_
                  refine WL.run hS rfl rfl rfl (ex_move rfl) ?_
                  refine WL.run hS rfl rfl rfl (ex_move rfl) ?_
                  replace hS := hS.f2
                  refine WL.run hS rfl rfl rfl (ex_load_box Try.isAgg31 rfl rfl) ?_
                  refine WL.run hS rfl rfl rfl (ex_move rfl) ?_
                  obtain ⟨hin_4549, hV⟩ := hV
                  refine WL.runx hS rfl rfl rfl (ex_index_own Try.underlying31 Try.sizeOf3 rfl rfl h_1516 hin_4549) ?_
                  intro p_4550 hp_4551
                  replace hS := hS.f2
                  refine WL.runx hS rfl rfl rfl (ex_load_own (w := w) hS Try.isAgg3 rfl rfl h_1516 hp_4551 hin_4549) ?_
                  intro u_4552 hu_4553
                  obtain ⟨rfl, hr_4554⟩ := cInt_rep hu_4553
                  replace hr_4554 := has_I64 hr_4554
                  replace hV := hV hr_4554
                  obtain ⟨hi_4555, hV⟩ := hV
                  refine WL.run hS rfl rfl rfl (ex_mul rfl rfl hi_4555) ?_
                  refine WL.build1 (c := (cInt .i64)) rfl Try.underlying31 Try.info3 rfl rfl (cInt_mk (I64.has hi_4555)) hS ?_
                  clear hS
                  intro v_4557 w fp_4558 h_4559 hS
                  obtain ⟨hr_4560, hV⟩ := hV
                  replace hS := hS.f4
                  refine WL.append (c := (cInt .i64)) (xs := out_4449) (ys := ([(v_4453 * (ix c_1513 v_4453))])) rfl Try.underlying31 Try.info3 rfl rfl rfl hS h_4452 (h_4559.src hS.f2) hr_4560.1 hr_4560.2 ?_
                  clear hS
                  intro v_4561 w fp_4562 h_4563 hS
                  refine WL.run hS rfl rfl rfl (ex_assign rfl) ?_
                  refine WL.nil ?_
                  refine WQ.out nofun ?_
                  replace hS := hS.f2.drop
                  replace hS := hS.f2
                  replace hS := hS.f3
                  exact WQ.there fun a ha => ⟨(out_4449 ++ ([(v_4453 * (ix c_1513 v_4453))])), v_4561, fp_4562, hV, h_4563, hS, ha.of_sub ⟨rfl, rfl, rfl, rfl, trivial⟩⟩
                · intro hc_4565
                  replace hV := hV.2 (of_decide_eq_false hc_4565)
                  refine WC.skip ?_
                  refine WQ.out nofun ?_
                  replace hS := hS.f3
                  replace hS := hS.f2
                  replace hS := hS.f3
                  exact WQ.there fun a ha => ⟨out_4449, v_4450, fp_4451, hV, h_4452, hS, ha.of_sub ⟨rfl, rfl, rfl, rfl, trivial⟩⟩
            · intro hc_4567
              replace hV := hV.2 (of_decide_eq_false hc_4567)
              refine WC.exit ?_
              refine WQ.pass nofun ?_
              refine WQ.pass nofun ?_
              refine WQ.hit ?_
              refine WQ.next ?_
              refine WC.sub (m := [(19, v_4450)]) ⟨rfl, trivial⟩ ?_
              replace hS := hS.drop
              replace hS := hS.drop
              refine WC.seq ?_
              refine WC.region ?_
              refine WL.run hS rfl rfl rfl (ex_move rfl) ?_
              refine WL.run hS rfl rfl rfl (ex_assign rfl) ?_
              refine WL.run hS rfl rfl rfl (ex_assign rfl) ?_
              refine WL.nil ?_
              refine WQ.next ?_
              refine WC.sub (m := [(6, v_4450), (7, .bool true)]) ⟨rfl, rfl, trivial⟩ ?_
              refine WC.ret ?_
              exact leave2 rfl rfl rfl ⟨out_4449, true, v_4450, fp_4451, hV, rfl, h_4452, hS⟩

theorem S_IndexI {w0 : World} {H : View} {L : Seg} {w : World} {v_2 : Value} {s_1 : List Int} {v_4 : Int} {Q : Int → Prop} (h_3 : IsSl H (cInt .i64) v_2 s_1) (hr_5 : I64 v_4) (hS : St w0 H (L) w) (hV : V_IndexI s_1 v_4 Q) :
    Calls Try.prog 47 #[v_2, .int .i64 v_4] w fun e w' => ∃ (r1 : Int), Q r1 ∧ e = .returned (.int .i64 r1) ∧ I64 r1 ∧ St w0 H (L) w' := by
  unfold V_IndexI at hV
  refine enter Try.func47 rfl Try.ntmps47 rfl (lk_args_cons (d := 0) (v := v_2) rfl (lk_args_cons (d := 1) (v := .int .i64 v_4) rfl (lk_args_nil _))) ?_
  refine WC.seq ?_
  refine WC.region ?_
  refine WL.run hS rfl rfl rfl (ex_assign rfl) ?_
  refine WL.nil ?_
  refine WQ.next ?_
  refine WC.sub (m := [(0, v_2), (1, .int .i64 v_4)]) ⟨rfl, rfl, trivial⟩ ?_
  refine WC.seq ?_
  refine WC.seq ?_
  refine WC.region ?_
  refine WL.run hS rfl rfl rfl (ex_move rfl) ?_
  have hl_6 : Len s_1 := h_3.bound
  replace hV := hV hl_6
  refine WL.run hS rfl rfl rfl (ex_len_sl Try.underlying31 rfl h_3) ?_
  refine WL.run hS rfl rfl rfl (ex_move rfl) ?_
  refine WL.nil ?_
  refine WQ.next ?_
  refine WC.sub (m := [(0, v_2), (1, .int .i64 v_4), (7, .int .i64 (s_1.length : Int)), (8, .int .i64 0)]) ⟨rfl, rfl, rfl, rfl, trivial⟩ ?_
  refine WC.block ?_
  obtain ⟨I_27, mu_28, hI_39, hV⟩ := hV
  refine WC.loop (σ := Int) (fun s a w => ∃ (x_16 : Int), s = x_16 ∧ I_27 x_16 ∧ I64 x_16 ∧ St w0 H (L) w ∧ Fr 19 [(0, v_2), (1, .int .i64 v_4), (7, .int .i64 (s_1.length : Int)), (8, .int .i64 x_16)] a) mu_28 0 ?_ ?_
  · exact fun a ha => ⟨0, rfl, hI_39, (by unfold I64; omega), hS, ha.of_sub ⟨rfl, rfl, rfl, rfl, trivial⟩⟩
  · clear hS hI_39
    rintro x_16 a w ⟨_, rfl, hI, hr_17, hS, ha⟩
    refine in_frame ha ?_
    clear ha
    replace hV := hV _ hI
    clear hI
    refine WC.seq ?_
    refine WC.region ?_
    refine WL.run hS rfl rfl rfl (ex_lss rfl rfl) ?_
    refine WL.nil ?_
    refine WQ.next ?_
    refine WC.seq ?_
    refine WC.cond rfl ?_ ?_
    · intro hc_38
      replace hV := hV.1 (of_decide_eq_true hc_38)
      refine WC.skip ?_
      refine WQ.next ?_
      refine WC.sub (m := [(0, v_2), (1, .int .i64 v_4), (7, .int .i64 (s_1.length : Int)), (8, .int .i64 x_16)]) ⟨rfl, rfl, rfl, rfl, trivial⟩ ?_
      refine WC.seq ?_
      refine WC.block ?_
      refine WC.seq ?_
      refine WC.region ?_
      refine WL.run hS rfl rfl rfl (ex_move rfl) ?_
      refine WL.run hS rfl rfl rfl (ex_assign rfl) ?_
      refine WL.nil ?_
      refine WQ.next ?_
      refine WC.sub (m := [(0, v_2), (1, .int .i64 v_4), (5, .int .i64 x_16), (7, .int .i64 (s_1.length : Int)), (8, .int .i64 x_16)]) ⟨rfl, rfl, rfl, rfl, rfl, trivial⟩ ?_
      refine WC.seq ?_
      refine WC.region ?_
      refine WL.run hS rfl rfl rfl (ex_move rfl) ?_
      refine WL.run hS rfl rfl rfl (ex_move rfl) ?_
      refine WL.run hS rfl rfl rfl (ex_move rfl) ?_
      obtain ⟨hin_30, hV⟩ := hV
      refine WL.runx hS rfl rfl rfl (ex_index Try.underlying31 Try.sizeOf3 rfl rfl h_3 hin_30) ?_
      intro p_31 hp_32
      refine WL.runx hS rfl rfl rfl (ex_load Try.isAgg3 rfl rfl hp_32) ?_
      intro u_33 hu_34
      obtain ⟨rfl, hr_35⟩ := cInt_rep hu_34
      replace hr_35 := has_I64 hr_35
      replace hV := hV hr_35
      refine WL.run hS rfl rfl rfl (ex_eql rfl rfl) ?_
      refine WL.nil ?_
      refine WQ.next ?_
      refine WC.sub (m := [(0, v_2), (1, .int .i64 v_4), (5, .int .i64 x_16), (7, .int .i64 (s_1.length : Int)), (8, .int .i64 x_16), (16, .bool (decide (v_4 = (ix s_1 x_16))))]) ⟨rfl, rfl, rfl, rfl, rfl, rfl, trivial⟩ ?_
      refine WC.cond rfl ?_ ?_
      · intro hc_37
        replace hV := hV.1 (of_decide_eq_true hc_37)
        refine WC.seq ?_
        refine WC.region ?_
        refine WL.run hS rfl rfl rfl (ex_move rfl) ?_
        refine WL.run hS rfl rfl rfl (ex_assign rfl) ?_
        refine WL.nil ?_
        refine WQ.next ?_
        refine WC.sub (m := [(4, .int .i64 x_16)]) ⟨rfl, trivial⟩ ?_
        refine WC.ret ?_
        refine WQ.out nofun ?_
        refine WQ.pass nofun ?_
        refine WQ.pass nofun ?_
        refine WQ.out nofun ?_
        refine WQ.pass nofun ?_
        exact leave1 rfl rfl ⟨x_16, hV, rfl, hr_17, hS⟩
      · intro hc_37
        replace hV := hV.2 (of_decide_eq_false hc_37)
        refine WC.skip ?_
        refine WQ.out nofun ?_
        refine WQ.next ?_
        refine WC.sub (m := [(0, v_2), (1, .int .i64 v_4), (7, .int .i64 (s_1.length : Int)), (8, .int .i64 x_16)]) ⟨rfl, rfl, rfl, rfl, trivial⟩ ?_
        refine WC.region ?_
        obtain ⟨hi_36, hV⟩ := hV
        refine WL.run hS rfl rfl rfl (ex_add rfl rfl hi_36) ?_
        refine WL.run hS rfl rfl rfl (ex_move rfl) ?_
        refine WL.nil ?_
        exact WQ.there fun a ha => ⟨(x_16 + 1), ⟨(x_16 + 1), rfl, hV.1, hi_36, hS, ha.of_sub ⟨rfl, rfl, rfl, rfl, trivial⟩⟩, hV.2⟩
    · intro hc_38
      replace hV := hV.2 (of_decide_eq_false hc_38)
      refine WC.exit ?_
      refine WQ.pass nofun ?_
      refine WQ.pass nofun ?_
      refine WQ.hit ?_
      refine WQ.next ?_
      refine WC.sub (m := []) trivial ?_
      refine WC.seq ?_
      refine WC.region ?_
      refine WL.run hS rfl rfl rfl (ex_assign rfl) ?_
      refine WL.nil ?_
      refine WQ.next ?_
      refine WC.ret ?_
      exact leave1 rfl rfl ⟨(-1), hV, rfl, (by unfold I64; omega), hS⟩

theorem S_ContainsI {w0 : World} {H : View} {L : Seg} {w : World} {v_2 : Value} {s_1 : List Int} {v_4 : Int} {Q : Bool → Prop} (h_3 : IsSl H (cInt .i64) v_2 s_1) (hr_5 : I64 v_4) (hS : St w0 H (L) w) (hV : V_ContainsI s_1 v_4 Q) :
    Calls Try.prog 43 #[v_2, .int .i64 v_4] w fun e w' => ∃ (r1 : Bool), Q r1 ∧ e = .returned (.bool r1) ∧ St w0 H (L) w' := by
  unfold V_ContainsI at hV
  refine enter Try.func43 rfl Try.ntmps43 rfl (lk_args_cons (d := 0) (v := v_2) rfl (lk_args_cons (d := 1) (v := .int .i64 v_4) rfl (lk_args_nil _))) ?_
  refine WC.seq ?_
  refine WC.region ?_
  refine WL.run hS rfl rfl rfl (ex_assign rfl) ?_
  refine WL.nil ?_
  refine WQ.next ?_
  refine WC.sub (m := [(0, v_2), (1, .int .i64 v_4)]) ⟨rfl, rfl, trivial⟩ ?_
  refine WC.seq ?_
  refine WC.region ?_
  refine WL.run hS rfl rfl rfl (ex_move rfl) ?_
  refine WL.run hS rfl rfl rfl (ex_move rfl) ?_
  refine WL.call rfl rfl rfl (enters0 (vs := [v_2, .int .i64 v_4]) Try.call47 ⟨rfl, rfl, trivial⟩) (S_IndexI  h_3 hr_5 hS hV) ?_
  clear hV hS
  rintro _ w ⟨r_6, hV, rfl, hr_7, hS⟩
  refine ⟨_, rfl, ?_⟩
  refine WL.run hS rfl rfl rfl (ex_geq rfl rfl) ?_
  refine WL.run hS rfl rfl rfl (ex_assign rfl) ?_
  refine WL.nil ?_
  refine WQ.next ?_
  refine WC.sub (m := [(4, .bool (decide (0 ≤ r_6)))]) ⟨rfl, trivial⟩ ?_
  refine WC.ret ?_
  exact leave1 rfl rfl ⟨decide (0 ≤ r_6), hV, rfl, hS⟩

theorem S_EqualI {w0 : World} {H : View} {L : Seg} {w : World} {v_2 : Value} {s1_1 : List Int} {v_5 : Value} {s2_4 : List Int} {Q : Bool → Prop} (h_3 : IsSl H (cInt .i64) v_2 s1_1) (h_6 : IsSl H (cInt .i64) v_5 s2_4) (hS : St w0 H (L) w) (hV : V_EqualI s1_1 s2_4 Q) :
    Calls Try.prog 30 #[v_2, v_5] w fun e w' => ∃ (r1 : Bool), Q r1 ∧ e = .returned (.bool r1) ∧ St w0 H (L) w' := by
  unfold V_EqualI at hV
  refine enter Try.func30 rfl Try.ntmps30 rfl (lk_args_cons (d := 0) (v := v_2) rfl (lk_args_cons (d := 1) (v := v_5) rfl (lk_args_nil _))) ?_
  refine WC.seq ?_
  refine WC.region ?_
  refine WL.run hS rfl rfl rfl (ex_assign rfl) ?_
  refine WL.nil ?_
  refine WQ.next ?_
  refine WC.sub (m := [(0, v_2), (1, v_5)]) ⟨rfl, rfl, trivial⟩ ?_
  refine WC.seq ?_
  refine WC.seq ?_
  refine WC.region ?_
  refine WL.run hS rfl rfl rfl (ex_move rfl) ?_
  have hl_7 : Len s1_1 := h_3.bound
  replace hV := hV hl_7
  refine WL.run hS rfl rfl rfl (ex_len_sl Try.underlying31 rfl h_3) ?_
  refine WL.run hS rfl rfl rfl (ex_move rfl) ?_
  have hl_8 : Len s2_4 := h_6.bound
  replace hV := hV hl_8
  refine WL.run hS rfl rfl rfl (ex_len_sl Try.underlying31 rfl h_6) ?_
  refine WL.run hS rfl rfl rfl (ex_neq rfl rfl) ?_
  refine WL.nil ?_
  refine WQ.next ?_
  refine WC.sub (m := [(0, v_2), (1, v_5), (10, .bool (decide ((s1_1.length : Int) ≠ (s2_4.length : Int))))]) ⟨rfl, rfl, rfl, trivial⟩ ?_
  refine WC.cond rfl ?_ ?_
  · intro hc_61
    replace hV := hV.1 (of_decide_eq_true hc_61)
    refine WC.seq ?_
    refine WC.region ?_
    refine WL.run hS rfl rfl rfl (ex_assign rfl) ?_
    refine WL.nil ?_
    refine WQ.next ?_
    refine WC.sub (m := [(4, .bool false)]) ⟨rfl, trivial⟩ ?_
    refine WC.ret ?_
    refine WQ.pass nofun ?_
    exact leave1 rfl rfl ⟨false, hV, rfl, hS⟩
  · intro hc_61
    replace hV := hV.2 (of_decide_eq_false hc_61)
    refine WC.skip ?_
    refine WQ.next ?_
    refine WC.sub (m := [(0, v_2), (1, v_5)]) ⟨rfl, rfl, trivial⟩ ?_
    refine WC.seq ?_
    refine WC.seq ?_
    refine WC.region ?_
    refine WL.run hS rfl rfl rfl (ex_move rfl) ?_
    have hl_9 : Len s1_1 := h_3.bound
    replace hV := hV hl_9
    refine WL.run hS rfl rfl rfl (ex_len_sl Try.underlying31 rfl h_3) ?_
    refine WL.run hS rfl rfl rfl (ex_move rfl) ?_
    refine WL.nil ?_
    refine WQ.next ?_
    refine WC.sub (m := [(0, v_2), (1, v_5), (12, .int .i64 (s1_1.length : Int)), (13, .int .i64 0)]) ⟨rfl, rfl, rfl, rfl, trivial⟩ ?_
    refine WC.block ?_
    obtain ⟨I_42, mu_43, hI_60, hV⟩ := hV
    refine WC.loop (σ := Int) (fun s a w => ∃ (x_25 : Int), s = x_25 ∧ I_42 x_25 ∧ I64 x_25 ∧ St w0 H (L) w ∧ Fr 26 [(0, v_2), (1, v_5), (12, .int .i64 (s1_1.length : Int)), (13, .int .i64 x_25)] a) mu_43 0 ?_ ?_
    · exact fun a ha => ⟨0, rfl, hI_60, (by unfold I64; omega), hS, ha.of_sub ⟨rfl, rfl, rfl, rfl, trivial⟩⟩
    · clear hS hI_60
      rintro x_25 a w ⟨_, rfl, hI, hr_26, hS, ha⟩
      refine in_frame ha ?_
      clear ha
      replace hV := hV _ hI
      clear hI
      refine WC.seq ?_
      refine WC.region ?_
      refine WL.run hS rfl rfl rfl (ex_lss rfl rfl) ?_
      refine WL.nil ?_
      refine WQ.next ?_
      refine WC.seq ?_
      refine WC.cond rfl ?_ ?_
      · intro hc_59
        replace hV := hV.1 (of_decide_eq_true hc_59)
        refine WC.skip ?_
        refine WQ.next ?_
        refine WC.sub (m := [(0, v_2), (1, v_5), (12, .int .i64 (s1_1.length : Int)), (13, .int .i64 x_25)]) ⟨rfl, rfl, rfl, rfl, trivial⟩ ?_
        refine WC.seq ?_
        refine WC.block ?_
        refine WC.seq ?_
        refine WC.region ?_
        refine WL.run hS rfl rfl rfl (ex_move rfl) ?_
        refine WL.run hS rfl rfl rfl (ex_assign rfl) ?_
        refine WL.nil ?_
        refine WQ.next ?_
        refine WC.sub (m := [(0, v_2), (1, v_5), (5, .int .i64 x_25), (12, .int .i64 (s1_1.length : Int)), (13, .int .i64 x_25)]) ⟨rfl, rfl, rfl, rfl, rfl, trivial⟩ ?_
        refine WC.seq ?_
        refine WC.quiet (C := St w0 H (L)) Try.mixed (by kernel_rfl) (hS.drawn _) ?_
        clear hS w
        refine Wq.run rfl rfl rfl (ex_move rfl) ?_
        refine Wq.run rfl rfl rfl (ex_move rfl) ?_
        obtain ⟨hin_45, hV⟩ := hV
        refine Wq.runx rfl rfl rfl (ex_index Try.underlying31 Try.sizeOf3 rfl rfl h_3 hin_45) ?_
        intro p_46 hp_47
        refine Wq.runx rfl rfl rfl (ex_load Try.isAgg3 rfl rfl hp_47) ?_
        intro u_48 hu_49
        obtain ⟨rfl, hr_50⟩ := cInt_rep hu_49
        replace hr_50 := has_I64 hr_50
        replace hV := hV hr_50
        refine Wq.run rfl rfl rfl (ex_move rfl) ?_
        refine Wq.run rfl rfl rfl (ex_move rfl) ?_
        obtain ⟨hin_51, hV⟩ := hV
        refine Wq.runx rfl rfl rfl (ex_index Try.underlying31 Try.sizeOf3 rfl rfl h_6 hin_51) ?_
        intro p_52 hp_53
        refine Wq.runx rfl rfl rfl (ex_load Try.isAgg3 rfl rfl hp_53) ?_
        intro u_54 hu_55
        obtain ⟨rfl, hr_56⟩ := cInt_rep hu_55
        replace hr_56 := has_I64 hr_56
        replace hV := hV hr_56
        refine Wq.run rfl rfl rfl (ex_neq rfl rfl) ?_
        refine Wq.nil fun w hS => ?_
        refine WQ.next ?_
        refine WC.sub (m := [(0, v_2), (1, v_5), (12, .int .i64 (s1_1.length : Int)), (13, .int .i64 x_25), (24, .bool (decide ((ix s1_1 x_25) ≠ (ix s2_4 x_25))))]) ⟨rfl, rfl, rfl, rfl, rfl, trivial⟩ ?_
        refine WC.cond rfl ?_ ?_
        · intro hc_58
          replace hV := hV.1 (of_decide_eq_true hc_58)
          refine WC.seq ?_
          refine WC.region ?_
          refine WL.run hS rfl rfl rfl (ex_assign rfl) ?_
          refine WL.nil ?_
          refine WQ.next ?_
          refine WC.sub (m := [(4, .bool false)]) ⟨rfl, trivial⟩ ?_
          refine WC.ret ?_
          refine WQ.out nofun ?_
          refine WQ.pass nofun ?_
          refine WQ.pass nofun ?_
          refine WQ.out nofun ?_
          refine WQ.pass nofun ?_
          exact leave1 rfl rfl ⟨false, hV, rfl, hS⟩
        · intro hc_58
          replace hV := hV.2 (of_decide_eq_false hc_58)
          refine WC.skip ?_
          refine WQ.out nofun ?_
          refine WQ.next ?_
          refine WC.sub (m := [(0, v_2), (1, v_5), (12, .int .i64 (s1_1.length : Int)), (13, .int .i64 x_25)]) ⟨rfl, rfl, rfl, rfl, trivial⟩ ?_
          refine WC.region ?_
          obtain ⟨hi_57, hV⟩ := hV
          refine WL.run hS rfl rfl rfl (ex_add rfl rfl hi_57) ?_
          refine WL.run hS rfl rfl rfl (ex_move rfl) ?_
          refine WL.nil ?_
          exact WQ.there fun a ha => ⟨(x_25 + 1), ⟨(x_25 + 1), rfl, hV.1, hi_57, hS, ha.of_sub ⟨rfl, rfl, rfl, rfl, trivial⟩⟩, hV.2⟩
      · intro hc_59
        replace hV := hV.2 (of_decide_eq_false hc_59)
        refine WC.exit ?_
        refine WQ.pass nofun ?_
        refine WQ.pass nofun ?_
        refine WQ.hit ?_
        refine WQ.next ?_
        refine WC.sub (m := []) trivial ?_
        refine WC.seq ?_
        refine WC.region ?_
        refine WL.run hS rfl rfl rfl (ex_assign rfl) ?_
        refine WL.nil ?_
        refine WQ.next ?_
        refine WC.ret ?_
        exact leave1 rfl rfl ⟨true, hV, rfl, hS⟩

theorem S_tidy1 {w0 : World} {H : View} {L : Seg} {w : World} {l_1 : Int} {b_4 : Nat} {v_7 : Value} {c_3_6 : List Int} {Q : Bool → Prop} (hr_2 : I64 l_1) (h_8 : IsSl H (cInt .i64) v_7 c_3_6) (hS : St w0 H ([(b_4, .cells #[v_7] 31 (0, 0))] ++ L) w) (hV : V_tidy1 l_1 c_3_6 Q) :
    Calls Try.prog 42 #[.int .i64 l_1, .pointer (some ⟨b_4, 0, none⟩)] w fun e w' => ∃ (r1 : Bool), Q r1 ∧ e = .returned (.bool r1) ∧ St w0 H ([(b_4, .cells #[v_7] 31 (0, 0))] ++ L) w' := by
  unfold V_tidy1 at hV
  refine enter Try.func42 rfl Try.ntmps42 rfl (lk_args_cons (d := 0) (v := .int .i64 l_1) rfl (lk_args_cons (d := 1) (v := .pointer (some ⟨b_4, 0, none⟩)) rfl (lk_args_nil _))) ?_
  refine WC.seq ?_
  refine WC.region ?_
  refine WL.run hS rfl rfl rfl (ex_assign rfl) ?_
  refine WL.nil ?_
  refine WQ.next ?_
  refine WC.sub (m := [(0, .int .i64 l_1), (1, .pointer (some ⟨b_4, 0, none⟩))]) ⟨rfl, rfl, trivial⟩ ?_
  refine WC.seq ?_
  refine WC.region ?_
  refine WL.run hS rfl rfl rfl (ex_load_box Try.isAgg31 rfl rfl) ?_
  refine WL.run hS rfl rfl rfl (ex_move rfl) ?_
  obtain ⟨hi_9, hV⟩ := hV
  refine WL.run hS rfl rfl rfl (ex_neg rfl hi_9) ?_
  refine WL.call rfl rfl rfl (enters0 (vs := [v_7, .int .i64 (-l_1)]) Try.call43 ⟨rfl, rfl, trivial⟩) (S_ContainsI  h_8 hi_9 hS hV) ?_
  clear hV hS
  rintro _ w ⟨r_10, hV, rfl, hS⟩
  refine ⟨_, rfl, ?_⟩
  refine WL.run hS rfl rfl rfl (ex_assign rfl) ?_
  refine WL.nil ?_
  refine WQ.next ?_
  refine WC.sub (m := [(3, .bool r_10)]) ⟨rfl, trivial⟩ ?_
  refine WC.ret ?_
  exact leave1 rfl rfl ⟨r_10, hV, rfl, hS⟩

theorem S_tidy {w0 : World} {H : View} {L : Seg} {w : World} {v_2 : Value} {c_1 : List Int} {Q : (List Int) → Bool → Prop} (h_3 : IsSl H (cInt .i64) v_2 c_1) (hS : St w0 H (L) w) (hV : V_tidy c_1 Q) :
    Calls Try.prog 29 #[v_2] w fun e w' => ∃ (r1 : List Int) (r2 : Bool) (v1 : Value) (fp1 : Seg), Q r1 r2 ∧ e = .returned (.tuple #[v1, .bool r2]) ∧ OwnSl H (cInt .i64) 3 v1 r1 fp1 ∧ St w0 H (fp1 ++ L) w' := by
  unfold V_tidy at hV
  refine enter Try.func29 rfl Try.ntmps29 rfl (lk_args_cons (d := 0) (v := v_2) rfl (lk_args_nil _)) ?_
  refine WC.seq ?_
  refine WC.region ?_
  refine WL.run hS rfl rfl rfl (ex_assign rfl) ?_
  refine WL.run hS rfl rfl rfl (ex_assign rfl) ?_
  refine WL.nil ?_
  refine WQ.next ?_
  refine WC.sub (m := [(0, v_2)]) ⟨rfl, trivial⟩ ?_
  refine WC.seq ?_
  refine WC.region ?_
  refine WL.run hS rfl rfl rfl (ex_move rfl) ?_
  refine WL.call rfl rfl rfl (enters0 (vs := [v_2]) Try.call39 ⟨rfl, trivial⟩) (S_CloneI  h_3 hS hV) ?_
  clear hV hS
  rintro _ w ⟨r_5, v_6, fp_7, hV, rfl, h_8, hS⟩
  refine ⟨_, rfl, ?_⟩
  refine WL.alloc (arr := #[(.slice none 0 0)]) rfl Try.zeroValue31 rfl hS ?_
  clear hS
  intro b_11 w hS
  refine WL.store_box (pre := []) (old := [(.slice none 0 0)]) (rst := []) (cs := [v_6]) (arr' := #[v_6]) Try.sizeOf31 rfl rfl (congrArg Array.toList (cells_one (OwnSl.one h_8))) ⟨(OwnSl.one h_8), trivial⟩ rfl rfl rfl rfl hS ?_
  clear hS
  intro w hS
  refine WL.nil ?_
  refine WQ.next ?_
  refine WC.sub (m := [(4, .pointer (some ⟨b_11, 0, none⟩))]) ⟨rfl, trivial⟩ ?_
  refine WC.seq ?_
  refine WC.region ?_
  refine WL.run hS rfl rfl rfl (ex_load_box Try.isAgg31 rfl rfl) ?_
  replace hS := hS.f2
  refine WL.call rfl rfl rfl (enters0 (vs := [v_6]) Try.call40 ⟨rfl, trivial⟩) (S_SortI  h_8 hS hV) ?_
  clear hV hS
  rintro _ w ⟨c_14, fp_15, hV, rfl, h_16, hS⟩
  refine ⟨_, rfl, ?_⟩
  refine WL.nil ?_
  refine WQ.next ?_
  refine WC.sub (m := [(4, .pointer (some ⟨b_11, 0, none⟩))]) ⟨rfl, trivial⟩ ?_
  refine WC.seq ?_
  refine WC.region ?_
  replace hS := hS.f2
  refine WL.run hS rfl rfl rfl (ex_load_box Try.isAgg31 rfl rfl) ?_
  replace hS := hS.f2
  refine WL.call rfl rfl rfl (enters0 (vs := [v_6]) Try.call41 ⟨rfl, trivial⟩) (S_CompactI  h_16 hS hV) ?_
  clear hV hS
  rintro _ w ⟨r_18, v_19, fp_20, hV, rfl, h_21, hS⟩
  refine ⟨_, rfl, ?_⟩
  replace hS := hS.f2
  refine WL.store_box (pre := []) (old := [v_6]) (rst := []) (cs := [v_19]) (arr' := #[v_19]) Try.sizeOf31 rfl rfl (congrArg Array.toList (cells_one (OwnSl.one h_21))) ⟨(OwnSl.one h_21), trivial⟩ rfl rfl rfl rfl hS ?_
  clear hS
  intro w hS
  refine WL.nil ?_
  refine WQ.next ?_
  refine WC.sub (m := [(4, .pointer (some ⟨b_11, 0, none⟩))]) ⟨rfl, trivial⟩ ?_
  refine WC.seq ?_
  replace hS := hS.f2
  have hL_24 := hS.freeze
  have le_25 := hS.put_le
  refine WC.quiet (C := St w0 (H.put fp_20) ([(b_11, .cells #[v_19] 31 (0, 0))] ++ L)) Try.mixed (by kernel_rfl) (hL_24.drawn _) ?_
  have hS0 := hS
  clear hS
  refine Wq.run rfl rfl rfl (ex_load_box Try.isAgg31 rfl rfl) ?_
  refine Wq.run rfl rfl rfl (ex_load_box Try.isAgg31 rfl rfl) ?_
  refine Wq.run rfl rfl rfl (ex_makeFunc (vs := [.pointer (some ⟨b_11, 0, none⟩)]) ⟨rfl, trivial⟩) ?_
  obtain ⟨r_26, h_27, hV⟩ := hV
  refine Wq.call (v := .bool r_26) rfl rfl rfl (fun w => enters0 (vs := [v_19, .func (.func 42) #[] #[.pointer (some ⟨b_11, 0, none⟩)]]) Try.call27 ⟨rfl, rfl, trivial⟩) (fun w hS => (S_ContainsFuncI (Q := fun y0 => y0 = r_26) (fc1 := 42) (caps1 := [.pointer (some ⟨b_11, 0, none⟩)]) (fpc1 := ([(b_11, .cells #[v_19] 31 (0, 0))])) (G1 := (fun x1 K => V_tidy1 x1 r_18 K)) (h_21.share le_25) Try.call42 (fun hle hx1 hSx hVx => S_tidy1 hx1 ((h_21.share le_25).mono hle) hSx hVx) hS h_27).mono ?_) ?_
  · rintro e w' ⟨_, rfl, he, hS⟩
    exact ⟨he, hS⟩
  refine Wq.run rfl rfl rfl (ex_not rfl) ?_
  refine Wq.run rfl rfl rfl (ex_assign rfl) ?_
  refine Wq.run rfl rfl rfl (ex_assign rfl) ?_
  refine Wq.nil fun w hS => ?_
  have hB_29 := hS0.back hS
  clear hS
  have hS := hB_29
  clear hS0
  refine WQ.next ?_
  refine WC.sub (m := [(2, v_19), (3, .bool (!r_26))]) ⟨rfl, rfl, trivial⟩ ?_
  replace hS := hS.f2.drop
  refine WC.ret ?_
  exact leave2 rfl rfl rfl ⟨r_18, (!r_26), v_19, fp_20, hV, rfl, h_21, hS⟩

theorem S_alike {w0 : World} {H : View} {L : Seg} {w : World} {v_2 : Value} {a_1 : List Int} {v_5 : Value} {b_4 : List Int} {Q : Bool → Prop} (h_3 : IsSl H (cInt .i64) v_2 a_1) (h_6 : IsSl H (cInt .i64) v_5 b_4) (hS : St w0 H (L) w) (hV : V_alike a_1 b_4 Q) :
    Calls Try.prog 16 #[v_2, v_5] w fun e w' => ∃ (r1 : Bool), Q r1 ∧ e = .returned (.bool r1) ∧ St w0 H (L) w' := by
  unfold V_alike at hV
  refine enter Try.func16 rfl Try.ntmps16 rfl (lk_args_cons (d := 0) (v := v_2) rfl (lk_args_cons (d := 1) (v := v_5) rfl (lk_args_nil _))) ?_
  refine WC.seq ?_
  refine WC.region ?_
  refine WL.run hS rfl rfl rfl (ex_assign rfl) ?_
  refine WL.nil ?_
  refine WQ.next ?_
  refine WC.sub (m := [(0, v_2), (1, v_5)]) ⟨rfl, rfl, trivial⟩ ?_
  refine WC.seq ?_
  refine WC.region ?_
  refine WL.run hS rfl rfl rfl (ex_move rfl) ?_
  refine WL.call rfl rfl rfl (enters0 (vs := [v_2]) Try.call29 ⟨rfl, trivial⟩) (S_tidy  h_3 hS hV) ?_
  clear hV hS
  rintro _ w ⟨r_7, r_12, v_8, fp_9, hV, rfl, h_10, hS⟩
  refine ⟨_, rfl, ?_⟩
  refine WL.run hS rfl rfl rfl (ex_move rfl) ?_
  refine WL.run hS rfl rfl rfl (ex_extract rfl rfl) ?_
  refine WL.run hS rfl rfl rfl (ex_extract rfl rfl) ?_
  refine WL.run hS rfl rfl rfl (ex_assign rfl) ?_
  refine WL.run hS rfl rfl rfl (ex_assign rfl) ?_
  refine WL.nil ?_
  refine WQ.next ?_
  refine WC.sub (m := [(1, v_5), (5, v_8)]) ⟨rfl, rfl, trivial⟩ ?_
  refine WC.seq ?_
  refine WC.region ?_
  refine WL.run hS rfl rfl rfl (ex_move rfl) ?_
  refine WL.call rfl rfl rfl (enters0 (vs := [v_5]) Try.call29 ⟨rfl, trivial⟩) (S_tidy  h_6 hS hV) ?_
  clear hV hS
  rintro _ w ⟨r_14, r_19, v_15, fp_16, hV, rfl, h_17, hS⟩
  refine ⟨_, rfl, ?_⟩
  refine WL.run hS rfl rfl rfl (ex_move rfl) ?_
  refine WL.run hS rfl rfl rfl (ex_extract rfl rfl) ?_
  refine WL.run hS rfl rfl rfl (ex_extract rfl rfl) ?_
  refine WL.run hS rfl rfl rfl (ex_assign rfl) ?_
  refine WL.run hS rfl rfl rfl (ex_assign rfl) ?_
  refine WL.nil ?_
  refine WQ.next ?_
  refine WC.sub (m := [(5, v_8), (7, v_15)]) ⟨rfl, rfl, trivial⟩ ?_
  refine WC.seq ?_
  refine WC.region ?_
  refine WL.run hS rfl rfl rfl (ex_move rfl) ?_
  refine WL.run hS rfl rfl rfl (ex_move rfl) ?_
  replace hS := hS.f2
  have hL_21 := hS.freeze
  have hL_22 := hL_21.freeze
  refine WL.call rfl rfl rfl (enters0 (vs := [v_8, v_15]) Try.call30 ⟨rfl, rfl, trivial⟩) (S_EqualI  ((h_10.share hS.put_le).mono hL_21.put_le) ((h_17.mono hS.put_le).share hL_21.put_le) hL_22 hV) ?_
  clear hV
  rintro _ w ⟨r_23, hV, rfl, hL_24⟩
  refine ⟨_, rfl, ?_⟩
  have hB_26 := hL_21.back hL_24
  have hB_27 := hS.back hB_26
  clear hS
  have hS := hB_27
  refine WL.run hS rfl rfl rfl (ex_assign rfl) ?_
  refine WL.nil ?_
  refine WQ.next ?_
  refine WC.sub (m := [(4, .bool r_23)]) ⟨rfl, trivial⟩ ?_
  replace hS := hS.drop
  replace hS := hS.drop
  refine WC.ret ?_
  exact leave1 rfl rfl ⟨r_23, hV, rfl, hS⟩

theorem S_Checked1 {w0 : World} {H : View} {L : Seg} {w : World} {v_2 : Value} {c_1 : List Int} {b_5 : Nat} {c_4_7 : Bool} {v_9 : Value} {c_4_8 : List Int} {Q : Bool → Prop} (h_3 : IsSl H (cInt .i64) v_2 c_1) (h_10 : IsSl H (cInt .i64) v_9 c_4_8) (hS : St w0 H ([(b_5, .cells #[.bool c_4_7, v_9] 36 (0, 0))] ++ L) w) (hV : V_Checked1 c_1 c_4_7 c_4_8 Q) :
    Calls Try.prog 15 #[v_2, .pointer (some ⟨b_5, 0, none⟩)] w fun e w' => ∃ (r1 : Bool), Q r1 ∧ e = .returned (.bool r1) ∧ St w0 H ([(b_5, .cells #[.bool c_4_7, v_9] 36 (0, 0))] ++ L) w' := by
  unfold V_Checked1 at hV
  refine enter Try.func15 rfl Try.ntmps15 rfl (lk_args_cons (d := 0) (v := v_2) rfl (lk_args_cons (d := 1) (v := .pointer (some ⟨b_5, 0, none⟩)) rfl (lk_args_nil _))) ?_
  refine WC.seq ?_
  refine WC.region ?_
  refine WL.run hS rfl rfl rfl (ex_assign rfl) ?_
  refine WL.nil ?_
  refine WQ.next ?_
  refine WC.sub (m := [(0, v_2), (1, .pointer (some ⟨b_5, 0, none⟩))]) ⟨rfl, rfl, trivial⟩ ?_
  refine WC.seq ?_
  refine WC.region ?_
  refine WL.run hS rfl rfl rfl (ex_move rfl) ?_
  refine WL.run hS rfl rfl rfl (ex_fieldAddr (o' := 1) Try.underlying36 rfl Try.sizeOf31 rfl rfl) ?_
  refine WL.run hS rfl rfl rfl (ex_load_box Try.isAgg31 rfl rfl) ?_
  refine WL.call rfl rfl rfl (enters0 (vs := [v_2, v_9]) Try.call16 ⟨rfl, rfl, trivial⟩) (S_alike  h_3 h_10 hS hV) ?_
  clear hV hS
  rintro _ w ⟨r_11, hV, rfl, hS⟩
  refine ⟨_, rfl, ?_⟩
  refine WL.run hS rfl rfl rfl (ex_assign rfl) ?_
  refine WL.nil ?_
  refine WQ.next ?_
  refine WC.sub (m := [(3, .bool r_11)]) ⟨rfl, trivial⟩ ?_
  refine WC.ret ?_
  exact leave1 rfl rfl ⟨r_11, hV, rfl, hS⟩

theorem S_Checked {w0 : World} {H : View} {L : Seg} {w : World} {n_1 : Int} {v_4 : Value} {clauses_3 : List (List Int)} {v_7 : Value} {proof_6 : List (Bool × List Int)} {Q : Bool → Prop} (hr_2 : I64 n_1) (h_5 : IsSl H (cSl (cInt .i64)) v_4 clauses_3) (h_8 : IsSl H (cPair cBool (cSl (cInt .i64))) v_7 proof_6) (hS : St w0 H (L) w) (hV : V_Checked n_1 clauses_3 proof_6 Q) :
    Calls Try.prog 6 #[.int .i64 n_1, v_4, v_7] w fun e w' => ∃ (r1 : Bool), Q r1 ∧ e = .returned (.bool r1) ∧ St w0 H (L) w' := by
  unfold V_Checked at hV
  refine enter Try.func6 rfl Try.ntmps6 rfl (lk_args_cons (d := 0) (v := .int .i64 n_1) rfl (lk_args_cons (d := 1) (v := v_4) rfl (lk_args_cons (d := 2) (v := v_7) rfl (lk_args_nil _)))) ?_
  refine WC.seq ?_
  refine WC.region ?_
  refine WL.run hS rfl rfl rfl (ex_assign rfl) ?_
  refine WL.nil ?_
  refine WQ.next ?_
  refine WC.sub (m := [(0, .int .i64 n_1), (1, v_4), (2, v_7)]) ⟨rfl, rfl, rfl, trivial⟩ ?_
  refine WC.seq ?_
  refine WC.seq ?_
  refine WC.region ?_
  refine WL.run hS rfl rfl rfl (ex_move rfl) ?_
  refine WL.run hS rfl rfl rfl (ex_move rfl) ?_
  refine WL.call rfl rfl rfl (enters0 (vs := [.int .i64 n_1, v_4, (.slice none 0 0)]) Try.call11 ⟨rfl, rfl, rfl, trivial⟩) (S_checked  hr_2 h_5 IsSl.nil hS hV) ?_
  clear hV hS
  rintro _ w ⟨r_10, hV, rfl, hS⟩
  refine ⟨_, rfl, ?_⟩
  refine WL.run hS rfl rfl rfl (ex_err_neq (T := 47) (e := r_10) Try.iface33 rfl rfl) ?_
  refine WL.nil ?_
  refine WQ.next ?_
  refine WC.sub (m := [(0, .int .i64 n_1), (1, v_4), (2, v_7), (20, .bool (decide (r_10 ≠ none)))]) ⟨rfl, rfl, rfl, rfl, trivial⟩ ?_
  refine WC.cond rfl ?_ ?_
  · intro hc_905
    replace hV := hV.1 (of_decide_eq_true hc_905)
    refine WC.seq ?_
    refine WC.region ?_
    refine WL.run hS rfl rfl rfl (ex_assign rfl) ?_
    refine WL.nil ?_
    refine WQ.next ?_
    refine WC.sub (m := [(6, .bool false)]) ⟨rfl, trivial⟩ ?_
    refine WC.ret ?_
    refine WQ.pass nofun ?_
    exact leave1 rfl rfl ⟨false, hV, rfl, hS⟩
  · intro hc_905
    replace hV := hV.2 (of_decide_eq_false hc_905)
    refine WC.skip ?_
    refine WQ.next ?_
    refine WC.sub (m := [(0, .int .i64 n_1), (1, v_4), (2, v_7)]) ⟨rfl, rfl, rfl, trivial⟩ ?_
    refine WC.seq ?_
    refine WC.region ?_
    refine WL.run hS rfl rfl rfl (ex_move rfl) ?_
    refine WL.call rfl rfl rfl (enters0 (vs := [v_4]) Try.call12 ⟨rfl, trivial⟩) (S_CloneL  h_5 hS hV) ?_
    clear hV hS
    rintro _ w ⟨r_12, v_13, fp_14, hV, rfl, h_15, hS⟩
    refine ⟨_, rfl, ?_⟩
    refine WL.run hS rfl rfl rfl (ex_assign rfl) ?_
    refine WL.nil ?_
    refine WQ.next ?_
    refine WC.sub (m := [(0, .int .i64 n_1), (2, v_7), (7, v_13)]) ⟨rfl, rfl, rfl, trivial⟩ ?_
    refine WC.seq ?_
    refine WC.region ?_
    refine WL.run hS rfl rfl rfl (ex_assign rfl) ?_
    refine WL.nil ?_
    refine WQ.next ?_
    refine WC.seq ?_
    refine WC.seq ?_
    refine WC.region ?_
    refine WL.run hS rfl rfl rfl (ex_move rfl) ?_
    have hl_18 : Len proof_6 := h_8.bound
    replace hV := hV hl_18
    refine WL.run hS rfl rfl rfl (ex_len_sl Try.underlying23 rfl h_8) ?_
    refine WL.run hS rfl rfl rfl (ex_move rfl) ?_
    refine WL.nil ?_
    refine WQ.next ?_
    refine WC.sub (m := [(0, .int .i64 n_1), (7, v_13), (8, .bool false), (23, v_7), (24, .int .i64 (proof_6.length : Int)), (25, .int .i64 0)]) ⟨rfl, rfl, rfl, rfl, rfl, rfl, trivial⟩ ?_
    refine WC.block ?_
    obtain ⟨I_609, mu_610, hI_904, hV⟩ := hV
    refine WC.loop (σ := (List (List Int)) × Bool × Int) (fun s a w => ∃ (there_310 : List (List Int)) (shown_314 : Bool) (x_315 : Int) (v_311 : Value) (fp_312 : Seg), s = (there_310, shown_314, x_315) ∧ I_609 (there_310, shown_314, x_315) ∧ OwnSl H (cSl (cInt .i64)) 31 v_311 there_310 fp_312 ∧ I64 x_315 ∧ St w0 H (fp_312 ++ L) w ∧ Fr 81 [(0, .int .i64 n_1), (7, v_311), (8, .bool shown_314), (23, v_7), (24, .int .i64 (proof_6.length : Int)), (25, .int .i64 x_315)] a) mu_610 (r_12, false, 0) ?_ ?_
    · exact fun a ha => ⟨r_12, false, 0, v_13, fp_14, rfl, hI_904, h_15, (by unfold I64; omega), hS, ha.of_sub ⟨rfl, rfl, rfl, rfl, rfl, rfl, trivial⟩⟩
    · clear hS hI_904
      rintro _ a w ⟨there_310, shown_314, x_315, v_311, fp_312, rfl, hI, h_313, hr_316, hS, ha⟩
      refine in_frame ha ?_
      clear ha
      replace hV := hV _ hI
      clear hI
      refine WC.seq ?_
      refine WC.region ?_
      refine WL.run hS rfl rfl rfl (ex_lss rfl rfl) ?_
      refine WL.nil ?_
      refine WQ.next ?_
      refine WC.seq ?_
      refine WC.cond rfl ?_ ?_
      · intro hc_903
        replace hV := hV.1 (of_decide_eq_true hc_903)
        refine WC.skip ?_
        refine WQ.next ?_
        refine WC.sub (m := [(0, .int .i64 n_1), (7, v_311), (8, .bool shown_314), (23, v_7), (24, .int .i64 (proof_6.length : Int)), (25, .int .i64 x_315)]) ⟨rfl, rfl, rfl, rfl, rfl, rfl, trivial⟩ ?_
        obtain ⟨J_759, hJ_760, hV⟩ := hV
        refine WC.meet (fun a w => ∃ (there_754 : List (List Int)) (shown_758 : Bool) (v_755 : Value) (fp_756 : Seg), J_759 (there_754, shown_758) ∧ OwnSl H (cSl (cInt .i64)) 31 v_755 there_754 fp_756 ∧ St w0 H (fp_756 ++ L) w ∧ Fr 81 [(0, .int .i64 n_1), (7, v_755), (8, .bool shown_758), (23, v_7), (24, .int .i64 (proof_6.length : Int)), (25, .int .i64 x_315)] a) ?_ ?_
        · rintro a w ⟨there_754, shown_758, v_755, fp_756, hI, h_757, hS, ha⟩
          refine in_frame ha ?_
          clear ha hV
          have hV := hJ_760 _ hI
          clear hI hJ_760
          refine WC.region ?_
          obtain ⟨hi_902, hV⟩ := hV
          refine WL.run hS rfl rfl rfl (ex_add rfl rfl hi_902) ?_
          refine WL.run hS rfl rfl rfl (ex_move rfl) ?_
          refine WL.nil ?_
          exact WQ.there fun a ha => ⟨(there_754, shown_758, (x_315 + 1)), ⟨there_754, shown_758, (x_315 + 1), v_755, fp_756, rfl, hV.1, h_757, hi_902, hS, ha.of_sub ⟨rfl, rfl, rfl, rfl, rfl, rfl, trivial⟩⟩, hV.2⟩
        · clear hJ_760
          refine WC.block ?_
          refine WC.seq ?_
          refine WC.region ?_
          obtain ⟨hin_761, hV⟩ := hV
          refine WL.runx hS rfl rfl rfl (ex_index Try.underlying23 Try.sizeOf36 rfl rfl h_8 hin_761) ?_
          intro p_762 hp_763
          refine WL.runx hS rfl rfl rfl (ex_load_agg Try.isAgg36 Try.sizeOf36 rfl hp_763) ?_
          rintro u_764 ⟨_, rfl, hu⟩
          obtain ⟨_, _, rfl, hu_765, hu_766⟩ := hu
          obtain rfl := hu_765
          obtain ⟨v_767, rfl, h_768⟩ := hu_766
          refine WL.alloc (arr := #[.bool false, (.slice none 0 0)]) rfl Try.zeroValue36 rfl hS ?_
          clear hS
          intro b_769 w hS
          refine WL.store_box (pre := []) (old := [.bool false, (.slice none 0 0)]) (rst := []) (cs := [.bool ((ix proof_6 x_315).1), v_767]) (arr' := #[.bool ((ix proof_6 x_315).1), v_767]) Try.sizeOf36 rfl rfl rfl ⟨rfl, (IsSl.one h_768), trivial⟩ rfl rfl rfl rfl hS ?_
          clear hS
          intro w hS
          refine WL.nil ?_
          refine WQ.next ?_
          refine WC.sub (m := [(0, .int .i64 n_1), (7, v_311), (8, .bool shown_314), (10, .pointer (some ⟨b_769, 0, none⟩)), (23, v_7), (24, .int .i64 (proof_6.length : Int)), (25, .int .i64 x_315)]) ⟨rfl, rfl, rfl, rfl, rfl, rfl, rfl, trivial⟩ ?_
          refine WC.seq ?_
          refine WC.seq ?_
          refine WC.region ?_
          refine WL.run hS rfl rfl rfl (ex_move rfl) ?_
          refine WL.run hS rfl rfl rfl (ex_fieldAddr (o' := 1) Try.underlying36 rfl Try.sizeOf31 rfl rfl) ?_
          refine WL.run hS rfl rfl rfl (ex_load_box Try.isAgg31 rfl rfl) ?_
          refine WL.call rfl rfl rfl (enters0 (vs := [.int .i64 n_1, v_767]) Try.call13 ⟨rfl, rfl, trivial⟩) (S_valid  hr_2 h_768 hS hV) ?_
          clear hV hS
          rintro _ w ⟨r_772, hV, rfl, hS⟩
          refine ⟨_, rfl, ?_⟩
          refine WL.run hS rfl rfl rfl (ex_not rfl) ?_
          refine WL.nil ?_
          refine WQ.next ?_
          refine WC.sub (m := [(0, .int .i64 n_1), (7, v_311), (8, .bool shown_314), (10, .pointer (some ⟨b_769, 0, none⟩)), (23, v_7), (24, .int .i64 (proof_6.length : Int)), (25, .int .i64 x_315), (33, .bool (!r_772))]) ⟨rfl, rfl, rfl, rfl, rfl, rfl, rfl, rfl, trivial⟩ ?_
          refine WC.cond rfl ?_ ?_
          · intro hc_901
            replace hV := hV.1 hc_901
            refine WC.seq ?_
            refine WC.region ?_
            refine WL.run hS rfl rfl rfl (ex_assign rfl) ?_
            refine WL.nil ?_
            refine WQ.next ?_
            refine WC.sub (m := [(6, .bool false)]) ⟨rfl, trivial⟩ ?_
            replace hS := hS.f2.drop
            replace hS := hS.drop
            refine WC.ret ?_
            refine WQ.pass nofun ?_
            refine WQ.out nofun ?_
            refine WQ.pass nofun ?_
            refine WQ.pass nofun ?_
            refine WQ.out nofun ?_
            refine WQ.pass nofun ?_
            exact leave1 rfl rfl ⟨false, hV, rfl, hS⟩
          · intro hc_901
            replace hV := hV.2 hc_901
            refine WC.skip ?_
            refine WQ.next ?_
            refine WC.sub (m := [(0, .int .i64 n_1), (7, v_311), (8, .bool shown_314), (10, .pointer (some ⟨b_769, 0, none⟩)), (23, v_7), (24, .int .i64 (proof_6.length : Int)), (25, .int .i64 x_315)]) ⟨rfl, rfl, rfl, rfl, rfl, rfl, rfl, trivial⟩ ?_
            refine WC.seq ?_
            refine WC.seq ?_
            refine WC.region ?_
            refine WL.run hS rfl rfl rfl (ex_fieldAddr (o' := 0) Try.underlying36 rfl Try.sizeOf4 rfl rfl) ?_
            refine WL.run hS rfl rfl rfl (ex_load_box Try.isAgg4 rfl rfl) ?_
            refine WL.nil ?_
            refine WQ.next ?_
            refine WC.sub (m := [(0, .int .i64 n_1), (7, v_311), (8, .bool shown_314), (10, .pointer (some ⟨b_769, 0, none⟩)), (23, v_7), (24, .int .i64 (proof_6.length : Int)), (25, .int .i64 x_315), (35, .bool ((ix proof_6 x_315).1))]) ⟨rfl, rfl, rfl, rfl, rfl, rfl, rfl, rfl, trivial⟩ ?_
            refine WC.cond rfl ?_ ?_
            · intro hc_900
              replace hV := hV.1 hc_900
              obtain ⟨J_793, hJ_794, hV⟩ := hV
              refine WC.meet (fun a w => ∃ (there_789 : List (List Int)) (v_790 : Value) (fp_791 : Seg), J_793 there_789 ∧ OwnSl H (cSl (cInt .i64)) 31 v_790 there_789 fp_791 ∧ St w0 H (fp_791 ++ L) w ∧ Fr 81 [(0, .int .i64 n_1), (7, v_790), (8, .bool shown_314), (23, v_7), (24, .int .i64 (proof_6.length : Int)), (25, .int .i64 x_315)] a) ?_ ?_
              · rintro a w ⟨there_789, v_790, fp_791, hI, h_792, hS, ha⟩
                refine in_frame ha ?_
                clear ha hV
                have hV := hJ_794 _ hI
                clear hI hJ_794
                refine WC.exit ?_
                refine WQ.pass nofun ?_
                refine WQ.hit ?_
                exact WQ.there fun a ha => ⟨there_789, shown_314, v_790, fp_791, hV, h_792, hS, ha.of_sub ⟨rfl, rfl, rfl, rfl, rfl, rfl, trivial⟩⟩
              · clear hJ_794
                refine WC.seq ?_
                refine WC.region ?_
                refine WL.run hS rfl rfl rfl (ex_move rfl) ?_
                refine WL.run hS rfl rfl rfl (ex_makeFunc (vs := [.pointer (some ⟨b_769, 0, none⟩)]) ⟨rfl, trivial⟩) ?_
                replace hS := hS.f2
                have hL_795 := hS.freeze
                refine WL.call rfl rfl rfl (enters0 (vs := [v_311, .func (.func 15) #[] #[.pointer (some ⟨b_769, 0, none⟩)]]) Try.call14 ⟨rfl, rfl, trivial⟩) (S_IndexFuncL (fc1 := 15) (caps1 := [.pointer (some ⟨b_769, 0, none⟩)]) (fpc1 := ([(b_769, .cells #[.bool ((ix proof_6 x_315).1), v_767] 36 (0, 0))])) (G1 := (fun x1 K => V_Checked1 x1 ((ix proof_6 x_315).1) ((ix proof_6 x_315).2) K)) (h_313.share hS.put_le) Try.call15 (fun hle hx1 hSx hVx => S_Checked1 hx1 ((h_768.mono hS.put_le).mono hle) hSx hVx) hL_795 hV) ?_
                clear hV
                rintro _ w ⟨r_796, hV, rfl, hr_797, hL_798⟩
                refine ⟨_, rfl, ?_⟩
                have hB_800 := hS.back hL_798
                clear hS
                have hS := hB_800
                refine WL.run hS rfl rfl rfl (ex_assign rfl) ?_
                refine WL.nil ?_
                refine WQ.next ?_
                refine WC.sub (m := [(0, .int .i64 n_1), (7, v_311), (8, .bool shown_314), (11, .int .i64 r_796), (23, v_7), (24, .int .i64 (proof_6.length : Int)), (25, .int .i64 x_315)]) ⟨rfl, rfl, rfl, rfl, rfl, rfl, rfl, trivial⟩ ?_
                replace hS := hS.f2.drop
                refine WC.seq ?_
                refine WC.region ?_
                refine WL.run hS rfl rfl rfl (ex_move rfl) ?_
                refine WL.run hS rfl rfl rfl (ex_geq rfl rfl) ?_
                refine WL.nil ?_
                refine WQ.next ?_
                refine WC.sub (m := [(0, .int .i64 n_1), (7, v_311), (8, .bool shown_314), (11, .int .i64 r_796), (23, v_7), (24, .int .i64 (proof_6.length : Int)), (25, .int .i64 x_315), (40, .bool (decide (0 ≤ r_796)))]) ⟨rfl, rfl, rfl, rfl, rfl, rfl, rfl, rfl, trivial⟩ ?_
                refine WC.cond rfl ?_ ?_
                · intro hc_808
                  replace hV := hV.1 (of_decide_eq_true hc_808)
                  refine WC.region ?_
                  refine WL.run hS rfl rfl rfl (ex_move rfl) ?_
                  refine WL.run hS rfl rfl rfl (ex_move rfl) ?_
                  refine WL.run hS rfl rfl rfl (ex_move rfl) ?_
                  obtain ⟨hi_801, hV⟩ := hV
                  refine WL.run hS rfl rfl rfl (ex_add rfl rfl hi_801) ?_
                  refine WL.call rfl rfl rfl (enters0 (vs := [v_311, .int .i64 r_796, .int .i64 (r_796 + 1)]) Try.call17 ⟨rfl, rfl, rfl, trivial⟩) (S_DeleteL  h_313 hr_797 hi_801 hS hV) ?_
                  clear hV hS
                  rintro _ w ⟨r_802, v_803, fp_804, hV, rfl, h_805, hS⟩
                  refine ⟨_, rfl, ?_⟩
                  refine WL.run hS rfl rfl rfl (ex_assign rfl) ?_
                  refine WL.nil ?_
                  exact WQ.there fun a ha => ⟨r_802, v_803, fp_804, hV, h_805, hS, ha.of_sub ⟨rfl, rfl, rfl, rfl, rfl, rfl, trivial⟩⟩
                · intro hc_808
                  replace hV := hV.2 (of_decide_eq_false hc_808)
                  refine WC.skip ?_
                  exact WQ.there fun a ha => ⟨there_310, v_311, fp_312, hV, h_313, hS, ha.of_sub ⟨rfl, rfl, rfl, rfl, rfl, rfl, trivial⟩⟩
            · intro hc_900
              replace hV := hV.2 hc_900
              refine WC.skip ?_
              refine WQ.next ?_
              refine WC.sub (m := [(0, .int .i64 n_1), (7, v_311), (8, .bool shown_314), (10, .pointer (some ⟨b_769, 0, none⟩)), (23, v_7), (24, .int .i64 (proof_6.length : Int)), (25, .int .i64 x_315)]) ⟨rfl, rfl, rfl, rfl, rfl, rfl, rfl, trivial⟩ ?_
              refine WC.seq ?_
              refine WC.region ?_
              refine WL.run hS rfl rfl rfl (ex_assign rfl) ?_
              refine WL.nil ?_
              refine WQ.next ?_
              refine WC.seq ?_
              refine WC.seq ?_
              refine WC.region ?_
              refine WL.run hS rfl rfl rfl (ex_fieldAddr (o' := 1) Try.underlying36 rfl Try.sizeOf31 rfl rfl) ?_
              refine WL.run hS rfl rfl rfl (ex_load_box Try.isAgg31 rfl rfl) ?_
              have hl_810 : Len ((ix proof_6 x_315).2) := h_768.bound
              replace hV := hV hl_810
              refine WL.run hS rfl rfl rfl (ex_len_sl Try.underlying31 rfl h_768) ?_
              refine WL.run hS rfl rfl rfl (ex_move rfl) ?_
              refine WL.nil ?_
              refine WQ.next ?_
              refine WC.sub (m := [(0, .int .i64 n_1), (7, v_311), (8, .bool shown_314), (10, .pointer (some ⟨b_769, 0, none⟩)), (12, (.slice none 0 0)), (23, v_7), (24, .int .i64 (proof_6.length : Int)), (25, .int .i64 x_315), (47, v_767), (48, .int .i64 (((ix proof_6 x_315).2).length : Int)), (49, .int .i64 0)]) ⟨rfl, rfl, rfl, rfl, rfl, rfl, rfl, rfl, rfl, rfl, rfl, trivial⟩ ?_
              refine WC.block ?_
              replace hS := hS.nilseg
              replace hS := hS.f2
              replace hS := hS.f3
              obtain ⟨I_854, mu_855, hI_899, hV⟩ := hV
              refine WC.loop (σ := (List Int) × Int) (fun s a w => ∃ (not_830 : List Int) (x_834 : Int) (v_831 : Value) (fp_832 : Seg), s = (not_830, x_834) ∧ I_854 (not_830, x_834) ∧ OwnSl H (cInt .i64) 3 v_831 not_830 fp_832 ∧ I64 x_834 ∧ St w0 H (fp_312 ++ ([(b_769, .cells #[.bool ((ix proof_6 x_315).1), v_767] 36 (0, 0))] ++ (fp_832 ++ L))) w ∧ Fr 81 [(0, .int .i64 n_1), (7, v_311), (8, .bool shown_314), (10, .pointer (some ⟨b_769, 0, none⟩)), (12, v_831), (23, v_7), (24, .int .i64 (proof_6.length : Int)), (25, .int .i64 x_315), (47, v_767), (48, .int .i64 (((ix proof_6 x_315).2).length : Int)), (49, .int .i64 x_834)] a) mu_855 (([] : List Int), 0) ?_ ?_
              · exact fun a ha => ⟨([] : List Int), 0, (.slice none 0 0), ([] : Seg), rfl, hI_899, OwnSl.nil, (by unfold I64; omega), hS, ha.of_sub ⟨rfl, rfl, rfl, rfl, rfl, rfl, rfl, rfl, rfl, rfl, rfl, trivial⟩⟩
              · clear hS hI_899
                rintro _ a w ⟨not_830, x_834, v_831, fp_832, rfl, hI, h_833, hr_835, hS, ha⟩
                refine in_frame ha ?_
                clear ha
                replace hV := hV _ hI
                clear hI
                refine WC.seq ?_
                refine WC.region ?_
                refine WL.run hS rfl rfl rfl (ex_lss rfl rfl) ?_
                refine WL.nil ?_
                refine WQ.next ?_
                refine WC.seq ?_
                refine WC.cond rfl ?_ ?_
                · intro hc_898
                  replace hV := hV.1 (of_decide_eq_true hc_898)
                  refine WC.skip ?_
                  refine WQ.next ?_
                  refine WC.sub (m := [(0, .int .i64 n_1), (7, v_311), (8, .bool shown_314), (10, .pointer (some ⟨b_769, 0, none⟩)), (12, v_831), (23, v_7), (24, .int .i64 (proof_6.length : Int)), (25, .int .i64 x_315), (47, v_767), (48, .int .i64 (((ix proof_6 x_315).2).length : Int)), (49, .int .i64 x_834)]) ⟨rfl, rfl, rfl, rfl, rfl, rfl, rfl, rfl, rfl, rfl, rfl, trivial⟩ ?_
                  refine WC.seq ?_
                  refine WC.block ?_
                  refine WC.seq ?_
                  refine WC.region ?_
                  obtain ⟨hin_857, hV⟩ := hV
                  refine WL.runx hS rfl rfl rfl (ex_index Try.underlying31 Try.sizeOf3 rfl rfl h_768 hin_857) ?_
                  intro p_858 hp_859
                  refine WL.runx hS rfl rfl rfl (ex_load Try.isAgg3 rfl rfl hp_859) ?_
                  intro u_860 hu_861
                  obtain ⟨rfl, hr_862⟩ := cInt_rep hu_861
                  replace hr_862 := has_I64 hr_862
                  replace hV := hV hr_862
                  refine WL.run hS rfl rfl rfl (ex_assign rfl) ?_
                  refine WL.nil ?_
                  refine WQ.next ?_
                  refine WC.sub (m := [(0, .int .i64 n_1), (7, v_311), (8, .bool shown_314), (10, .pointer (some ⟨b_769, 0, none⟩)), (12, v_831), (14, .int .i64 (ix ((ix proof_6 x_315).2) x_834)), (23, v_7), (24, .int .i64 (proof_6.length : Int)), (25, .int .i64 x_315), (47, v_767), (48, .int .i64 (((ix proof_6 x_315).2).length : Int)), (49, .int .i64 x_834)]) ⟨rfl, rfl, rfl, rfl, rfl, rfl, rfl, rfl, rfl, rfl, rfl, rfl, trivial⟩ ?_
                  refine WC.region ?_
                  refine WL.run hS rfl rfl rfl (ex_move rfl) ?_
                  refine WL.run hS rfl rfl rfl (ex_move rfl) ?_
                  obtain ⟨hi_863, hV⟩ := hV
                  refine WL.run hS rfl rfl rfl (ex_neg rfl hi_863) ?_
                  refine WL.build1 (c := (cInt .i64)) rfl Try.underlying31 Try.info3 rfl rfl (cInt_mk (I64.has hi_863)) hS ?_
                  clear hS
                  intro v_865 w fp_866 h_867 hS
                  obtain ⟨hr_868, hV⟩ := hV
                  replace hS := hS.f4
                  refine WL.append (c := (cInt .i64)) (xs := not_830) (ys := ([(-(ix ((ix proof_6 x_315).2) x_834))])) rfl Try.underlying31 Try.info3 rfl rfl rfl hS h_833 (h_867.src hS.f2) hr_868.1 hr_868.2 ?_
                  clear hS
                  intro v_869 w fp_870 h_871 hS
                  refine WL.run hS rfl rfl rfl (ex_assign rfl) ?_
                  refine WL.nil ?_
                  refine WQ.out nofun ?_
                  refine WQ.next ?_
                  refine WC.sub (m := [(0, .int .i64 n_1), (7, v_311), (8, .bool shown_314), (10, .pointer (some ⟨b_769, 0, none⟩)), (12, v_869), (23, v_7), (24, .int .i64 (proof_6.length : Int)), (25, .int .i64 x_315), (47, v_767), (48, .int .i64 (((ix proof_6 x_315).2).length : Int)), (49, .int .i64 x_834)]) ⟨rfl, rfl, rfl, rfl, rfl, rfl, rfl, rfl, rfl, rfl, rfl, trivial⟩ ?_
                  replace hS := hS.f2.drop
                  refine WC.region ?_
                  obtain ⟨hi_873, hV⟩ := hV
                  refine WL.run hS rfl rfl rfl (ex_add rfl rfl hi_873) ?_
                  refine WL.run hS rfl rfl rfl (ex_move rfl) ?_
                  refine WL.nil ?_
                  replace hS := hS.f3
                  replace hS := hS.f3
                  exact WQ.there fun a ha => ⟨((not_830 ++ ([(-(ix ((ix proof_6 x_315).2) x_834))])), (x_834 + 1)), ⟨(not_830 ++ ([(-(ix ((ix proof_6 x_315).2) x_834))])), (x_834 + 1), v_869, fp_870, rfl, hV.1, h_871, hi_873, hS, ha.of_sub ⟨rfl, rfl, rfl, rfl, rfl, rfl, rfl, rfl, rfl, rfl, rfl, trivial⟩⟩, hV.2⟩
                · intro hc_898
                  replace hV := hV.2 (of_decide_eq_false hc_898)
                  refine WC.exit ?_
                  refine WQ.pass nofun ?_
                  refine WQ.pass nofun ?_
                  refine WQ.hit ?_
                  refine WQ.next ?_
                  refine WC.sub (m := [(0, .int .i64 n_1), (7, v_311), (8, .bool shown_314), (10, .pointer (some ⟨b_769, 0, none⟩)), (12, v_831), (23, v_7), (24, .int .i64 (proof_6.length : Int)), (25, .int .i64 x_315)]) ⟨rfl, rfl, rfl, rfl, rfl, rfl, rfl, rfl, trivial⟩ ?_
                  refine WC.seq ?_
                  refine WC.seq ?_
                  refine WC.region ?_
                  refine WL.run hS rfl rfl rfl (ex_move rfl) ?_
                  refine WL.run hS rfl rfl rfl (ex_move rfl) ?_
                  refine WL.run hS rfl rfl rfl (ex_move rfl) ?_
                  replace hS := hS.f3
                  replace hS := hS.f2
                  have hL_874 := hS.freeze
                  have hL_875 := hL_874.freeze
                  refine WL.call rfl rfl rfl (enters0 (vs := [.int .i64 n_1, v_311, v_831]) Try.call18 ⟨rfl, rfl, rfl, trivial⟩) (S_follow  hr_2 ((h_313.share hS.put_le).mono hL_874.put_le) ((h_833.mono hS.put_le).share hL_874.put_le) hL_875 hV) ?_
                  clear hV
                  rintro _ w ⟨r_876, r_881, v_877, fp_878, hV, rfl, h_879, hL_882⟩
                  refine ⟨_, rfl, ?_⟩
                  have hB_884 := hL_874.back hL_882
                  have hB_885 := hS.back hB_884
                  clear hS
                  have hS := hB_885
                  replace h_879 := rep_own (K := H) h_879 (fun _ _ h => h)
                  refine WL.run hS rfl rfl rfl (ex_move rfl) ?_
                  refine WL.run hS rfl rfl rfl (ex_extract rfl rfl) ?_
                  refine WL.run hS rfl rfl rfl (ex_extract rfl rfl) ?_
                  refine WL.run hS rfl rfl rfl (ex_assign rfl) ?_
                  refine WL.run hS rfl rfl rfl (ex_assign rfl) ?_
                  refine WL.nil ?_
                  refine WQ.next ?_
                  refine WC.sub (m := [(0, .int .i64 n_1), (7, v_311), (8, .bool shown_314), (10, .pointer (some ⟨b_769, 0, none⟩)), (16, .bool r_881), (23, v_7), (24, .int .i64 (proof_6.length : Int)), (25, .int .i64 x_315)]) ⟨rfl, rfl, rfl, rfl, rfl, rfl, rfl, rfl, trivial⟩ ?_
                  replace hS := hS.f2.drop
                  replace hS := hS.f2.drop
                  refine WC.seq ?_
                  refine WC.region ?_
                  refine WL.run hS rfl rfl rfl (ex_move rfl) ?_
                  refine WL.nil ?_
                  refine WQ.next ?_
                  refine WC.sub (m := [(0, .int .i64 n_1), (7, v_311), (8, .bool shown_314), (10, .pointer (some ⟨b_769, 0, none⟩)), (23, v_7), (24, .int .i64 (proof_6.length : Int)), (25, .int .i64 x_315), (66, .bool r_881)]) ⟨rfl, rfl, rfl, rfl, rfl, rfl, rfl, rfl, trivial⟩ ?_
                  refine WC.cond rfl ?_ ?_
                  · intro hc_897
                    replace hV := hV.1 hc_897
                    refine WC.seq ?_
                    refine WC.region ?_
                    refine WL.run hS rfl rfl rfl (ex_assign rfl) ?_
                    refine WL.nil ?_
                    refine WQ.next ?_
                    refine WC.sub (m := [(6, .bool false)]) ⟨rfl, trivial⟩ ?_
                    replace hS := hS.drop
                    replace hS := hS.drop
                    refine WC.ret ?_
                    refine WQ.pass nofun ?_
                    refine WQ.out nofun ?_
                    refine WQ.pass nofun ?_
                    refine WQ.pass nofun ?_
                    refine WQ.out nofun ?_
                    refine WQ.pass nofun ?_
                    exact leave1 rfl rfl ⟨false, hV, rfl, hS⟩
                  · intro hc_897
                    replace hV := hV.2 hc_897
                    refine WC.skip ?_
                    refine WQ.next ?_
                    refine WC.sub (m := [(0, .int .i64 n_1), (7, v_311), (8, .bool shown_314), (10, .pointer (some ⟨b_769, 0, none⟩)), (23, v_7), (24, .int .i64 (proof_6.length : Int)), (25, .int .i64 x_315)]) ⟨rfl, rfl, rfl, rfl, rfl, rfl, rfl, trivial⟩ ?_
                    refine WC.seq ?_
                    refine WC.region ?_
                    refine WL.run hS rfl rfl rfl (ex_move rfl) ?_
                    refine WL.run hS rfl rfl rfl (ex_fieldAddr (o' := 1) Try.underlying36 rfl Try.sizeOf31 rfl rfl) ?_
                    replace hS := hS.f2
                    refine WL.run hS rfl rfl rfl (ex_load_box Try.isAgg31 rfl rfl) ?_
                    refine WL.build1 (c := (cSl (cInt .i64))) rfl Try.underlying22 Try.info31 rfl rfl (cSl_mk h_768) hS ?_
                    clear hS
                    intro v_887 w fp_888 h_889 hS
                    obtain ⟨hr_890, hV⟩ := hV
                    replace hS := hS.f3
                    refine WL.append (c := (cSl (cInt .i64))) (xs := there_310) (ys := ([(ix proof_6 x_315).2])) rfl Try.underlying22 Try.info31 rfl rfl rfl hS h_313 (h_889.src hS.f2) hr_890.1 hr_890.2 ?_
                    clear hS
                    intro v_891 w fp_892 h_893 hS
                    refine WL.run hS rfl rfl rfl (ex_assign rfl) ?_
                    refine WL.nil ?_
                    refine WQ.next ?_
                    refine WC.sub (m := [(0, .int .i64 n_1), (7, v_891), (8, .bool shown_314), (10, .pointer (some ⟨b_769, 0, none⟩)), (23, v_7), (24, .int .i64 (proof_6.length : Int)), (25, .int .i64 x_315)]) ⟨rfl, rfl, rfl, rfl, rfl, rfl, rfl, trivial⟩ ?_
                    replace hS := hS.f2.drop
                    refine WC.region ?_
                    refine WL.run hS rfl rfl rfl (ex_move rfl) ?_
                    refine WL.run hS rfl rfl rfl (ex_move rfl) ?_
                    rcases Bool.eq_false_or_eq_true shown_314 with hg_895 | hg_895
                    · replace hV := hV.1 hg_895
                      refine WL.skip_g rfl rfl rfl hg_895 rfl rfl ?_
                      refine WL.skip_g rfl rfl rfl hg_895 rfl rfl ?_
                      refine WL.skip_g rfl rfl rfl hg_895 rfl rfl ?_
                      refine WL.skip_g rfl rfl rfl hg_895 rfl rfl ?_
                      refine WL.run hS rfl rfl rfl (ex_pick_t rfl hg_895 rfl) ?_
                      refine WL.run hS rfl rfl rfl (ex_assign rfl) ?_
                      refine WL.nil ?_
                      refine WQ.out nofun ?_
                      replace hS := hS.f2.drop
                      exact WQ.there fun a ha => ⟨(there_310 ++ ([(ix proof_6 x_315).2])), true, v_891, fp_892, hV, h_893, hS, ha.of_sub ⟨rfl, rfl, rfl, rfl, rfl, rfl, trivial⟩⟩
                    · replace hV := hV.2 hg_895
                      refine WL.unguard rfl rfl hg_895 ?_
                      refine WL.run hS rfl rfl rfl (ex_fieldAddr (o' := 1) Try.underlying36 rfl Try.sizeOf31 rfl rfl) ?_
                      refine WL.unguard rfl rfl hg_895 ?_
                      replace hS := hS.f2
                      refine WL.run hS rfl rfl rfl (ex_load_box Try.isAgg31 rfl rfl) ?_
                      refine WL.unguard rfl rfl hg_895 ?_
                      have hl_896 : Len ((ix proof_6 x_315).2) := h_768.bound
                      replace hV := hV hl_896
                      refine WL.run hS rfl rfl rfl (ex_len_sl Try.underlying31 rfl h_768) ?_
                      refine WL.unguard rfl rfl hg_895 ?_
                      refine WL.run hS rfl rfl rfl (ex_eql rfl rfl) ?_
                      refine WL.run hS rfl rfl rfl (ex_pick_f rfl hg_895 rfl) ?_
                      refine WL.run hS rfl rfl rfl (ex_assign rfl) ?_
                      refine WL.nil ?_
                      refine WQ.out nofun ?_
                      replace hS := hS.drop
                      exact WQ.there fun a ha => ⟨(there_310 ++ ([(ix proof_6 x_315).2])), decide ((((ix proof_6 x_315).2).length : Int) = 0), v_891, fp_892, hV, h_893, hS, ha.of_sub ⟨rfl, rfl, rfl, rfl, rfl, rfl, trivial⟩⟩
      · intro hc_903
        replace hV := hV.2 (of_decide_eq_false hc_903)
        refine WC.exit ?_
        refine WQ.pass nofun ?_
        refine WQ.pass nofun ?_
        refine WQ.hit ?_
        refine WQ.next ?_
        refine WC.sub (m := [(8, .bool shown_314)]) ⟨rfl, trivial⟩ ?_
        replace hS := hS.drop
        refine WC.seq ?_
        refine WC.region ?_
        refine WL.run hS rfl rfl rfl (ex_move rfl) ?_
        refine WL.run hS rfl rfl rfl (ex_assign rfl) ?_
        refine WL.nil ?_
        refine WQ.next ?_
        refine WC.sub (m := [(6, .bool shown_314)]) ⟨rfl, trivial⟩ ?_
        refine WC.ret ?_
        exact leave1 rfl rfl ⟨shown_314, hV, rfl, hS⟩

theorem S_lives {w0 : World} {H : View} {L : Seg} {w : World}  {Q : Bool → Prop}  (hS : St w0 H (L) w) (hV : V_lives  Q) :
    Calls Try.prog 9 #[] w fun e w' => ∃ (r1 : Bool), Q r1 ∧ e = .returned (.bool r1) ∧ St w0 H (L) w' := by
  unfold V_lives at hV
  refine enter Try.func9 rfl Try.ntmps9 rfl (lk_args_nil _) ?_
  refine WC.seq ?_
  refine WC.region ?_
  refine WL.run hS rfl rfl rfl (ex_assign rfl) ?_
  refine WL.nil ?_
  refine WQ.next ?_
  refine WC.sub (m := []) trivial ?_
  refine WC.seq ?_
  refine WC.region ?_
  refine WL.buildn (c := (cInt .i64)) (xs := [1, 2]) (vs := [.int .i64 1, .int .i64 2]) rfl Try.underlying31 Try.info3 rfl rfl ⟨rfl, rfl, trivial⟩ rfl ⟨_, _, rfl, (cInt_mk (I64.has (by unfold I64; omega))), ⟨_, _, rfl, (cInt_mk (I64.has (by unfold I64; omega))), rfl⟩⟩ hS rfl ?_
  clear hS
  intro v_2 w fp_3 h_4 hS
  refine WL.buildn (c := (cInt .i64)) (xs := [1, (-2)]) (vs := [.int .i64 1, .int .i64 (-2)]) rfl Try.underlying31 Try.info3 rfl rfl ⟨rfl, rfl, trivial⟩ rfl ⟨_, _, rfl, (cInt_mk (I64.has (by unfold I64; omega))), ⟨_, _, rfl, (cInt_mk (I64.has (by unfold I64; omega))), rfl⟩⟩ hS rfl ?_
  clear hS
  intro v_6 w fp_7 h_8 hS
  refine WL.buildn (c := (cInt .i64)) (xs := [(-1), 2]) (vs := [.int .i64 (-1), .int .i64 2]) rfl Try.underlying31 Try.info3 rfl rfl ⟨rfl, rfl, trivial⟩ rfl ⟨_, _, rfl, (cInt_mk (I64.has (by unfold I64; omega))), ⟨_, _, rfl, (cInt_mk (I64.has (by unfold I64; omega))), rfl⟩⟩ hS rfl ?_
  clear hS
  intro v_10 w fp_11 h_12 hS
  refine WL.buildn (c := (cInt .i64)) (xs := [(-1), (-2)]) (vs := [.int .i64 (-1), .int .i64 (-2)]) rfl Try.underlying31 Try.info3 rfl rfl ⟨rfl, rfl, trivial⟩ rfl ⟨_, _, rfl, (cInt_mk (I64.has (by unfold I64; omega))), ⟨_, _, rfl, (cInt_mk (I64.has (by unfold I64; omega))), rfl⟩⟩ hS rfl ?_
  clear hS
  intro v_14 w fp_15 h_16 hS
  replace hS := hS.f4
  obtain ⟨H_21, le_22, h_23, hS⟩ : ∃ K, View.le H K ∧ IsSl K (cInt .i64) v_2 ([1, 2]) ∧ St w0 K (fp_15 ++ (fp_11 ++ (fp_7 ++ L))) w := ⟨_, hS.put_le, h_4.share hS.put_le, hS.freeze⟩
  replace hS := hS.f3
  obtain ⟨H_24, le_25, h_26, hS⟩ : ∃ K, View.le H_21 K ∧ IsSl K (cInt .i64) v_6 ([1, (-2)]) ∧ St w0 K (fp_15 ++ (fp_11 ++ L)) w := ⟨_, hS.put_le, (h_8.mono le_22).share hS.put_le, hS.freeze⟩
  replace hS := hS.f2
  obtain ⟨H_27, le_28, h_29, hS⟩ : ∃ K, View.le H_24 K ∧ IsSl K (cInt .i64) v_10 ([(-1), 2]) ∧ St w0 K (fp_15 ++ L) w := ⟨_, hS.put_le, ((h_12.mono le_22).mono le_25).share hS.put_le, hS.freeze⟩
  obtain ⟨H_30, le_31, h_32, hS⟩ : ∃ K, View.le H_27 K ∧ IsSl K (cInt .i64) v_14 ([(-1), (-2)]) ∧ St w0 K (L) w := ⟨_, hS.put_le, (((h_16.mono le_22).mono le_25).mono le_28).share hS.put_le, hS.freeze⟩
  refine WL.buildn (c := (cSl (cInt .i64))) (xs := [[1, 2], [1, (-2)], [(-1), 2], [(-1), (-2)]]) (vs := [v_2, v_6, v_10, v_14]) rfl Try.underlying22 Try.info31 rfl rfl ⟨rfl, rfl, rfl, rfl, trivial⟩ rfl ⟨_, _, rfl, (cSl_mk (((h_23.mono le_25).mono le_28).mono le_31)), ⟨_, _, rfl, (cSl_mk ((h_26.mono le_28).mono le_31)), ⟨_, _, rfl, (cSl_mk (h_29.mono le_31)), ⟨_, _, rfl, (cSl_mk h_32), rfl⟩⟩⟩⟩ hS rfl ?_
  clear hS
  intro v_18 w fp_19 h_20 hS
  refine WL.run hS rfl rfl rfl (ex_assign rfl) ?_
  refine WL.nil ?_
  refine WQ.next ?_
  refine WC.sub (m := [(1, v_18)]) ⟨rfl, trivial⟩ ?_
  refine WC.seq ?_
  refine WC.region ?_
  refine WL.run hS rfl rfl rfl (ex_move rfl) ?_
  refine WL.build1 (c := (cInt .i64)) rfl Try.underlying31 Try.info3 rfl rfl (cInt_mk (I64.has (by unfold I64; omega))) hS ?_
  clear hS
  intro v_34 w fp_35 h_36 hS
  refine WL.run hS rfl rfl rfl (ex_build (vs := [v_34]) (zc := #[.bool false, (.slice none 0 0)]) (cs := #[.bool false, v_34]) (places := #[(0, 1), (1, 1)]) Try.underlying36 Try.zeroValue36 (fun w => by simp [Try.sizeOf31, Try.sizeOf4]) rfl ⟨rfl, trivial⟩ rfl (by simp [Instr.fill, cells_one (OwnSl.one h_36)])) ?_
  refine WL.run hS rfl rfl rfl (ex_build (vs := []) (zc := #[.bool false, (.slice none 0 0)]) (cs := #[.bool false, (.slice none 0 0)]) (places := #[(0, 1), (1, 1)]) Try.underlying36 Try.zeroValue36 (fun w => by simp [Try.sizeOf31, Try.sizeOf4]) rfl trivial rfl (by simp [Instr.fill])) ?_
  obtain ⟨H_43, le_44, h_45, hS⟩ : ∃ K, View.le H_30 K ∧ IsSl K (cInt .i64) v_34 ([1]) ∧ St w0 K (fp_19 ++ L) w := ⟨_, hS.put_le, h_36.share hS.put_le, hS.freeze⟩
  refine WL.builds (c := (cPair cBool (cSl (cInt .i64)))) (xs := [(false, [1]), (false, ([] : List Int))]) (vs := [.agg #[.bool false, v_34], .agg #[.bool false, (.slice none 0 0)]]) (css := [[.bool false, v_34], [.bool false, (.slice none 0 0)]]) rfl Try.underlying23 Try.info36 rfl ⟨rfl, rfl, trivial⟩ rfl (by decide) rfl (by simp; rfl) ⟨[.bool false, v_34], _, rfl, ⟨[.bool false], _, rfl, cBool_mk, (cSl_mk h_45)⟩, ⟨[.bool false, (.slice none 0 0)], _, rfl, ⟨[.bool false], _, rfl, cBool_mk, (cSl_mk IsSl.nil)⟩, rfl⟩⟩ hS rfl (by decide) ?_
  clear hS
  intro v_40 w fp_41 h_42 hS
  replace hS := hS.f2
  have hL_46 := hS.freeze
  have hL_47 := hL_46.freeze
  refine WL.call rfl rfl rfl (enters0 (vs := [.int .i64 2, v_18, v_40]) Try.call6 ⟨rfl, rfl, rfl, trivial⟩) (S_Checked  (by unfold I64; omega) (((h_20.mono le_44).share hS.put_le).mono hL_46.put_le) ((h_42.mono hS.put_le).share hL_46.put_le) hL_47 hV) ?_
  clear hV
  rintro _ w ⟨r_48, hV, rfl, hL_49⟩
  refine ⟨_, rfl, ?_⟩
  have hB_51 := hL_46.back hL_49
  have hB_52 := hS.back hB_51
  clear hS
  have hS := hB_52
  refine WL.run hS rfl rfl rfl (ex_assign rfl) ?_
  refine WL.nil ?_
  refine WQ.next ?_
  refine WC.sub (m := [(1, v_18), (2, .bool r_48)]) ⟨rfl, rfl, trivial⟩ ?_
  replace hS := hS.f2.drop
  refine WC.seq ?_
  refine WC.region ?_
  refine WL.run hS rfl rfl rfl (ex_move rfl) ?_
  refine WL.run hS rfl rfl rfl (ex_build (vs := []) (zc := #[.bool false, (.slice none 0 0)]) (cs := #[.bool false, (.slice none 0 0)]) (places := #[(0, 1), (1, 1)]) Try.underlying36 Try.zeroValue36 (fun w => by simp [Try.sizeOf31, Try.sizeOf4]) rfl trivial rfl (by simp [Instr.fill])) ?_
  refine WL.builds (c := (cPair cBool (cSl (cInt .i64)))) (xs := [(false, ([] : List Int))]) (vs := [.agg #[.bool false, (.slice none 0 0)]]) (css := [[.bool false, (.slice none 0 0)]]) rfl Try.underlying23 Try.info36 rfl ⟨rfl, trivial⟩ rfl (by decide) rfl (by simp; rfl) ⟨[.bool false, (.slice none 0 0)], _, rfl, ⟨[.bool false], _, rfl, cBool_mk, (cSl_mk IsSl.nil)⟩, rfl⟩ hS rfl (by decide) ?_
  clear hS
  intro v_55 w fp_56 h_57 hS
  replace hS := hS.f2
  have hL_58 := hS.freeze
  have hL_59 := hL_58.freeze
  refine WL.call rfl rfl rfl (enters0 (vs := [.int .i64 2, v_18, v_55]) Try.call6 ⟨rfl, rfl, rfl, trivial⟩) (S_Checked  (by unfold I64; omega) (((h_20.mono le_44).share hS.put_le).mono hL_58.put_le) ((h_57.mono hS.put_le).share hL_58.put_le) hL_59 hV) ?_
  clear hV
  rintro _ w ⟨r_60, hV, rfl, hL_61⟩
  refine ⟨_, rfl, ?_⟩
  have hB_63 := hL_58.back hL_61
  have hB_64 := hS.back hB_63
  clear hS
  have hS := hB_64
  refine WL.run hS rfl rfl rfl (ex_assign rfl) ?_
  refine WL.nil ?_
  refine WQ.next ?_
  refine WC.sub (m := [(2, .bool r_48), (3, .bool r_60)]) ⟨rfl, rfl, trivial⟩ ?_
  replace hS := hS.drop
  replace hS := hS.drop
  refine WC.seq ?_
  refine WC.via (m := [(0, .bool (decide ((r_48 = true) ∧ ((!r_60) = true))))]) ?_ ?_
  · refine WC.region ?_
    refine WL.run hS rfl rfl rfl (ex_move rfl) ?_
    refine WL.run hS rfl rfl rfl (ex_move rfl) ?_
    rcases Bool.eq_false_or_eq_true r_48 with hg_65 | hg_65
    · refine WL.unguard rfl rfl hg_65 ?_
      refine WL.run hS rfl rfl rfl (ex_move rfl) ?_
      refine WL.unguard rfl rfl hg_65 ?_
      refine WL.run hS rfl rfl rfl (ex_not rfl) ?_
      refine WL.run hS rfl rfl rfl (ex_pick_t rfl hg_65 rfl) ?_
      refine WL.sub (m := [(2, .bool r_48), (3, .bool r_60), (19, .bool r_48), (20, .bool r_48), (21, .bool r_60), (22, .bool (!r_60)), (23, .bool (decide ((r_48 = true) ∧ ((!r_60) = true))))]) ⟨rfl, rfl, rfl, rfl, rfl, rfl, congrArg (fun b => some (Value.bool b)) ((dec_true _).trans (and_t ((dec_true _).symm.trans hg_65) : decide ((!r_60) = true) = decide ((r_48 = true) ∧ ((!r_60) = true)))), trivial⟩ ?_
      refine WL.run hS rfl rfl rfl (ex_assign rfl) ?_
      exact WL.nil (At.of ⟨rfl, trivial⟩)
    · refine WL.skip_g rfl rfl rfl hg_65 rfl rfl ?_
      refine WL.skip_g rfl rfl rfl hg_65 rfl rfl ?_
      refine WL.run hS rfl rfl rfl (ex_pick_f rfl hg_65 rfl) ?_
      refine WL.sub (m := [(2, .bool r_48), (3, .bool r_60), (19, .bool r_48), (20, .bool r_48), (21, undef), (22, undef), (23, .bool (decide ((r_48 = true) ∧ ((!r_60) = true))))]) ⟨rfl, rfl, rfl, rfl, rfl, rfl, congrArg (fun b => some (Value.bool b)) (and_f ((dec_true _).symm.trans hg_65) : false = decide ((r_48 = true) ∧ ((!r_60) = true))), trivial⟩ ?_
      refine WL.run hS rfl rfl rfl (ex_assign rfl) ?_
      exact WL.nil (At.of ⟨rfl, trivial⟩)
  · refine WQ.next ?_
    refine WC.ret ?_
    exact leave1 rfl rfl ⟨decide ((r_48 = true) ∧ ((!r_60) = true)), hV, rfl, (hS.weaken ((((((View.le.refl _).trans le_22).trans le_25).trans le_28).trans le_31).trans le_44))⟩

theorem S_SatProofs {w0 : World} {H : View} {L : Seg} {w : World} {n_1 : Int} {v_4 : Value} {clauses_3 : List (List Int)} {v_7 : Value} {proof_6 : List (Bool × List Int)} {Q : Bool → Prop} (hr_2 : I64 n_1) (h_5 : IsSl H (cSl (cInt .i64)) v_4 clauses_3) (h_8 : IsSl H (cPair cBool (cSl (cInt .i64))) v_7 proof_6) (hS : St w0 H (L) w) (hV : V_SatProofs n_1 clauses_3 proof_6 Q) :
    Calls Try.prog 3 #[.int .i64 n_1, v_4, v_7] w fun e w' => ∃ (r1 : Bool), Q r1 ∧ e = .returned (.bool r1) ∧ St w0 H (L) w' := by
  unfold V_SatProofs at hV
  refine enter Try.func3 rfl Try.ntmps3 rfl (lk_args_cons (d := 0) (v := .int .i64 n_1) rfl (lk_args_cons (d := 1) (v := v_4) rfl (lk_args_cons (d := 2) (v := v_7) rfl (lk_args_nil _)))) ?_
  refine WC.seq ?_
  refine WC.region ?_
  refine WL.run hS rfl rfl rfl (ex_assign rfl) ?_
  refine WL.nil ?_
  refine WQ.next ?_
  refine WC.sub (m := [(0, .int .i64 n_1), (1, v_4), (2, v_7)]) ⟨rfl, rfl, rfl, trivial⟩ ?_
  refine WC.seq ?_
  refine WC.region ?_
  refine WL.run hS rfl rfl rfl (ex_move rfl) ?_
  refine WL.call rfl rfl rfl (enters0 (vs := [v_4]) Try.call5 ⟨rfl, trivial⟩) (S_copied  h_5 hS hV) ?_
  clear hV hS
  rintro _ w ⟨r_9, v_10, fp_11, H_14, hV, rfl, le_15, h_12, hS⟩
  refine ⟨_, rfl, ?_⟩
  refine WL.run hS rfl rfl rfl (ex_assign rfl) ?_
  refine WL.nil ?_
  refine WQ.next ?_
  refine WC.sub (m := [(0, .int .i64 n_1), (1, v_4), (2, v_7), (7, v_10)]) ⟨rfl, rfl, rfl, rfl, trivial⟩ ?_
  refine WC.seq ?_
  refine WC.region ?_
  refine WL.run hS rfl rfl rfl (ex_move rfl) ?_
  refine WL.run hS rfl rfl rfl (ex_move rfl) ?_
  refine WL.run hS rfl rfl rfl (ex_move rfl) ?_
  have hL_16 := hS.freeze
  refine WL.call rfl rfl rfl (enters0 (vs := [.int .i64 n_1, v_10, v_7]) Try.call6 ⟨rfl, rfl, rfl, trivial⟩) (S_Checked  hr_2 (h_12.share hS.put_le) ((h_8.mono le_15).mono hS.put_le) hL_16 hV) ?_
  clear hV
  rintro _ w ⟨r_17, hV, rfl, hL_18⟩
  refine ⟨_, rfl, ?_⟩
  have hB_20 := hS.back hL_18
  clear hS
  have hS := hB_20
  refine WL.run hS rfl rfl rfl (ex_assign rfl) ?_
  refine WL.nil ?_
  refine WQ.next ?_
  refine WC.sub (m := [(0, .int .i64 n_1), (1, v_4), (2, v_7), (7, v_10), (8, .bool r_17)]) ⟨rfl, rfl, rfl, rfl, rfl, trivial⟩ ?_
  refine WC.seq ?_
  refine WC.region ?_
  refine WL.run hS rfl rfl rfl (ex_move rfl) ?_
  refine WL.run hS rfl rfl rfl (ex_move rfl) ?_
  refine WL.run hS rfl rfl rfl (ex_move rfl) ?_
  refine WL.call rfl rfl rfl (enters0 (vs := [.int .i64 n_1, v_4, v_7]) Try.call7 ⟨rfl, rfl, rfl, trivial⟩) (S_refChecked  hr_2 (h_5.mono le_15) (h_8.mono le_15) hS hV) ?_
  clear hV hS
  rintro _ w ⟨r_21, hV, rfl, hS⟩
  refine ⟨_, rfl, ?_⟩
  refine WL.run hS rfl rfl rfl (ex_assign rfl) ?_
  refine WL.nil ?_
  refine WQ.next ?_
  refine WC.sub (m := [(1, v_4), (7, v_10), (8, .bool r_17), (9, .bool r_21)]) ⟨rfl, rfl, rfl, rfl, trivial⟩ ?_
  refine WC.seq ?_
  refine WC.region ?_
  refine WL.run hS rfl rfl rfl (ex_move rfl) ?_
  refine WL.run hS rfl rfl rfl (ex_move rfl) ?_
  have hL_23 := hS.freeze
  refine WL.call rfl rfl rfl (enters0 (vs := [v_10, v_4]) Try.call8 ⟨rfl, rfl, trivial⟩) (S_sameClauses  (h_12.share hS.put_le) ((h_5.mono le_15).mono hS.put_le) hL_23 hV) ?_
  clear hV
  rintro _ w ⟨r_24, hV, rfl, hL_25⟩
  refine ⟨_, rfl, ?_⟩
  have hB_27 := hS.back hL_25
  clear hS
  have hS := hB_27
  refine WL.run hS rfl rfl rfl (ex_assign rfl) ?_
  refine WL.nil ?_
  refine WQ.next ?_
  refine WC.sub (m := [(8, .bool r_17), (9, .bool r_21), (10, .bool r_24)]) ⟨rfl, rfl, rfl, trivial⟩ ?_
  replace hS := hS.drop
  refine WC.seq ?_
  refine WC.via (m := [(6, .bool (decide (((r_17 == r_21) = true) ∧ (r_24 = true))))]) ?_ ?_
  · refine WC.region ?_
    refine WL.run hS rfl rfl rfl (ex_move rfl) ?_
    refine WL.run hS rfl rfl rfl (ex_move rfl) ?_
    refine WL.run hS rfl rfl rfl (ex_beql Try.underlying4 rfl rfl) ?_
    refine WL.run hS rfl rfl rfl (ex_move rfl) ?_
    rcases Bool.eq_false_or_eq_true (r_17 == r_21) with hg_28 | hg_28
    · refine WL.unguard rfl rfl hg_28 ?_
      refine WL.run hS rfl rfl rfl (ex_move rfl) ?_
      refine WL.run hS rfl rfl rfl (ex_pick_t rfl hg_28 rfl) ?_
      refine WL.sub (m := [(8, .bool r_17), (9, .bool r_21), (10, .bool r_24), (24, .bool r_17), (25, .bool r_21), (26, .bool (r_17 == r_21)), (27, .bool (r_17 == r_21)), (28, .bool r_24), (29, .bool (decide (((r_17 == r_21) = true) ∧ (r_24 = true))))]) ⟨rfl, rfl, rfl, rfl, rfl, rfl, rfl, rfl, congrArg (fun b => some (Value.bool b)) ((dec_true _).trans (and_t ((dec_true _).symm.trans hg_28) : decide (r_24 = true) = decide (((r_17 == r_21) = true) ∧ (r_24 = true)))), trivial⟩ ?_
      refine WL.run hS rfl rfl rfl (ex_assign rfl) ?_
      exact WL.nil (At.of ⟨rfl, trivial⟩)
    · refine WL.skip_g rfl rfl rfl hg_28 rfl rfl ?_
      refine WL.run hS rfl rfl rfl (ex_pick_f rfl hg_28 rfl) ?_
      refine WL.sub (m := [(8, .bool r_17), (9, .bool r_21), (10, .bool r_24), (24, .bool r_17), (25, .bool r_21), (26, .bool (r_17 == r_21)), (27, .bool (r_17 == r_21)), (28, undef), (29, .bool (decide (((r_17 == r_21) = true) ∧ (r_24 = true))))]) ⟨rfl, rfl, rfl, rfl, rfl, rfl, rfl, rfl, congrArg (fun b => some (Value.bool b)) (and_f ((dec_true _).symm.trans hg_28) : false = decide (((r_17 == r_21) = true) ∧ (r_24 = true))), trivial⟩ ?_
      refine WL.run hS rfl rfl rfl (ex_assign rfl) ?_
      exact WL.nil (At.of ⟨rfl, trivial⟩)
  · refine WQ.next ?_
    refine WC.ret ?_
    exact leave1 rfl rfl ⟨decide (((r_17 == r_21) = true) ∧ (r_24 = true)), hV, rfl, (hS.weaken ((View.le.refl _).trans le_15))⟩

theorem S_SatShown {w0 : World} {H : View} {L : Seg} {w : World} {n_1 : Int} {v_4 : Value} {clauses_3 : List (List Int)} {v_7 : Value} {proof_6 : List (Bool × List Int)} {v_10 : Value} {model_9 : List Bool} {Q : Bool → Prop} (hr_2 : I64 n_1) (h_5 : IsSl H (cSl (cInt .i64)) v_4 clauses_3) (h_8 : IsSl H (cPair cBool (cSl (cInt .i64))) v_7 proof_6) (h_11 : IsSl H cBool v_10 model_9) (hS : St w0 H (L) w) (hV : V_SatShown n_1 clauses_3 proof_6 model_9 Q) :
    Calls Try.prog 4 #[.int .i64 n_1, v_4, v_7, v_10] w fun e w' => ∃ (r1 : Bool), Q r1 ∧ e = .returned (.bool r1) ∧ St w0 H (L) w' := by
  unfold V_SatShown at hV
  refine enter Try.func4 rfl Try.ntmps4 rfl (lk_args_cons (d := 0) (v := .int .i64 n_1) rfl (lk_args_cons (d := 1) (v := v_4) rfl (lk_args_cons (d := 2) (v := v_7) rfl (lk_args_cons (d := 3) (v := v_10) rfl (lk_args_nil _))))) ?_
  refine WC.seq ?_
  refine WC.region ?_
  refine WL.run hS rfl rfl rfl (ex_assign rfl) ?_
  refine WL.nil ?_
  refine WQ.next ?_
  refine WC.sub (m := [(0, .int .i64 n_1), (1, v_4), (2, v_7), (3, v_10)]) ⟨rfl, rfl, rfl, rfl, trivial⟩ ?_
  refine WC.seq ?_
  refine WC.region ?_
  refine WL.call rfl rfl rfl (enters0 (vs := []) Try.call9 trivial) (S_lives   hS hV) ?_
  clear hV hS
  rintro _ w ⟨r_12, hV, rfl, hS⟩
  refine ⟨_, rfl, ?_⟩
  refine WL.run hS rfl rfl rfl (ex_assign rfl) ?_
  refine WL.nil ?_
  refine WQ.next ?_
  refine WC.sub (m := [(0, .int .i64 n_1), (1, v_4), (2, v_7), (3, v_10), (9, .bool r_12)]) ⟨rfl, rfl, rfl, rfl, rfl, trivial⟩ ?_
  refine WC.seq ?_
  refine WC.seq ?_
  refine WC.region ?_
  refine WL.run hS rfl rfl rfl (ex_move rfl) ?_
  refine WL.run hS rfl rfl rfl (ex_not rfl) ?_
  refine WL.nil ?_
  refine WQ.next ?_
  refine WC.sub (m := [(0, .int .i64 n_1), (1, v_4), (2, v_7), (3, v_10), (14, .bool (!r_12))]) ⟨rfl, rfl, rfl, rfl, rfl, trivial⟩ ?_
  refine WC.cond rfl ?_ ?_
  · intro hc_22
    replace hV := hV.1 hc_22
    refine WC.seq ?_
    refine WC.region ?_
    refine WL.run hS rfl rfl rfl (ex_assign rfl) ?_
    refine WL.nil ?_
    refine WQ.next ?_
    refine WC.sub (m := [(8, .bool false)]) ⟨rfl, trivial⟩ ?_
    refine WC.ret ?_
    refine WQ.pass nofun ?_
    exact leave1 rfl rfl ⟨false, hV, rfl, hS⟩
  · intro hc_22
    replace hV := hV.2 hc_22
    refine WC.skip ?_
    refine WQ.next ?_
    refine WC.sub (m := [(0, .int .i64 n_1), (1, v_4), (2, v_7), (3, v_10)]) ⟨rfl, rfl, rfl, rfl, trivial⟩ ?_
    refine WC.seq ?_
    refine WC.region ?_
    refine WL.run hS rfl rfl rfl (ex_move rfl) ?_
    refine WL.run hS rfl rfl rfl (ex_move rfl) ?_
    refine WL.run hS rfl rfl rfl (ex_move rfl) ?_
    refine WL.call rfl rfl rfl (enters0 (vs := [.int .i64 n_1, v_4, v_7]) Try.call6 ⟨rfl, rfl, rfl, trivial⟩) (S_Checked  hr_2 h_5 h_8 hS hV) ?_
    clear hV hS
    rintro _ w ⟨r_14, hV, rfl, hS⟩
    refine ⟨_, rfl, ?_⟩
    refine WL.run hS rfl rfl rfl (ex_assign rfl) ?_
    refine WL.nil ?_
    refine WQ.next ?_
    refine WC.sub (m := [(0, .int .i64 n_1), (1, v_4), (3, v_10), (10, .bool r_14)]) ⟨rfl, rfl, rfl, rfl, trivial⟩ ?_
    refine WC.seq ?_
    refine WC.region ?_
    refine WL.run hS rfl rfl rfl (ex_move rfl) ?_
    refine WL.run hS rfl rfl rfl (ex_move rfl) ?_
    refine WL.call rfl rfl rfl (enters0 (vs := [v_4, v_10]) Try.call10 ⟨rfl, rfl, trivial⟩) (S_Models  h_5 h_11 hS hV) ?_
    clear hV hS
    rintro _ w ⟨r_16, hV, rfl, hS⟩
    refine ⟨_, rfl, ?_⟩
    refine WL.run hS rfl rfl rfl (ex_assign rfl) ?_
    refine WL.nil ?_
    refine WQ.next ?_
    refine WC.sub (m := [(0, .int .i64 n_1), (3, v_10), (10, .bool r_14), (11, .bool r_16)]) ⟨rfl, rfl, rfl, rfl, trivial⟩ ?_
    refine WC.seq ?_
    have hl_18 : Len model_9 := h_11.bound
    replace hV := hV hl_18
    refine WC.via (m := [(8, .bool (decide ((((!r_14) = true) ∨ ((!r_16) = true)) ∨ ((model_9.length : Int) ≠ n_1))))]) ?_ ?_
    · refine WC.region ?_
      refine WL.run hS rfl rfl rfl (ex_move rfl) ?_
      refine WL.run hS rfl rfl rfl (ex_not rfl) ?_
      refine WL.run hS rfl rfl rfl (ex_move rfl) ?_
      rcases Bool.eq_false_or_eq_true (!r_14) with hg_19 | hg_19
      · refine WL.skip_g rfl rfl rfl hg_19 rfl rfl ?_
        refine WL.skip_g rfl rfl rfl hg_19 rfl rfl ?_
        refine WL.run hS rfl rfl rfl (ex_pick_t rfl hg_19 rfl) ?_
        refine WL.sub (m := [(0, .int .i64 n_1), (3, v_10), (10, .bool r_14), (11, .bool r_16), (22, .bool r_14), (23, .bool (!r_14)), (24, .bool (!r_14)), (25, undef), (26, undef), (27, .bool (decide (((!r_14) = true) ∨ ((!r_16) = true))))]) ⟨rfl, rfl, rfl, rfl, rfl, rfl, rfl, rfl, rfl, congrArg (fun b => some (Value.bool b)) (or_t ((dec_true _).symm.trans hg_19) : true = decide (((!r_14) = true) ∨ ((!r_16) = true))), trivial⟩ ?_
        refine WL.run hS rfl rfl rfl (ex_move rfl) ?_
        refine WL.skip_g rfl rfl rfl (or_t ((dec_true _).symm.trans hg_19)).symm rfl rfl ?_
        refine WL.skip_g rfl rfl rfl (or_t ((dec_true _).symm.trans hg_19)).symm rfl rfl ?_
        refine WL.skip_g rfl rfl rfl (or_t ((dec_true _).symm.trans hg_19)).symm rfl rfl ?_
        refine WL.skip_g rfl rfl rfl (or_t ((dec_true _).symm.trans hg_19)).symm rfl rfl ?_
        refine WL.run hS rfl rfl rfl (ex_pick_t rfl (or_t ((dec_true _).symm.trans hg_19)).symm rfl) ?_
        refine WL.sub (m := [(0, .int .i64 n_1), (3, v_10), (10, .bool r_14), (11, .bool r_16), (22, .bool r_14), (23, .bool (!r_14)), (24, .bool (!r_14)), (25, undef), (26, undef), (27, .bool (decide (((!r_14) = true) ∨ ((!r_16) = true)))), (28, .bool (decide (((!r_14) = true) ∨ ((!r_16) = true)))), (29, undef), (30, undef), (31, undef), (32, undef), (33, .bool (decide ((((!r_14) = true) ∨ ((!r_16) = true)) ∨ ((model_9.length : Int) ≠ n_1))))]) ⟨rfl, rfl, rfl, rfl, rfl, rfl, rfl, rfl, rfl, rfl, rfl, rfl, rfl, rfl, rfl, congrArg (fun b => some (Value.bool b)) (or_t (or_t ((dec_true _).symm.trans hg_19)).symm : true = decide ((((!r_14) = true) ∨ ((!r_16) = true)) ∨ ((model_9.length : Int) ≠ n_1))), trivial⟩ ?_
        refine WL.run hS rfl rfl rfl (ex_assign rfl) ?_
        exact WL.nil (At.of ⟨rfl, trivial⟩)
      · refine WL.unguard rfl rfl hg_19 ?_
        refine WL.run hS rfl rfl rfl (ex_move rfl) ?_
        refine WL.unguard rfl rfl hg_19 ?_
        refine WL.run hS rfl rfl rfl (ex_not rfl) ?_
        refine WL.run hS rfl rfl rfl (ex_pick_f rfl hg_19 rfl) ?_
        refine WL.sub (m := [(0, .int .i64 n_1), (3, v_10), (10, .bool r_14), (11, .bool r_16), (22, .bool r_14), (23, .bool (!r_14)), (24, .bool (!r_14)), (25, .bool r_16), (26, .bool (!r_16)), (27, .bool (decide (((!r_14) = true) ∨ ((!r_16) = true))))]) ⟨rfl, rfl, rfl, rfl, rfl, rfl, rfl, rfl, rfl, congrArg (fun b => some (Value.bool b)) ((dec_true _).trans (or_f ((dec_true _).symm.trans hg_19) : decide ((!r_16) = true) = decide (((!r_14) = true) ∨ ((!r_16) = true)))), trivial⟩ ?_
        refine WL.run hS rfl rfl rfl (ex_move rfl) ?_
        rcases Bool.eq_false_or_eq_true (decide (((!r_14) = true) ∨ ((!r_16) = true))) with hg_20 | hg_20
        · refine WL.skip_g rfl rfl rfl hg_20 rfl rfl ?_
          refine WL.skip_g rfl rfl rfl hg_20 rfl rfl ?_
          refine WL.skip_g rfl rfl rfl hg_20 rfl rfl ?_
          refine WL.skip_g rfl rfl rfl hg_20 rfl rfl ?_
          refine WL.run hS rfl rfl rfl (ex_pick_t rfl hg_20 rfl) ?_
          refine WL.sub (m := [(0, .int .i64 n_1), (3, v_10), (10, .bool r_14), (11, .bool r_16), (22, .bool r_14), (23, .bool (!r_14)), (24, .bool (!r_14)), (25, .bool r_16), (26, .bool (!r_16)), (27, .bool (decide (((!r_14) = true) ∨ ((!r_16) = true)))), (28, .bool (decide (((!r_14) = true) ∨ ((!r_16) = true)))), (29, undef), (30, undef), (31, undef), (32, undef), (33, .bool (decide ((((!r_14) = true) ∨ ((!r_16) = true)) ∨ ((model_9.length : Int) ≠ n_1))))]) ⟨rfl, rfl, rfl, rfl, rfl, rfl, rfl, rfl, rfl, rfl, rfl, rfl, rfl, rfl, rfl, congrArg (fun b => some (Value.bool b)) (or_t hg_20 : true = decide ((((!r_14) = true) ∨ ((!r_16) = true)) ∨ ((model_9.length : Int) ≠ n_1))), trivial⟩ ?_
          refine WL.run hS rfl rfl rfl (ex_assign rfl) ?_
          exact WL.nil (At.of ⟨rfl, trivial⟩)
        · refine WL.unguard rfl rfl hg_20 ?_
          refine WL.run hS rfl rfl rfl (ex_move rfl) ?_
          refine WL.unguard rfl rfl hg_20 ?_
          refine WL.run hS rfl rfl rfl (ex_len_sl Try.underlying27 rfl h_11) ?_
          refine WL.unguard rfl rfl hg_20 ?_
          refine WL.run hS rfl rfl rfl (ex_move rfl) ?_
          refine WL.unguard rfl rfl hg_20 ?_
          refine WL.run hS rfl rfl rfl (ex_neq rfl rfl) ?_
          refine WL.run hS rfl rfl rfl (ex_pick_f rfl hg_20 rfl) ?_
          refine WL.sub (m := [(0, .int .i64 n_1), (3, v_10), (10, .bool r_14), (11, .bool r_16), (22, .bool r_14), (23, .bool (!r_14)), (24, .bool (!r_14)), (25, .bool r_16), (26, .bool (!r_16)), (27, .bool (decide (((!r_14) = true) ∨ ((!r_16) = true)))), (28, .bool (decide (((!r_14) = true) ∨ ((!r_16) = true)))), (29, v_10), (30, .int .i64 (model_9.length : Int)), (31, .int .i64 n_1), (32, .bool (decide ((model_9.length : Int) ≠ n_1))), (33, .bool (decide ((((!r_14) = true) ∨ ((!r_16) = true)) ∨ ((model_9.length : Int) ≠ n_1))))]) ⟨rfl, rfl, rfl, rfl, rfl, rfl, rfl, rfl, rfl, rfl, rfl, rfl, rfl, rfl, rfl, congrArg (fun b => some (Value.bool b)) (or_f hg_20 : decide ((model_9.length : Int) ≠ n_1) = decide ((((!r_14) = true) ∨ ((!r_16) = true)) ∨ ((model_9.length : Int) ≠ n_1))), trivial⟩ ?_
          refine WL.run hS rfl rfl rfl (ex_assign rfl) ?_
          exact WL.nil (At.of ⟨rfl, trivial⟩)
    · refine WQ.next ?_
      refine WC.ret ?_
      exact leave1 rfl rfl ⟨decide ((((!r_14) = true) ∨ ((!r_16) = true)) ∨ ((model_9.length : Int) ≠ n_1)), hV, rfl, hS⟩

end Go.Proofs.Ytdflojjpjklbfaa
