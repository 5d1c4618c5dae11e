/- For each function: called, it does its work where its condition is so. Printed by program. -/
import Derived.Test.YtceipmldngeagaaDoorFacts
import Derived.Test.YtceipmldngeagaaDoorConds
import Derived.Test.YtceipmldngeagaaDoorTold
set_option linter.unusedVariables false
set_option maxRecDepth 100000
namespace Go.Proofs.YtceipmldngeagaaDoor
open Go.Vc
theorem S_New {w0 : World} {H : View} {L : Seg} {w : World} {n_1 : Int} {Q : (Option ((List (Int × Int × Int)) × (List Int) × (List ((Int × Int × Int) × Int)) × (List Int) × (List Int) × (List ((Int × Int × Int) × Int)))) → (Option Int) → Prop} (hr_2 : I64 n_1) (hS : St w0 H (L) w) (hV : V_New n_1 Q) :
    Calls Tryd.prog 4 #[.int .i64 n_1] w fun e w' => ∃ (r1 : Option ((List (Int × Int × Int)) × (List Int) × (List ((Int × Int × Int) × Int)) × (List Int) × (List Int) × (List ((Int × Int × Int) × Int)))) (r2 : Option Int) (v1 : Value) (fp1 : Seg), Q r1 r2 ∧ e = .returned (.tuple #[v1, errV 37 r2]) ∧ ((r1 = none ∧ v1 = .pointer none ∧ fp1 = ([] : Seg)) ∨ (∃ (x1_b : Nat) (x1_0 : List (Int × Int × Int)) (x1_1 : List Int) (x1_2 : List ((Int × Int × Int) × Int)) (x1_3 : List Int) (x1_4 : List Int) (x1_5 : List ((Int × Int × Int) × Int)) (x1_0v : Value) (x1_0f : Seg) (x1_1v : Value) (x1_1f : Seg) (x1_2v : Value) (x1_2f : Seg) (x1_3v : Value) (x1_3f : Seg) (x1_4v : Value) (x1_4f : Seg) (x1_5v : Value) (x1_5f : Seg), r1 = some (x1_0, x1_1, x1_2, x1_3, x1_4, x1_5) ∧ v1 = .pointer (some ⟨x1_b, 0, none⟩) ∧ fp1 = ([(x1_b, Obj.cells #[x1_0v, x1_1v, x1_2v, x1_3v, x1_4v, x1_5v] 44 (0, 0))] ++ (x1_0f ++ (x1_1f ++ (x1_2f ++ (x1_3f ++ (x1_4f ++ x1_5f)))))) ∧ OwnSl H (cPair (cInt .i64) (cPair (cInt .i64) (cInt .i64))) 46 x1_0v x1_0 x1_0f ∧ OwnSl H (cInt .i64) 29 x1_1v x1_1 x1_1f ∧ OwnMp H kTri (cInt .i64) x1_2v x1_2 x1_2f ∧ OwnSl H (cInt .i64) 3 x1_3v x1_3 x1_3f ∧ OwnSl H (cInt .i64) 3 x1_4v x1_4 x1_4f ∧ OwnMp H kTri (cInt .i64) x1_5v x1_5 x1_5f)) ∧ St w0 H (fp1 ++ L) w' := by
  unfold V_New at hV
  refine enter Tryd.func4 rfl Tryd.ntmps4 rfl (lk_args_cons (d := 0) (v := .int .i64 n_1) rfl (lk_args_nil _)) ?_
  refine WC.seq ?_
  refine WC.region ?_
  refine WL.run hS rfl rfl rfl (ex_assign rfl) ?_
  refine WL.run hS rfl rfl rfl (ex_assign rfl) ?_
  refine WL.nil ?_
  refine WQ.next ?_
  refine WC.sub (m := [(0, .int .i64 n_1)]) ⟨rfl, trivial⟩ ?_
  refine WC.seq ?_
  refine WC.seq ?_
  refine WC.via (m := [(0, .int .i64 n_1), (11, .bool (decide ((n_1 < 0) ∨ (24 < n_1))))]) ?_ ?_
  · refine WC.region ?_
    refine WL.run hS rfl rfl rfl (ex_move rfl) ?_
    refine WL.run hS rfl rfl rfl (ex_lss rfl rfl) ?_
    refine WL.run hS rfl rfl rfl (ex_move rfl) ?_
    rcases Bool.eq_false_or_eq_true (decide (n_1 < 0)) with hg_6 | hg_6
    · refine WL.skip_g rfl rfl rfl hg_6 rfl rfl ?_
      refine WL.skip_g rfl rfl rfl hg_6 rfl rfl ?_
      refine WL.run hS rfl rfl rfl (ex_pick_t rfl hg_6 rfl) ?_
      refine WL.sub (m := [(0, .int .i64 n_1), (6, .int .i64 n_1), (7, .bool (decide (n_1 < 0))), (8, .bool (decide (n_1 < 0))), (9, undef), (10, undef), (11, .bool (decide ((n_1 < 0) ∨ (24 < n_1))))]) ⟨rfl, rfl, rfl, rfl, rfl, rfl, congrArg (fun b => some (Value.bool b)) (or_t hg_6 : true = decide ((n_1 < 0) ∨ (24 < n_1))), trivial⟩ ?_
      exact WL.nil (At.of ⟨rfl, rfl, trivial⟩)
    · refine WL.unguard rfl rfl hg_6 ?_
      refine WL.run hS rfl rfl rfl (ex_move rfl) ?_
      refine WL.unguard rfl rfl hg_6 ?_
      refine WL.run hS rfl rfl rfl (ex_gtr rfl rfl) ?_
      refine WL.run hS rfl rfl rfl (ex_pick_f rfl hg_6 rfl) ?_
      refine WL.sub (m := [(0, .int .i64 n_1), (6, .int .i64 n_1), (7, .bool (decide (n_1 < 0))), (8, .bool (decide (n_1 < 0))), (9, .int .i64 n_1), (10, .bool (decide (24 < n_1))), (11, .bool (decide ((n_1 < 0) ∨ (24 < n_1))))]) ⟨rfl, rfl, rfl, rfl, rfl, rfl, congrArg (fun b => some (Value.bool b)) (or_f hg_6 : decide (24 < n_1) = decide ((n_1 < 0) ∨ (24 < n_1))), trivial⟩ ?_
      exact WL.nil (At.of ⟨rfl, rfl, trivial⟩)
  · refine WQ.next ?_
    refine WC.cond rfl ?_ ?_
    · intro hc_1033
      replace hV := hV.1 (of_decide_eq_true hc_1033)
      refine WC.seq ?_
      refine WC.region ?_
      refine WL.run hS rfl rfl rfl (ex_makeIface Tryd.concrete37 rfl) ?_
      refine WL.run hS rfl rfl rfl (ex_assign rfl) ?_
      refine WL.run hS rfl rfl rfl (ex_assign rfl) ?_
      refine WL.nil ?_
      refine WQ.next ?_
      refine WC.sub (m := [(2, .pointer none), (3, (.iface 37 (.int .i64 5)))]) ⟨rfl, rfl, trivial⟩ ?_
      refine WC.ret ?_
      refine WQ.pass nofun ?_
      exact leave2 rfl rfl rfl ⟨none, (some 5), (.pointer none), ([] : Seg), hV, rfl, (.inl ⟨rfl, rfl, rfl⟩), hS⟩
    · intro hc_1033
      replace hV := hV.2 (of_decide_eq_false hc_1033)
      refine WC.skip ?_
      refine WQ.next ?_
      refine WC.sub (m := [(0, .int .i64 n_1)]) ⟨rfl, trivial⟩ ?_
      refine WC.seq ?_
      refine WC.region ?_
      obtain ⟨hm_12, hV⟩ := hV
      refine WL.makes (c := (cPair (cInt .i64) (cPair (cInt .i64) (cInt .i64)))) (z0 := (0, 0, 0)) rfl Tryd.underlying38 Tryd.info46 ⟨[.int .i64 0], _, rfl, ⟨rfl, I64.has (show I64 0 from ⟨by omega, by omega⟩)⟩, ⟨[.int .i64 0], _, rfl, ⟨rfl, I64.has (show I64 0 from ⟨by omega, by omega⟩)⟩, ⟨rfl, I64.has (show I64 0 from ⟨by omega, by omega⟩)⟩⟩⟩ rfl rfl hm_12.1 hm_12.2.1 hm_12.2.2 hS ?_
      clear hS
      intro v_9 w fp_10 h_11 hS
      refine WL.makeMap (κ := (Int × Int × Int)) (ν := Int) (kc := kTri) (c := (cInt .i64)) rfl hS ?_
      clear hS
      intro v_13 w fp_14 h_15 hS
      refine WL.makeMap (κ := (Int × Int × Int)) (ν := Int) (kc := kTri) (c := (cInt .i64)) rfl hS ?_
      clear hS
      intro v_17 w fp_18 h_19 hS
      refine WL.run hS rfl rfl rfl (ex_build (vs := [v_9, v_13, v_17]) (zc := #[(.slice none 0 0), (.slice none 0 0), .map none, (.slice none 0 0), (.slice none 0 0), .map none]) (cs := #[v_9, (.slice none 0 0), v_13, (.slice none 0 0), (.slice none 0 0), v_17]) (places := #[(0, 1), (1, 1), (2, 1), (3, 1), (4, 1), (5, 1)]) Tryd.underlying44 Tryd.zeroValue44 (fun w => by simp [Tryd.sizeOf38, Tryd.sizeOf39, Tryd.sizeOf40, Tryd.sizeOf41, Tryd.sizeOf42]) rfl ⟨rfl, rfl, rfl, trivial⟩ rfl (by simp [Instr.fill, cells_int, cells_bool, cells_one (OwnSl.one h_11), cells_one (OwnMp.one h_15), cells_one (OwnMp.one h_19)])) ?_
      refine WL.box (arr := #[v_9, (.slice none 0 0), v_13, (.slice none 0 0), (.slice none 0 0), v_17]) rfl rfl rfl hS ?_
      clear hS
      intro b_25 w hS
      refine WL.run hS rfl rfl rfl (ex_assign rfl) ?_
      refine WL.nil ?_
      refine WQ.next ?_
      refine WC.sub (m := [(0, .int .i64 n_1), (4, .pointer (some ⟨b_25, 0, none⟩))]) ⟨rfl, rfl, trivial⟩ ?_
      refine WC.seq ?_
      refine WC.seq ?_
      refine WC.region ?_
      refine WL.run hS rfl rfl rfl (ex_move rfl) ?_
      refine WL.run hS rfl rfl rfl (ex_move rfl) ?_
      refine WL.nil ?_
      refine WQ.next ?_
      refine WC.block ?_
      replace hS := hS.nilseg
      replace hS := hS.nilseg
      replace hS := hS.f4
      replace hS := hS.f2
      replace hS := hS.f3
      replace hS := hS.f5
      replace hS := hS.f6
      replace hS := hS.f6
      obtain ⟨I_671, mu_672, hI_1032, hV⟩ := hV
      refine WC.loop (σ := (List Int) × (List Int) × Int) (fun s a w => ∃ (c_344 : List Int) (c_349 : List Int) (x_353 : Int) (v_345 : Value) (fp_346 : Seg) (v_350 : Value) (fp_351 : Seg), s = (c_344, c_349, x_353) ∧ I_671 (c_344, c_349, x_353) ∧ OwnSl H (cInt .i64) 3 v_345 c_344 fp_346 ∧ OwnSl H (cInt .i64) 3 v_350 c_349 fp_351 ∧ I64 x_353 ∧ St w0 H ([(b_25, Obj.cells #[v_9, (.slice none 0 0), v_13, v_345, v_350, v_17] 44 (0, 0))] ++ (fp_10 ++ (fp_14 ++ (fp_346 ++ (fp_351 ++ (fp_18 ++ L)))))) w ∧ Fr 58 [(0, .int .i64 n_1), (4, .pointer (some ⟨b_25, 0, none⟩)), (18, .int .i64 n_1), (19, .int .i64 x_353)] a) mu_672 (([] : List Int), ([] : List Int), 0) ?_ ?_
      · exact fun a ha => ⟨([] : List Int), ([] : List Int), 0, (.slice none 0 0), ([] : Seg), (.slice none 0 0), ([] : Seg), rfl, hI_1032, OwnSl.nil, OwnSl.nil, (by unfold I64; omega), hS, ha.of_sub ⟨rfl, rfl, rfl, rfl, trivial⟩⟩
      · clear hS hI_1032
        rintro _ a w ⟨c_344, c_349, x_353, v_345, fp_346, v_350, fp_351, rfl, hI, h_347, h_352, hr_354, hS, ha⟩
        refine in_frame ha ?_
        clear ha
        replace hV := hV _ hI
        clear hI
        refine WC.seq ?_
        refine WC.region ?_
        refine WL.run hS rfl rfl rfl (ex_lss rfl rfl) ?_
        refine WL.nil ?_
        refine WQ.next ?_
        refine WC.seq ?_
        refine WC.cond rfl ?_ ?_
        · intro hc_1031
          replace hV := hV.1 (of_decide_eq_true hc_1031)
          refine WC.skip ?_
          refine WQ.next ?_
          refine WC.sub (m := [(0, .int .i64 n_1), (4, .pointer (some ⟨b_25, 0, none⟩)), (18, .int .i64 n_1), (19, .int .i64 x_353)]) ⟨rfl, rfl, rfl, rfl, trivial⟩ ?_
          obtain ⟨J_835, hJ_836, hV⟩ := hV
          refine WC.meet (fun a w => ∃ (c_826 : List Int) (c_831 : List Int) (v_827 : Value) (fp_828 : Seg) (v_832 : Value) (fp_833 : Seg), J_835 (c_826, c_831) ∧ OwnSl H (cInt .i64) 3 v_827 c_826 fp_828 ∧ OwnSl H (cInt .i64) 3 v_832 c_831 fp_833 ∧ St w0 H ([(b_25, Obj.cells #[v_9, (.slice none 0 0), v_13, v_827, v_832, v_17] 44 (0, 0))] ++ (fp_10 ++ (fp_14 ++ (fp_828 ++ (fp_833 ++ (fp_18 ++ L)))))) w ∧ Fr 58 [(0, .int .i64 n_1), (4, .pointer (some ⟨b_25, 0, none⟩)), (18, .int .i64 n_1), (19, .int .i64 x_353)] a) ?_ ?_
          · rintro a w ⟨c_826, c_831, v_827, fp_828, v_832, fp_833, hI, h_829, h_834, hS, ha⟩
            refine in_frame ha ?_
            clear ha hV
            have hV := hJ_836 _ hI
            clear hI hJ_836
            refine WC.region ?_
            obtain ⟨hi_988, hV⟩ := hV
            refine WL.run hS rfl rfl rfl (ex_add rfl rfl hi_988) ?_
            refine WL.run hS rfl rfl rfl (ex_move rfl) ?_
            refine WL.nil ?_
            replace hS := hS.f6
            replace hS := hS.f6
            replace hS := hS.f6
            replace hS := hS.f6
            replace hS := hS.f6
            replace hS := hS.f6
            exact WQ.there fun a ha => ⟨(c_826, c_831, (x_353 + 1)), ⟨c_826, c_831, (x_353 + 1), v_827, fp_828, v_832, fp_833, rfl, hV.1, h_829, h_834, hi_988, hS, ha.of_sub ⟨rfl, rfl, rfl, rfl, trivial⟩⟩, hV.2⟩
          · clear hJ_836
            refine WC.block ?_
            refine WC.seq ?_
            refine WC.region ?_
            refine WL.run hS rfl rfl rfl (ex_move rfl) ?_
            refine WL.run hS rfl rfl rfl (ex_assign rfl) ?_
            refine WL.nil ?_
            refine WQ.next ?_
            refine WC.sub (m := [(0, .int .i64 n_1), (4, .pointer (some ⟨b_25, 0, none⟩)), (5, .int .i64 x_353), (18, .int .i64 n_1), (19, .int .i64 x_353)]) ⟨rfl, rfl, rfl, rfl, rfl, trivial⟩ ?_
            refine WC.drawns (C := St w0 H ([(b_25, Obj.cells #[v_9, (.slice none 0 0), v_13, v_345, v_350, v_17] 44 (0, 0))] ++ (fp_10 ++ (fp_14 ++ (fp_346 ++ (fp_351 ++ (fp_18 ++ L))))))) [[], [], [], [2], [2, 3], [2, 3, 4], [], [6], [2, 3, 4, 5, 6, 7], [], [9], [9, 10], [9, 10, 11], [], [13], [2, 3, 4, 5, 6, 7, 8, 9, 10, 11, 12, 13, 14], [0, 2, 3, 4, 5, 6, 7, 8, 9, 10, 11, 12, 13, 14, 15], [0, 2, 3, 4, 5, 6, 7, 8, 9, 10, 11, 12, 13, 14, 15, 16], [0, 2, 3, 4, 5, 6, 7, 8, 9, 10, 11, 12, 13, 14, 15, 16, 17], [0, 1, 2, 3, 4, 5, 6, 7, 8, 9, 10, 11, 12, 13, 14, 15, 16, 17, 18], [0, 1, 2, 3, 4, 5, 6, 7, 8, 9, 10, 11, 12, 13, 14, 15, 16, 17, 18, 19], [0, 1, 2, 3, 4, 5, 6, 7, 8, 9, 10, 11, 12, 13, 14, 15, 16, 17, 18, 19, 20]] [7, 8, 14, 15, 18, 21] [[0, 1, 2, 3, 4, 5, 6, 9, 10, 11, 12, 13, 7, 8, 14, 15, 16, 17, 18, 19, 20, 21], [0, 1, 2, 3, 4, 5, 6, 9, 10, 11, 12, 13, 7, 14, 8, 15, 16, 17, 18, 19, 20, 21], [0, 1, 2, 3, 4, 5, 6, 9, 10, 11, 12, 13, 14, 7, 8, 15, 16, 17, 18, 19, 20, 21]] Tryd.mixed (by kernel_rfl) (hS.drawn _) ?_
            clear hS w
            refine ⟨?_, ?_, ?_, trivial⟩
            · replace hV := hV.1
              refine Wd.run rfl rfl rfl rfl (fun _ => ex_move rfl) fun q_838 hq_837 => ?_
              refine Wd.run rfl rfl rfl rfl (fun _ => ex_move rfl) fun q_840 hq_839 => ?_
              refine Wd.run rfl rfl rfl rfl (fun _ => ex_move rfl) fun q_842 hq_841 => ?_
              refine Wd.run rfl rfl rfl rfl (fun _ => ex_nilCheck rfl) fun q_844 hq_843 => ?_
              refine Wd.run rfl rfl rfl rfl (fun _ => ex_fieldAddr (o' := 3) Tryd.underlying44 rfl Tryd.sizeOf42 rfl rfl) fun q_846 hq_845 => ?_
              refine Wd.runb (off := 3) rfl rfl rfl rfl (fun _ _ _ h => ex_load_box Tryd.isAgg42 rfl h) rfl (fun _ h => h) fun q_848 hq_847 => ?_
              refine Wd.run rfl rfl rfl rfl (fun _ => ex_move rfl) fun q_850 hq_849 => ?_
              refine Wd.run rfl rfl rfl rfl (fun _ => ex_move rfl) fun q_852 hq_851 => ?_
              refine Wd.run rfl rfl rfl rfl (fun _ => ex_nilCheck rfl) fun q_854 hq_853 => ?_
              refine Wd.run rfl rfl rfl rfl (fun _ => ex_fieldAddr (o' := 4) Tryd.underlying44 rfl Tryd.sizeOf42 rfl rfl) fun q_856 hq_855 => ?_
              refine Wd.runb (off := 4) rfl rfl rfl rfl (fun _ _ _ h => ex_load_box Tryd.isAgg42 rfl h) rfl (fun _ h => h) fun q_858 hq_857 => ?_
              refine Wd.run rfl rfl rfl rfl (fun _ => ex_move rfl) fun q_860 hq_859 => ?_
              refine Wd.turn rfl rfl rfl fun w hS => ?_
              refine WL.build1 (c := (cInt .i64)) rfl Tryd.underlying42 Tryd.info3 rfl rfl (cInt_mk (I64.has hr_354)) hS ?_
              clear hS
              intro v_862 w fp_863 h_864 hS
              refine WL.nil (DQ.mk2 (C' := St w0 H (fp_863 ++ ([(b_25, Obj.cells #[v_9, (.slice none 0 0), v_13, v_345, v_350, v_17] 44 (0, 0))] ++ (fp_10 ++ (fp_14 ++ (fp_346 ++ (fp_351 ++ (fp_18 ++ L)))))))) hS ⟨.inr (hq_859 _), .inr (hq_857 H (fp_863 ++ (fp_10 ++ (fp_14 ++ (fp_346 ++ (fp_351 ++ (fp_18 ++ L)))))) #[v_9, (.slice none 0 0), v_13, v_345, v_350, v_17] _ rfl (fun _ h => St.f2 h)), .inr (hq_855 _), .inr (hq_853 _), .inr (hq_851 _), .inl rfl, .inr (hq_847 H (fp_863 ++ (fp_10 ++ (fp_14 ++ (fp_346 ++ (fp_351 ++ (fp_18 ++ L)))))) #[v_9, (.slice none 0 0), v_13, v_345, v_350, v_17] _ rfl (fun _ h => St.f2 h)), .inr (hq_845 _), .inr (hq_843 _), .inr (hq_841 _), .inr (hq_839 _), .inr (hq_837 _), trivial⟩ ?_)
              clear hS w
              refine Wd.turn rfl rfl rfl fun w hS => ?_
              obtain ⟨hr_865, hV⟩ := hV
              replace hS := hS.f5
              refine WL.append (c := (cInt .i64)) (xs := c_344) (ys := ([x_353])) rfl Tryd.underlying42 Tryd.info3 rfl rfl rfl hS h_347 (h_864.src hS.f2) hr_865.1 hr_865.2 ?_
              clear hS
              intro v_866 w fp_867 h_868 hS
              refine WL.nil (DQ.mk2 (C' := St w0 H (fp_867 ++ (fp_863 ++ ([(b_25, Obj.cells #[v_9, (.slice none 0 0), v_13, v_345, v_350, v_17] 44 (0, 0))] ++ (fp_10 ++ (fp_14 ++ (fp_351 ++ (fp_18 ++ L)))))))) hS ⟨.inr (hq_859 _), .inr (hq_857 H (fp_867 ++ (fp_863 ++ (fp_10 ++ (fp_14 ++ (fp_351 ++ (fp_18 ++ L)))))) #[v_9, (.slice none 0 0), v_13, v_345, v_350, v_17] _ rfl (fun _ h => St.f3 h)), .inr (hq_855 _), .inr (hq_853 _), .inr (hq_851 _), .inl rfl, .inl rfl, .inl rfl, .inl rfl, .inl rfl, .inr (hq_839 _), .inr (hq_837 _), trivial⟩ ?_)
              clear hS w
              refine Wd.turn rfl rfl rfl fun w hS => ?_
              refine WL.build1 (c := (cInt .i64)) rfl Tryd.underlying42 Tryd.info3 rfl rfl (cInt_mk (I64.has hr_354)) hS ?_
              clear hS
              intro v_871 w fp_872 h_873 hS
              refine WL.nil (DQ.mk2 (C' := St w0 H (fp_872 ++ (fp_867 ++ (fp_863 ++ ([(b_25, Obj.cells #[v_9, (.slice none 0 0), v_13, v_345, v_350, v_17] 44 (0, 0))] ++ (fp_10 ++ (fp_14 ++ (fp_351 ++ (fp_18 ++ L))))))))) hS ⟨.inl rfl, .inr (hq_857 H (fp_872 ++ (fp_867 ++ (fp_863 ++ (fp_10 ++ (fp_14 ++ (fp_351 ++ (fp_18 ++ L))))))) #[v_9, (.slice none 0 0), v_13, v_345, v_350, v_17] _ rfl (fun _ h => St.f4 h)), .inr (hq_855 _), .inr (hq_853 _), .inr (hq_851 _), .inr (hq_849 _), .inr (hq_847 H (fp_872 ++ (fp_867 ++ (fp_863 ++ (fp_10 ++ (fp_14 ++ (fp_351 ++ (fp_18 ++ L))))))) #[v_9, (.slice none 0 0), v_13, v_345, v_350, v_17] _ rfl (fun _ h => St.f4 h)), .inr (hq_845 _), .inr (hq_843 _), .inr (hq_841 _), .inr (hq_839 _), .inr (hq_837 _), trivial⟩ ?_)
              clear hS w
              refine Wd.turn rfl rfl rfl fun w hS => ?_
              obtain ⟨hr_874, hV⟩ := hV
              replace hS := hS.f7
              refine WL.append (c := (cInt .i64)) (xs := c_349) (ys := ([x_353])) rfl Tryd.underlying42 Tryd.info3 rfl rfl rfl hS h_352 (h_873.src hS.f2) hr_874.1 hr_874.2 ?_
              clear hS
              intro v_875 w fp_876 h_877 hS
              refine WL.nil (DQ.mk2 (C' := St w0 H (fp_876 ++ (fp_872 ++ (fp_867 ++ (fp_863 ++ ([(b_25, Obj.cells #[v_9, (.slice none 0 0), v_13, v_345, v_350, v_17] 44 (0, 0))] ++ (fp_10 ++ (fp_14 ++ (fp_18 ++ L))))))))) hS ⟨.inl rfl, .inl rfl, .inl rfl, .inl rfl, .inl rfl, .inl rfl, .inl rfl, .inl rfl, .inl rfl, .inl rfl, .inr (hq_839 _), .inr (hq_837 _), trivial⟩ ?_)
              clear hS w
              refine Wd.run rfl rfl rfl rfl (fun _ => ex_nilCheck rfl) fun q_880 hq_879 => ?_
              refine Wd.run rfl rfl rfl rfl (fun _ => ex_fieldAddr (o' := 3) Tryd.underlying44 rfl Tryd.sizeOf42 rfl rfl) fun q_882 hq_881 => ?_
              refine Wd.turn rfl rfl rfl fun w hS => ?_
              replace hS := hS.f5
              refine WL.store_box (pre := [v_9, (.slice none 0 0), v_13]) (old := [v_345]) (rst := [v_350, v_17]) (cs := [v_866]) (arr' := #[v_9, (.slice none 0 0), v_13, v_866, v_350, v_17]) Tryd.sizeOf42 rfl rfl (congrArg Array.toList (cells_one (OwnSl.one h_868))) ⟨(OwnSl.one h_868), trivial⟩ rfl rfl rfl rfl hS ?_
              clear hS
              intro w hS
              refine WL.nil (DQ.mk2 (C' := St w0 H ([(b_25, Obj.cells #[v_9, (.slice none 0 0), v_13, v_866, v_350, v_17] 44 (0, 0))] ++ (fp_876 ++ (fp_872 ++ (fp_867 ++ (fp_863 ++ (fp_10 ++ (fp_14 ++ (fp_18 ++ L))))))))) hS ⟨.inl rfl, .inl rfl, .inl rfl, .inl rfl, .inl rfl, .inl rfl, .inl rfl, .inl rfl, .inl rfl, .inl rfl, .inl rfl, .inl rfl, .inr (hq_839 _), .inl rfl, trivial⟩ ?_)
              clear hS w
              refine Wd.run rfl rfl rfl rfl (fun _ => ex_nilCheck rfl) fun q_884 hq_883 => ?_
              refine Wd.run rfl rfl rfl rfl (fun _ => ex_fieldAddr (o' := 4) Tryd.underlying44 rfl Tryd.sizeOf42 rfl rfl) fun q_886 hq_885 => ?_
              refine Wd.turn rfl rfl rfl fun w hS => ?_
              refine WL.store_box (pre := [v_9, (.slice none 0 0), v_13, v_866]) (old := [v_350]) (rst := [v_17]) (cs := [v_875]) (arr' := #[v_9, (.slice none 0 0), v_13, v_866, v_875, v_17]) Tryd.sizeOf42 rfl rfl (congrArg Array.toList (cells_one (OwnSl.one h_877))) ⟨(OwnSl.one h_877), trivial⟩ rfl rfl rfl rfl hS ?_
              clear hS
              intro w hS
              refine WL.nil (DQ.mk2 (C' := St w0 H ([(b_25, Obj.cells #[v_9, (.slice none 0 0), v_13, v_866, v_875, v_17] 44 (0, 0))] ++ (fp_876 ++ (fp_872 ++ (fp_867 ++ (fp_863 ++ (fp_10 ++ (fp_14 ++ (fp_18 ++ L))))))))) hS ⟨.inl rfl, .inl rfl, .inl rfl, .inl rfl, .inl rfl, .inl rfl, .inl rfl, .inl rfl, .inl rfl, .inl rfl, .inl rfl, .inl rfl, .inl rfl, .inl rfl, .inl rfl, .inl rfl, trivial⟩ ?_)
              clear hS w
              refine Wd.nil fun w hS => ?_
              refine WQ.out nofun ?_
              replace hS := hS.f3.drop
              replace hS := hS.f4.drop
              replace hS := hS.f6
              replace hS := hS.f3
              replace hS := hS.f4
              replace hS := hS.f6
              replace hS := hS.f6
              replace hS := hS.f6
              exact WQ.there fun a ha => ⟨(c_344 ++ ([x_353])), (c_349 ++ ([x_353])), v_866, fp_867, v_875, fp_876, hV, h_868, h_877, hS, ha.of_sub ⟨rfl, rfl, rfl, rfl, trivial⟩⟩
            · replace hV := hV.2.1
              refine Wd.run rfl rfl rfl rfl (fun _ => ex_move rfl) fun q_888 hq_887 => ?_
              refine Wd.run rfl rfl rfl rfl (fun _ => ex_move rfl) fun q_890 hq_889 => ?_
              refine Wd.run rfl rfl rfl rfl (fun _ => ex_move rfl) fun q_892 hq_891 => ?_
              refine Wd.run rfl rfl rfl rfl (fun _ => ex_nilCheck rfl) fun q_894 hq_893 => ?_
              refine Wd.run rfl rfl rfl rfl (fun _ => ex_fieldAddr (o' := 3) Tryd.underlying44 rfl Tryd.sizeOf42 rfl rfl) fun q_896 hq_895 => ?_
              refine Wd.runb (off := 3) rfl rfl rfl rfl (fun _ _ _ h => ex_load_box Tryd.isAgg42 rfl h) rfl (fun _ h => h) fun q_898 hq_897 => ?_
              refine Wd.run rfl rfl rfl rfl (fun _ => ex_move rfl) fun q_900 hq_899 => ?_
              refine Wd.run rfl rfl rfl rfl (fun _ => ex_move rfl) fun q_902 hq_901 => ?_
              refine Wd.run rfl rfl rfl rfl (fun _ => ex_nilCheck rfl) fun q_904 hq_903 => ?_
              refine Wd.run rfl rfl rfl rfl (fun _ => ex_fieldAddr (o' := 4) Tryd.underlying44 rfl Tryd.sizeOf42 rfl rfl) fun q_906 hq_905 => ?_
              refine Wd.runb (off := 4) rfl rfl rfl rfl (fun _ _ _ h => ex_load_box Tryd.isAgg42 rfl h) rfl (fun _ h => h) fun q_908 hq_907 => ?_
              refine Wd.run rfl rfl rfl rfl (fun _ => ex_move rfl) fun q_910 hq_909 => ?_
              refine Wd.turn rfl rfl rfl fun w hS => ?_
              refine WL.build1 (c := (cInt .i64)) rfl Tryd.underlying42 Tryd.info3 rfl rfl (cInt_mk (I64.has hr_354)) hS ?_
              clear hS
              intro v_912 w fp_913 h_914 hS
              refine WL.nil (DQ.mk2 (C' := St w0 H (fp_913 ++ ([(b_25, Obj.cells #[v_9, (.slice none 0 0), v_13, v_345, v_350, v_17] 44 (0, 0))] ++ (fp_10 ++ (fp_14 ++ (fp_346 ++ (fp_351 ++ (fp_18 ++ L)))))))) hS ⟨.inr (hq_909 _), .inr (hq_907 H (fp_913 ++ (fp_10 ++ (fp_14 ++ (fp_346 ++ (fp_351 ++ (fp_18 ++ L)))))) #[v_9, (.slice none 0 0), v_13, v_345, v_350, v_17] _ rfl (fun _ h => St.f2 h)), .inr (hq_905 _), .inr (hq_903 _), .inr (hq_901 _), .inl rfl, .inr (hq_897 H (fp_913 ++ (fp_10 ++ (fp_14 ++ (fp_346 ++ (fp_351 ++ (fp_18 ++ L)))))) #[v_9, (.slice none 0 0), v_13, v_345, v_350, v_17] _ rfl (fun _ h => St.f2 h)), .inr (hq_895 _), .inr (hq_893 _), .inr (hq_891 _), .inr (hq_889 _), .inr (hq_887 _), trivial⟩ ?_)
              clear hS w
              refine Wd.turn rfl rfl rfl fun w hS => ?_
              refine WL.build1 (c := (cInt .i64)) rfl Tryd.underlying42 Tryd.info3 rfl rfl (cInt_mk (I64.has hr_354)) hS ?_
              clear hS
              intro v_916 w fp_917 h_918 hS
              refine WL.nil (DQ.mk2 (C' := St w0 H (fp_917 ++ (fp_913 ++ ([(b_25, Obj.cells #[v_9, (.slice none 0 0), v_13, v_345, v_350, v_17] 44 (0, 0))] ++ (fp_10 ++ (fp_14 ++ (fp_346 ++ (fp_351 ++ (fp_18 ++ L))))))))) hS ⟨.inl rfl, .inr (hq_907 H (fp_917 ++ (fp_913 ++ (fp_10 ++ (fp_14 ++ (fp_346 ++ (fp_351 ++ (fp_18 ++ L))))))) #[v_9, (.slice none 0 0), v_13, v_345, v_350, v_17] _ rfl (fun _ h => St.f3 h)), .inr (hq_905 _), .inr (hq_903 _), .inr (hq_901 _), .inr (hq_899 _), .inr (hq_897 H (fp_917 ++ (fp_913 ++ (fp_10 ++ (fp_14 ++ (fp_346 ++ (fp_351 ++ (fp_18 ++ L))))))) #[v_9, (.slice none 0 0), v_13, v_345, v_350, v_17] _ rfl (fun _ h => St.f3 h)), .inr (hq_895 _), .inr (hq_893 _), .inr (hq_891 _), .inr (hq_889 _), .inr (hq_887 _), trivial⟩ ?_)
              clear hS w
              refine Wd.turn rfl rfl rfl fun w hS => ?_
              obtain ⟨hr_919, hV⟩ := hV
              replace hS := hS.f2
              replace hS := hS.f6
              refine WL.append (c := (cInt .i64)) (xs := c_344) (ys := ([x_353])) rfl Tryd.underlying42 Tryd.info3 rfl rfl rfl hS h_347 (h_914.src hS.f2) hr_919.1 hr_919.2 ?_
              clear hS
              intro v_920 w fp_921 h_922 hS
              refine WL.nil (DQ.mk2 (C' := St w0 H (fp_921 ++ (fp_913 ++ (fp_917 ++ ([(b_25, Obj.cells #[v_9, (.slice none 0 0), v_13, v_345, v_350, v_17] 44 (0, 0))] ++ (fp_10 ++ (fp_14 ++ (fp_351 ++ (fp_18 ++ L))))))))) hS ⟨.inr (hq_909 _), .inr (hq_907 H (fp_921 ++ (fp_913 ++ (fp_917 ++ (fp_10 ++ (fp_14 ++ (fp_351 ++ (fp_18 ++ L))))))) #[v_9, (.slice none 0 0), v_13, v_345, v_350, v_17] _ rfl (fun _ h => St.f4 h)), .inr (hq_905 _), .inr (hq_903 _), .inr (hq_901 _), .inl rfl, .inl rfl, .inl rfl, .inl rfl, .inl rfl, .inr (hq_889 _), .inr (hq_887 _), trivial⟩ ?_)
              clear hS w
              refine Wd.turn rfl rfl rfl fun w hS => ?_
              obtain ⟨hr_924, hV⟩ := hV
              replace hS := hS.f3
              replace hS := hS.f7
              refine WL.append (c := (cInt .i64)) (xs := c_349) (ys := ([x_353])) rfl Tryd.underlying42 Tryd.info3 rfl rfl rfl hS h_352 (h_918.src hS.f2) hr_924.1 hr_924.2 ?_
              clear hS
              intro v_925 w fp_926 h_927 hS
              refine WL.nil (DQ.mk2 (C' := St w0 H (fp_926 ++ (fp_917 ++ (fp_921 ++ (fp_913 ++ ([(b_25, Obj.cells #[v_9, (.slice none 0 0), v_13, v_345, v_350, v_17] 44 (0, 0))] ++ (fp_10 ++ (fp_14 ++ (fp_18 ++ L))))))))) hS ⟨.inl rfl, .inl rfl, .inl rfl, .inl rfl, .inl rfl, .inl rfl, .inl rfl, .inl rfl, .inl rfl, .inl rfl, .inr (hq_889 _), .inr (hq_887 _), trivial⟩ ?_)
              clear hS w
              refine Wd.run rfl rfl rfl rfl (fun _ => ex_nilCheck rfl) fun q_930 hq_929 => ?_
              refine Wd.run rfl rfl rfl rfl (fun _ => ex_fieldAddr (o' := 3) Tryd.underlying44 rfl Tryd.sizeOf42 rfl rfl) fun q_932 hq_931 => ?_
              refine Wd.turn rfl rfl rfl fun w hS => ?_
              replace hS := hS.f5
              refine WL.store_box (pre := [v_9, (.slice none 0 0), v_13]) (old := [v_345]) (rst := [v_350, v_17]) (cs := [v_920]) (arr' := #[v_9, (.slice none 0 0), v_13, v_920, v_350, v_17]) Tryd.sizeOf42 rfl rfl (congrArg Array.toList (cells_one (OwnSl.one h_922))) ⟨(OwnSl.one h_922), trivial⟩ rfl rfl rfl rfl hS ?_
              clear hS
              intro w hS
              refine WL.nil (DQ.mk2 (C' := St w0 H ([(b_25, Obj.cells #[v_9, (.slice none 0 0), v_13, v_920, v_350, v_17] 44 (0, 0))] ++ (fp_926 ++ (fp_917 ++ (fp_921 ++ (fp_913 ++ (fp_10 ++ (fp_14 ++ (fp_18 ++ L))))))))) hS ⟨.inl rfl, .inl rfl, .inl rfl, .inl rfl, .inl rfl, .inl rfl, .inl rfl, .inl rfl, .inl rfl, .inl rfl, .inl rfl, .inl rfl, .inr (hq_889 _), .inl rfl, trivial⟩ ?_)
              clear hS w
              refine Wd.run rfl rfl rfl rfl (fun _ => ex_nilCheck rfl) fun q_934 hq_933 => ?_
              refine Wd.run rfl rfl rfl rfl (fun _ => ex_fieldAddr (o' := 4) Tryd.underlying44 rfl Tryd.sizeOf42 rfl rfl) fun q_936 hq_935 => ?_
              refine Wd.turn rfl rfl rfl fun w hS => ?_
              refine WL.store_box (pre := [v_9, (.slice none 0 0), v_13, v_920]) (old := [v_350]) (rst := [v_17]) (cs := [v_925]) (arr' := #[v_9, (.slice none 0 0), v_13, v_920, v_925, v_17]) Tryd.sizeOf42 rfl rfl (congrArg Array.toList (cells_one (OwnSl.one h_927))) ⟨(OwnSl.one h_927), trivial⟩ rfl rfl rfl rfl hS ?_
              clear hS
              intro w hS
              refine WL.nil (DQ.mk2 (C' := St w0 H ([(b_25, Obj.cells #[v_9, (.slice none 0 0), v_13, v_920, v_925, v_17] 44 (0, 0))] ++ (fp_926 ++ (fp_917 ++ (fp_921 ++ (fp_913 ++ (fp_10 ++ (fp_14 ++ (fp_18 ++ L))))))))) hS ⟨.inl rfl, .inl rfl, .inl rfl, .inl rfl, .inl rfl, .inl rfl, .inl rfl, .inl rfl, .inl rfl, .inl rfl, .inl rfl, .inl rfl, .inl rfl, .inl rfl, .inl rfl, .inl rfl, trivial⟩ ?_)
              clear hS w
              refine Wd.nil fun w hS => ?_
              refine WQ.out nofun ?_
              replace hS := hS.f3.drop
              replace hS := hS.f4.drop
              replace hS := hS.f6
              replace hS := hS.f3
              replace hS := hS.f4
              replace hS := hS.f6
              replace hS := hS.f6
              replace hS := hS.f6
              exact WQ.there fun a ha => ⟨(c_344 ++ ([x_353])), (c_349 ++ ([x_353])), v_920, fp_921, v_925, fp_926, hV, h_922, h_927, hS, ha.of_sub ⟨rfl, rfl, rfl, rfl, trivial⟩⟩
            · replace hV := hV.2.2
              refine Wd.run rfl rfl rfl rfl (fun _ => ex_move rfl) fun q_938 hq_937 => ?_
              refine Wd.run rfl rfl rfl rfl (fun _ => ex_move rfl) fun q_940 hq_939 => ?_
              refine Wd.run rfl rfl rfl rfl (fun _ => ex_move rfl) fun q_942 hq_941 => ?_
              refine Wd.run rfl rfl rfl rfl (fun _ => ex_nilCheck rfl) fun q_944 hq_943 => ?_
              refine Wd.run rfl rfl rfl rfl (fun _ => ex_fieldAddr (o' := 3) Tryd.underlying44 rfl Tryd.sizeOf42 rfl rfl) fun q_946 hq_945 => ?_
              refine Wd.runb (off := 3) rfl rfl rfl rfl (fun _ _ _ h => ex_load_box Tryd.isAgg42 rfl h) rfl (fun _ h => h) fun q_948 hq_947 => ?_
              refine Wd.run rfl rfl rfl rfl (fun _ => ex_move rfl) fun q_950 hq_949 => ?_
              refine Wd.run rfl rfl rfl rfl (fun _ => ex_move rfl) fun q_952 hq_951 => ?_
              refine Wd.run rfl rfl rfl rfl (fun _ => ex_nilCheck rfl) fun q_954 hq_953 => ?_
              refine Wd.run rfl rfl rfl rfl (fun _ => ex_fieldAddr (o' := 4) Tryd.underlying44 rfl Tryd.sizeOf42 rfl rfl) fun q_956 hq_955 => ?_
              refine Wd.runb (off := 4) rfl rfl rfl rfl (fun _ _ _ h => ex_load_box Tryd.isAgg42 rfl h) rfl (fun _ h => h) fun q_958 hq_957 => ?_
              refine Wd.run rfl rfl rfl rfl (fun _ => ex_move rfl) fun q_960 hq_959 => ?_
              refine Wd.turn rfl rfl rfl fun w hS => ?_
              refine WL.build1 (c := (cInt .i64)) rfl Tryd.underlying42 Tryd.info3 rfl rfl (cInt_mk (I64.has hr_354)) hS ?_
              clear hS
              intro v_962 w fp_963 h_964 hS
              refine WL.nil (DQ.mk2 (C' := St w0 H (fp_963 ++ ([(b_25, Obj.cells #[v_9, (.slice none 0 0), v_13, v_345, v_350, v_17] 44 (0, 0))] ++ (fp_10 ++ (fp_14 ++ (fp_346 ++ (fp_351 ++ (fp_18 ++ L)))))))) hS ⟨.inl rfl, .inr (hq_957 H (fp_963 ++ (fp_10 ++ (fp_14 ++ (fp_346 ++ (fp_351 ++ (fp_18 ++ L)))))) #[v_9, (.slice none 0 0), v_13, v_345, v_350, v_17] _ rfl (fun _ h => St.f2 h)), .inr (hq_955 _), .inr (hq_953 _), .inr (hq_951 _), .inr (hq_949 _), .inr (hq_947 H (fp_963 ++ (fp_10 ++ (fp_14 ++ (fp_346 ++ (fp_351 ++ (fp_18 ++ L)))))) #[v_9, (.slice none 0 0), v_13, v_345, v_350, v_17] _ rfl (fun _ h => St.f2 h)), .inr (hq_945 _), .inr (hq_943 _), .inr (hq_941 _), .inr (hq_939 _), .inr (hq_937 _), trivial⟩ ?_)
              clear hS w
              refine Wd.turn rfl rfl rfl fun w hS => ?_
              refine WL.build1 (c := (cInt .i64)) rfl Tryd.underlying42 Tryd.info3 rfl rfl (cInt_mk (I64.has hr_354)) hS ?_
              clear hS
              intro v_966 w fp_967 h_968 hS
              refine WL.nil (DQ.mk2 (C' := St w0 H (fp_967 ++ (fp_963 ++ ([(b_25, Obj.cells #[v_9, (.slice none 0 0), v_13, v_345, v_350, v_17] 44 (0, 0))] ++ (fp_10 ++ (fp_14 ++ (fp_346 ++ (fp_351 ++ (fp_18 ++ L))))))))) hS ⟨.inr (hq_959 _), .inr (hq_957 H (fp_967 ++ (fp_963 ++ (fp_10 ++ (fp_14 ++ (fp_346 ++ (fp_351 ++ (fp_18 ++ L))))))) #[v_9, (.slice none 0 0), v_13, v_345, v_350, v_17] _ rfl (fun _ h => St.f3 h)), .inr (hq_955 _), .inr (hq_953 _), .inr (hq_951 _), .inl rfl, .inr (hq_947 H (fp_967 ++ (fp_963 ++ (fp_10 ++ (fp_14 ++ (fp_346 ++ (fp_351 ++ (fp_18 ++ L))))))) #[v_9, (.slice none 0 0), v_13, v_345, v_350, v_17] _ rfl (fun _ h => St.f3 h)), .inr (hq_945 _), .inr (hq_943 _), .inr (hq_941 _), .inr (hq_939 _), .inr (hq_937 _), trivial⟩ ?_)
              clear hS w
              refine Wd.turn rfl rfl rfl fun w hS => ?_
              obtain ⟨hr_969, hV⟩ := hV
              replace hS := hS.f6
              refine WL.append (c := (cInt .i64)) (xs := c_344) (ys := ([x_353])) rfl Tryd.underlying42 Tryd.info3 rfl rfl rfl hS h_347 (h_968.src hS.f2) hr_969.1 hr_969.2 ?_
              clear hS
              intro v_970 w fp_971 h_972 hS
              refine WL.nil (DQ.mk2 (C' := St w0 H (fp_971 ++ (fp_967 ++ (fp_963 ++ ([(b_25, Obj.cells #[v_9, (.slice none 0 0), v_13, v_345, v_350, v_17] 44 (0, 0))] ++ (fp_10 ++ (fp_14 ++ (fp_351 ++ (fp_18 ++ L))))))))) hS ⟨.inr (hq_959 _), .inr (hq_957 H (fp_971 ++ (fp_967 ++ (fp_963 ++ (fp_10 ++ (fp_14 ++ (fp_351 ++ (fp_18 ++ L))))))) #[v_9, (.slice none 0 0), v_13, v_345, v_350, v_17] _ rfl (fun _ h => St.f4 h)), .inr (hq_955 _), .inr (hq_953 _), .inr (hq_951 _), .inl rfl, .inl rfl, .inl rfl, .inl rfl, .inl rfl, .inr (hq_939 _), .inr (hq_937 _), trivial⟩ ?_)
              clear hS w
              refine Wd.turn rfl rfl rfl fun w hS => ?_
              obtain ⟨hr_974, hV⟩ := hV
              replace hS := hS.f3
              replace hS := hS.f7
              refine WL.append (c := (cInt .i64)) (xs := c_349) (ys := ([x_353])) rfl Tryd.underlying42 Tryd.info3 rfl rfl rfl hS h_352 (h_964.src hS.f2) hr_974.1 hr_974.2 ?_
              clear hS
              intro v_975 w fp_976 h_977 hS
              refine WL.nil (DQ.mk2 (C' := St w0 H (fp_976 ++ (fp_963 ++ (fp_971 ++ (fp_967 ++ ([(b_25, Obj.cells #[v_9, (.slice none 0 0), v_13, v_345, v_350, v_17] 44 (0, 0))] ++ (fp_10 ++ (fp_14 ++ (fp_18 ++ L))))))))) hS ⟨.inl rfl, .inl rfl, .inl rfl, .inl rfl, .inl rfl, .inl rfl, .inl rfl, .inl rfl, .inl rfl, .inl rfl, .inr (hq_939 _), .inr (hq_937 _), trivial⟩ ?_)
              clear hS w
              refine Wd.run rfl rfl rfl rfl (fun _ => ex_nilCheck rfl) fun q_980 hq_979 => ?_
              refine Wd.run rfl rfl rfl rfl (fun _ => ex_fieldAddr (o' := 3) Tryd.underlying44 rfl Tryd.sizeOf42 rfl rfl) fun q_982 hq_981 => ?_
              refine Wd.turn rfl rfl rfl fun w hS => ?_
              replace hS := hS.f5
              refine WL.store_box (pre := [v_9, (.slice none 0 0), v_13]) (old := [v_345]) (rst := [v_350, v_17]) (cs := [v_970]) (arr' := #[v_9, (.slice none 0 0), v_13, v_970, v_350, v_17]) Tryd.sizeOf42 rfl rfl (congrArg Array.toList (cells_one (OwnSl.one h_972))) ⟨(OwnSl.one h_972), trivial⟩ rfl rfl rfl rfl hS ?_
              clear hS
              intro w hS
              refine WL.nil (DQ.mk2 (C' := St w0 H ([(b_25, Obj.cells #[v_9, (.slice none 0 0), v_13, v_970, v_350, v_17] 44 (0, 0))] ++ (fp_976 ++ (fp_963 ++ (fp_971 ++ (fp_967 ++ (fp_10 ++ (fp_14 ++ (fp_18 ++ L))))))))) hS ⟨.inl rfl, .inl rfl, .inl rfl, .inl rfl, .inl rfl, .inl rfl, .inl rfl, .inl rfl, .inl rfl, .inl rfl, .inl rfl, .inl rfl, .inr (hq_939 _), .inl rfl, trivial⟩ ?_)
              clear hS w
              refine Wd.run rfl rfl rfl rfl (fun _ => ex_nilCheck rfl) fun q_984 hq_983 => ?_
              refine Wd.run rfl rfl rfl rfl (fun _ => ex_fieldAddr (o' := 4) Tryd.underlying44 rfl Tryd.sizeOf42 rfl rfl) fun q_986 hq_985 => ?_
              refine Wd.turn rfl rfl rfl fun w hS => ?_
              refine WL.store_box (pre := [v_9, (.slice none 0 0), v_13, v_970]) (old := [v_350]) (rst := [v_17]) (cs := [v_975]) (arr' := #[v_9, (.slice none 0 0), v_13, v_970, v_975, v_17]) Tryd.sizeOf42 rfl rfl (congrArg Array.toList (cells_one (OwnSl.one h_977))) ⟨(OwnSl.one h_977), trivial⟩ rfl rfl rfl rfl hS ?_
              clear hS
              intro w hS
              refine WL.nil (DQ.mk2 (C' := St w0 H ([(b_25, Obj.cells #[v_9, (.slice none 0 0), v_13, v_970, v_975, v_17] 44 (0, 0))] ++ (fp_976 ++ (fp_963 ++ (fp_971 ++ (fp_967 ++ (fp_10 ++ (fp_14 ++ (fp_18 ++ L))))))))) hS ⟨.inl rfl, .inl rfl, .inl rfl, .inl rfl, .inl rfl, .inl rfl, .inl rfl, .inl rfl, .inl rfl, .inl rfl, .inl rfl, .inl rfl, .inl rfl, .inl rfl, .inl rfl, .inl rfl, trivial⟩ ?_)
              clear hS w
              refine Wd.nil fun w hS => ?_
              refine WQ.out nofun ?_
              replace hS := hS.f3.drop
              replace hS := hS.f4.drop
              replace hS := hS.f6
              replace hS := hS.f3
              replace hS := hS.f4
              replace hS := hS.f6
              replace hS := hS.f6
              replace hS := hS.f6
              exact WQ.there fun a ha => ⟨(c_344 ++ ([x_353])), (c_349 ++ ([x_353])), v_970, fp_971, v_975, fp_976, hV, h_972, h_977, hS, ha.of_sub ⟨rfl, rfl, rfl, rfl, trivial⟩⟩
        · intro hc_1031
          replace hV := hV.2 (of_decide_eq_false hc_1031)
          refine WC.exit ?_
          refine WQ.pass nofun ?_
          refine WQ.pass nofun ?_
          refine WQ.hit ?_
          refine WQ.next ?_
          refine WC.sub (m := [(0, .int .i64 n_1), (4, .pointer (some ⟨b_25, 0, none⟩))]) ⟨rfl, rfl, trivial⟩ ?_
          refine WC.seq ?_
          refine WC.drawn (σ := [0, 1, 2, 3, 4, 5, 6, 7, 8, 9, 10, 11, 12, 13, 14, 15]) (C := St w0 H ([(b_25, Obj.cells #[v_9, (.slice none 0 0), v_13, v_345, v_350, v_17] 44 (0, 0))] ++ (fp_10 ++ (fp_14 ++ (fp_346 ++ (fp_351 ++ (fp_18 ++ L))))))) [[], [0], [0, 1], [0, 1, 2], [], [4], [4, 5], [4, 5, 6], [], [], [0, 1, 2, 3, 4, 5, 6, 7, 8], [0, 1, 2, 3, 4, 5, 6, 7, 8, 10], [0, 1, 2, 3, 4, 5, 6, 7, 8, 10, 11], [0, 1, 2, 3, 4, 5, 6, 7, 8, 9, 10, 11, 12], [0, 1, 2, 3, 4, 5, 6, 7, 8, 9, 10, 11, 12, 13], [0, 1, 2, 3, 4, 5, 6, 7, 8, 9, 10, 11, 12, 13, 14]] [12, 15] Tryd.mixed (by kernel_rfl) (hS.drawn _) ?_
          clear hS w
          refine Wd.run rfl rfl rfl rfl (fun _ => ex_move rfl) fun q_990 hq_989 => ?_
          refine Wd.run rfl rfl rfl rfl (fun _ => ex_nilCheck rfl) fun q_992 hq_991 => ?_
          refine Wd.run rfl rfl rfl rfl (fun _ => ex_fieldAddr (o' := 0) Tryd.underlying44 rfl Tryd.sizeOf38 rfl rfl) fun q_994 hq_993 => ?_
          refine Wd.runb (off := 0) rfl rfl rfl rfl (fun _ _ _ h => ex_load_box Tryd.isAgg38 rfl h) rfl (fun _ h => h) fun q_996 hq_995 => ?_
          refine Wd.run rfl rfl rfl rfl (fun _ => ex_move rfl) fun q_998 hq_997 => ?_
          refine Wd.run rfl rfl rfl rfl (fun _ => ex_nilCheck rfl) fun q_1000 hq_999 => ?_
          refine Wd.run rfl rfl rfl rfl (fun _ => ex_fieldAddr (o' := 0) Tryd.underlying44 rfl Tryd.sizeOf38 rfl rfl) fun q_1002 hq_1001 => ?_
          refine Wd.runb (off := 0) rfl rfl rfl rfl (fun _ _ _ h => ex_load_box Tryd.isAgg38 rfl h) rfl (fun _ h => h) fun q_1004 hq_1003 => ?_
          refine Wd.run rfl rfl rfl rfl (fun _ => ex_move rfl) fun q_1006 hq_1005 => ?_
          refine Wd.run rfl rfl rfl rfl (fun _ => ex_move rfl) fun q_1008 hq_1007 => ?_
          obtain ⟨hin_1011, hV⟩ := hV
          refine Wd.runx rfl rfl rfl rfl (exAll (ex_index_own Tryd.underlying38 Tryd.sizeOf46 rfl rfl h_11 hin_1011)) ?_
          intro p_1012 hp_1013
          intro q_1010 hq_1009
          refine Wd.runx rfl rfl rfl rfl (exAll (ex_fieldAddr_own Tryd.underlying46 rfl Tryd.sizeOf3 rfl hp_1013)) ?_
          intro p_1017 hp_1016
          intro q_1015 hq_1014
          refine Wd.turn rfl rfl rfl fun w hS => ?_
          replace hS := hS.f2
          refine WL.store_ownpart (d := (cInt .i64)) Tryd.sizeOf3 rfl rfl rfl (cInt_mk (I64.has hr_2)) (by decide) PartSet.fst hS h_11 hp_1016 hin_1011 ?_
          clear hS
          intro w fp_1019 h_1018 hS
          refine WL.nil (DQ.mk2 (C' := St w0 H (fp_1019 ++ ([(b_25, Obj.cells #[v_9, (.slice none 0 0), v_13, v_345, v_350, v_17] 44 (0, 0))] ++ (fp_14 ++ (fp_346 ++ (fp_351 ++ (fp_18 ++ L))))))) hS ⟨.inl rfl, .inl rfl, .inr (hq_1007 _), .inl rfl, .inl rfl, .inl rfl, .inl rfl, .inl rfl, .inl rfl, .inl rfl, .inl rfl, .inl rfl, trivial⟩ ?_)
          clear hS w
          obtain ⟨hin_1022, hV⟩ := hV
          refine Wd.runx rfl rfl rfl rfl (exAll (ex_index_own Tryd.underlying38 Tryd.sizeOf46 rfl rfl h_1018 hin_1022)) ?_
          intro p_1023 hp_1024
          intro q_1021 hq_1020
          refine Wd.runx rfl rfl rfl rfl (exAll (ex_fieldAddr_own Tryd.underlying46 rfl Tryd.sizeOf3 rfl hp_1024)) ?_
          intro p_1028 hp_1027
          intro q_1026 hq_1025
          refine Wd.turn rfl rfl rfl fun w hS => ?_
          refine WL.store_ownpart (d := (cInt .i64)) Tryd.sizeOf3 rfl rfl rfl (cInt_mk (I64.has hr_2)) (by decide) PartSet.fst hS h_1018 hp_1027 hin_1022 ?_
          clear hS
          intro w fp_1030 h_1029 hS
          refine WL.nil (DQ.mk2 (C' := St w0 H (fp_1030 ++ ([(b_25, Obj.cells #[v_9, (.slice none 0 0), v_13, v_345, v_350, v_17] 44 (0, 0))] ++ (fp_14 ++ (fp_346 ++ (fp_351 ++ (fp_18 ++ L))))))) hS ⟨.inl rfl, .inl rfl, .inl rfl, .inl rfl, .inl rfl, .inl rfl, .inl rfl, .inl rfl, .inl rfl, .inl rfl, .inl rfl, .inl rfl, .inl rfl, .inl rfl, trivial⟩ ?_)
          clear hS w
          refine Wd.nil fun w hS => ?_
          refine WQ.next ?_
          refine WC.sub (m := [(4, .pointer (some ⟨b_25, 0, none⟩))]) ⟨rfl, trivial⟩ ?_
          refine WC.seq ?_
          refine WC.region ?_
          refine WL.run hS rfl rfl rfl (ex_move rfl) ?_
          refine WL.run hS rfl rfl rfl (ex_assign rfl) ?_
          refine WL.run hS rfl rfl rfl (ex_assign rfl) ?_
          refine WL.nil ?_
          refine WQ.next ?_
          refine WC.sub (m := [(2, .pointer (some ⟨b_25, 0, none⟩)), (3, .nilIface)]) ⟨rfl, rfl, trivial⟩ ?_
          refine WC.ret ?_
          replace hS := hS.nilseg
          replace hS := hS.f7
          replace hS := hS.f7
          replace hS := hS.f7
          replace hS := hS.f7
          replace hS := hS.f5
          replace hS := hS.f6
          replace hS := hS.f7
          replace hS : St w0 H (([(b_25, Obj.cells #[v_9, (.slice none 0 0), v_13, v_345, v_350, v_17] 44 (0, 0))] ++ (fp_1030 ++ (([] : Seg) ++ (fp_14 ++ (fp_346 ++ (fp_351 ++ fp_18)))))) ++ L) w := by simpa only [List.append_assoc] using hS
          exact leave2 rfl rfl rfl ⟨(some ((((List.replicate (2 : Int).toNat (0, 0, 0)).set (0 : Int).toNat (n_1, (ix (List.replicate (2 : Int).toNat (0, 0, 0)) 0).2.1, (ix (List.replicate (2 : Int).toNat (0, 0, 0)) 0).2.2)).set (1 : Int).toNat (n_1, (ix ((List.replicate (2 : Int).toNat (0, 0, 0)).set (0 : Int).toNat (n_1, (ix (List.replicate (2 : Int).toNat (0, 0, 0)) 0).2.1, (ix (List.replicate (2 : Int).toNat (0, 0, 0)) 0).2.2)) 1).2.1, (ix ((List.replicate (2 : Int).toNat (0, 0, 0)).set (0 : Int).toNat (n_1, (ix (List.replicate (2 : Int).toNat (0, 0, 0)) 0).2.1, (ix (List.replicate (2 : Int).toNat (0, 0, 0)) 0).2.2)) 1).2.2)), ([] : List Int), ([] : List ((Int × Int × Int) × Int)), c_344, c_349, ([] : List ((Int × Int × Int) × Int)))), none, (.pointer (some ⟨b_25, 0, none⟩)), ([(b_25, Obj.cells #[v_9, (.slice none 0 0), v_13, v_345, v_350, v_17] 44 (0, 0))] ++ (fp_1030 ++ (([] : Seg) ++ (fp_14 ++ (fp_346 ++ (fp_351 ++ fp_18)))))), hV, rfl, (.inr ⟨b_25, (((List.replicate (2 : Int).toNat (0, 0, 0)).set (0 : Int).toNat (n_1, (ix (List.replicate (2 : Int).toNat (0, 0, 0)) 0).2.1, (ix (List.replicate (2 : Int).toNat (0, 0, 0)) 0).2.2)).set (1 : Int).toNat (n_1, (ix ((List.replicate (2 : Int).toNat (0, 0, 0)).set (0 : Int).toNat (n_1, (ix (List.replicate (2 : Int).toNat (0, 0, 0)) 0).2.1, (ix (List.replicate (2 : Int).toNat (0, 0, 0)) 0).2.2)) 1).2.1, (ix ((List.replicate (2 : Int).toNat (0, 0, 0)).set (0 : Int).toNat (n_1, (ix (List.replicate (2 : Int).toNat (0, 0, 0)) 0).2.1, (ix (List.replicate (2 : Int).toNat (0, 0, 0)) 0).2.2)) 1).2.2)), ([] : List Int), ([] : List ((Int × Int × Int) × Int)), c_344, c_349, ([] : List ((Int × Int × Int) × Int)), v_9, fp_1030, (.slice none 0 0), ([] : Seg), v_13, fp_14, v_345, fp_346, v_350, fp_351, v_17, fp_18, rfl, rfl, rfl, h_1029, OwnSl.nil, h_15, h_347, h_352, h_19⟩), hS⟩

theorem S_False_ {w0 : World} {H : View} {L : Seg} {w : World} {b_2 : Nat} {v_5 : Value} {nodes_4 : List (Int × Int × Int)} {fp_7 : Seg} {v_10 : Value} {free_9 : List Int} {fp_12 : Seg} {v_15 : Value} {xby_14 : List ((Int × Int × Int) × Int)} {fp_17 : Seg} {v_20 : Value} {order_19 : List Int} {fp_22 : Seg} {v_25 : Value} {level_24 : List Int} {fp_27 : Seg} {v_30 : Value} {memo_29 : List ((Int × Int × Int) × Int)} {fp_32 : Seg} {Q : Int → Prop} (h_6 : OwnSl H (cPair (cInt .i64) (cPair (cInt .i64) (cInt .i64))) 46 v_5 nodes_4 fp_7) (h_11 : OwnSl H (cInt .i64) 29 v_10 free_9 fp_12) (h_16 : OwnMp H kTri (cInt .i64) v_15 xby_14 fp_17) (h_21 : OwnSl H (cInt .i64) 3 v_20 order_19 fp_22) (h_26 : OwnSl H (cInt .i64) 3 v_25 level_24 fp_27) (h_31 : OwnMp H kTri (cInt .i64) v_30 memo_29 fp_32) (hS : St w0 H ([(b_2, Obj.cells #[v_5, v_10, v_15, v_20, v_25, v_30] 44 (0, 0))] ++ (fp_7 ++ (fp_12 ++ (fp_17 ++ (fp_22 ++ (fp_27 ++ (fp_32 ++ L))))))) w) (hV : V_False_ nodes_4 free_9 xby_14 order_19 level_24 memo_29 Q) :
    Calls Tryd.prog 10 #[.pointer (some ⟨b_2, 0, none⟩)] w fun e w' => ∃ (r1 : Int), Q r1 ∧ e = .returned (.int .i64 r1) ∧ I64 r1 ∧ St w0 H ([(b_2, Obj.cells #[v_5, v_10, v_15, v_20, v_25, v_30] 44 (0, 0))] ++ (fp_7 ++ (fp_12 ++ (fp_17 ++ (fp_22 ++ (fp_27 ++ (fp_32 ++ L))))))) w' := by
  unfold V_False_ at hV
  refine enter Tryd.func10 rfl Tryd.ntmps10 rfl (lk_args_cons (d := 0) (v := .pointer (some ⟨b_2, 0, none⟩)) rfl (lk_args_nil _)) ?_
  refine WC.seq ?_
  refine WC.region ?_
  refine WL.run hS rfl rfl rfl (ex_assign rfl) ?_
  refine WL.nil ?_
  refine WQ.next ?_
  refine WC.sub (m := []) trivial ?_
  refine WC.seq ?_
  refine WC.region ?_
  refine WL.run hS rfl rfl rfl (ex_assign rfl) ?_
  refine WL.nil ?_
  refine WQ.next ?_
  refine WC.ret ?_
  replace hS := hS.f7
  replace hS := hS.f7
  replace hS := hS.f7
  replace hS := hS.f7
  replace hS := hS.f7
  replace hS := hS.f7
  replace hS := hS.f7
  exact leave1 rfl rfl ⟨0, hV, rfl, (by unfold I64; omega), hS⟩

theorem S_True_ {w0 : World} {H : View} {L : Seg} {w : World} {b_2 : Nat} {v_5 : Value} {nodes_4 : List (Int × Int × Int)} {fp_7 : Seg} {v_10 : Value} {free_9 : List Int} {fp_12 : Seg} {v_15 : Value} {xby_14 : List ((Int × Int × Int) × Int)} {fp_17 : Seg} {v_20 : Value} {order_19 : List Int} {fp_22 : Seg} {v_25 : Value} {level_24 : List Int} {fp_27 : Seg} {v_30 : Value} {memo_29 : List ((Int × Int × Int) × Int)} {fp_32 : Seg} {Q : Int → Prop} (h_6 : OwnSl H (cPair (cInt .i64) (cPair (cInt .i64) (cInt .i64))) 46 v_5 nodes_4 fp_7) (h_11 : OwnSl H (cInt .i64) 29 v_10 free_9 fp_12) (h_16 : OwnMp H kTri (cInt .i64) v_15 xby_14 fp_17) (h_21 : OwnSl H (cInt .i64) 3 v_20 order_19 fp_22) (h_26 : OwnSl H (cInt .i64) 3 v_25 level_24 fp_27) (h_31 : OwnMp H kTri (cInt .i64) v_30 memo_29 fp_32) (hS : St w0 H ([(b_2, Obj.cells #[v_5, v_10, v_15, v_20, v_25, v_30] 44 (0, 0))] ++ (fp_7 ++ (fp_12 ++ (fp_17 ++ (fp_22 ++ (fp_27 ++ (fp_32 ++ L))))))) w) (hV : V_True_ nodes_4 free_9 xby_14 order_19 level_24 memo_29 Q) :
    Calls Tryd.prog 11 #[.pointer (some ⟨b_2, 0, none⟩)] w fun e w' => ∃ (r1 : Int), Q r1 ∧ e = .returned (.int .i64 r1) ∧ I64 r1 ∧ St w0 H ([(b_2, Obj.cells #[v_5, v_10, v_15, v_20, v_25, v_30] 44 (0, 0))] ++ (fp_7 ++ (fp_12 ++ (fp_17 ++ (fp_22 ++ (fp_27 ++ (fp_32 ++ L))))))) w' := by
  unfold V_True_ at hV
  refine enter Tryd.func11 rfl Tryd.ntmps11 rfl (lk_args_cons (d := 0) (v := .pointer (some ⟨b_2, 0, none⟩)) rfl (lk_args_nil _)) ?_
  refine WC.seq ?_
  refine WC.region ?_
  refine WL.run hS rfl rfl rfl (ex_assign rfl) ?_
  refine WL.nil ?_
  refine WQ.next ?_
  refine WC.sub (m := []) trivial ?_
  refine WC.seq ?_
  refine WC.region ?_
  refine WL.run hS rfl rfl rfl (ex_assign rfl) ?_
  refine WL.nil ?_
  refine WQ.next ?_
  refine WC.ret ?_
  replace hS := hS.f7
  replace hS := hS.f7
  replace hS := hS.f7
  replace hS := hS.f7
  replace hS := hS.f7
  replace hS := hS.f7
  replace hS := hS.f7
  exact leave1 rfl rfl ⟨1, hV, rfl, (by unfold I64; omega), hS⟩

theorem S_Is {w0 : World} {H : View} {L : Seg} {w : World} {b_2 : Nat} {v_5 : Value} {nodes_4 : List (Int × Int × Int)} {fp_7 : Seg} {v_10 : Value} {free_9 : List Int} {fp_12 : Seg} {v_15 : Value} {xby_14 : List ((Int × Int × Int) × Int)} {fp_17 : Seg} {v_20 : Value} {order_19 : List Int} {fp_22 : Seg} {v_25 : Value} {level_24 : List Int} {fp_27 : Seg} {v_30 : Value} {memo_29 : List ((Int × Int × Int) × Int)} {fp_32 : Seg} {i_34 : Int} {Q : Bool → Prop} (h_6 : OwnSl H (cPair (cInt .i64) (cPair (cInt .i64) (cInt .i64))) 46 v_5 nodes_4 fp_7) (h_11 : OwnSl H (cInt .i64) 29 v_10 free_9 fp_12) (h_16 : OwnMp H kTri (cInt .i64) v_15 xby_14 fp_17) (h_21 : OwnSl H (cInt .i64) 3 v_20 order_19 fp_22) (h_26 : OwnSl H (cInt .i64) 3 v_25 level_24 fp_27) (h_31 : OwnMp H kTri (cInt .i64) v_30 memo_29 fp_32) (hr_35 : I64 i_34) (hS : St w0 H ([(b_2, Obj.cells #[v_5, v_10, v_15, v_20, v_25, v_30] 44 (0, 0))] ++ (fp_7 ++ (fp_12 ++ (fp_17 ++ (fp_22 ++ (fp_27 ++ (fp_32 ++ L))))))) w) (hV : V_Is nodes_4 free_9 xby_14 order_19 level_24 memo_29 i_34 Q) :
    Calls Tryd.prog 14 #[.pointer (some ⟨b_2, 0, none⟩), .int .i64 i_34] w fun e w' => ∃ (r1 : Bool), Q r1 ∧ e = .returned (.bool r1) ∧ St w0 H ([(b_2, Obj.cells #[v_5, v_10, v_15, v_20, v_25, v_30] 44 (0, 0))] ++ (fp_7 ++ (fp_12 ++ (fp_17 ++ (fp_22 ++ (fp_27 ++ (fp_32 ++ L))))))) w' := by
  unfold V_Is at hV
  refine enter Tryd.func14 rfl Tryd.ntmps14 rfl (lk_args_cons (d := 0) (v := .pointer (some ⟨b_2, 0, none⟩)) rfl (lk_args_cons (d := 1) (v := .int .i64 i_34) rfl (lk_args_nil _))) ?_
  refine WC.seq ?_
  refine WC.region ?_
  refine WL.run hS rfl rfl rfl (ex_assign rfl) ?_
  refine WL.nil ?_
  refine WQ.next ?_
  refine WC.sub (m := [(0, .pointer (some ⟨b_2, 0, none⟩)), (1, .int .i64 i_34)]) ⟨rfl, rfl, trivial⟩ ?_
  obtain ⟨J_41, hJ_42, hV⟩ := hV
  refine WC.meet (fun a w => ∃ (x_40 : Bool), J_41 x_40 ∧ St w0 H ([(b_2, Obj.cells #[v_5, v_10, v_15, v_20, v_25, v_30] 44 (0, 0))] ++ (fp_7 ++ (fp_12 ++ (fp_17 ++ (fp_22 ++ (fp_27 ++ (fp_32 ++ L))))))) w ∧ Fr 16 [(4, .bool x_40)] a) ?_ ?_
  · rintro a w ⟨x_40, hI, hS, ha⟩
    refine in_frame ha ?_
    clear ha hV
    have hV := hJ_42 _ hI
    clear hI hJ_42
    refine WC.ret ?_
    replace hS := hS.f7
    replace hS := hS.f7
    replace hS := hS.f7
    replace hS := hS.f7
    replace hS := hS.f7
    replace hS := hS.f7
    replace hS := hS.f7
    exact leave1 rfl rfl ⟨x_40, hV, rfl, hS⟩
  · clear hJ_42
    refine WC.region ?_
    refine WL.run hS rfl rfl rfl (ex_move rfl) ?_
    refine WL.run hS rfl rfl rfl (ex_geq rfl rfl) ?_
    refine WL.run hS rfl rfl rfl (ex_move rfl) ?_
    rcases Bool.eq_false_or_eq_true (decide (0 ≤ i_34)) with hg_44 | hg_44
    · replace hV := hV.1 (of_decide_eq_true hg_44)
      refine WL.unguard rfl rfl hg_44 ?_
      refine WL.run hS rfl rfl rfl (ex_move rfl) ?_
      refine WL.unguard rfl rfl hg_44 ?_
      refine WL.run hS rfl rfl rfl (ex_move rfl) ?_
      refine WL.unguard rfl rfl hg_44 ?_
      refine WL.run hS rfl rfl rfl (ex_nilCheck rfl) ?_
      refine WL.unguard rfl rfl hg_44 ?_
      refine WL.run hS rfl rfl rfl (ex_fieldAddr (o' := 3) Tryd.underlying44 rfl Tryd.sizeOf42 rfl rfl) ?_
      refine WL.unguard rfl rfl hg_44 ?_
      refine WL.run hS rfl rfl rfl (ex_load_box Tryd.isAgg42 rfl rfl) ?_
      refine WL.unguard rfl rfl hg_44 ?_
      have hl_45 : Len order_19 := h_21.bound
      replace hV := hV hl_45
      refine WL.run hS rfl rfl rfl (ex_len_own Tryd.underlying42 rfl h_21) ?_
      refine WL.unguard rfl rfl hg_44 ?_
      refine WL.run hS rfl rfl rfl (ex_lss rfl rfl) ?_
      refine WL.run hS rfl rfl rfl (ex_pick_t rfl hg_44 rfl) ?_
      refine WL.run hS rfl rfl rfl (ex_assign rfl) ?_
      refine WL.nil ?_
      replace hS := hS.f7
      replace hS := hS.f7
      replace hS := hS.f7
      replace hS := hS.f7
      replace hS := hS.f7
      replace hS := hS.f7
      replace hS := hS.f7
      exact WQ.there fun a ha => ⟨decide (i_34 < (order_19.length : Int)), hV, hS, ha.of_sub ⟨rfl, trivial⟩⟩
    · replace hV := hV.2 (of_decide_eq_false hg_44)
      refine WL.skip_g rfl rfl rfl hg_44 rfl rfl ?_
      refine WL.skip_g rfl rfl rfl hg_44 rfl rfl ?_
      refine WL.skip_g rfl rfl rfl hg_44 rfl rfl ?_
      refine WL.skip_g rfl rfl rfl hg_44 rfl rfl ?_
      refine WL.skip_g rfl rfl rfl hg_44 rfl rfl ?_
      refine WL.skip_g rfl rfl rfl hg_44 rfl rfl ?_
      refine WL.skip_g rfl rfl rfl hg_44 rfl rfl ?_
      refine WL.run hS rfl rfl rfl (ex_pick_f rfl hg_44 rfl) ?_
      refine WL.run hS rfl rfl rfl (ex_assign rfl) ?_
      refine WL.nil ?_
      replace hS := hS.f7
      replace hS := hS.f7
      replace hS := hS.f7
      replace hS := hS.f7
      replace hS := hS.f7
      replace hS := hS.f7
      replace hS := hS.f7
      exact WQ.there fun a ha => ⟨false, hV, hS, ha.of_sub ⟨rfl, trivial⟩⟩

theorem S_make {w0 : World} {H : View} {L : Seg} {w : World} {b_2 : Nat} {v_5 : Value} {nodes_4 : List (Int × Int × Int)} {fp_7 : Seg} {v_10 : Value} {free_9 : List Int} {fp_12 : Seg} {v_15 : Value} {xby_14 : List ((Int × Int × Int) × Int)} {fp_17 : Seg} {v_20 : Value} {order_19 : List Int} {fp_22 : Seg} {v_25 : Value} {level_24 : List Int} {fp_27 : Seg} {v_30 : Value} {memo_29 : List ((Int × Int × Int) × Int)} {fp_32 : Seg} {xat_34 : Int} {low_36 : Int} {up_38 : Int} {Q : Int → (List (Int × Int × Int)) → (List Int) → (List ((Int × Int × Int) × Int)) → Prop} (h_6 : OwnSl H (cPair (cInt .i64) (cPair (cInt .i64) (cInt .i64))) 46 v_5 nodes_4 fp_7) (h_11 : OwnSl H (cInt .i64) 29 v_10 free_9 fp_12) (h_16 : OwnMp H kTri (cInt .i64) v_15 xby_14 fp_17) (h_21 : OwnSl H (cInt .i64) 3 v_20 order_19 fp_22) (h_26 : OwnSl H (cInt .i64) 3 v_25 level_24 fp_27) (h_31 : OwnMp H kTri (cInt .i64) v_30 memo_29 fp_32) (hr_35 : I64 xat_34) (hr_37 : I64 low_36) (hr_39 : I64 up_38) (hS : St w0 H ([(b_2, Obj.cells #[v_5, v_10, v_15, v_20, v_25, v_30] 44 (0, 0))] ++ (fp_7 ++ (fp_12 ++ (fp_17 ++ (fp_22 ++ (fp_27 ++ (fp_32 ++ L))))))) w) (hV : V_make nodes_4 free_9 xby_14 order_19 level_24 memo_29 xat_34 low_36 up_38 Q) :
    Calls Tryd.prog 15 #[.pointer (some ⟨b_2, 0, none⟩), .int .i64 xat_34, .int .i64 low_36, .int .i64 up_38] w fun e w' => ∃ (r1 : Int) (r2 : List (Int × Int × Int)) (r3 : List Int) (r4 : List ((Int × Int × Int) × Int)) (v2 : Value) (fp2 : Seg) (v3 : Value) (fp3 : Seg) (fp4 : Seg), Q r1 r2 r3 r4 ∧ e = .returned (.int .i64 r1) ∧ I64 r1 ∧ OwnSl H (cPair (cInt .i64) (cPair (cInt .i64) (cInt .i64))) 46 v2 r2 fp2 ∧ OwnSl H (cInt .i64) 29 v3 r3 fp3 ∧ OwnMp H kTri (cInt .i64) v_15 r4 fp4 ∧ St w0 H ([(b_2, Obj.cells #[v2, v3, v_15, v_20, v_25, v_30] 44 (0, 0))] ++ (fp2 ++ (fp3 ++ (fp4 ++ (fp_22 ++ (fp_27 ++ (fp_32 ++ L))))))) w' := by
  unfold V_make at hV
  refine enter Tryd.func15 rfl Tryd.ntmps15 rfl (lk_args_cons (d := 0) (v := .pointer (some ⟨b_2, 0, none⟩)) rfl (lk_args_cons (d := 1) (v := .int .i64 xat_34) rfl (lk_args_cons (d := 2) (v := .int .i64 low_36) rfl (lk_args_cons (d := 3) (v := .int .i64 up_38) rfl (lk_args_nil _))))) ?_
  refine WC.seq ?_
  refine WC.region ?_
  refine WL.run hS rfl rfl rfl (ex_assign rfl) ?_
  refine WL.nil ?_
  refine WQ.next ?_
  refine WC.sub (m := [(0, .pointer (some ⟨b_2, 0, none⟩)), (1, .int .i64 xat_34), (2, .int .i64 low_36), (3, .int .i64 up_38)]) ⟨rfl, rfl, rfl, rfl, trivial⟩ ?_
  refine WC.seq ?_
  refine WC.seq ?_
  refine WC.region ?_
  refine WL.run hS rfl rfl rfl (ex_move rfl) ?_
  refine WL.run hS rfl rfl rfl (ex_move rfl) ?_
  refine WL.run hS rfl rfl rfl (ex_eql rfl rfl) ?_
  refine WL.nil ?_
  refine WQ.next ?_
  refine WC.sub (m := [(0, .pointer (some ⟨b_2, 0, none⟩)), (1, .int .i64 xat_34), (2, .int .i64 low_36), (3, .int .i64 up_38), (16, .bool (decide (low_36 = up_38)))]) ⟨rfl, rfl, rfl, rfl, rfl, trivial⟩ ?_
  refine WC.cond rfl ?_ ?_
  · intro hc_197
    replace hV := hV.1 (of_decide_eq_true hc_197)
    refine WC.seq ?_
    refine WC.region ?_
    refine WL.run hS rfl rfl rfl (ex_move rfl) ?_
    refine WL.run hS rfl rfl rfl (ex_assign rfl) ?_
    refine WL.nil ?_
    refine WQ.next ?_
    refine WC.sub (m := [(8, .int .i64 low_36)]) ⟨rfl, trivial⟩ ?_
    refine WC.ret ?_
    refine WQ.pass nofun ?_
    replace hS := hS.f7
    replace hS := hS.f7
    replace hS := hS.f7
    replace hS := hS.f7
    replace hS := hS.f7
    replace hS := hS.f7
    replace hS := hS.f7
    exact leave1 rfl rfl ⟨low_36, nodes_4, free_9, xby_14, v_5, fp_7, v_10, fp_12, fp_17, hV, rfl, hr_37, h_6, h_11, h_16, hS⟩
  · intro hc_197
    replace hV := hV.2 (of_decide_eq_false hc_197)
    refine WC.skip ?_
    refine WQ.next ?_
    refine WC.sub (m := [(0, .pointer (some ⟨b_2, 0, none⟩)), (1, .int .i64 xat_34), (2, .int .i64 low_36), (3, .int .i64 up_38)]) ⟨rfl, rfl, rfl, rfl, trivial⟩ ?_
    refine WC.seq ?_
    refine WC.region ?_
    refine WL.run hS rfl rfl rfl (ex_move rfl) ?_
    refine WL.run hS rfl rfl rfl (ex_move rfl) ?_
    refine WL.run hS rfl rfl rfl (ex_move rfl) ?_
    refine WL.run hS rfl rfl rfl (ex_build (vs := [.int .i64 xat_34, .int .i64 low_36, .int .i64 up_38]) (zc := #[.int .i64 0, .int .i64 0, .int .i64 0]) (cs := #[.int .i64 xat_34, .int .i64 low_36, .int .i64 up_38]) (places := #[(0, 1), (1, 1), (2, 1)]) Tryd.underlying46 Tryd.zeroValue46 (fun w => by simp [Tryd.sizeOf29, Tryd.sizeOf3]) rfl ⟨rfl, rfl, rfl, trivial⟩ rfl (by simp [Instr.fill, cells_int, cells_bool])) ?_
    refine WL.alloc (arr := #[.int .i64 0, .int .i64 0, .int .i64 0]) rfl Tryd.zeroValue46 rfl hS ?_
    clear hS
    intro b_41 w hS
    refine WL.store_box (pre := []) (old := [.int .i64 0, .int .i64 0, .int .i64 0]) (rst := []) (cs := [.int .i64 xat_34, .int .i64 low_36, .int .i64 up_38]) (arr' := #[.int .i64 xat_34, .int .i64 low_36, .int .i64 up_38]) Tryd.sizeOf46 rfl rfl rfl ⟨rfl, rfl, rfl, trivial⟩ rfl rfl rfl rfl hS ?_
    clear hS
    intro w hS
    refine WL.nil ?_
    refine WQ.next ?_
    refine WC.sub (m := [(0, .pointer (some ⟨b_2, 0, none⟩)), (9, .pointer (some ⟨b_41, 0, none⟩))]) ⟨rfl, rfl, trivial⟩ ?_
    refine WC.seq ?_
    refine WC.seq ?_
    refine WC.quiet (C := St w0 H ([(b_41, Obj.cells #[.int .i64 xat_34, .int .i64 low_36, .int .i64 up_38] 46 (0, 0))] ++ ([(b_2, Obj.cells #[v_5, v_10, v_15, v_20, v_25, v_30] 44 (0, 0))] ++ (fp_7 ++ (fp_12 ++ (fp_17 ++ (fp_22 ++ (fp_27 ++ (fp_32 ++ L))))))))) Tryd.mixed (by kernel_rfl) (hS.drawn _) ?_
    clear hS w
    refine Wq.run rfl rfl rfl (ex_move rfl) ?_
    refine Wq.run rfl rfl rfl (ex_nilCheck rfl) ?_
    refine Wq.run rfl rfl rfl (ex_fieldAddr (o' := 2) Tryd.underlying44 rfl Tryd.sizeOf39 rfl rfl) ?_
    refine Wq.run rfl rfl rfl ((ex_load_box Tryd.isAgg39 rfl rfl).of (fun _ h => St.f2 h)) ?_
    refine Wq.run rfl rfl rfl (ex_load_box_agg (cs := [.int .i64 xat_34, .int .i64 low_36, .int .i64 up_38]) Tryd.isAgg46 Tryd.sizeOf46 rfl rfl rfl) ?_
    refine Wq.runx rfl rfl rfl (exQ (ex_lookup_ok (c := (cInt .i64)) (k := (xat_34, low_36, up_38)) (d := 0) Tryd.underlying39 Tryd.key46 Tryd.zeroValue29 ⟨rfl, I64.has (by unfold I64; omega)⟩ rfl rfl h_16) _ (fun _ h => St.f5 h)) ?_
    rintro _ ⟨u_43, rfl, hu_44⟩
    obtain ⟨rfl, hr_45⟩ := cInt_rep hu_44
    replace hr_45 := has_I64 hr_45
    replace hV := hV hr_45
    refine Wq.run rfl rfl rfl (ex_move rfl) ?_
    refine Wq.run rfl rfl rfl (ex_extract rfl rfl) ?_
    refine Wq.run rfl rfl rfl (ex_extract rfl rfl) ?_
    refine Wq.run rfl rfl rfl (ex_assign rfl) ?_
    refine Wq.run rfl rfl rfl (ex_assign rfl) ?_
    refine Wq.nil fun w hS => ?_
    refine WQ.next ?_
    refine WC.sub (m := [(0, .pointer (some ⟨b_2, 0, none⟩)), (9, .pointer (some ⟨b_41, 0, none⟩)), (10, .int .i64 (mgetD xby_14 (xat_34, low_36, up_38) 0)), (11, .bool (mhas xby_14 (xat_34, low_36, up_38)))]) ⟨rfl, rfl, rfl, rfl, trivial⟩ ?_
    refine WC.seq ?_
    refine WC.region ?_
    refine WL.run hS rfl rfl rfl (ex_move rfl) ?_
    refine WL.nil ?_
    refine WQ.next ?_
    refine WC.sub (m := [(0, .pointer (some ⟨b_2, 0, none⟩)), (9, .pointer (some ⟨b_41, 0, none⟩)), (10, .int .i64 (mgetD xby_14 (xat_34, low_36, up_38) 0)), (31, .bool (mhas xby_14 (xat_34, low_36, up_38)))]) ⟨rfl, rfl, rfl, rfl, trivial⟩ ?_
    refine WC.cond rfl ?_ ?_
    · intro hc_196
      replace hV := hV.1 hc_196
      refine WC.seq ?_
      refine WC.region ?_
      refine WL.run hS rfl rfl rfl (ex_move rfl) ?_
      refine WL.run hS rfl rfl rfl (ex_assign rfl) ?_
      refine WL.nil ?_
      refine WQ.next ?_
      refine WC.sub (m := [(8, .int .i64 (mgetD xby_14 (xat_34, low_36, up_38) 0))]) ⟨rfl, trivial⟩ ?_
      replace hS := hS.drop
      refine WC.ret ?_
      refine WQ.pass nofun ?_
      replace hS := hS.f7
      replace hS := hS.f7
      replace hS := hS.f7
      replace hS := hS.f7
      replace hS := hS.f7
      replace hS := hS.f7
      replace hS := hS.f7
      exact leave1 rfl rfl ⟨(mgetD xby_14 (xat_34, low_36, up_38) 0), nodes_4, free_9, xby_14, v_5, fp_7, v_10, fp_12, fp_17, hV, rfl, hr_45, h_6, h_11, h_16, hS⟩
    · intro hc_196
      replace hV := hV.2 hc_196
      refine WC.skip ?_
      refine WQ.next ?_
      refine WC.sub (m := [(0, .pointer (some ⟨b_2, 0, none⟩)), (9, .pointer (some ⟨b_41, 0, none⟩))]) ⟨rfl, rfl, trivial⟩ ?_
      refine WC.seq ?_
      refine WC.region ?_
      refine WL.run hS rfl rfl rfl (ex_assign rfl) ?_
      refine WL.nil ?_
      refine WQ.next ?_
      refine WC.sub (m := [(0, .pointer (some ⟨b_2, 0, none⟩)), (9, .pointer (some ⟨b_41, 0, none⟩))]) ⟨rfl, rfl, trivial⟩ ?_
      obtain ⟨J_119, hJ_120, hV⟩ := hV
      refine WC.meet (fun a w => ∃ (c_108 : List (Int × Int × Int)) (c_113 : List Int) (n_117 : Int) (v_109 : Value) (fp_110 : Seg) (v_114 : Value) (fp_115 : Seg), J_119 (c_108, c_113, n_117) ∧ OwnSl H (cPair (cInt .i64) (cPair (cInt .i64) (cInt .i64))) 46 v_109 c_108 fp_110 ∧ OwnSl H (cInt .i64) 29 v_114 c_113 fp_115 ∧ I64 n_117 ∧ St w0 H ([(b_2, Obj.cells #[v_109, v_114, v_15, v_20, v_25, v_30] 44 (0, 0))] ++ (fp_110 ++ (fp_115 ++ (fp_17 ++ (fp_22 ++ (fp_27 ++ (fp_32 ++ ([(b_41, Obj.cells #[.int .i64 xat_34, .int .i64 low_36, .int .i64 up_38] 46 (0, 0))] ++ L)))))))) w ∧ Fr 86 [(0, .pointer (some ⟨b_2, 0, none⟩)), (9, .pointer (some ⟨b_41, 0, none⟩)), (12, .int .i64 n_117)] a) ?_ ?_
      · rintro a w ⟨c_108, c_113, n_117, v_109, fp_110, v_114, fp_115, hI, h_111, h_116, hr_118, hS, ha⟩
        refine in_frame ha ?_
        clear ha hV
        have hV := hJ_120 _ hI
        clear hI hJ_120
        refine WC.seq ?_
        refine WC.drawn (σ := [0, 1, 2, 3, 4, 5, 6]) (C := St w0 H ([(b_2, Obj.cells #[v_109, v_114, v_15, v_20, v_25, v_30] 44 (0, 0))] ++ (fp_110 ++ (fp_115 ++ (fp_17 ++ (fp_22 ++ (fp_27 ++ (fp_32 ++ ([(b_41, Obj.cells #[.int .i64 xat_34, .int .i64 low_36, .int .i64 up_38] 46 (0, 0))] ++ L))))))))) [[], [0], [0, 1], [0, 1, 2], [], [], [0, 1, 2, 3, 4, 5]] [6] Tryd.mixed (by kernel_rfl) (hS.drawn _) ?_
        clear hS w
        refine Wd.run rfl rfl rfl rfl (fun _ => ex_move rfl) fun q_183 hq_182 => ?_
        refine Wd.run rfl rfl rfl rfl (fun _ => ex_nilCheck rfl) fun q_185 hq_184 => ?_
        refine Wd.run rfl rfl rfl rfl (fun _ => ex_fieldAddr (o' := 2) Tryd.underlying44 rfl Tryd.sizeOf39 rfl rfl) fun q_187 hq_186 => ?_
        refine Wd.runb (off := 2) rfl rfl rfl rfl (fun _ _ _ h => ex_load_box Tryd.isAgg39 rfl h) rfl (fun _ h => h) fun q_189 hq_188 => ?_
        refine Wd.runbs (off := 0) (k := 3) (cs := [.int .i64 xat_34, .int .i64 low_36, .int .i64 up_38]) rfl rfl rfl rfl (fun _ _ _ h => ex_load_box_agg Tryd.isAgg46 Tryd.sizeOf46 rfl h rfl) rfl (fun _ h => St.f8 h) fun q_191 hq_190 => ?_
        refine Wd.run rfl rfl rfl rfl (fun _ => ex_move rfl) fun q_193 hq_192 => ?_
        refine Wd.turn rfl rfl rfl fun w hS => ?_
        replace hS := hS.f4
        refine WL.mapUpdate (k := (xat_34, low_36, up_38)) (e := n_117) Tryd.underlying39 Tryd.key46 ⟨hr_35, hr_37, hr_39⟩ (cInt_mk (I64.has hr_118)) rfl rfl rfl hS h_16 ?_
        clear hS
        intro w fp_194 h_195 hS
        refine WL.nil (DQ.mk2 (C' := St w0 H (fp_194 ++ ([(b_2, Obj.cells #[v_109, v_114, v_15, v_20, v_25, v_30] 44 (0, 0))] ++ (fp_110 ++ (fp_115 ++ (fp_22 ++ (fp_27 ++ (fp_32 ++ ([(b_41, Obj.cells #[.int .i64 xat_34, .int .i64 low_36, .int .i64 up_38] 46 (0, 0))] ++ L))))))))) hS ⟨.inl rfl, .inl rfl, .inl rfl, .inl rfl, .inl rfl, .inl rfl, trivial⟩ ?_)
        clear hS w
        refine Wd.nil fun w hS => ?_
        refine WQ.next ?_
        refine WC.sub (m := [(12, .int .i64 n_117)]) ⟨rfl, trivial⟩ ?_
        replace hS := hS.f8.drop
        refine WC.seq ?_
        refine WC.region ?_
        refine WL.run hS rfl rfl rfl (ex_move rfl) ?_
        refine WL.run hS rfl rfl rfl (ex_assign rfl) ?_
        refine WL.nil ?_
        refine WQ.next ?_
        refine WC.sub (m := [(8, .int .i64 n_117)]) ⟨rfl, trivial⟩ ?_
        refine WC.ret ?_
        replace hS := hS.f7
        replace hS := hS.f7
        replace hS := hS.f7
        replace hS := hS.f4
        replace hS := hS.f7
        replace hS := hS.f7
        replace hS := hS.f7
        exact leave1 rfl rfl ⟨n_117, c_108, c_113, (mset xby_14 (xat_34, low_36, up_38) n_117), v_109, fp_110, v_114, fp_115, fp_194, hV, rfl, hr_118, h_111, h_116, h_195, hS⟩
      · clear hJ_120
        refine WC.seq ?_
        refine WC.region ?_
        refine WL.run hS rfl rfl rfl (ex_move rfl) ?_
        refine WL.run hS rfl rfl rfl (ex_nilCheck rfl) ?_
        refine WL.run hS rfl rfl rfl (ex_fieldAddr (o' := 1) Tryd.underlying44 rfl Tryd.sizeOf41 rfl rfl) ?_
        replace hS := hS.f2
        refine WL.run hS rfl rfl rfl (ex_load_box Tryd.isAgg41 rfl rfl) ?_
        have hl_121 : Len free_9 := h_11.bound
        replace hV := hV hl_121
        refine WL.run hS rfl rfl rfl (ex_len_own Tryd.underlying41 rfl h_11) ?_
        obtain ⟨hi_123, hV⟩ := hV
        refine WL.run hS rfl rfl rfl (ex_sub rfl rfl hi_123) ?_
        refine WL.run hS rfl rfl rfl (ex_assign rfl) ?_
        refine WL.nil ?_
        refine WQ.next ?_
        refine WC.sub (m := [(0, .pointer (some ⟨b_2, 0, none⟩)), (9, .pointer (some ⟨b_41, 0, none⟩)), (13, .int .i64 ((free_9.length : Int) - 1))]) ⟨rfl, rfl, rfl, trivial⟩ ?_
        refine WC.seq ?_
        refine WC.region ?_
        refine WL.run hS rfl rfl rfl (ex_move rfl) ?_
        refine WL.run hS rfl rfl rfl (ex_geq rfl rfl) ?_
        refine WL.nil ?_
        refine WQ.next ?_
        refine WC.sub (m := [(0, .pointer (some ⟨b_2, 0, none⟩)), (9, .pointer (some ⟨b_41, 0, none⟩)), (13, .int .i64 ((free_9.length : Int) - 1)), (40, .bool (decide (0 ≤ ((free_9.length : Int) - 1))))]) ⟨rfl, rfl, rfl, rfl, trivial⟩ ?_
        refine WC.cond rfl ?_ ?_
        · intro hc_181
          replace hV := hV.1 (of_decide_eq_true hc_181)
          refine WC.seq ?_
          refine WC.region ?_
          refine WL.run hS rfl rfl rfl (ex_move rfl) ?_
          refine WL.run hS rfl rfl rfl (ex_nilCheck rfl) ?_
          refine WL.run hS rfl rfl rfl (ex_fieldAddr (o' := 1) Tryd.underlying44 rfl Tryd.sizeOf41 rfl rfl) ?_
          refine WL.run hS rfl rfl rfl (ex_load_box Tryd.isAgg41 rfl rfl) ?_
          refine WL.run hS rfl rfl rfl (ex_move rfl) ?_
          obtain ⟨hin_125, hV⟩ := hV
          refine WL.runx hS rfl rfl rfl (ex_index_own Tryd.underlying41 Tryd.sizeOf29 rfl rfl h_11 hin_125) ?_
          intro p_126 hp_127
          replace hS := hS.f4
          refine WL.runx hS rfl rfl rfl (exNow (H := H) (L := [(b_2, Obj.cells #[v_5, v_10, v_15, v_20, v_25, v_30] 44 (0, 0))] ++ ([(b_41, Obj.cells #[.int .i64 xat_34, .int .i64 low_36, .int .i64 up_38] 46 (0, 0))] ++ (fp_7 ++ (fp_17 ++ (fp_22 ++ (fp_27 ++ (fp_32 ++ L))))))) (ex_load_own_s Tryd.isAgg29 rfl rfl h_11 hp_127 hin_125)) ?_
          intro u_128 hu_129
          obtain ⟨rfl, hr_130⟩ := cInt_rep hu_129
          replace hr_130 := has_I64 hr_130
          replace hV := hV hr_130
          refine WL.run hS rfl rfl rfl (ex_assign rfl) ?_
          refine WL.nil ?_
          refine WQ.next ?_
          refine WC.sub (m := [(0, .pointer (some ⟨b_2, 0, none⟩)), (9, .pointer (some ⟨b_41, 0, none⟩)), (12, .int .i64 (ix free_9 ((free_9.length : Int) - 1))), (13, .int .i64 ((free_9.length : Int) - 1))]) ⟨rfl, rfl, rfl, rfl, trivial⟩ ?_
          refine WC.seq ?_
          refine WC.region ?_
          refine WL.run hS rfl rfl rfl (ex_move rfl) ?_
          refine WL.run hS rfl rfl rfl (ex_move rfl) ?_
          refine WL.run hS rfl rfl rfl (ex_nilCheck rfl) ?_
          refine WL.run hS rfl rfl rfl (ex_fieldAddr (o' := 1) Tryd.underlying44 rfl Tryd.sizeOf41 rfl rfl) ?_
          replace hS := hS.f2
          refine WL.run hS rfl rfl rfl (ex_load_box Tryd.isAgg41 rfl rfl) ?_
          refine WL.run hS rfl rfl rfl (ex_move rfl) ?_
          obtain ⟨hb_131, hV⟩ := hV
          refine WL.runx hS rfl rfl rfl (ex_slice_hi_own2 Tryd.underlying41 Tryd.sizeOf29 rfl rfl h_11 hb_131) ?_
          rintro v_132 ⟨h_133, ht_134⟩
          refine WL.run hS rfl rfl rfl (ex_nilCheck rfl) ?_
          refine WL.run hS rfl rfl rfl (ex_fieldAddr (o' := 1) Tryd.underlying44 rfl Tryd.sizeOf41 rfl rfl) ?_
          refine WL.store_box (pre := [v_5]) (old := [v_10]) (rst := [v_15, v_20, v_25, v_30]) (cs := [v_132]) (arr' := #[v_5, v_132, v_15, v_20, v_25, v_30]) Tryd.sizeOf41 rfl rfl (congrArg Array.toList (cells_one (OwnSl.one ht_134))) ⟨(OwnSl.one ht_134), trivial⟩ rfl rfl rfl rfl hS ?_
          clear hS
          intro w hS
          refine WL.nil ?_
          refine WQ.next ?_
          refine WC.sub (m := [(0, .pointer (some ⟨b_2, 0, none⟩)), (9, .pointer (some ⟨b_41, 0, none⟩)), (12, .int .i64 (ix free_9 ((free_9.length : Int) - 1)))]) ⟨rfl, rfl, rfl, trivial⟩ ?_
          refine WC.drawn (σ := [0, 1, 2, 3, 4, 5, 6, 7]) (C := St w0 H ([(b_2, Obj.cells #[v_5, v_132, v_15, v_20, v_25, v_30] 44 (0, 0))] ++ (fp_12 ++ ([(b_41, Obj.cells #[.int .i64 xat_34, .int .i64 low_36, .int .i64 up_38] 46 (0, 0))] ++ (fp_7 ++ (fp_17 ++ (fp_22 ++ (fp_27 ++ (fp_32 ++ L))))))))) [[], [0], [0, 1], [0, 1, 2], [], [], [0, 1, 2, 3, 4, 5], [0, 1, 2, 3, 4, 5, 6]] [7] Tryd.mixed (by kernel_rfl) (hS.drawn _) ?_
          clear hS w
          refine Wd.run rfl rfl rfl rfl (fun _ => ex_move rfl) fun q_137 hq_136 => ?_
          refine Wd.run rfl rfl rfl rfl (fun _ => ex_nilCheck rfl) fun q_139 hq_138 => ?_
          refine Wd.run rfl rfl rfl rfl (fun _ => ex_fieldAddr (o' := 0) Tryd.underlying44 rfl Tryd.sizeOf38 rfl rfl) fun q_141 hq_140 => ?_
          refine Wd.runb (off := 0) rfl rfl rfl rfl (fun _ _ _ h => ex_load_box Tryd.isAgg38 rfl h) rfl (fun _ h => h) fun q_143 hq_142 => ?_
          refine Wd.run rfl rfl rfl rfl (fun _ => ex_move rfl) fun q_145 hq_144 => ?_
          refine Wd.runbs (off := 0) (k := 3) (cs := [.int .i64 xat_34, .int .i64 low_36, .int .i64 up_38]) rfl rfl rfl rfl (fun _ _ _ h => ex_load_box_agg Tryd.isAgg46 Tryd.sizeOf46 rfl h rfl) rfl (fun _ h => St.f3 h) fun q_147 hq_146 => ?_
          obtain ⟨hin_150, hV⟩ := hV
          refine Wd.runx rfl rfl rfl rfl (exAll (ex_index_own Tryd.underlying38 Tryd.sizeOf46 rfl rfl h_6 hin_150)) ?_
          intro p_151 hp_152
          intro q_149 hq_148
          refine Wd.turn rfl rfl rfl fun w hS => ?_
          replace hS := hS.f4
          refine WL.store_own_agg (c := (cPair (cInt .i64) (cPair (cInt .i64) (cInt .i64)))) (z := (xat_34, low_36, up_38)) (m' := [.int .i64 xat_34, .int .i64 low_36, .int .i64 up_38]) Tryd.sizeOf46 rfl rfl rfl ⟨rfl, rfl, rfl, trivial⟩ ⟨[.int .i64 xat_34], _, rfl, (cInt_mk (I64.has hr_35)), ⟨[.int .i64 low_36], _, rfl, (cInt_mk (I64.has hr_37)), (cInt_mk (I64.has hr_39))⟩⟩ hS h_6 hp_152 hin_150 ?_
          clear hS
          intro w fp_154 h_153 hS
          refine WL.nil (DQ.mk2 (C' := St w0 H (fp_154 ++ ([(b_2, Obj.cells #[v_5, v_132, v_15, v_20, v_25, v_30] 44 (0, 0))] ++ (fp_12 ++ ([(b_41, Obj.cells #[.int .i64 xat_34, .int .i64 low_36, .int .i64 up_38] 46 (0, 0))] ++ (fp_17 ++ (fp_22 ++ (fp_27 ++ (fp_32 ++ L))))))))) hS ⟨.inl rfl, .inl rfl, .inl rfl, .inl rfl, .inl rfl, .inl rfl, .inl rfl, trivial⟩ ?_)
          clear hS w
          refine Wd.nil fun w hS => ?_
          replace hS := hS.f4
          replace hS := hS.f8
          replace hS := hS.f8
          replace hS := hS.f8
          replace hS := hS.f8
          replace hS := hS.f8
          replace hS := hS.f7
          replace hS := hS.f8
          exact WQ.there fun a ha => ⟨(nodes_4.set (ix free_9 ((free_9.length : Int) - 1)).toNat (xat_34, low_36, up_38)), (free_9.take ((free_9.length : Int) - 1).toNat), (ix free_9 ((free_9.length : Int) - 1)), v_5, fp_154, v_132, fp_12, hV, h_153, ht_134, hr_130, hS, ha.of_sub ⟨rfl, rfl, rfl, trivial⟩⟩
        · intro hc_181
          replace hV := hV.2 (of_decide_eq_false hc_181)
          refine WC.seq ?_
          refine WC.region ?_
          refine WL.run hS rfl rfl rfl (ex_move rfl) ?_
          refine WL.run hS rfl rfl rfl (ex_nilCheck rfl) ?_
          refine WL.run hS rfl rfl rfl (ex_fieldAddr (o' := 0) Tryd.underlying44 rfl Tryd.sizeOf38 rfl rfl) ?_
          refine WL.run hS rfl rfl rfl (ex_load_box Tryd.isAgg38 rfl rfl) ?_
          have hl_155 : Len nodes_4 := h_6.bound
          replace hV := hV hl_155
          refine WL.run hS rfl rfl rfl (ex_len_own Tryd.underlying38 rfl h_6) ?_
          refine WL.run hS rfl rfl rfl (ex_assign rfl) ?_
          refine WL.nil ?_
          refine WQ.next ?_
          refine WC.sub (m := [(0, .pointer (some ⟨b_2, 0, none⟩)), (9, .pointer (some ⟨b_41, 0, none⟩)), (12, .int .i64 (nodes_4.length : Int))]) ⟨rfl, rfl, rfl, trivial⟩ ?_
          refine WC.drawn (σ := [0, 1, 2, 3, 4, 5, 6, 7, 8, 9, 10]) (C := St w0 H ([(b_2, Obj.cells #[v_5, v_10, v_15, v_20, v_25, v_30] 44 (0, 0))] ++ ([(b_41, Obj.cells #[.int .i64 xat_34, .int .i64 low_36, .int .i64 up_38] 46 (0, 0))] ++ (fp_7 ++ (fp_12 ++ (fp_17 ++ (fp_22 ++ (fp_27 ++ (fp_32 ++ L))))))))) [[], [], [1], [1, 2], [1, 2, 3], [], [5], [1, 2, 3, 4, 5, 6], [0, 1, 2, 3, 4, 5, 6, 7], [0, 1, 2, 3, 4, 5, 6, 7, 8], [0, 1, 2, 3, 4, 5, 6, 7, 8, 9]] [6, 7, 10] Tryd.mixed (by kernel_rfl) (hS.drawn _) ?_
          clear hS w
          refine Wd.run rfl rfl rfl rfl (fun _ => ex_move rfl) fun q_157 hq_156 => ?_
          refine Wd.run rfl rfl rfl rfl (fun _ => ex_move rfl) fun q_159 hq_158 => ?_
          refine Wd.run rfl rfl rfl rfl (fun _ => ex_nilCheck rfl) fun q_161 hq_160 => ?_
          refine Wd.run rfl rfl rfl rfl (fun _ => ex_fieldAddr (o' := 0) Tryd.underlying44 rfl Tryd.sizeOf38 rfl rfl) fun q_163 hq_162 => ?_
          refine Wd.runb (off := 0) rfl rfl rfl rfl (fun _ _ _ h => ex_load_box Tryd.isAgg38 rfl h) rfl (fun _ h => h) fun q_165 hq_164 => ?_
          refine Wd.runbs (off := 0) (k := 3) (cs := [.int .i64 xat_34, .int .i64 low_36, .int .i64 up_38]) rfl rfl rfl rfl (fun _ _ _ h => ex_load_box_agg Tryd.isAgg46 Tryd.sizeOf46 rfl h rfl) rfl (fun _ h => St.f2 h) fun q_167 hq_166 => ?_
          refine Wd.turn rfl rfl rfl fun w hS => ?_
          refine WL.builds (c := (cPair (cInt .i64) (cPair (cInt .i64) (cInt .i64)))) (xs := [(xat_34, low_36, up_38)]) (vs := [.agg #[.int .i64 xat_34, .int .i64 low_36, .int .i64 up_38]]) (css := [[.int .i64 xat_34, .int .i64 low_36, .int .i64 up_38]]) rfl Tryd.underlying38 Tryd.info46 rfl ⟨rfl, trivial⟩ rfl (by decide) rfl (by simp; rfl) ⟨[.int .i64 xat_34, .int .i64 low_36, .int .i64 up_38], _, rfl, ⟨[.int .i64 xat_34], _, rfl, (cInt_mk (I64.has hr_35)), ⟨[.int .i64 low_36], _, rfl, (cInt_mk (I64.has hr_37)), (cInt_mk (I64.has hr_39))⟩⟩, rfl⟩ hS rfl (by decide) ?_
          clear hS
          intro v_169 w fp_170 h_171 hS
          refine WL.nil (DQ.mk2 (C' := St w0 H (fp_170 ++ ([(b_2, Obj.cells #[v_5, v_10, v_15, v_20, v_25, v_30] 44 (0, 0))] ++ ([(b_41, Obj.cells #[.int .i64 xat_34, .int .i64 low_36, .int .i64 up_38] 46 (0, 0))] ++ (fp_7 ++ (fp_12 ++ (fp_17 ++ (fp_22 ++ (fp_27 ++ (fp_32 ++ L)))))))))) hS ⟨.inl rfl, .inr (hq_164 H (fp_170 ++ ([(b_41, Obj.cells #[.int .i64 xat_34, .int .i64 low_36, .int .i64 up_38] 46 (0, 0))] ++ (fp_7 ++ (fp_12 ++ (fp_17 ++ (fp_22 ++ (fp_27 ++ (fp_32 ++ L)))))))) #[v_5, v_10, v_15, v_20, v_25, v_30] _ rfl (fun _ h => St.f2 h)), .inr (hq_162 _), .inr (hq_160 _), .inr (hq_158 _), .inr (hq_156 _), trivial⟩ ?_)
          clear hS w
          refine Wd.turn rfl rfl rfl fun w hS => ?_
          obtain ⟨hr_172, hV⟩ := hV
          replace hS := hS.f4
          refine WL.append (c := (cPair (cInt .i64) (cPair (cInt .i64) (cInt .i64)))) (xs := nodes_4) (ys := ([(xat_34, low_36, up_38)])) rfl Tryd.underlying38 Tryd.info46 rfl rfl rfl hS h_6 (h_171.src hS.f2) hr_172.1 hr_172.2 ?_
          clear hS
          intro v_173 w fp_174 h_175 hS
          refine WL.nil (DQ.mk2 (C' := St w0 H (fp_174 ++ (fp_170 ++ ([(b_2, Obj.cells #[v_5, v_10, v_15, v_20, v_25, v_30] 44 (0, 0))] ++ ([(b_41, Obj.cells #[.int .i64 xat_34, .int .i64 low_36, .int .i64 up_38] 46 (0, 0))] ++ (fp_12 ++ (fp_17 ++ (fp_22 ++ (fp_27 ++ (fp_32 ++ L)))))))))) hS ⟨.inl rfl, .inl rfl, .inl rfl, .inl rfl, .inl rfl, .inr (hq_156 _), trivial⟩ ?_)
          clear hS w
          refine Wd.run rfl rfl rfl rfl (fun _ => ex_nilCheck rfl) fun q_178 hq_177 => ?_
          refine Wd.run rfl rfl rfl rfl (fun _ => ex_fieldAddr (o' := 0) Tryd.underlying44 rfl Tryd.sizeOf38 rfl rfl) fun q_180 hq_179 => ?_
          refine Wd.turn rfl rfl rfl fun w hS => ?_
          replace hS := hS.f3
          refine WL.store_box (pre := []) (old := [v_5]) (rst := [v_10, v_15, v_20, v_25, v_30]) (cs := [v_173]) (arr' := #[v_173, v_10, v_15, v_20, v_25, v_30]) Tryd.sizeOf38 rfl rfl (congrArg Array.toList (cells_one (OwnSl.one h_175))) ⟨(OwnSl.one h_175), trivial⟩ rfl rfl rfl rfl hS ?_
          clear hS
          intro w hS
          refine WL.nil (DQ.mk2 (C' := St w0 H ([(b_2, Obj.cells #[v_173, v_10, v_15, v_20, v_25, v_30] 44 (0, 0))] ++ (fp_174 ++ (fp_170 ++ ([(b_41, Obj.cells #[.int .i64 xat_34, .int .i64 low_36, .int .i64 up_38] 46 (0, 0))] ++ (fp_12 ++ (fp_17 ++ (fp_22 ++ (fp_27 ++ (fp_32 ++ L)))))))))) hS ⟨.inl rfl, .inl rfl, .inl rfl, .inl rfl, .inl rfl, .inl rfl, .inl rfl, .inl rfl, trivial⟩ ?_)
          clear hS w
          refine Wd.nil fun w hS => ?_
          replace hS := hS.f3.drop
          replace hS := hS.f3
          replace hS := hS.f8
          replace hS := hS.f8
          replace hS := hS.f8
          replace hS := hS.f8
          replace hS := hS.f8
          replace hS := hS.f8
          replace hS := hS.f8
          exact WQ.there fun a ha => ⟨(nodes_4 ++ ([(xat_34, low_36, up_38)])), free_9, (nodes_4.length : Int), v_173, fp_174, v_10, fp_12, hV, h_175, h_11, (Len.i64 hl_155), hS, ha.of_sub ⟨rfl, rfl, rfl, trivial⟩⟩

theorem S_Var {w0 : World} {H : View} {L : Seg} {w : World} {b_2 : Nat} {v_5 : Value} {nodes_4 : List (Int × Int × Int)} {fp_7 : Seg} {v_10 : Value} {free_9 : List Int} {fp_12 : Seg} {v_15 : Value} {xby_14 : List ((Int × Int × Int) × Int)} {fp_17 : Seg} {v_20 : Value} {order_19 : List Int} {fp_22 : Seg} {v_25 : Value} {level_24 : List Int} {fp_27 : Seg} {v_30 : Value} {memo_29 : List ((Int × Int × Int) × Int)} {fp_32 : Seg} {i_34 : Int} {Q : Int → (List (Int × Int × Int)) → (List Int) → (List ((Int × Int × Int) × Int)) → Prop} (h_6 : OwnSl H (cPair (cInt .i64) (cPair (cInt .i64) (cInt .i64))) 46 v_5 nodes_4 fp_7) (h_11 : OwnSl H (cInt .i64) 29 v_10 free_9 fp_12) (h_16 : OwnMp H kTri (cInt .i64) v_15 xby_14 fp_17) (h_21 : OwnSl H (cInt .i64) 3 v_20 order_19 fp_22) (h_26 : OwnSl H (cInt .i64) 3 v_25 level_24 fp_27) (h_31 : OwnMp H kTri (cInt .i64) v_30 memo_29 fp_32) (hr_35 : I64 i_34) (hS : St w0 H ([(b_2, Obj.cells #[v_5, v_10, v_15, v_20, v_25, v_30] 44 (0, 0))] ++ (fp_7 ++ (fp_12 ++ (fp_17 ++ (fp_22 ++ (fp_27 ++ (fp_32 ++ L))))))) w) (hV : V_Var nodes_4 free_9 xby_14 order_19 level_24 memo_29 i_34 Q) :
    Calls Tryd.prog 6 #[.pointer (some ⟨b_2, 0, none⟩), .int .i64 i_34] w fun e w' => ∃ (r1 : Int) (r2 : List (Int × Int × Int)) (r3 : List Int) (r4 : List ((Int × Int × Int) × Int)) (v2 : Value) (fp2 : Seg) (v3 : Value) (fp3 : Seg) (fp4 : Seg), Q r1 r2 r3 r4 ∧ e = .returned (.int .i64 r1) ∧ I64 r1 ∧ OwnSl H (cPair (cInt .i64) (cPair (cInt .i64) (cInt .i64))) 46 v2 r2 fp2 ∧ OwnSl H (cInt .i64) 29 v3 r3 fp3 ∧ OwnMp H kTri (cInt .i64) v_15 r4 fp4 ∧ St w0 H ([(b_2, Obj.cells #[v2, v3, v_15, v_20, v_25, v_30] 44 (0, 0))] ++ (fp2 ++ (fp3 ++ (fp4 ++ (fp_22 ++ (fp_27 ++ (fp_32 ++ L))))))) w' := by
  unfold V_Var at hV
  refine enter Tryd.func6 rfl Tryd.ntmps6 rfl (lk_args_cons (d := 0) (v := .pointer (some ⟨b_2, 0, none⟩)) rfl (lk_args_cons (d := 1) (v := .int .i64 i_34) rfl (lk_args_nil _))) ?_
  refine WC.seq ?_
  refine WC.region ?_
  refine WL.run hS rfl rfl rfl (ex_assign rfl) ?_
  refine WL.nil ?_
  refine WQ.next ?_
  refine WC.sub (m := [(0, .pointer (some ⟨b_2, 0, none⟩)), (1, .int .i64 i_34)]) ⟨rfl, rfl, trivial⟩ ?_
  refine WC.seq ?_
  refine WC.seq ?_
  refine WC.region ?_
  refine WL.run hS rfl rfl rfl (ex_move rfl) ?_
  refine WL.run hS rfl rfl rfl (ex_move rfl) ?_
  replace hS := hS.f7
  replace hS := hS.f7
  replace hS := hS.f7
  replace hS := hS.f7
  replace hS := hS.f7
  replace hS := hS.f7
  replace hS := hS.f7
  refine WL.call rfl rfl rfl (enters0 (vs := [.pointer (some ⟨b_2, 0, none⟩), .int .i64 i_34]) Tryd.call14 ⟨rfl, rfl, trivial⟩) (S_Is  h_6 h_11 h_16 h_21 h_26 h_31 hr_35 hS hV) ?_
  clear hV hS
  rintro _ w ⟨r_36, hV, rfl, hS⟩
  refine ⟨_, rfl, ?_⟩
  refine WL.run hS rfl rfl rfl (ex_not rfl) ?_
  refine WL.nil ?_
  refine WQ.next ?_
  refine WC.sub (m := [(0, .pointer (some ⟨b_2, 0, none⟩)), (1, .int .i64 i_34), (8, .bool (!r_36))]) ⟨rfl, rfl, rfl, trivial⟩ ?_
  refine WC.cond rfl ?_ ?_
  · intro hc_54
    replace hV := hV.1 hc_54
    refine WC.seq ?_
    refine WC.region ?_
    refine WL.run hS rfl rfl rfl (ex_assign rfl) ?_
    refine WL.nil ?_
    refine WQ.next ?_
    refine WC.sub (m := [(4, .int .i64 0)]) ⟨rfl, trivial⟩ ?_
    refine WC.ret ?_
    refine WQ.pass nofun ?_
    replace hS := hS.f7
    replace hS := hS.f7
    replace hS := hS.f7
    replace hS := hS.f7
    replace hS := hS.f7
    replace hS := hS.f7
    replace hS := hS.f7
    exact leave1 rfl rfl ⟨0, nodes_4, free_9, xby_14, v_5, fp_7, v_10, fp_12, fp_17, hV, rfl, (by unfold I64; omega), h_6, h_11, h_16, hS⟩
  · intro hc_54
    replace hV := hV.2 hc_54
    refine WC.skip ?_
    refine WQ.next ?_
    refine WC.sub (m := [(0, .pointer (some ⟨b_2, 0, none⟩)), (1, .int .i64 i_34)]) ⟨rfl, rfl, trivial⟩ ?_
    refine WC.seq ?_
    refine WC.region ?_
    refine WL.run hS rfl rfl rfl (ex_move rfl) ?_
    refine WL.run hS rfl rfl rfl (ex_move rfl) ?_
    replace hS := hS.f7
    replace hS := hS.f7
    replace hS := hS.f7
    replace hS := hS.f7
    replace hS := hS.f7
    replace hS := hS.f7
    replace hS := hS.f7
    refine WL.call rfl rfl rfl (enters0 (vs := [.pointer (some ⟨b_2, 0, none⟩), .int .i64 i_34, .int .i64 0, .int .i64 1]) Tryd.call15 ⟨rfl, rfl, rfl, rfl, trivial⟩) (S_make  h_6 h_11 h_16 h_21 h_26 h_31 hr_35 (by unfold I64; omega) (by unfold I64; omega) hS hV) ?_
    clear hV hS
    rintro _ w ⟨r_38, c_40, c_44, m_48, v_41, fp_42, v_45, fp_46, fp_49, hV, rfl, hr_39, h_43, h_47, h_50, hS⟩
    refine ⟨_, rfl, ?_⟩
    refine WL.run hS rfl rfl rfl (ex_assign rfl) ?_
    refine WL.nil ?_
    refine WQ.next ?_
    refine WC.sub (m := [(4, .int .i64 r_38)]) ⟨rfl, trivial⟩ ?_
    refine WC.ret ?_
    replace hS := hS.f7
    replace hS := hS.f7
    replace hS := hS.f7
    replace hS := hS.f7
    replace hS := hS.f7
    replace hS := hS.f7
    replace hS := hS.f7
    exact leave1 rfl rfl ⟨r_38, c_40, c_44, m_48, v_41, fp_42, v_45, fp_46, fp_49, hV, rfl, hr_39, h_43, h_47, h_50, hS⟩

theorem S_depth {w0 : World} {H : View} {L : Seg} {w : World} {b_2 : Nat} {v_5 : Value} {nodes_4 : List (Int × Int × Int)} {fp_7 : Seg} {v_10 : Value} {free_9 : List Int} {fp_12 : Seg} {v_15 : Value} {xby_14 : List ((Int × Int × Int) × Int)} {fp_17 : Seg} {v_20 : Value} {order_19 : List Int} {fp_22 : Seg} {v_25 : Value} {level_24 : List Int} {fp_27 : Seg} {v_30 : Value} {memo_29 : List ((Int × Int × Int) × Int)} {fp_32 : Seg} {f_34 : Int} {Q : Int → Prop} (h_6 : OwnSl H (cPair (cInt .i64) (cPair (cInt .i64) (cInt .i64))) 46 v_5 nodes_4 fp_7) (h_11 : OwnSl H (cInt .i64) 29 v_10 free_9 fp_12) (h_16 : OwnMp H kTri (cInt .i64) v_15 xby_14 fp_17) (h_21 : OwnSl H (cInt .i64) 3 v_20 order_19 fp_22) (h_26 : OwnSl H (cInt .i64) 3 v_25 level_24 fp_27) (h_31 : OwnMp H kTri (cInt .i64) v_30 memo_29 fp_32) (hr_35 : I64 f_34) (hS : St w0 H ([(b_2, Obj.cells #[v_5, v_10, v_15, v_20, v_25, v_30] 44 (0, 0))] ++ (fp_7 ++ (fp_12 ++ (fp_17 ++ (fp_22 ++ (fp_27 ++ (fp_32 ++ L))))))) w) (hV : V_depth nodes_4 free_9 xby_14 order_19 level_24 memo_29 f_34 Q) :
    Calls Tryd.prog 18 #[.pointer (some ⟨b_2, 0, none⟩), .int .i64 f_34] w fun e w' => ∃ (r1 : Int), Q r1 ∧ e = .returned (.int .i64 r1) ∧ I64 r1 ∧ St w0 H ([(b_2, Obj.cells #[v_5, v_10, v_15, v_20, v_25, v_30] 44 (0, 0))] ++ (fp_7 ++ (fp_12 ++ (fp_17 ++ (fp_22 ++ (fp_27 ++ (fp_32 ++ L))))))) w' := by
  unfold V_depth at hV
  refine enter Tryd.func18 rfl Tryd.ntmps18 rfl (lk_args_cons (d := 0) (v := .pointer (some ⟨b_2, 0, none⟩)) rfl (lk_args_cons (d := 1) (v := .int .i64 f_34) rfl (lk_args_nil _))) ?_
  refine WC.seq ?_
  refine WC.region ?_
  refine WL.run hS rfl rfl rfl (ex_assign rfl) ?_
  refine WL.nil ?_
  refine WQ.next ?_
  refine WC.sub (m := [(0, .pointer (some ⟨b_2, 0, none⟩)), (1, .int .i64 f_34)]) ⟨rfl, rfl, trivial⟩ ?_
  refine WC.seq ?_
  refine WC.seq ?_
  refine WC.region ?_
  refine WL.run hS rfl rfl rfl (ex_move rfl) ?_
  refine WL.run hS rfl rfl rfl (ex_leq rfl rfl) ?_
  refine WL.nil ?_
  refine WQ.next ?_
  refine WC.sub (m := [(0, .pointer (some ⟨b_2, 0, none⟩)), (1, .int .i64 f_34), (6, .bool (decide (f_34 ≤ 1)))]) ⟨rfl, rfl, rfl, trivial⟩ ?_
  refine WC.cond rfl ?_ ?_
  · intro hc_52
    replace hV := hV.1 (of_decide_eq_true hc_52)
    refine WC.seq ?_
    refine WC.region ?_
    refine WL.run hS rfl rfl rfl (ex_move rfl) ?_
    refine WL.run hS rfl rfl rfl (ex_nilCheck rfl) ?_
    refine WL.run hS rfl rfl rfl (ex_fieldAddr (o' := 3) Tryd.underlying44 rfl Tryd.sizeOf42 rfl rfl) ?_
    refine WL.run hS rfl rfl rfl (ex_load_box Tryd.isAgg42 rfl rfl) ?_
    have hl_37 : Len order_19 := h_21.bound
    replace hV := hV hl_37
    refine WL.run hS rfl rfl rfl (ex_len_own Tryd.underlying42 rfl h_21) ?_
    refine WL.run hS rfl rfl rfl (ex_assign rfl) ?_
    refine WL.nil ?_
    refine WQ.next ?_
    refine WC.sub (m := [(4, .int .i64 (order_19.length : Int))]) ⟨rfl, trivial⟩ ?_
    refine WC.ret ?_
    refine WQ.pass nofun ?_
    replace hS := hS.f7
    replace hS := hS.f7
    replace hS := hS.f7
    replace hS := hS.f7
    replace hS := hS.f7
    replace hS := hS.f7
    replace hS := hS.f7
    exact leave1 rfl rfl ⟨(order_19.length : Int), hV, rfl, (Len.i64 hl_37), hS⟩
  · intro hc_52
    replace hV := hV.2 (of_decide_eq_false hc_52)
    refine WC.skip ?_
    refine WQ.next ?_
    refine WC.sub (m := [(0, .pointer (some ⟨b_2, 0, none⟩)), (1, .int .i64 f_34)]) ⟨rfl, rfl, trivial⟩ ?_
    refine WC.seq ?_
    refine WC.quiet (C := St w0 H ([(b_2, Obj.cells #[v_5, v_10, v_15, v_20, v_25, v_30] 44 (0, 0))] ++ (fp_7 ++ (fp_12 ++ (fp_17 ++ (fp_22 ++ (fp_27 ++ (fp_32 ++ L)))))))) Tryd.mixed (by kernel_rfl) (hS.drawn _) ?_
    clear hS w
    refine Wq.run rfl rfl rfl (ex_move rfl) ?_
    refine Wq.run rfl rfl rfl (ex_nilCheck rfl) ?_
    refine Wq.run rfl rfl rfl (ex_fieldAddr (o' := 4) Tryd.underlying44 rfl Tryd.sizeOf42 rfl rfl) ?_
    refine Wq.run rfl rfl rfl (ex_load_box Tryd.isAgg42 rfl rfl) ?_
    refine Wq.run rfl rfl rfl (ex_move rfl) ?_
    refine Wq.run rfl rfl rfl (ex_nilCheck rfl) ?_
    refine Wq.run rfl rfl rfl (ex_fieldAddr (o' := 0) Tryd.underlying44 rfl Tryd.sizeOf38 rfl rfl) ?_
    refine Wq.run rfl rfl rfl (ex_load_box Tryd.isAgg38 rfl rfl) ?_
    refine Wq.run rfl rfl rfl (ex_move rfl) ?_
    obtain ⟨hin_38, hV⟩ := hV
    refine Wq.runx rfl rfl rfl (ex_index_own Tryd.underlying38 Tryd.sizeOf46 rfl rfl h_6 hin_38) ?_
    intro p_39 hp_40
    refine Wq.runx rfl rfl rfl (ex_fieldAddr_own Tryd.underlying46 rfl Tryd.sizeOf3 rfl hp_40) ?_
    intro p_42 hp_41
    refine Wq.runx rfl rfl rfl (exQ (ex_load_ownpart (d := (cInt .i64)) Tryd.isAgg3 rfl rfl h_6 hp_41 hin_38 Part.fst) _ (fun _ h => St.f2 h)) ?_
    intro u_43 hu_44
    obtain ⟨rfl, hr_45⟩ := cInt_rep hu_44
    replace hr_45 := has_I64 hr_45
    replace hV := hV hr_45
    obtain ⟨hin_46, hV⟩ := hV
    refine Wq.runx rfl rfl rfl (ex_index_own Tryd.underlying42 Tryd.sizeOf3 rfl rfl h_26 hin_46) ?_
    intro p_47 hp_48
    refine Wq.runx rfl rfl rfl (exQ (ex_load_own_s Tryd.isAgg3 rfl rfl h_26 hp_48 hin_46) _ (fun _ h => St.f6 h)) ?_
    intro u_49 hu_50
    obtain ⟨rfl, hr_51⟩ := cInt_rep hu_50
    replace hr_51 := has_I64 hr_51
    replace hV := hV hr_51
    refine Wq.run rfl rfl rfl (ex_assign rfl) ?_
    refine Wq.nil fun w hS => ?_
    refine WQ.next ?_
    refine WC.sub (m := [(4, .int .i64 (ix level_24 ((ix nodes_4 f_34).1)))]) ⟨rfl, trivial⟩ ?_
    refine WC.ret ?_
    replace hS := hS.f7
    replace hS := hS.f7
    replace hS := hS.f7
    replace hS := hS.f7
    replace hS := hS.f7
    replace hS := hS.f7
    replace hS := hS.f7
    exact leave1 rfl rfl ⟨(ix level_24 ((ix nodes_4 f_34).1)), hV, rfl, hr_51, hS⟩

theorem S_split {w0 : World} {H : View} {L : Seg} {w : World} {b_2 : Nat} {v_5 : Value} {nodes_4 : List (Int × Int × Int)} {fp_7 : Seg} {v_10 : Value} {free_9 : List Int} {fp_12 : Seg} {v_15 : Value} {xby_14 : List ((Int × Int × Int) × Int)} {fp_17 : Seg} {v_20 : Value} {order_19 : List Int} {fp_22 : Seg} {v_25 : Value} {level_24 : List Int} {fp_27 : Seg} {v_30 : Value} {memo_29 : List ((Int × Int × Int) × Int)} {fp_32 : Seg} {f_34 : Int} {level_36 : Int} {Q : Int → Int → Prop} (h_6 : OwnSl H (cPair (cInt .i64) (cPair (cInt .i64) (cInt .i64))) 46 v_5 nodes_4 fp_7) (h_11 : OwnSl H (cInt .i64) 29 v_10 free_9 fp_12) (h_16 : OwnMp H kTri (cInt .i64) v_15 xby_14 fp_17) (h_21 : OwnSl H (cInt .i64) 3 v_20 order_19 fp_22) (h_26 : OwnSl H (cInt .i64) 3 v_25 level_24 fp_27) (h_31 : OwnMp H kTri (cInt .i64) v_30 memo_29 fp_32) (hr_35 : I64 f_34) (hr_37 : I64 level_36) (hS : St w0 H ([(b_2, Obj.cells #[v_5, v_10, v_15, v_20, v_25, v_30] 44 (0, 0))] ++ (fp_7 ++ (fp_12 ++ (fp_17 ++ (fp_22 ++ (fp_27 ++ (fp_32 ++ L))))))) w) (hV : V_split nodes_4 free_9 xby_14 order_19 level_24 memo_29 f_34 level_36 Q) :
    Calls Tryd.prog 21 #[.pointer (some ⟨b_2, 0, none⟩), .int .i64 f_34, .int .i64 level_36] w fun e w' => ∃ (r1 : Int) (r2 : Int), Q r1 r2 ∧ e = .returned (.tuple #[.int .i64 r1, .int .i64 r2]) ∧ I64 r1 ∧ I64 r2 ∧ St w0 H ([(b_2, Obj.cells #[v_5, v_10, v_15, v_20, v_25, v_30] 44 (0, 0))] ++ (fp_7 ++ (fp_12 ++ (fp_17 ++ (fp_22 ++ (fp_27 ++ (fp_32 ++ L))))))) w' := by
  unfold V_split at hV
  refine enter Tryd.func21 rfl Tryd.ntmps21 rfl (lk_args_cons (d := 0) (v := .pointer (some ⟨b_2, 0, none⟩)) rfl (lk_args_cons (d := 1) (v := .int .i64 f_34) rfl (lk_args_cons (d := 2) (v := .int .i64 level_36) rfl (lk_args_nil _)))) ?_
  refine WC.seq ?_
  refine WC.region ?_
  refine WL.run hS rfl rfl rfl (ex_assign rfl) ?_
  refine WL.run hS rfl rfl rfl (ex_assign rfl) ?_
  refine WL.nil ?_
  refine WQ.next ?_
  refine WC.sub (m := [(0, .pointer (some ⟨b_2, 0, none⟩)), (1, .int .i64 f_34), (2, .int .i64 level_36)]) ⟨rfl, rfl, rfl, trivial⟩ ?_
  refine WC.seq ?_
  refine WC.seq ?_
  refine WC.region ?_
  refine WL.run hS rfl rfl rfl (ex_move rfl) ?_
  refine WL.run hS rfl rfl rfl (ex_move rfl) ?_
  replace hS := hS.f7
  replace hS := hS.f7
  replace hS := hS.f7
  replace hS := hS.f7
  replace hS := hS.f7
  replace hS := hS.f7
  replace hS := hS.f7
  refine WL.call rfl rfl rfl (enters0 (vs := [.pointer (some ⟨b_2, 0, none⟩), .int .i64 f_34]) Tryd.call18 ⟨rfl, rfl, trivial⟩) (S_depth  h_6 h_11 h_16 h_21 h_26 h_31 hr_35 hS hV) ?_
  clear hV hS
  rintro _ w ⟨r_38, hV, rfl, hr_39, hS⟩
  refine ⟨_, rfl, ?_⟩
  refine WL.run hS rfl rfl rfl (ex_move rfl) ?_
  refine WL.run hS rfl rfl rfl (ex_neq rfl rfl) ?_
  refine WL.nil ?_
  refine WQ.next ?_
  refine WC.sub (m := [(0, .pointer (some ⟨b_2, 0, none⟩)), (1, .int .i64 f_34), (12, .bool (decide (r_38 ≠ level_36)))]) ⟨rfl, rfl, rfl, trivial⟩ ?_
  refine WC.cond rfl ?_ ?_
  · intro hc_58
    replace hV := hV.1 (of_decide_eq_true hc_58)
    refine WC.seq ?_
    refine WC.region ?_
    refine WL.run hS rfl rfl rfl (ex_move rfl) ?_
    refine WL.run hS rfl rfl rfl (ex_move rfl) ?_
    refine WL.run hS rfl rfl rfl (ex_assign rfl) ?_
    refine WL.run hS rfl rfl rfl (ex_assign rfl) ?_
    refine WL.nil ?_
    refine WQ.next ?_
    refine WC.sub (m := [(6, .int .i64 f_34), (7, .int .i64 f_34)]) ⟨rfl, rfl, trivial⟩ ?_
    refine WC.ret ?_
    refine WQ.pass nofun ?_
    replace hS := hS.f7
    replace hS := hS.f7
    replace hS := hS.f7
    replace hS := hS.f7
    replace hS := hS.f7
    replace hS := hS.f7
    replace hS := hS.f7
    exact leave2 rfl rfl rfl ⟨f_34, f_34, hV, rfl, hr_35, hr_35, hS⟩
  · intro hc_58
    replace hV := hV.2 (of_decide_eq_false hc_58)
    refine WC.skip ?_
    refine WQ.next ?_
    refine WC.sub (m := [(0, .pointer (some ⟨b_2, 0, none⟩)), (1, .int .i64 f_34)]) ⟨rfl, rfl, trivial⟩ ?_
    refine WC.seq ?_
    refine WC.quiet (C := St w0 H ([(b_2, Obj.cells #[v_5, v_10, v_15, v_20, v_25, v_30] 44 (0, 0))] ++ (fp_7 ++ (fp_12 ++ (fp_17 ++ (fp_22 ++ (fp_27 ++ (fp_32 ++ L)))))))) Tryd.mixed (by kernel_rfl) (hS.drawn _) ?_
    clear hS w
    refine Wq.run rfl rfl rfl (ex_move rfl) ?_
    refine Wq.run rfl rfl rfl (ex_nilCheck rfl) ?_
    refine Wq.run rfl rfl rfl (ex_fieldAddr (o' := 0) Tryd.underlying44 rfl Tryd.sizeOf38 rfl rfl) ?_
    refine Wq.run rfl rfl rfl (ex_load_box Tryd.isAgg38 rfl rfl) ?_
    refine Wq.run rfl rfl rfl (ex_move rfl) ?_
    obtain ⟨hin_42, hV⟩ := hV
    refine Wq.runx rfl rfl rfl (ex_index_own Tryd.underlying38 Tryd.sizeOf46 rfl rfl h_6 hin_42) ?_
    intro p_43 hp_44
    refine Wq.runx rfl rfl rfl (ex_fieldAddr_own Tryd.underlying46 rfl Tryd.sizeOf29 rfl hp_44) ?_
    intro p_46 hp_45
    refine Wq.runx rfl rfl rfl (exQ (ex_load_ownpart (d := (cInt .i64)) Tryd.isAgg29 rfl rfl h_6 hp_45 hin_42 (Part.next Part.fst)) _ (fun _ h => St.f2 h)) ?_
    intro u_47 hu_48
    obtain ⟨rfl, hr_49⟩ := cInt_rep hu_48
    replace hr_49 := has_I64 hr_49
    replace hV := hV hr_49
    refine Wq.run rfl rfl rfl (ex_move rfl) ?_
    refine Wq.run rfl rfl rfl (ex_nilCheck rfl) ?_
    refine Wq.run rfl rfl rfl (ex_fieldAddr (o' := 0) Tryd.underlying44 rfl Tryd.sizeOf38 rfl rfl) ?_
    refine Wq.run rfl rfl rfl (ex_load_box Tryd.isAgg38 rfl rfl) ?_
    refine Wq.run rfl rfl rfl (ex_move rfl) ?_
    obtain ⟨hin_50, hV⟩ := hV
    refine Wq.runx rfl rfl rfl (ex_index_own Tryd.underlying38 Tryd.sizeOf46 rfl rfl h_6 hin_50) ?_
    intro p_51 hp_52
    refine Wq.runx rfl rfl rfl (ex_fieldAddr_own Tryd.underlying46 rfl Tryd.sizeOf29 rfl hp_52) ?_
    intro p_54 hp_53
    refine Wq.runx rfl rfl rfl (exQ (ex_load_ownpart (d := (cInt .i64)) Tryd.isAgg29 rfl rfl h_6 hp_53 hin_50 (Part.next Part.snd)) _ (fun _ h => St.f2 h)) ?_
    intro u_55 hu_56
    obtain ⟨rfl, hr_57⟩ := cInt_rep hu_56
    replace hr_57 := has_I64 hr_57
    replace hV := hV hr_57
    refine Wq.run rfl rfl rfl (ex_assign rfl) ?_
    refine Wq.run rfl rfl rfl (ex_assign rfl) ?_
    refine Wq.nil fun w hS => ?_
    refine WQ.next ?_
    refine WC.sub (m := [(6, .int .i64 ((ix nodes_4 f_34).2.1)), (7, .int .i64 ((ix nodes_4 f_34).2.2))]) ⟨rfl, rfl, trivial⟩ ?_
    refine WC.ret ?_
    replace hS := hS.f7
    replace hS := hS.f7
    replace hS := hS.f7
    replace hS := hS.f7
    replace hS := hS.f7
    replace hS := hS.f7
    replace hS := hS.f7
    exact leave2 rfl rfl rfl ⟨((ix nodes_4 f_34).2.1), ((ix nodes_4 f_34).2.2), hV, rfl, hr_49, hr_57, hS⟩

theorem S_Ite (m0 : Nat) : ∀ {w0 : World} {H : View} {L : Seg} {w : World} {b_2 : Nat} {v_5 : Value} {nodes_4 : List (Int × Int × Int)} {fp_7 : Seg} {v_10 : Value} {free_9 : List Int} {fp_12 : Seg} {v_15 : Value} {xby_14 : List ((Int × Int × Int) × Int)} {fp_17 : Seg} {v_20 : Value} {order_19 : List Int} {fp_22 : Seg} {v_25 : Value} {level_24 : List Int} {fp_27 : Seg} {v_30 : Value} {memo_29 : List ((Int × Int × Int) × Int)} {fp_32 : Seg} {f_34 : Int} {g_36 : Int} {h_38 : Int} {Q : Int → (List (Int × Int × Int)) → (List Int) → (List ((Int × Int × Int) × Int)) → (List ((Int × Int × Int) × Int)) → Prop} (h_6 : OwnSl H (cPair (cInt .i64) (cPair (cInt .i64) (cInt .i64))) 46 v_5 nodes_4 fp_7) (h_11 : OwnSl H (cInt .i64) 29 v_10 free_9 fp_12) (h_16 : OwnMp H kTri (cInt .i64) v_15 xby_14 fp_17) (h_21 : OwnSl H (cInt .i64) 3 v_20 order_19 fp_22) (h_26 : OwnSl H (cInt .i64) 3 v_25 level_24 fp_27) (h_31 : OwnMp H kTri (cInt .i64) v_30 memo_29 fp_32) (hr_35 : I64 f_34) (hr_37 : I64 g_36) (hr_39 : I64 h_38) (hS : St w0 H ([(b_2, Obj.cells #[v_5, v_10, v_15, v_20, v_25, v_30] 44 (0, 0))] ++ (fp_7 ++ (fp_12 ++ (fp_17 ++ (fp_22 ++ (fp_27 ++ (fp_32 ++ L))))))) w) (hV : V_Ite m0 nodes_4 free_9 xby_14 order_19 level_24 memo_29 f_34 g_36 h_38 Q),
    Calls Tryd.prog 16 #[.pointer (some ⟨b_2, 0, none⟩), .int .i64 f_34, .int .i64 g_36, .int .i64 h_38] w fun e w' => ∃ (r1 : Int) (r2 : List (Int × Int × Int)) (r3 : List Int) (r4 : List ((Int × Int × Int) × Int)) (r5 : List ((Int × Int × Int) × Int)) (v2 : Value) (fp2 : Seg) (v3 : Value) (fp3 : Seg) (fp4 : Seg) (fp5 : Seg), Q r1 r2 r3 r4 r5 ∧ e = .returned (.int .i64 r1) ∧ I64 r1 ∧ OwnSl H (cPair (cInt .i64) (cPair (cInt .i64) (cInt .i64))) 46 v2 r2 fp2 ∧ OwnSl H (cInt .i64) 29 v3 r3 fp3 ∧ OwnMp H kTri (cInt .i64) v_15 r4 fp4 ∧ OwnMp H kTri (cInt .i64) v_30 r5 fp5 ∧ St w0 H ([(b_2, Obj.cells #[v2, v3, v_15, v_20, v_25, v_30] 44 (0, 0))] ++ (fp2 ++ (fp3 ++ (fp4 ++ (fp_22 ++ (fp_27 ++ (fp5 ++ L))))))) w' := by
  induction m0 with
  | zero => intro w0 H L w b_2 v_5 nodes_4 fp_7 v_10 free_9 fp_12 v_15 xby_14 fp_17 v_20 order_19 fp_22 v_25 level_24 fp_27 v_30 memo_29 fp_32 f_34 g_36 h_38 Q h_6 h_11 h_16 h_21 h_26 h_31 hr_35 hr_37 hr_39 hS hV; exact hV.elim
  | succ m0 ih =>
    intro w0 H L w b_2 v_5 nodes_4 fp_7 v_10 free_9 fp_12 v_15 xby_14 fp_17 v_20 order_19 fp_22 v_25 level_24 fp_27 v_30 memo_29 fp_32 f_34 g_36 h_38 Q h_6 h_11 h_16 h_21 h_26 h_31 hr_35 hr_37 hr_39 hS hV
    unfold V_Ite at hV
    refine enter Tryd.func16 rfl Tryd.ntmps16 rfl (lk_args_cons (d := 0) (v := .pointer (some ⟨b_2, 0, none⟩)) rfl (lk_args_cons (d := 1) (v := .int .i64 f_34) rfl (lk_args_cons (d := 2) (v := .int .i64 g_36) rfl (lk_args_cons (d := 3) (v := .int .i64 h_38) rfl (lk_args_nil _))))) ?_
    refine WC.seq ?_
    refine WC.region ?_
    refine WL.run hS rfl rfl rfl (ex_assign rfl) ?_
    refine WL.nil ?_
    refine WQ.next ?_
    refine WC.sub (m := [(0, .pointer (some ⟨b_2, 0, none⟩)), (1, .int .i64 f_34), (2, .int .i64 g_36), (3, .int .i64 h_38)]) ⟨rfl, rfl, rfl, rfl, trivial⟩ ?_
    refine WC.seq ?_
    refine WC.block ?_
    refine WC.seq ?_
    refine WC.via (m := [(0, .pointer (some ⟨b_2, 0, none⟩)), (1, .int .i64 f_34), (2, .int .i64 g_36), (3, .int .i64 h_38), (20, .bool (decide ((f_34 = 1) ∨ (g_36 = h_38))))]) ?_ ?_
    · refine WC.region ?_
      refine WL.run hS rfl rfl rfl (ex_move rfl) ?_
      refine WL.run hS rfl rfl rfl (ex_eql rfl rfl) ?_
      refine WL.run hS rfl rfl rfl (ex_move rfl) ?_
      rcases Bool.eq_false_or_eq_true (decide (f_34 = 1)) with hg_43 | hg_43
      · refine WL.skip_g rfl rfl rfl hg_43 rfl rfl ?_
        refine WL.skip_g rfl rfl rfl hg_43 rfl rfl ?_
        refine WL.skip_g rfl rfl rfl hg_43 rfl rfl ?_
        refine WL.run hS rfl rfl rfl (ex_pick_t rfl hg_43 rfl) ?_
        refine WL.sub (m := [(0, .pointer (some ⟨b_2, 0, none⟩)), (1, .int .i64 f_34), (2, .int .i64 g_36), (3, .int .i64 h_38), (21, .int .i64 f_34), (22, .bool (decide (f_34 = 1))), (23, .bool (decide (f_34 = 1))), (24, undef), (25, undef), (26, undef), (27, .bool (decide ((f_34 = 1) ∨ (g_36 = h_38))))]) ⟨rfl, rfl, rfl, rfl, rfl, rfl, rfl, rfl, rfl, rfl, congrArg (fun b => some (Value.bool b)) (or_t hg_43 : true = decide ((f_34 = 1) ∨ (g_36 = h_38))), trivial⟩ ?_
        refine WL.run hS rfl rfl rfl (ex_assign rfl) ?_
        exact WL.nil (At.of ⟨rfl, rfl, rfl, rfl, rfl, trivial⟩)
      · refine WL.unguard rfl rfl hg_43 ?_
        refine WL.run hS rfl rfl rfl (ex_move rfl) ?_
        refine WL.unguard rfl rfl hg_43 ?_
        refine WL.run hS rfl rfl rfl (ex_move rfl) ?_
        refine WL.unguard rfl rfl hg_43 ?_
        refine WL.run hS rfl rfl rfl (ex_eql rfl rfl) ?_
        refine WL.run hS rfl rfl rfl (ex_pick_f rfl hg_43 rfl) ?_
        refine WL.sub (m := [(0, .pointer (some ⟨b_2, 0, none⟩)), (1, .int .i64 f_34), (2, .int .i64 g_36), (3, .int .i64 h_38), (21, .int .i64 f_34), (22, .bool (decide (f_34 = 1))), (23, .bool (decide (f_34 = 1))), (24, .int .i64 g_36), (25, .int .i64 h_38), (26, .bool (decide (g_36 = h_38))), (27, .bool (decide ((f_34 = 1) ∨ (g_36 = h_38))))]) ⟨rfl, rfl, rfl, rfl, rfl, rfl, rfl, rfl, rfl, rfl, congrArg (fun b => some (Value.bool b)) (or_f hg_43 : decide (g_36 = h_38) = decide ((f_34 = 1) ∨ (g_36 = h_38))), trivial⟩ ?_
        refine WL.run hS rfl rfl rfl (ex_assign rfl) ?_
        exact WL.nil (At.of ⟨rfl, rfl, rfl, rfl, rfl, trivial⟩)
    · refine WQ.next ?_
      refine WC.cond rfl ?_ ?_
      · intro hc_191
        replace hV := hV.1 (of_decide_eq_true hc_191)
        refine WC.seq ?_
        refine WC.region ?_
        refine WL.run hS rfl rfl rfl (ex_move rfl) ?_
        refine WL.run hS rfl rfl rfl (ex_assign rfl) ?_
        refine WL.nil ?_
        refine WQ.next ?_
        refine WC.sub (m := [(8, .int .i64 g_36)]) ⟨rfl, trivial⟩ ?_
        refine WC.ret ?_
        refine WQ.out nofun ?_
        refine WQ.pass nofun ?_
        replace hS := hS.f7
        replace hS := hS.f7
        replace hS := hS.f7
        replace hS := hS.f7
        replace hS := hS.f7
        replace hS := hS.f7
        replace hS := hS.f7
        exact leave1 rfl rfl ⟨g_36, nodes_4, free_9, xby_14, memo_29, v_5, fp_7, v_10, fp_12, fp_17, fp_32, hV, rfl, hr_37, h_6, h_11, h_16, h_31, hS⟩
      · intro hc_191
        replace hV := hV.2 (of_decide_eq_false hc_191)
        refine WC.seq ?_
        refine WC.region ?_
        refine WL.run hS rfl rfl rfl (ex_move rfl) ?_
        refine WL.run hS rfl rfl rfl (ex_eql rfl rfl) ?_
        refine WL.run hS rfl rfl rfl (ex_assign rfl) ?_
        refine WL.nil ?_
        refine WQ.next ?_
        refine WC.sub (m := [(0, .pointer (some ⟨b_2, 0, none⟩)), (1, .int .i64 f_34), (2, .int .i64 g_36), (3, .int .i64 h_38), (29, .bool (decide (f_34 = 0)))]) ⟨rfl, rfl, rfl, rfl, rfl, trivial⟩ ?_
        refine WC.cond rfl ?_ ?_
        · intro hc_190
          replace hV := hV.1 (of_decide_eq_true hc_190)
          refine WC.seq ?_
          refine WC.region ?_
          refine WL.run hS rfl rfl rfl (ex_move rfl) ?_
          refine WL.run hS rfl rfl rfl (ex_assign rfl) ?_
          refine WL.nil ?_
          refine WQ.next ?_
          refine WC.sub (m := [(8, .int .i64 h_38)]) ⟨rfl, trivial⟩ ?_
          refine WC.ret ?_
          refine WQ.out nofun ?_
          refine WQ.pass nofun ?_
          replace hS := hS.f7
          replace hS := hS.f7
          replace hS := hS.f7
          replace hS := hS.f7
          replace hS := hS.f7
          replace hS := hS.f7
          replace hS := hS.f7
          exact leave1 rfl rfl ⟨h_38, nodes_4, free_9, xby_14, memo_29, v_5, fp_7, v_10, fp_12, fp_17, fp_32, hV, rfl, hr_39, h_6, h_11, h_16, h_31, hS⟩
        · intro hc_190
          replace hV := hV.2 (of_decide_eq_false hc_190)
          refine WC.seq ?_
          refine WC.via (m := [(0, .pointer (some ⟨b_2, 0, none⟩)), (1, .int .i64 f_34), (2, .int .i64 g_36), (3, .int .i64 h_38), (33, .bool (decide ((g_36 = 1) ∧ (h_38 = 0))))]) ?_ ?_
          · refine WC.region ?_
            refine WL.run hS rfl rfl rfl (ex_move rfl) ?_
            refine WL.run hS rfl rfl rfl (ex_eql rfl rfl) ?_
            refine WL.run hS rfl rfl rfl (ex_move rfl) ?_
            rcases Bool.eq_false_or_eq_true (decide (g_36 = 1)) with hg_49 | hg_49
            · refine WL.unguard rfl rfl hg_49 ?_
              refine WL.run hS rfl rfl rfl (ex_move rfl) ?_
              refine WL.unguard rfl rfl hg_49 ?_
              refine WL.run hS rfl rfl rfl (ex_eql rfl rfl) ?_
              refine WL.run hS rfl rfl rfl (ex_pick_t rfl hg_49 rfl) ?_
              refine WL.sub (m := [(0, .pointer (some ⟨b_2, 0, none⟩)), (1, .int .i64 f_34), (2, .int .i64 g_36), (3, .int .i64 h_38), (29, .bool (decide (f_34 = 0))), (34, .int .i64 g_36), (35, .bool (decide (g_36 = 1))), (36, .bool (decide (g_36 = 1))), (37, .int .i64 h_38), (38, .bool (decide (h_38 = 0))), (39, .bool (decide ((g_36 = 1) ∧ (h_38 = 0))))]) ⟨rfl, rfl, rfl, rfl, rfl, rfl, rfl, rfl, rfl, rfl, congrArg (fun b => some (Value.bool b)) (and_t hg_49 : decide (h_38 = 0) = decide ((g_36 = 1) ∧ (h_38 = 0))), trivial⟩ ?_
              refine WL.run hS rfl rfl rfl (ex_assign rfl) ?_
              exact WL.nil (At.of ⟨rfl, rfl, rfl, rfl, rfl, trivial⟩)
            · refine WL.skip_g rfl rfl rfl hg_49 rfl rfl ?_
              refine WL.skip_g rfl rfl rfl hg_49 rfl rfl ?_
              refine WL.run hS rfl rfl rfl (ex_pick_f rfl hg_49 rfl) ?_
              refine WL.sub (m := [(0, .pointer (some ⟨b_2, 0, none⟩)), (1, .int .i64 f_34), (2, .int .i64 g_36), (3, .int .i64 h_38), (29, .bool (decide (f_34 = 0))), (34, .int .i64 g_36), (35, .bool (decide (g_36 = 1))), (36, .bool (decide (g_36 = 1))), (37, undef), (38, undef), (39, .bool (decide ((g_36 = 1) ∧ (h_38 = 0))))]) ⟨rfl, rfl, rfl, rfl, rfl, rfl, rfl, rfl, rfl, rfl, congrArg (fun b => some (Value.bool b)) (and_f hg_49 : false = decide ((g_36 = 1) ∧ (h_38 = 0))), trivial⟩ ?_
              refine WL.run hS rfl rfl rfl (ex_assign rfl) ?_
              exact WL.nil (At.of ⟨rfl, rfl, rfl, rfl, rfl, trivial⟩)
          · refine WQ.next ?_
            refine WC.cond rfl ?_ ?_
            · intro hc_189
              replace hV := hV.1 (of_decide_eq_true hc_189)
              refine WC.seq ?_
              refine WC.region ?_
              refine WL.run hS rfl rfl rfl (ex_move rfl) ?_
              refine WL.run hS rfl rfl rfl (ex_assign rfl) ?_
              refine WL.nil ?_
              refine WQ.next ?_
              refine WC.sub (m := [(8, .int .i64 f_34)]) ⟨rfl, trivial⟩ ?_
              refine WC.ret ?_
              refine WQ.out nofun ?_
              refine WQ.pass nofun ?_
              replace hS := hS.f7
              replace hS := hS.f7
              replace hS := hS.f7
              replace hS := hS.f7
              replace hS := hS.f7
              replace hS := hS.f7
              replace hS := hS.f7
              exact leave1 rfl rfl ⟨f_34, nodes_4, free_9, xby_14, memo_29, v_5, fp_7, v_10, fp_12, fp_17, fp_32, hV, rfl, hr_35, h_6, h_11, h_16, h_31, hS⟩
            · intro hc_189
              replace hV := hV.2 (of_decide_eq_false hc_189)
              refine WC.skip ?_
              refine WQ.out nofun ?_
              refine WQ.next ?_
              refine WC.sub (m := [(0, .pointer (some ⟨b_2, 0, none⟩)), (1, .int .i64 f_34), (2, .int .i64 g_36), (3, .int .i64 h_38)]) ⟨rfl, rfl, rfl, rfl, trivial⟩ ?_
              refine WC.seq ?_
              refine WC.region ?_
              refine WL.run hS rfl rfl rfl (ex_move rfl) ?_
              refine WL.run hS rfl rfl rfl (ex_move rfl) ?_
              refine WL.run hS rfl rfl rfl (ex_move rfl) ?_
              refine WL.run hS rfl rfl rfl (ex_build_arr (vs := [.int .i64 f_34, .int .i64 g_36, .int .i64 h_38]) (zc := #[.int .i64 0, .int .i64 0, .int .i64 0]) (cs := #[.int .i64 f_34, .int .i64 g_36, .int .i64 h_38]) Tryd.underlying57 Tryd.sizeOf29 Tryd.zeroValue57 rfl ⟨rfl, rfl, rfl, trivial⟩ rfl (by simp [Instr.fill, cells_int, cells_bool])) ?_
              refine WL.alloc (arr := #[.int .i64 0, .int .i64 0, .int .i64 0]) rfl Tryd.zeroValue57 rfl hS ?_
              clear hS
              intro b_51 w hS
              refine WL.store_box (pre := []) (old := [.int .i64 0, .int .i64 0, .int .i64 0]) (rst := []) (cs := [.int .i64 f_34, .int .i64 g_36, .int .i64 h_38]) (arr' := #[.int .i64 f_34, .int .i64 g_36, .int .i64 h_38]) Tryd.sizeOf57 rfl rfl rfl ⟨rfl, rfl, rfl, trivial⟩ rfl rfl rfl rfl hS ?_
              clear hS
              intro w hS
              refine WL.nil ?_
              refine WQ.next ?_
              refine WC.sub (m := [(0, .pointer (some ⟨b_2, 0, none⟩)), (1, .int .i64 f_34), (2, .int .i64 g_36), (3, .int .i64 h_38), (9, .pointer (some ⟨b_51, 0, none⟩))]) ⟨rfl, rfl, rfl, rfl, rfl, trivial⟩ ?_
              refine WC.seq ?_
              refine WC.seq ?_
              refine WC.quiet (C := St w0 H ([(b_51, Obj.cells #[.int .i64 f_34, .int .i64 g_36, .int .i64 h_38] 57 (0, 0))] ++ ([(b_2, Obj.cells #[v_5, v_10, v_15, v_20, v_25, v_30] 44 (0, 0))] ++ (fp_7 ++ (fp_12 ++ (fp_17 ++ (fp_22 ++ (fp_27 ++ (fp_32 ++ L))))))))) Tryd.mixed (by kernel_rfl) (hS.drawn _) ?_
              clear hS w
              refine Wq.run rfl rfl rfl (ex_move rfl) ?_
              refine Wq.run rfl rfl rfl (ex_nilCheck rfl) ?_
              refine Wq.run rfl rfl rfl (ex_fieldAddr (o' := 5) Tryd.underlying44 rfl Tryd.sizeOf40 rfl rfl) ?_
              refine Wq.run rfl rfl rfl ((ex_load_box Tryd.isAgg40 rfl rfl).of (fun _ h => St.f2 h)) ?_
              refine Wq.run rfl rfl rfl (ex_load_box_agg (cs := [.int .i64 f_34, .int .i64 g_36, .int .i64 h_38]) Tryd.isAgg57 Tryd.sizeOf57 rfl rfl rfl) ?_
              refine Wq.runx rfl rfl rfl (exQ (ex_lookup_ok (c := (cInt .i64)) (k := (f_34, g_36, h_38)) (d := 0) Tryd.underlying40 Tryd.key57 Tryd.zeroValue29 ⟨rfl, I64.has (by unfold I64; omega)⟩ rfl rfl h_31) _ (fun _ h => St.f8 h)) ?_
              rintro _ ⟨u_53, rfl, hu_54⟩
              obtain ⟨rfl, hr_55⟩ := cInt_rep hu_54
              replace hr_55 := has_I64 hr_55
              replace hV := hV hr_55
              refine Wq.run rfl rfl rfl (ex_move rfl) ?_
              refine Wq.run rfl rfl rfl (ex_extract rfl rfl) ?_
              refine Wq.run rfl rfl rfl (ex_extract rfl rfl) ?_
              refine Wq.run rfl rfl rfl (ex_assign rfl) ?_
              refine Wq.run rfl rfl rfl (ex_assign rfl) ?_
              refine Wq.nil fun w hS => ?_
              refine WQ.next ?_
              refine WC.sub (m := [(0, .pointer (some ⟨b_2, 0, none⟩)), (1, .int .i64 f_34), (2, .int .i64 g_36), (3, .int .i64 h_38), (9, .pointer (some ⟨b_51, 0, none⟩)), (10, .int .i64 (mgetD memo_29 (f_34, g_36, h_38) 0)), (11, .bool (mhas memo_29 (f_34, g_36, h_38)))]) ⟨rfl, rfl, rfl, rfl, rfl, rfl, rfl, trivial⟩ ?_
              refine WC.seq ?_
              refine WC.region ?_
              refine WL.run hS rfl rfl rfl (ex_move rfl) ?_
              refine WL.nil ?_
              refine WQ.next ?_
              refine WC.sub (m := [(0, .pointer (some ⟨b_2, 0, none⟩)), (1, .int .i64 f_34), (2, .int .i64 g_36), (3, .int .i64 h_38), (9, .pointer (some ⟨b_51, 0, none⟩)), (10, .int .i64 (mgetD memo_29 (f_34, g_36, h_38) 0)), (54, .bool (mhas memo_29 (f_34, g_36, h_38)))]) ⟨rfl, rfl, rfl, rfl, rfl, rfl, rfl, trivial⟩ ?_
              refine WC.cond rfl ?_ ?_
              · intro hc_188
                replace hV := hV.1 hc_188
                refine WC.seq ?_
                refine WC.region ?_
                refine WL.run hS rfl rfl rfl (ex_move rfl) ?_
                refine WL.run hS rfl rfl rfl (ex_assign rfl) ?_
                refine WL.nil ?_
                refine WQ.next ?_
                refine WC.sub (m := [(8, .int .i64 (mgetD memo_29 (f_34, g_36, h_38) 0))]) ⟨rfl, trivial⟩ ?_
                replace hS := hS.drop
                refine WC.ret ?_
                refine WQ.pass nofun ?_
                replace hS := hS.f7
                replace hS := hS.f7
                replace hS := hS.f7
                replace hS := hS.f7
                replace hS := hS.f7
                replace hS := hS.f7
                replace hS := hS.f7
                exact leave1 rfl rfl ⟨(mgetD memo_29 (f_34, g_36, h_38) 0), nodes_4, free_9, xby_14, memo_29, v_5, fp_7, v_10, fp_12, fp_17, fp_32, hV, rfl, hr_55, h_6, h_11, h_16, h_31, hS⟩
              · intro hc_188
                replace hV := hV.2 hc_188
                refine WC.skip ?_
                refine WQ.next ?_
                refine WC.sub (m := [(0, .pointer (some ⟨b_2, 0, none⟩)), (1, .int .i64 f_34), (2, .int .i64 g_36), (3, .int .i64 h_38), (9, .pointer (some ⟨b_51, 0, none⟩))]) ⟨rfl, rfl, rfl, rfl, rfl, trivial⟩ ?_
                refine WC.seq ?_
                refine WC.region ?_
                refine WL.run hS rfl rfl rfl (ex_move rfl) ?_
                refine WL.run hS rfl rfl rfl (ex_move rfl) ?_
                replace hS := hS.f8
                replace hS := hS.f8
                replace hS := hS.f8
                replace hS := hS.f8
                replace hS := hS.f8
                replace hS := hS.f8
                replace hS := hS.f8
                refine WL.call rfl rfl rfl (enters0 (vs := [.pointer (some ⟨b_2, 0, none⟩), .int .i64 f_34]) Tryd.call18 ⟨rfl, rfl, trivial⟩) (S_depth  h_6 h_11 h_16 h_21 h_26 h_31 hr_35 hS hV) ?_
                clear hV hS
                rintro _ w ⟨r_56, hV, rfl, hr_57, hS⟩
                refine ⟨_, rfl, ?_⟩
                refine WL.run hS rfl rfl rfl (ex_move rfl) ?_
                refine WL.run hS rfl rfl rfl (ex_move rfl) ?_
                replace hS := hS.f7
                replace hS := hS.f7
                replace hS := hS.f7
                replace hS := hS.f7
                replace hS := hS.f7
                replace hS := hS.f7
                replace hS := hS.f7
                refine WL.call rfl rfl rfl (enters0 (vs := [.pointer (some ⟨b_2, 0, none⟩), .int .i64 g_36]) Tryd.call18 ⟨rfl, rfl, trivial⟩) (S_depth  h_6 h_11 h_16 h_21 h_26 h_31 hr_37 hS hV) ?_
                clear hV hS
                rintro _ w ⟨r_59, hV, rfl, hr_60, hS⟩
                refine ⟨_, rfl, ?_⟩
                refine WL.run hS rfl rfl rfl (ex_move rfl) ?_
                refine WL.run hS rfl rfl rfl (ex_move rfl) ?_
                replace hS := hS.f7
                replace hS := hS.f7
                replace hS := hS.f7
                replace hS := hS.f7
                replace hS := hS.f7
                replace hS := hS.f7
                replace hS := hS.f7
                refine WL.call rfl rfl rfl (enters0 (vs := [.pointer (some ⟨b_2, 0, none⟩), .int .i64 h_38]) Tryd.call18 ⟨rfl, rfl, trivial⟩) (S_depth  h_6 h_11 h_16 h_21 h_26 h_31 hr_39 hS hV) ?_
                clear hV hS
                rintro _ w ⟨r_62, hV, rfl, hr_63, hS⟩
                refine ⟨_, rfl, ?_⟩
                refine WL.run hS rfl rfl rfl (ex_min3 rfl rfl rfl) ?_
                refine WL.run hS rfl rfl rfl (ex_assign rfl) ?_
                refine WL.nil ?_
                refine WQ.next ?_
                refine WC.sub (m := [(0, .pointer (some ⟨b_2, 0, none⟩)), (1, .int .i64 f_34), (2, .int .i64 g_36), (3, .int .i64 h_38), (9, .pointer (some ⟨b_51, 0, none⟩)), (12, .int .i64 (min (min r_56 r_59) r_62))]) ⟨rfl, rfl, rfl, rfl, rfl, rfl, trivial⟩ ?_
                refine WC.seq ?_
                refine WC.region ?_
                refine WL.run hS rfl rfl rfl (ex_move rfl) ?_
                refine WL.run hS rfl rfl rfl (ex_move rfl) ?_
                refine WL.run hS rfl rfl rfl (ex_move rfl) ?_
                replace hS := hS.f7
                replace hS := hS.f7
                replace hS := hS.f7
                replace hS := hS.f7
                replace hS := hS.f7
                replace hS := hS.f7
                replace hS := hS.f7
                refine WL.call rfl rfl rfl (enters0 (vs := [.pointer (some ⟨b_2, 0, none⟩), .int .i64 f_34, .int .i64 (min (min r_56 r_59) r_62)]) Tryd.call21 ⟨rfl, rfl, rfl, trivial⟩) (S_split  h_6 h_11 h_16 h_21 h_26 h_31 hr_35 (I64.min (I64.min hr_57 hr_60) hr_63) hS hV) ?_
                clear hV hS
                rintro _ w ⟨r_65, r_67, hV, rfl, hr_66, hr_68, hS⟩
                refine ⟨_, rfl, ?_⟩
                refine WL.run hS rfl rfl rfl (ex_move rfl) ?_
                refine WL.run hS rfl rfl rfl (ex_extract rfl rfl) ?_
                refine WL.run hS rfl rfl rfl (ex_extract rfl rfl) ?_
                refine WL.run hS rfl rfl rfl (ex_assign rfl) ?_
                refine WL.run hS rfl rfl rfl (ex_assign rfl) ?_
                refine WL.nil ?_
                refine WQ.next ?_
                refine WC.sub (m := [(0, .pointer (some ⟨b_2, 0, none⟩)), (2, .int .i64 g_36), (3, .int .i64 h_38), (9, .pointer (some ⟨b_51, 0, none⟩)), (12, .int .i64 (min (min r_56 r_59) r_62)), (13, .int .i64 r_65), (14, .int .i64 r_67)]) ⟨rfl, rfl, rfl, rfl, rfl, rfl, rfl, trivial⟩ ?_
                refine WC.seq ?_
                refine WC.region ?_
                refine WL.run hS rfl rfl rfl (ex_move rfl) ?_
                refine WL.run hS rfl rfl rfl (ex_move rfl) ?_
                refine WL.run hS rfl rfl rfl (ex_move rfl) ?_
                replace hS := hS.f7
                replace hS := hS.f7
                replace hS := hS.f7
                replace hS := hS.f7
                replace hS := hS.f7
                replace hS := hS.f7
                replace hS := hS.f7
                refine WL.call rfl rfl rfl (enters0 (vs := [.pointer (some ⟨b_2, 0, none⟩), .int .i64 g_36, .int .i64 (min (min r_56 r_59) r_62)]) Tryd.call21 ⟨rfl, rfl, rfl, trivial⟩) (S_split  h_6 h_11 h_16 h_21 h_26 h_31 hr_37 (I64.min (I64.min hr_57 hr_60) hr_63) hS hV) ?_
                clear hV hS
                rintro _ w ⟨r_70, r_72, hV, rfl, hr_71, hr_73, hS⟩
                refine ⟨_, rfl, ?_⟩
                refine WL.run hS rfl rfl rfl (ex_move rfl) ?_
                refine WL.run hS rfl rfl rfl (ex_extract rfl rfl) ?_
                refine WL.run hS rfl rfl rfl (ex_extract rfl rfl) ?_
                refine WL.run hS rfl rfl rfl (ex_assign rfl) ?_
                refine WL.run hS rfl rfl rfl (ex_assign rfl) ?_
                refine WL.nil ?_
                refine WQ.next ?_
                refine WC.sub (m := [(0, .pointer (some ⟨b_2, 0, none⟩)), (3, .int .i64 h_38), (9, .pointer (some ⟨b_51, 0, none⟩)), (12, .int .i64 (min (min r_56 r_59) r_62)), (13, .int .i64 r_65), (14, .int .i64 r_67), (15, .int .i64 r_70), (16, .int .i64 r_72)]) ⟨rfl, rfl, rfl, rfl, rfl, rfl, rfl, rfl, trivial⟩ ?_
                refine WC.seq ?_
                refine WC.region ?_
                refine WL.run hS rfl rfl rfl (ex_move rfl) ?_
                refine WL.run hS rfl rfl rfl (ex_move rfl) ?_
                refine WL.run hS rfl rfl rfl (ex_move rfl) ?_
                replace hS := hS.f7
                replace hS := hS.f7
                replace hS := hS.f7
                replace hS := hS.f7
                replace hS := hS.f7
                replace hS := hS.f7
                replace hS := hS.f7
                refine WL.call rfl rfl rfl (enters0 (vs := [.pointer (some ⟨b_2, 0, none⟩), .int .i64 h_38, .int .i64 (min (min r_56 r_59) r_62)]) Tryd.call21 ⟨rfl, rfl, rfl, trivial⟩) (S_split  h_6 h_11 h_16 h_21 h_26 h_31 hr_39 (I64.min (I64.min hr_57 hr_60) hr_63) hS hV) ?_
                clear hV hS
                rintro _ w ⟨r_75, r_77, hV, rfl, hr_76, hr_78, hS⟩
                refine ⟨_, rfl, ?_⟩
                refine WL.run hS rfl rfl rfl (ex_move rfl) ?_
                refine WL.run hS rfl rfl rfl (ex_extract rfl rfl) ?_
                refine WL.run hS rfl rfl rfl (ex_extract rfl rfl) ?_
                refine WL.run hS rfl rfl rfl (ex_assign rfl) ?_
                refine WL.run hS rfl rfl rfl (ex_assign rfl) ?_
                refine WL.nil ?_
                refine WQ.next ?_
                refine WC.sub (m := [(0, .pointer (some ⟨b_2, 0, none⟩)), (9, .pointer (some ⟨b_51, 0, none⟩)), (12, .int .i64 (min (min r_56 r_59) r_62)), (13, .int .i64 r_65), (14, .int .i64 r_67), (15, .int .i64 r_70), (16, .int .i64 r_72), (17, .int .i64 r_75), (18, .int .i64 r_77)]) ⟨rfl, rfl, rfl, rfl, rfl, rfl, rfl, rfl, rfl, trivial⟩ ?_
                refine WC.seq ?_
                refine WC.drawn (σ := [0, 1, 2, 3, 4, 5, 6, 7, 8, 9, 10, 11, 13, 14, 15, 16, 12, 17, 18, 19]) (C := St w0 H ([(b_2, Obj.cells #[v_5, v_10, v_15, v_20, v_25, v_30] 44 (0, 0))] ++ (fp_7 ++ (fp_12 ++ (fp_17 ++ (fp_22 ++ (fp_27 ++ (fp_32 ++ ([(b_51, Obj.cells #[.int .i64 f_34, .int .i64 g_36, .int .i64 h_38] 57 (0, 0))] ++ L))))))))) [[], [], [1], [1, 2], [1, 2, 3], [], [1, 2, 3, 4, 5], [1, 2, 3, 4, 5, 6], [], [], [], [], [8, 9, 10, 11], [], [], [], [], [8, 9, 10, 11, 12, 13, 14, 15, 16], [0, 1, 2, 3, 4, 5, 6, 7, 8, 9, 10, 11, 12, 13, 14, 15, 16, 17], [0, 1, 2, 3, 4, 5, 6, 7, 8, 9, 10, 11, 12, 13, 14, 15, 16, 17, 18]] [12, 17, 18] Tryd.mixed (by kernel_rfl) (hS.drawn _) ?_
                clear hS w
                refine Wd.run rfl rfl rfl rfl (fun _ => ex_move rfl) fun q_81 hq_80 => ?_
                refine Wd.run rfl rfl rfl rfl (fun _ => ex_move rfl) fun q_83 hq_82 => ?_
                refine Wd.run rfl rfl rfl rfl (fun _ => ex_nilCheck rfl) fun q_85 hq_84 => ?_
                refine Wd.run rfl rfl rfl rfl (fun _ => ex_fieldAddr (o' := 3) Tryd.underlying44 rfl Tryd.sizeOf42 rfl rfl) fun q_87 hq_86 => ?_
                refine Wd.runb (off := 3) rfl rfl rfl rfl (fun _ _ _ h => ex_load_box Tryd.isAgg42 rfl h) rfl (fun _ h => h) fun q_89 hq_88 => ?_
                refine Wd.run rfl rfl rfl rfl (fun _ => ex_move rfl) fun q_91 hq_90 => ?_
                obtain ⟨hin_94, hV⟩ := hV
                refine Wd.runx rfl rfl rfl rfl (exAll (ex_index_own Tryd.underlying42 Tryd.sizeOf3 rfl rfl h_21 hin_94)) ?_
                intro p_95 hp_96
                intro q_93 hq_92
                refine Wd.runs (fp := fp_22) rfl rfl rfl rfl (ex_load_own_s Tryd.isAgg3 rfl rfl h_21 hp_96 hin_94) (fun _ h => St.f5 h) ?_
                intro u_99 hu_100
                obtain ⟨rfl, hr_101⟩ := cInt_rep hu_100
                replace hr_101 := has_I64 hr_101
                replace hV := hV hr_101
                intro q_98 hq_97
                refine Wd.run rfl rfl rfl rfl (fun _ => ex_move rfl) fun q_103 hq_102 => ?_
                refine Wd.run rfl rfl rfl rfl (fun _ => ex_move rfl) fun q_105 hq_104 => ?_
                refine Wd.run rfl rfl rfl rfl (fun _ => ex_move rfl) fun q_107 hq_106 => ?_
                refine Wd.run rfl rfl rfl rfl (fun _ => ex_move rfl) fun q_109 hq_108 => ?_
                refine Wd.run rfl rfl rfl rfl (fun _ => ex_move rfl) fun q_111 hq_110 => ?_
                refine Wd.run rfl rfl rfl rfl (fun _ => ex_move rfl) fun q_113 hq_112 => ?_
                refine Wd.run rfl rfl rfl rfl (fun _ => ex_move rfl) fun q_115 hq_114 => ?_
                refine Wd.run rfl rfl rfl rfl (fun _ => ex_move rfl) fun q_117 hq_116 => ?_
                refine Wd.turn rfl rfl rfl fun w hS => ?_
                replace hS := hS.f7
                replace hS := hS.f7
                replace hS := hS.f7
                replace hS := hS.f7
                replace hS := hS.f7
                replace hS := hS.f7
                replace hS := hS.f7
                refine WL.call rfl rfl rfl (enters0 (vs := [.pointer (some ⟨b_2, 0, none⟩), .int .i64 r_65, .int .i64 r_70, .int .i64 r_75]) Tryd.call16 ⟨rfl, rfl, rfl, rfl, trivial⟩) (ih  h_6 h_11 h_16 h_21 h_26 h_31 hr_66 hr_71 hr_76 hS hV) ?_
                clear hV hS
                rintro _ w ⟨r_118, c_120, c_124, m_128, m_131, v_121, fp_122, v_125, fp_126, fp_129, fp_132, hV, rfl, hr_119, h_123, h_127, h_130, h_133, hS⟩
                refine ⟨_, rfl, ?_⟩
                refine WL.nil (DQ.mk2 (C' := St w0 H ([(b_2, Obj.cells #[v_121, v_125, v_15, v_20, v_25, v_30] 44 (0, 0))] ++ (fp_122 ++ (fp_126 ++ (fp_129 ++ (fp_22 ++ (fp_27 ++ (fp_132 ++ ([(b_51, Obj.cells #[.int .i64 f_34, .int .i64 g_36, .int .i64 h_38] 57 (0, 0))] ++ L))))))))) hS ⟨.inr (hq_116 _), .inr (hq_114 _), .inr (hq_112 _), .inr (hq_110 _), .inl rfl, .inl rfl, .inl rfl, .inl rfl, .inr (hq_97 H ([(b_2, Obj.cells #[v_121, v_125, v_15, v_20, v_25, v_30] 44 (0, 0))] ++ (fp_122 ++ (fp_126 ++ (fp_129 ++ (fp_27 ++ (fp_132 ++ ([(b_51, Obj.cells #[.int .i64 f_34, .int .i64 g_36, .int .i64 h_38] 57 (0, 0))] ++ L))))))) _ (View.le.refl _) (fun _ h => St.f5 h)), .inr (hq_92 _), .inr (hq_90 _), .inr (hq_88 H (fp_122 ++ (fp_126 ++ (fp_129 ++ (fp_22 ++ (fp_27 ++ (fp_132 ++ ([(b_51, Obj.cells #[.int .i64 f_34, .int .i64 g_36, .int .i64 h_38] 57 (0, 0))] ++ L))))))) #[v_121, v_125, v_15, v_20, v_25, v_30] _ rfl (fun _ h => h)), .inr (hq_86 _), .inr (hq_84 _), .inr (hq_82 _), .inr (hq_80 _), trivial⟩ ?_)
                clear hS w
                refine Wd.turn rfl rfl rfl fun w hS => ?_
                replace hS := hS.f7
                replace hS := hS.f7
                replace hS := hS.f7
                replace hS := hS.f7
                replace hS := hS.f7
                replace hS := hS.f7
                replace hS := hS.f7
                refine WL.call rfl rfl rfl (enters0 (vs := [.pointer (some ⟨b_2, 0, none⟩), .int .i64 r_67, .int .i64 r_72, .int .i64 r_77]) Tryd.call16 ⟨rfl, rfl, rfl, rfl, trivial⟩) (ih  h_123 h_127 h_130 h_21 h_26 h_133 hr_68 hr_73 hr_78 hS hV) ?_
                clear hV hS
                rintro _ w ⟨r_137, c_139, c_143, m_147, m_150, v_140, fp_141, v_144, fp_145, fp_148, fp_151, hV, rfl, hr_138, h_142, h_146, h_149, h_152, hS⟩
                refine ⟨_, rfl, ?_⟩
                refine WL.nil (DQ.mk2 (C' := St w0 H ([(b_2, Obj.cells #[v_140, v_144, v_15, v_20, v_25, v_30] 44 (0, 0))] ++ (fp_141 ++ (fp_145 ++ (fp_148 ++ (fp_22 ++ (fp_27 ++ (fp_151 ++ ([(b_51, Obj.cells #[.int .i64 f_34, .int .i64 g_36, .int .i64 h_38] 57 (0, 0))] ++ L))))))))) hS ⟨.inl rfl, .inl rfl, .inl rfl, .inl rfl, .inl rfl, .inl rfl, .inl rfl, .inl rfl, .inr (hq_97 H ([(b_2, Obj.cells #[v_140, v_144, v_15, v_20, v_25, v_30] 44 (0, 0))] ++ (fp_141 ++ (fp_145 ++ (fp_148 ++ (fp_27 ++ (fp_151 ++ ([(b_51, Obj.cells #[.int .i64 f_34, .int .i64 g_36, .int .i64 h_38] 57 (0, 0))] ++ L))))))) _ (View.le.refl _) (fun _ h => St.f5 h)), .inr (hq_92 _), .inr (hq_90 _), .inr (hq_88 H (fp_141 ++ (fp_145 ++ (fp_148 ++ (fp_22 ++ (fp_27 ++ (fp_151 ++ ([(b_51, Obj.cells #[.int .i64 f_34, .int .i64 g_36, .int .i64 h_38] 57 (0, 0))] ++ L))))))) #[v_140, v_144, v_15, v_20, v_25, v_30] _ rfl (fun _ h => h)), .inr (hq_86 _), .inr (hq_84 _), .inr (hq_82 _), .inr (hq_80 _), trivial⟩ ?_)
                clear hS w
                refine Wd.turn rfl rfl rfl fun w hS => ?_
                replace hS := hS.f7
                replace hS := hS.f7
                replace hS := hS.f7
                replace hS := hS.f7
                replace hS := hS.f7
                replace hS := hS.f7
                replace hS := hS.f7
                refine WL.call rfl rfl rfl (enters0 (vs := [.pointer (some ⟨b_2, 0, none⟩), .int .i64 (ix order_19 (min (min r_56 r_59) r_62)), .int .i64 r_118, .int .i64 r_137]) Tryd.call15 ⟨rfl, rfl, rfl, rfl, trivial⟩) (S_make  h_142 h_146 h_149 h_21 h_26 h_152 hr_101 hr_119 hr_138 hS hV) ?_
                clear hV hS
                rintro _ w ⟨r_156, c_158, c_162, m_166, v_159, fp_160, v_163, fp_164, fp_167, hV, rfl, hr_157, h_161, h_165, h_168, hS⟩
                refine ⟨_, rfl, ?_⟩
                refine WL.nil (DQ.mk2 (C' := St w0 H ([(b_2, Obj.cells #[v_159, v_163, v_15, v_20, v_25, v_30] 44 (0, 0))] ++ (fp_160 ++ (fp_164 ++ (fp_167 ++ (fp_22 ++ (fp_27 ++ (fp_151 ++ ([(b_51, Obj.cells #[.int .i64 f_34, .int .i64 g_36, .int .i64 h_38] 57 (0, 0))] ++ L))))))))) hS ⟨.inl rfl, .inl rfl, .inl rfl, .inl rfl, .inl rfl, .inl rfl, .inl rfl, .inl rfl, .inl rfl, .inl rfl, .inl rfl, .inl rfl, .inl rfl, .inl rfl, .inl rfl, .inl rfl, trivial⟩ ?_)
                clear hS w
                refine Wd.run rfl rfl rfl rfl (fun _ => ex_assign rfl) fun q_173 hq_172 => ?_
                refine Wd.nil fun w hS => ?_
                refine WQ.next ?_
                refine WC.sub (m := [(0, .pointer (some ⟨b_2, 0, none⟩)), (9, .pointer (some ⟨b_51, 0, none⟩)), (19, .int .i64 r_156)]) ⟨rfl, rfl, rfl, trivial⟩ ?_
                refine WC.seq ?_
                refine WC.drawn (σ := [0, 1, 2, 3, 4, 5, 6]) (C := St w0 H ([(b_2, Obj.cells #[v_159, v_163, v_15, v_20, v_25, v_30] 44 (0, 0))] ++ (fp_160 ++ (fp_164 ++ (fp_167 ++ (fp_22 ++ (fp_27 ++ (fp_151 ++ ([(b_51, Obj.cells #[.int .i64 f_34, .int .i64 g_36, .int .i64 h_38] 57 (0, 0))] ++ L))))))))) [[], [0], [0, 1], [0, 1, 2], [], [], [0, 1, 2, 3, 4, 5]] [6] Tryd.mixed (by kernel_rfl) (hS.drawn _) ?_
                clear hS w
                refine Wd.run rfl rfl rfl rfl (fun _ => ex_move rfl) fun q_175 hq_174 => ?_
                refine Wd.run rfl rfl rfl rfl (fun _ => ex_nilCheck rfl) fun q_177 hq_176 => ?_
                refine Wd.run rfl rfl rfl rfl (fun _ => ex_fieldAddr (o' := 5) Tryd.underlying44 rfl Tryd.sizeOf40 rfl rfl) fun q_179 hq_178 => ?_
                refine Wd.runb (off := 5) rfl rfl rfl rfl (fun _ _ _ h => ex_load_box Tryd.isAgg40 rfl h) rfl (fun _ h => h) fun q_181 hq_180 => ?_
                refine Wd.runbs (off := 0) (k := 3) (cs := [.int .i64 f_34, .int .i64 g_36, .int .i64 h_38]) rfl rfl rfl rfl (fun _ _ _ h => ex_load_box_agg Tryd.isAgg57 Tryd.sizeOf57 rfl h rfl) rfl (fun _ h => St.f8 h) fun q_183 hq_182 => ?_
                refine Wd.run rfl rfl rfl rfl (fun _ => ex_move rfl) fun q_185 hq_184 => ?_
                refine Wd.turn rfl rfl rfl fun w hS => ?_
                replace hS := hS.f7
                refine WL.mapUpdate (k := (f_34, g_36, h_38)) (e := r_156) Tryd.underlying40 Tryd.key57 ⟨hr_35, hr_37, hr_39⟩ (cInt_mk (I64.has hr_157)) rfl rfl rfl hS h_152 ?_
                clear hS
                intro w fp_186 h_187 hS
                refine WL.nil (DQ.mk2 (C' := St w0 H (fp_186 ++ ([(b_2, Obj.cells #[v_159, v_163, v_15, v_20, v_25, v_30] 44 (0, 0))] ++ (fp_160 ++ (fp_164 ++ (fp_167 ++ (fp_22 ++ (fp_27 ++ ([(b_51, Obj.cells #[.int .i64 f_34, .int .i64 g_36, .int .i64 h_38] 57 (0, 0))] ++ L))))))))) hS ⟨.inl rfl, .inl rfl, .inl rfl, .inl rfl, .inl rfl, .inl rfl, trivial⟩ ?_)
                clear hS w
                refine Wd.nil fun w hS => ?_
                refine WQ.next ?_
                refine WC.sub (m := [(19, .int .i64 r_156)]) ⟨rfl, trivial⟩ ?_
                replace hS := hS.f8.drop
                refine WC.seq ?_
                refine WC.region ?_
                refine WL.run hS rfl rfl rfl (ex_move rfl) ?_
                refine WL.run hS rfl rfl rfl (ex_assign rfl) ?_
                refine WL.nil ?_
                refine WQ.next ?_
                refine WC.sub (m := [(8, .int .i64 r_156)]) ⟨rfl, trivial⟩ ?_
                refine WC.ret ?_
                replace hS := hS.f7
                replace hS := hS.f7
                replace hS := hS.f7
                replace hS := hS.f7
                replace hS := hS.f7
                replace hS := hS.f7
                exact leave1 rfl rfl ⟨r_156, c_158, c_162, m_166, (mset m_150 (f_34, g_36, h_38) r_156), v_159, fp_160, v_163, fp_164, fp_167, fp_186, hV, rfl, hr_157, h_161, h_165, h_168, h_187, hS⟩

theorem S_And {w0 : World} {H : View} {L : Seg} {w : World} {b_2 : Nat} {v_5 : Value} {nodes_4 : List (Int × Int × Int)} {fp_7 : Seg} {v_10 : Value} {free_9 : List Int} {fp_12 : Seg} {v_15 : Value} {xby_14 : List ((Int × Int × Int) × Int)} {fp_17 : Seg} {v_20 : Value} {order_19 : List Int} {fp_22 : Seg} {v_25 : Value} {level_24 : List Int} {fp_27 : Seg} {v_30 : Value} {memo_29 : List ((Int × Int × Int) × Int)} {fp_32 : Seg} {f_34 : Int} {g_36 : Int} {Q : Int → (List (Int × Int × Int)) → (List Int) → (List ((Int × Int × Int) × Int)) → (List ((Int × Int × Int) × Int)) → Prop} (h_6 : OwnSl H (cPair (cInt .i64) (cPair (cInt .i64) (cInt .i64))) 46 v_5 nodes_4 fp_7) (h_11 : OwnSl H (cInt .i64) 29 v_10 free_9 fp_12) (h_16 : OwnMp H kTri (cInt .i64) v_15 xby_14 fp_17) (h_21 : OwnSl H (cInt .i64) 3 v_20 order_19 fp_22) (h_26 : OwnSl H (cInt .i64) 3 v_25 level_24 fp_27) (h_31 : OwnMp H kTri (cInt .i64) v_30 memo_29 fp_32) (hr_35 : I64 f_34) (hr_37 : I64 g_36) (hS : St w0 H ([(b_2, Obj.cells #[v_5, v_10, v_15, v_20, v_25, v_30] 44 (0, 0))] ++ (fp_7 ++ (fp_12 ++ (fp_17 ++ (fp_22 ++ (fp_27 ++ (fp_32 ++ L))))))) w) (hV : V_And nodes_4 free_9 xby_14 order_19 level_24 memo_29 f_34 g_36 Q) :
    Calls Tryd.prog 7 #[.pointer (some ⟨b_2, 0, none⟩), .int .i64 f_34, .int .i64 g_36] w fun e w' => ∃ (r1 : Int) (r2 : List (Int × Int × Int)) (r3 : List Int) (r4 : List ((Int × Int × Int) × Int)) (r5 : List ((Int × Int × Int) × Int)) (v2 : Value) (fp2 : Seg) (v3 : Value) (fp3 : Seg) (fp4 : Seg) (fp5 : Seg), Q r1 r2 r3 r4 r5 ∧ e = .returned (.int .i64 r1) ∧ I64 r1 ∧ OwnSl H (cPair (cInt .i64) (cPair (cInt .i64) (cInt .i64))) 46 v2 r2 fp2 ∧ OwnSl H (cInt .i64) 29 v3 r3 fp3 ∧ OwnMp H kTri (cInt .i64) v_15 r4 fp4 ∧ OwnMp H kTri (cInt .i64) v_30 r5 fp5 ∧ St w0 H ([(b_2, Obj.cells #[v2, v3, v_15, v_20, v_25, v_30] 44 (0, 0))] ++ (fp2 ++ (fp3 ++ (fp4 ++ (fp_22 ++ (fp_27 ++ (fp5 ++ L))))))) w' := by
  unfold V_And at hV
  refine enter Tryd.func7 rfl Tryd.ntmps7 rfl (lk_args_cons (d := 0) (v := .pointer (some ⟨b_2, 0, none⟩)) rfl (lk_args_cons (d := 1) (v := .int .i64 f_34) rfl (lk_args_cons (d := 2) (v := .int .i64 g_36) rfl (lk_args_nil _)))) ?_
  refine WC.seq ?_
  refine WC.region ?_
  refine WL.run hS rfl rfl rfl (ex_assign rfl) ?_
  refine WL.nil ?_
  refine WQ.next ?_
  refine WC.sub (m := [(0, .pointer (some ⟨b_2, 0, none⟩)), (1, .int .i64 f_34), (2, .int .i64 g_36)]) ⟨rfl, rfl, rfl, trivial⟩ ?_
  refine WC.seq ?_
  refine WC.region ?_
  refine WL.run hS rfl rfl rfl (ex_move rfl) ?_
  refine WL.run hS rfl rfl rfl (ex_move rfl) ?_
  refine WL.run hS rfl rfl rfl (ex_move rfl) ?_
  replace hS := hS.f7
  replace hS := hS.f7
  replace hS := hS.f7
  replace hS := hS.f7
  replace hS := hS.f7
  replace hS := hS.f7
  replace hS := hS.f7
  obtain ⟨mf, hV⟩ := hV
  refine WL.call rfl rfl rfl (enters0 (vs := [.pointer (some ⟨b_2, 0, none⟩), .int .i64 f_34, .int .i64 g_36, .int .i64 0]) Tryd.call16 ⟨rfl, rfl, rfl, rfl, trivial⟩) (S_Ite mf  h_6 h_11 h_16 h_21 h_26 h_31 hr_35 hr_37 (by unfold I64; omega) hS hV) ?_
  clear hV hS
  rintro _ w ⟨r_38, c_40, c_44, m_48, m_51, v_41, fp_42, v_45, fp_46, fp_49, fp_52, hV, rfl, hr_39, h_43, h_47, h_50, h_53, hS⟩
  refine ⟨_, rfl, ?_⟩
  refine WL.run hS rfl rfl rfl (ex_assign rfl) ?_
  refine WL.nil ?_
  refine WQ.next ?_
  refine WC.sub (m := [(6, .int .i64 r_38)]) ⟨rfl, trivial⟩ ?_
  refine WC.ret ?_
  replace hS := hS.f7
  replace hS := hS.f7
  replace hS := hS.f7
  replace hS := hS.f7
  replace hS := hS.f7
  replace hS := hS.f7
  replace hS := hS.f7
  exact leave1 rfl rfl ⟨r_38, c_40, c_44, m_48, m_51, v_41, fp_42, v_45, fp_46, fp_49, fp_52, hV, rfl, hr_39, h_43, h_47, h_50, h_53, hS⟩

theorem S_Eval {w0 : World} {H : View} {L : Seg} {w : World} {b_2 : Nat} {v_5 : Value} {nodes_4 : List (Int × Int × Int)} {fp_7 : Seg} {v_10 : Value} {free_9 : List Int} {fp_12 : Seg} {v_15 : Value} {xby_14 : List ((Int × Int × Int) × Int)} {fp_17 : Seg} {v_20 : Value} {order_19 : List Int} {fp_22 : Seg} {v_25 : Value} {level_24 : List Int} {fp_27 : Seg} {v_30 : Value} {memo_29 : List ((Int × Int × Int) × Int)} {fp_32 : Seg} {f_34 : Int} {v_37 : Value} {xat_36 : List Bool} {Q : Bool → Prop} (h_6 : OwnSl H (cPair (cInt .i64) (cPair (cInt .i64) (cInt .i64))) 46 v_5 nodes_4 fp_7) (h_11 : OwnSl H (cInt .i64) 29 v_10 free_9 fp_12) (h_16 : OwnMp H kTri (cInt .i64) v_15 xby_14 fp_17) (h_21 : OwnSl H (cInt .i64) 3 v_20 order_19 fp_22) (h_26 : OwnSl H (cInt .i64) 3 v_25 level_24 fp_27) (h_31 : OwnMp H kTri (cInt .i64) v_30 memo_29 fp_32) (hr_35 : I64 f_34) (h_38 : IsSl H cBool v_37 xat_36) (hS : St w0 H ([(b_2, Obj.cells #[v_5, v_10, v_15, v_20, v_25, v_30] 44 (0, 0))] ++ (fp_7 ++ (fp_12 ++ (fp_17 ++ (fp_22 ++ (fp_27 ++ (fp_32 ++ L))))))) w) (hV : V_Eval nodes_4 free_9 xby_14 order_19 level_24 memo_29 f_34 xat_36 Q) :
    Calls Tryd.prog 8 #[.pointer (some ⟨b_2, 0, none⟩), .int .i64 f_34, v_37] w fun e w' => ∃ (r1 : Bool), Q r1 ∧ e = .returned (.bool r1) ∧ St w0 H ([(b_2, Obj.cells #[v_5, v_10, v_15, v_20, v_25, v_30] 44 (0, 0))] ++ (fp_7 ++ (fp_12 ++ (fp_17 ++ (fp_22 ++ (fp_27 ++ (fp_32 ++ L))))))) w' := by
  unfold V_Eval at hV
  refine enter Tryd.func8 rfl Tryd.ntmps8 rfl (lk_args_cons (d := 0) (v := .pointer (some ⟨b_2, 0, none⟩)) rfl (lk_args_cons (d := 1) (v := .int .i64 f_34) rfl (lk_args_cons (d := 2) (v := v_37) rfl (lk_args_nil _)))) ?_
  refine WC.seq ?_
  refine WC.region ?_
  refine WL.run hS rfl rfl rfl (ex_assign rfl) ?_
  refine WL.nil ?_
  refine WQ.next ?_
  refine WC.sub (m := [(0, .pointer (some ⟨b_2, 0, none⟩)), (1, .int .i64 f_34), (2, v_37)]) ⟨rfl, rfl, rfl, trivial⟩ ?_
  refine WC.seq ?_
  refine WC.block ?_
  replace hS := hS.f7
  replace hS := hS.f7
  replace hS := hS.f7
  replace hS := hS.f7
  replace hS := hS.f7
  replace hS := hS.f7
  replace hS := hS.f7
  obtain ⟨I_111, mu_112, hI_150, hV⟩ := hV
  refine WC.loop (σ := Int) (fun s a w => ∃ (f_74 : Int), s = f_74 ∧ I_111 f_74 ∧ I64 f_74 ∧ St w0 H ([(b_2, Obj.cells #[v_5, v_10, v_15, v_20, v_25, v_30] 44 (0, 0))] ++ (fp_7 ++ (fp_12 ++ (fp_17 ++ (fp_22 ++ (fp_27 ++ (fp_32 ++ L))))))) w ∧ Fr 35 [(0, .pointer (some ⟨b_2, 0, none⟩)), (1, .int .i64 f_74), (2, v_37)] a) mu_112 f_34 ?_ ?_
  · exact fun a ha => ⟨f_34, rfl, hI_150, hr_35, hS, ha.of_sub ⟨rfl, rfl, rfl, trivial⟩⟩
  · clear hS hI_150
    rintro f_74 a w ⟨_, rfl, hI, hr_75, hS, ha⟩
    refine in_frame ha ?_
    clear ha
    replace hV := hV _ hI
    clear hI
    refine WC.seq ?_
    refine WC.seq ?_
    refine WC.region ?_
    refine WL.run hS rfl rfl rfl (ex_move rfl) ?_
    refine WL.run hS rfl rfl rfl (ex_gtr rfl rfl) ?_
    refine WL.nil ?_
    refine WQ.next ?_
    refine WC.sub (m := [(0, .pointer (some ⟨b_2, 0, none⟩)), (1, .int .i64 f_74), (2, v_37), (9, .bool (decide (1 < f_74)))]) ⟨rfl, rfl, rfl, rfl, trivial⟩ ?_
    refine WC.cond rfl ?_ ?_
    · intro hc_149
      replace hV := hV.1 (of_decide_eq_true hc_149)
      refine WC.skip ?_
      refine WQ.next ?_
      refine WC.sub (m := [(0, .pointer (some ⟨b_2, 0, none⟩)), (1, .int .i64 f_74), (2, v_37)]) ⟨rfl, rfl, rfl, trivial⟩ ?_
      refine WC.block ?_
      refine WC.seq ?_
      refine WC.region ?_
      refine WL.run hS rfl rfl rfl (ex_move rfl) ?_
      refine WL.run hS rfl rfl rfl (ex_nilCheck rfl) ?_
      refine WL.run hS rfl rfl rfl (ex_fieldAddr (o' := 0) Tryd.underlying44 rfl Tryd.sizeOf38 rfl rfl) ?_
      refine WL.run hS rfl rfl rfl (ex_load_box Tryd.isAgg38 rfl rfl) ?_
      refine WL.run hS rfl rfl rfl (ex_move rfl) ?_
      obtain ⟨hin_115, hV⟩ := hV
      refine WL.runx hS rfl rfl rfl (ex_index_own Tryd.underlying38 Tryd.sizeOf46 rfl rfl h_6 hin_115) ?_
      intro p_116 hp_117
      replace hS := hS.f2
      refine WL.runx hS rfl rfl rfl (exNow (H := H) (L := [(b_2, Obj.cells #[v_5, v_10, v_15, v_20, v_25, v_30] 44 (0, 0))] ++ (fp_12 ++ (fp_17 ++ (fp_22 ++ (fp_27 ++ (fp_32 ++ L)))))) (ex_load_own_agg Tryd.isAgg46 Tryd.sizeOf46 rfl h_6 hp_117 hin_115)) ?_
      rintro u_118 ⟨_, rfl, hu⟩
      obtain ⟨_, _, rfl, hu_119, hu_120⟩ := hu
      obtain ⟨rfl, hr_121⟩ := hu_119
      replace hr_121 := has_I64 hr_121
      replace hV := hV hr_121
      obtain ⟨_, _, rfl, hu_122, hu_123⟩ := hu_120
      obtain ⟨rfl, hr_124⟩ := hu_122
      replace hr_124 := has_I64 hr_124
      replace hV := hV hr_124
      obtain ⟨rfl, hr_125⟩ := hu_123
      replace hr_125 := has_I64 hr_125
      replace hV := hV hr_125
      refine WL.alloc (arr := #[.int .i64 0, .int .i64 0, .int .i64 0]) rfl Tryd.zeroValue46 rfl hS ?_
      clear hS
      intro b_126 w hS
      refine WL.store_box (pre := []) (old := [.int .i64 0, .int .i64 0, .int .i64 0]) (rst := []) (cs := [.int .i64 ((ix nodes_4 f_74).1), .int .i64 ((ix nodes_4 f_74).2.1), .int .i64 ((ix nodes_4 f_74).2.2)]) (arr' := #[.int .i64 ((ix nodes_4 f_74).1), .int .i64 ((ix nodes_4 f_74).2.1), .int .i64 ((ix nodes_4 f_74).2.2)]) Tryd.sizeOf46 rfl rfl rfl ⟨rfl, rfl, rfl, trivial⟩ rfl rfl rfl rfl hS ?_
      clear hS
      intro w hS
      refine WL.nil ?_
      refine WQ.next ?_
      refine WC.sub (m := [(0, .pointer (some ⟨b_2, 0, none⟩)), (2, v_37), (7, .pointer (some ⟨b_126, 0, none⟩))]) ⟨rfl, rfl, rfl, trivial⟩ ?_
      obtain ⟨J_137, hJ_138, hV⟩ := hV
      refine WC.meet (fun a w => ∃ (x_136 : Bool), J_137 x_136 ∧ St w0 H ([(b_2, Obj.cells #[v_5, v_10, v_15, v_20, v_25, v_30] 44 (0, 0))] ++ (fp_7 ++ (fp_12 ++ (fp_17 ++ (fp_22 ++ (fp_27 ++ (fp_32 ++ ([(b_126, Obj.cells #[.int .i64 ((ix nodes_4 f_74).1), .int .i64 ((ix nodes_4 f_74).2.1), .int .i64 ((ix nodes_4 f_74).2.2)] 46 (0, 0))] ++ L)))))))) w ∧ Fr 35 [(0, .pointer (some ⟨b_2, 0, none⟩)), (2, v_37), (7, .pointer (some ⟨b_126, 0, none⟩)), (28, .bool x_136)] a) ?_ ?_
      · rintro a w ⟨x_136, hI, hS, ha⟩
        refine in_frame ha ?_
        clear ha hV
        have hV := hJ_138 _ hI
        clear hI hJ_138
        refine WC.cond rfl ?_ ?_
        · intro hc_147
          replace hV := hV.1 hc_147
          refine WC.region ?_
          refine WL.run hS rfl rfl rfl (ex_fieldAddr (o' := 2) Tryd.underlying46 rfl Tryd.sizeOf29 rfl rfl) ?_
          replace hS := hS.f8
          refine WL.run hS rfl rfl rfl (ex_load_box Tryd.isAgg29 rfl rfl) ?_
          refine WL.run hS rfl rfl rfl (ex_assign rfl) ?_
          refine WL.nil ?_
          refine WQ.out nofun ?_
          replace hS := hS.drop
          replace hS := hS.f7
          replace hS := hS.f7
          replace hS := hS.f7
          replace hS := hS.f7
          replace hS := hS.f7
          replace hS := hS.f7
          replace hS := hS.f7
          exact WQ.there fun a ha => ⟨(ix nodes_4 f_74).2.2, ⟨(ix nodes_4 f_74).2.2, rfl, hV.1, hr_125, hS, ha.of_sub ⟨rfl, rfl, rfl, trivial⟩⟩, hV.2⟩
        · intro hc_147
          replace hV := hV.2 hc_147
          refine WC.region ?_
          refine WL.run hS rfl rfl rfl (ex_fieldAddr (o' := 1) Tryd.underlying46 rfl Tryd.sizeOf29 rfl rfl) ?_
          replace hS := hS.f8
          refine WL.run hS rfl rfl rfl (ex_load_box Tryd.isAgg29 rfl rfl) ?_
          refine WL.run hS rfl rfl rfl (ex_assign rfl) ?_
          refine WL.nil ?_
          refine WQ.out nofun ?_
          replace hS := hS.drop
          replace hS := hS.f7
          replace hS := hS.f7
          replace hS := hS.f7
          replace hS := hS.f7
          replace hS := hS.f7
          replace hS := hS.f7
          replace hS := hS.f7
          exact WQ.there fun a ha => ⟨(ix nodes_4 f_74).2.1, ⟨(ix nodes_4 f_74).2.1, rfl, hV.1, hr_124, hS, ha.of_sub ⟨rfl, rfl, rfl, trivial⟩⟩, hV.2⟩
      · clear hJ_138
        refine WC.region ?_
        refine WL.run hS rfl rfl rfl (ex_fieldAddr (o' := 0) Tryd.underlying46 rfl Tryd.sizeOf3 rfl rfl) ?_
        refine WL.run hS rfl rfl rfl (ex_load_box Tryd.isAgg3 rfl rfl) ?_
        refine WL.run hS rfl rfl rfl (ex_move rfl) ?_
        have hl_139 : Len xat_36 := h_38.bound
        replace hV := hV hl_139
        refine WL.run hS rfl rfl rfl (ex_len_sl Tryd.underlying22 rfl h_38) ?_
        refine WL.run hS rfl rfl rfl (ex_lss rfl rfl) ?_
        refine WL.run hS rfl rfl rfl (ex_move rfl) ?_
        rcases Bool.eq_false_or_eq_true (decide ((ix nodes_4 f_74).1 < (xat_36.length : Int))) with hg_141 | hg_141
        · replace hV := hV.1 (of_decide_eq_true hg_141)
          refine WL.unguard rfl rfl hg_141 ?_
          refine WL.run hS rfl rfl rfl (ex_move rfl) ?_
          refine WL.unguard rfl rfl hg_141 ?_
          refine WL.run hS rfl rfl rfl (ex_fieldAddr (o' := 0) Tryd.underlying46 rfl Tryd.sizeOf3 rfl rfl) ?_
          refine WL.unguard rfl rfl hg_141 ?_
          refine WL.run hS rfl rfl rfl (ex_load_box Tryd.isAgg3 rfl rfl) ?_
          refine WL.unguard rfl rfl hg_141 ?_
          obtain ⟨hin_142, hV⟩ := hV
          refine WL.runx hS rfl rfl rfl (ex_index Tryd.underlying22 Tryd.sizeOf4 rfl rfl h_38 hin_142) ?_
          intro p_143 hp_144
          refine WL.unguard rfl rfl hg_141 ?_
          refine WL.runx hS rfl rfl rfl (ex_load Tryd.isAgg4 rfl rfl hp_144) ?_
          intro u_145 hu_146
          obtain rfl := cBool_rep hu_146
          refine WL.run hS rfl rfl rfl (ex_pick_t rfl hg_141 rfl) ?_
          refine WL.nil ?_
          replace hS := hS.f8
          replace hS := hS.f8
          replace hS := hS.f8
          replace hS := hS.f8
          replace hS := hS.f8
          replace hS := hS.f7
          replace hS := hS.f8
          exact WQ.there fun a ha => ⟨(ix xat_36 ((ix nodes_4 f_74).1)), hV, hS, ha.of_sub ⟨rfl, rfl, rfl, rfl, trivial⟩⟩
        · replace hV := hV.2 (of_decide_eq_false hg_141)
          refine WL.skip_g rfl rfl rfl hg_141 rfl rfl ?_
          refine WL.skip_g rfl rfl rfl hg_141 rfl rfl ?_
          refine WL.skip_g rfl rfl rfl hg_141 rfl rfl ?_
          refine WL.skip_g rfl rfl rfl hg_141 rfl rfl ?_
          refine WL.skip_g rfl rfl rfl hg_141 rfl rfl ?_
          refine WL.run hS rfl rfl rfl (ex_pick_f rfl hg_141 rfl) ?_
          refine WL.nil ?_
          replace hS := hS.f8
          replace hS := hS.f8
          replace hS := hS.f8
          replace hS := hS.f8
          replace hS := hS.f8
          replace hS := hS.f7
          replace hS := hS.f8
          exact WQ.there fun a ha => ⟨false, hV, hS, ha.of_sub ⟨rfl, rfl, rfl, rfl, trivial⟩⟩
    · intro hc_149
      replace hV := hV.2 (of_decide_eq_false hc_149)
      refine WC.exit ?_
      refine WQ.pass nofun ?_
      refine WQ.pass nofun ?_
      refine WQ.hit ?_
      refine WQ.next ?_
      refine WC.sub (m := [(1, .int .i64 f_74)]) ⟨rfl, trivial⟩ ?_
      refine WC.seq ?_
      refine WC.region ?_
      refine WL.run hS rfl rfl rfl (ex_move rfl) ?_
      refine WL.run hS rfl rfl rfl (ex_eql rfl rfl) ?_
      refine WL.run hS rfl rfl rfl (ex_assign rfl) ?_
      refine WL.nil ?_
      refine WQ.next ?_
      refine WC.sub (m := [(6, .bool (decide (f_74 = 1)))]) ⟨rfl, trivial⟩ ?_
      refine WC.ret ?_
      replace hS := hS.f7
      replace hS := hS.f7
      replace hS := hS.f7
      replace hS := hS.f7
      replace hS := hS.f7
      replace hS := hS.f7
      replace hS := hS.f7
      exact leave1 rfl rfl ⟨decide (f_74 = 1), hV, rfl, hS⟩

theorem S_below (m0 : Nat) : ∀ {w0 : World} {H : View} {L : Seg} {w : World} {b_2 : Nat} {v_5 : Value} {nodes_4 : List (Int × Int × Int)} {fp_7 : Seg} {v_10 : Value} {free_9 : List Int} {fp_12 : Seg} {v_15 : Value} {xby_14 : List ((Int × Int × Int) × Int)} {fp_17 : Seg} {v_20 : Value} {order_19 : List Int} {fp_22 : Seg} {v_25 : Value} {level_24 : List Int} {fp_27 : Seg} {v_30 : Value} {memo_29 : List ((Int × Int × Int) × Int)} {fp_32 : Seg} {f_34 : Int} {v_37 : Value} {xin_36 : List (Int × Int)} {fp_39 : Seg} {Q : (List (Int × Int)) → Prop} (h_6 : OwnSl H (cPair (cInt .i64) (cPair (cInt .i64) (cInt .i64))) 46 v_5 nodes_4 fp_7) (h_11 : OwnSl H (cInt .i64) 29 v_10 free_9 fp_12) (h_16 : OwnMp H kTri (cInt .i64) v_15 xby_14 fp_17) (h_21 : OwnSl H (cInt .i64) 3 v_20 order_19 fp_22) (h_26 : OwnSl H (cInt .i64) 3 v_25 level_24 fp_27) (h_31 : OwnMp H kTri (cInt .i64) v_30 memo_29 fp_32) (hr_35 : I64 f_34) (h_38 : OwnMp H kInt (cInt .i64) v_37 xin_36 fp_39) (hS : St w0 H ([(b_2, Obj.cells #[v_5, v_10, v_15, v_20, v_25, v_30] 44 (0, 0))] ++ (fp_7 ++ (fp_12 ++ (fp_17 ++ (fp_22 ++ (fp_27 ++ (fp_32 ++ (fp_39 ++ L)))))))) w) (hV : V_below m0 nodes_4 free_9 xby_14 order_19 level_24 memo_29 f_34 xin_36 Q),
    Calls Tryd.prog 22 #[.pointer (some ⟨b_2, 0, none⟩), .int .i64 f_34, v_37] w fun e w' => ∃ (r1 : List (Int × Int)) (fp1 : Seg), Q r1 ∧ e = .returned (.tuple #[]) ∧ OwnMp H kInt (cInt .i64) v_37 r1 fp1 ∧ St w0 H ([(b_2, Obj.cells #[v_5, v_10, v_15, v_20, v_25, v_30] 44 (0, 0))] ++ (fp_7 ++ (fp_12 ++ (fp_17 ++ (fp_22 ++ (fp_27 ++ (fp_32 ++ (fp1 ++ L)))))))) w' := by
  induction m0 with
  | zero => intro w0 H L w b_2 v_5 nodes_4 fp_7 v_10 free_9 fp_12 v_15 xby_14 fp_17 v_20 order_19 fp_22 v_25 level_24 fp_27 v_30 memo_29 fp_32 f_34 v_37 xin_36 fp_39 Q h_6 h_11 h_16 h_21 h_26 h_31 hr_35 h_38 hS hV; exact hV.elim
  | succ m0 ih =>
    intro w0 H L w b_2 v_5 nodes_4 fp_7 v_10 free_9 fp_12 v_15 xby_14 fp_17 v_20 order_19 fp_22 v_25 level_24 fp_27 v_30 memo_29 fp_32 f_34 v_37 xin_36 fp_39 Q h_6 h_11 h_16 h_21 h_26 h_31 hr_35 h_38 hS hV
    unfold V_below at hV
    refine enter Tryd.func22 rfl Tryd.ntmps22 rfl (lk_args_cons (d := 0) (v := .pointer (some ⟨b_2, 0, none⟩)) rfl (lk_args_cons (d := 1) (v := .int .i64 f_34) rfl (lk_args_cons (d := 2) (v := v_37) rfl (lk_args_nil _)))) ?_
    refine WC.seq ?_
    obtain ⟨J_48, hJ_49, hV⟩ := hV
    refine WC.meet (fun a w => ∃ (x_47 : Bool), J_48 x_47 ∧ St w0 H ([(b_2, Obj.cells #[v_5, v_10, v_15, v_20, v_25, v_30] 44 (0, 0))] ++ (fp_7 ++ (fp_12 ++ (fp_17 ++ (fp_22 ++ (fp_27 ++ (fp_32 ++ (fp_39 ++ L)))))))) w ∧ Fr 38 [(0, .pointer (some ⟨b_2, 0, none⟩)), (1, .int .i64 f_34), (2, v_37), (13, .bool x_47)] a) ?_ ?_
    · rintro a w ⟨x_47, hI, hS, ha⟩
      refine in_frame ha ?_
      clear ha hV
      have hV := hJ_49 _ hI
      clear hI hJ_49
      refine WC.cond rfl ?_ ?_
      · intro hc_82
        replace hV := hV.1 hc_82
        refine WC.ret ?_
        refine WQ.pass nofun ?_
        replace hS := hS.f8
        replace hS := hS.f8
        replace hS := hS.f8
        replace hS := hS.f8
        replace hS := hS.f8
        replace hS := hS.f8
        replace hS := hS.f8
        replace hS := hS.f8
        exact leave0 (.inl rfl) rfl ⟨xin_36, fp_39, hV, rfl, h_38, hS⟩
      · intro hc_82
        replace hV := hV.2 hc_82
        refine WC.skip ?_
        refine WQ.next ?_
        refine WC.sub (m := [(0, .pointer (some ⟨b_2, 0, none⟩)), (1, .int .i64 f_34), (2, v_37)]) ⟨rfl, rfl, rfl, trivial⟩ ?_
        refine WC.seq ?_
        refine WC.region ?_
        refine WL.run hS rfl rfl rfl (ex_move rfl) ?_
        refine WL.run hS rfl rfl rfl (ex_move rfl) ?_
        replace hS := hS.f8
        refine WL.mapUpdate (k := f_34) (e := 1) Tryd.underlying51 Tryd.key29 hr_35 (cInt_mk (I64.has (by unfold I64; omega))) rfl rfl rfl hS h_38 ?_
        clear hS
        intro w fp_56 h_57 hS
        refine WL.nil ?_
        refine WQ.next ?_
        refine WC.sub (m := [(0, .pointer (some ⟨b_2, 0, none⟩)), (1, .int .i64 f_34), (2, v_37)]) ⟨rfl, rfl, rfl, trivial⟩ ?_
        refine WC.seq ?_
        refine WC.region ?_
        refine WL.run hS rfl rfl rfl (ex_move rfl) ?_
        refine WL.run hS rfl rfl rfl (ex_move rfl) ?_
        refine WL.run hS rfl rfl rfl (ex_nilCheck rfl) ?_
        refine WL.run hS rfl rfl rfl (ex_fieldAddr (o' := 0) Tryd.underlying44 rfl Tryd.sizeOf38 rfl rfl) ?_
        replace hS := hS.f2
        refine WL.run hS rfl rfl rfl (ex_load_box Tryd.isAgg38 rfl rfl) ?_
        refine WL.run hS rfl rfl rfl (ex_move rfl) ?_
        obtain ⟨hin_58, hV⟩ := hV
        refine WL.runx hS rfl rfl rfl (ex_index_own Tryd.underlying38 Tryd.sizeOf46 rfl rfl h_6 hin_58) ?_
        intro p_59 hp_60
        refine WL.runx hS rfl rfl rfl (ex_fieldAddr_own Tryd.underlying46 rfl Tryd.sizeOf29 rfl hp_60) ?_
        intro p_62 hp_61
        replace hS := hS.f3
        refine WL.runx hS rfl rfl rfl (exNow (H := H) (L := [(b_2, Obj.cells #[v_5, v_10, v_15, v_20, v_25, v_30] 44 (0, 0))] ++ (fp_56 ++ (fp_12 ++ (fp_17 ++ (fp_22 ++ (fp_27 ++ (fp_32 ++ L))))))) (ex_load_ownpart (d := (cInt .i64)) Tryd.isAgg29 rfl rfl h_6 hp_61 hin_58 (Part.next Part.fst))) ?_
        intro u_63 hu_64
        obtain ⟨rfl, hr_65⟩ := cInt_rep hu_64
        replace hr_65 := has_I64 hr_65
        replace hV := hV hr_65
        refine WL.run hS rfl rfl rfl (ex_move rfl) ?_
        replace hS := hS.f3
        replace hS := hS.f8
        replace hS := hS.f8
        replace hS := hS.f8
        replace hS := hS.f8
        replace hS := hS.f8
        replace hS := hS.f7
        replace hS := hS.f8
        refine WL.call rfl rfl rfl (enters0 (vs := [.pointer (some ⟨b_2, 0, none⟩), .int .i64 ((ix nodes_4 f_34).2.1), v_37]) Tryd.call22 ⟨rfl, rfl, rfl, trivial⟩) (ih  h_6 h_11 h_16 h_21 h_26 h_31 hr_65 h_57 hS hV) ?_
        clear hV hS
        rintro _ w ⟨m_66, fp_67, hV, rfl, h_68, hS⟩
        refine ⟨_, rfl, ?_⟩
        refine WL.nil ?_
        refine WQ.next ?_
        refine WC.sub (m := [(0, .pointer (some ⟨b_2, 0, none⟩)), (1, .int .i64 f_34), (2, v_37)]) ⟨rfl, rfl, rfl, trivial⟩ ?_
        refine WC.region ?_
        refine WL.run hS rfl rfl rfl (ex_move rfl) ?_
        refine WL.run hS rfl rfl rfl (ex_move rfl) ?_
        refine WL.run hS rfl rfl rfl (ex_nilCheck rfl) ?_
        refine WL.run hS rfl rfl rfl (ex_fieldAddr (o' := 0) Tryd.underlying44 rfl Tryd.sizeOf38 rfl rfl) ?_
        refine WL.run hS rfl rfl rfl (ex_load_box Tryd.isAgg38 rfl rfl) ?_
        refine WL.run hS rfl rfl rfl (ex_move rfl) ?_
        obtain ⟨hin_70, hV⟩ := hV
        refine WL.runx hS rfl rfl rfl (ex_index_own Tryd.underlying38 Tryd.sizeOf46 rfl rfl h_6 hin_70) ?_
        intro p_71 hp_72
        refine WL.runx hS rfl rfl rfl (ex_fieldAddr_own Tryd.underlying46 rfl Tryd.sizeOf29 rfl hp_72) ?_
        intro p_74 hp_73
        replace hS := hS.f2
        refine WL.runx hS rfl rfl rfl (exNow (H := H) (L := [(b_2, Obj.cells #[v_5, v_10, v_15, v_20, v_25, v_30] 44 (0, 0))] ++ (fp_12 ++ (fp_17 ++ (fp_22 ++ (fp_27 ++ (fp_32 ++ (fp_67 ++ L))))))) (ex_load_ownpart (d := (cInt .i64)) Tryd.isAgg29 rfl rfl h_6 hp_73 hin_70 (Part.next Part.snd))) ?_
        intro u_75 hu_76
        obtain ⟨rfl, hr_77⟩ := cInt_rep hu_76
        replace hr_77 := has_I64 hr_77
        replace hV := hV hr_77
        refine WL.run hS rfl rfl rfl (ex_move rfl) ?_
        replace hS := hS.f8
        replace hS := hS.f8
        replace hS := hS.f8
        replace hS := hS.f8
        replace hS := hS.f8
        replace hS := hS.f8
        replace hS := hS.f7
        replace hS := hS.f8
        refine WL.call rfl rfl rfl (enters0 (vs := [.pointer (some ⟨b_2, 0, none⟩), .int .i64 ((ix nodes_4 f_34).2.2), v_37]) Tryd.call22 ⟨rfl, rfl, rfl, trivial⟩) (ih  h_6 h_11 h_16 h_21 h_26 h_31 hr_77 h_68 hS hV) ?_
        clear hV hS
        rintro _ w ⟨m_78, fp_79, hV, rfl, h_80, hS⟩
        refine ⟨_, rfl, ?_⟩
        refine WL.nil ?_
        replace hS := hS.f8
        replace hS := hS.f8
        replace hS := hS.f8
        replace hS := hS.f8
        replace hS := hS.f8
        replace hS := hS.f8
        replace hS := hS.f8
        replace hS := hS.f8
        exact leave0 (.inr rfl) rfl ⟨m_78, fp_79, hV, rfl, h_80, hS⟩
    · clear hJ_49
      refine WC.region ?_
      refine WL.run hS rfl rfl rfl (ex_move rfl) ?_
      refine WL.run hS rfl rfl rfl (ex_leq rfl rfl) ?_
      refine WL.run hS rfl rfl rfl (ex_move rfl) ?_
      rcases Bool.eq_false_or_eq_true (decide (f_34 ≤ 1)) with hg_51 | hg_51
      · replace hV := hV.1 (of_decide_eq_true hg_51)
        refine WL.skip_g rfl rfl rfl hg_51 rfl rfl ?_
        refine WL.skip_g rfl rfl rfl hg_51 rfl rfl ?_
        refine WL.skip_g rfl rfl rfl hg_51 rfl rfl ?_
        refine WL.skip_g rfl rfl rfl hg_51 rfl rfl ?_
        refine WL.run hS rfl rfl rfl (ex_pick_t rfl hg_51 rfl) ?_
        refine WL.nil ?_
        replace hS := hS.f8
        replace hS := hS.f8
        replace hS := hS.f8
        replace hS := hS.f8
        replace hS := hS.f8
        replace hS := hS.f8
        replace hS := hS.f8
        replace hS := hS.f8
        exact WQ.there fun a ha => ⟨true, hV, hS, ha.of_sub ⟨rfl, rfl, rfl, rfl, trivial⟩⟩
      · replace hV := hV.2 (of_decide_eq_false hg_51)
        refine WL.unguard rfl rfl hg_51 ?_
        refine WL.run hS rfl rfl rfl (ex_move rfl) ?_
        refine WL.unguard rfl rfl hg_51 ?_
        refine WL.run hS rfl rfl rfl (ex_move rfl) ?_
        refine WL.unguard rfl rfl hg_51 ?_
        replace hS := hS.f8
        refine WL.runx hS rfl rfl rfl (exNow (H := H) (L := [(b_2, Obj.cells #[v_5, v_10, v_15, v_20, v_25, v_30] 44 (0, 0))] ++ (fp_7 ++ (fp_12 ++ (fp_17 ++ (fp_22 ++ (fp_27 ++ (fp_32 ++ L))))))) (ex_lookup (c := (cInt .i64)) (k := f_34) (d := 0) Tryd.underlying51 Tryd.key29 Tryd.zeroValue3 ⟨rfl, I64.has (by unfold I64; omega)⟩ rfl rfl h_38)) ?_
        intro u_52 hu_53
        obtain ⟨rfl, hr_54⟩ := cInt_rep hu_53
        replace hr_54 := has_I64 hr_54
        replace hV := hV hr_54
        refine WL.unguard rfl rfl hg_51 ?_
        refine WL.run hS rfl rfl rfl (ex_neq rfl rfl) ?_
        refine WL.run hS rfl rfl rfl (ex_pick_f rfl hg_51 rfl) ?_
        refine WL.nil ?_
        replace hS := hS.f8
        replace hS := hS.f8
        replace hS := hS.f8
        replace hS := hS.f8
        replace hS := hS.f8
        replace hS := hS.f8
        replace hS := hS.f8
        exact WQ.there fun a ha => ⟨decide ((mgetD xin_36 f_34 0) ≠ 0), hV, hS, ha.of_sub ⟨rfl, rfl, rfl, rfl, trivial⟩⟩

theorem S_all {w0 : World} {H : View} {L : Seg} {w : World} {b_2 : Nat} {v_5 : Value} {nodes_4 : List (Int × Int × Int)} {fp_7 : Seg} {v_10 : Value} {free_9 : List Int} {fp_12 : Seg} {v_15 : Value} {xby_14 : List ((Int × Int × Int) × Int)} {fp_17 : Seg} {v_20 : Value} {order_19 : List Int} {fp_22 : Seg} {v_25 : Value} {level_24 : List Int} {fp_27 : Seg} {v_30 : Value} {memo_29 : List ((Int × Int × Int) × Int)} {fp_32 : Seg} {v_35 : Value} {fs_34 : List Int} {Q : (List (Int × Int)) → Prop} (h_6 : OwnSl H (cPair (cInt .i64) (cPair (cInt .i64) (cInt .i64))) 46 v_5 nodes_4 fp_7) (h_11 : OwnSl H (cInt .i64) 29 v_10 free_9 fp_12) (h_16 : OwnMp H kTri (cInt .i64) v_15 xby_14 fp_17) (h_21 : OwnSl H (cInt .i64) 3 v_20 order_19 fp_22) (h_26 : OwnSl H (cInt .i64) 3 v_25 level_24 fp_27) (h_31 : OwnMp H kTri (cInt .i64) v_30 memo_29 fp_32) (h_36 : IsSl H (cInt .i64) v_35 fs_34) (hS : St w0 H ([(b_2, Obj.cells #[v_5, v_10, v_15, v_20, v_25, v_30] 44 (0, 0))] ++ (fp_7 ++ (fp_12 ++ (fp_17 ++ (fp_22 ++ (fp_27 ++ (fp_32 ++ L))))))) w) (hV : V_all nodes_4 free_9 xby_14 order_19 level_24 memo_29 fs_34 Q) :
    Calls Tryd.prog 19 #[.pointer (some ⟨b_2, 0, none⟩), v_35] w fun e w' => ∃ (r1 : List (Int × Int)) (v1 : Value) (fp1 : Seg), Q r1 ∧ e = .returned (v1) ∧ OwnMp H kInt (cInt .i64) v1 r1 fp1 ∧ St w0 H (fp1 ++ ([(b_2, Obj.cells #[v_5, v_10, v_15, v_20, v_25, v_30] 44 (0, 0))] ++ (fp_7 ++ (fp_12 ++ (fp_17 ++ (fp_22 ++ (fp_27 ++ (fp_32 ++ L)))))))) w' := by
  unfold V_all at hV
  refine enter Tryd.func19 rfl Tryd.ntmps19 rfl (lk_args_cons (d := 0) (v := .pointer (some ⟨b_2, 0, none⟩)) rfl (lk_args_cons (d := 1) (v := v_35) rfl (lk_args_nil _))) ?_
  refine WC.seq ?_
  refine WC.region ?_
  refine WL.run hS rfl rfl rfl (ex_assign rfl) ?_
  refine WL.nil ?_
  refine WQ.next ?_
  refine WC.sub (m := [(0, .pointer (some ⟨b_2, 0, none⟩)), (1, v_35)]) ⟨rfl, rfl, trivial⟩ ?_
  refine WC.seq ?_
  refine WC.region ?_
  refine WL.makeMap (κ := Int) (ν := Int) (kc := kInt) (c := (cInt .i64)) rfl hS ?_
  clear hS
  intro v_37 w fp_38 h_39 hS
  refine WL.run hS rfl rfl rfl (ex_assign rfl) ?_
  refine WL.nil ?_
  refine WQ.next ?_
  refine WC.sub (m := [(0, .pointer (some ⟨b_2, 0, none⟩)), (1, v_35), (5, v_37)]) ⟨rfl, rfl, rfl, trivial⟩ ?_
  refine WC.seq ?_
  refine WC.seq ?_
  refine WC.region ?_
  refine WL.run hS rfl rfl rfl (ex_move rfl) ?_
  have hl_41 : Len fs_34 := h_36.bound
  replace hV := hV hl_41
  refine WL.run hS rfl rfl rfl (ex_len_sl Tryd.underlying41 rfl h_36) ?_
  refine WL.run hS rfl rfl rfl (ex_move rfl) ?_
  refine WL.nil ?_
  refine WQ.next ?_
  refine WC.sub (m := [(0, .pointer (some ⟨b_2, 0, none⟩)), (5, v_37), (9, v_35), (10, .int .i64 (fs_34.length : Int)), (11, .int .i64 0)]) ⟨rfl, rfl, rfl, rfl, rfl, trivial⟩ ?_
  refine WC.block ?_
  replace hS := hS.f8
  replace hS := hS.f8
  replace hS := hS.f8
  replace hS := hS.f8
  replace hS := hS.f8
  replace hS := hS.f8
  replace hS := hS.f8
  obtain ⟨I_75, mu_76, hI_92, hV⟩ := hV
  refine WC.loop (σ := (List (Int × Int)) × Int) (fun s a w => ∃ (xin_56 : List (Int × Int)) (x_59 : Int) (fp_57 : Seg), s = (xin_56, x_59) ∧ I_75 (xin_56, x_59) ∧ OwnMp H kInt (cInt .i64) v_37 xin_56 fp_57 ∧ I64 x_59 ∧ St w0 H ([(b_2, Obj.cells #[v_5, v_10, v_15, v_20, v_25, v_30] 44 (0, 0))] ++ (fp_7 ++ (fp_12 ++ (fp_17 ++ (fp_22 ++ (fp_27 ++ (fp_32 ++ (fp_57 ++ L)))))))) w ∧ Fr 21 [(0, .pointer (some ⟨b_2, 0, none⟩)), (5, v_37), (9, v_35), (10, .int .i64 (fs_34.length : Int)), (11, .int .i64 x_59)] a) mu_76 (([] : List (Int × Int)), 0) ?_ ?_
  · exact fun a ha => ⟨([] : List (Int × Int)), 0, fp_38, rfl, hI_92, h_39, (by unfold I64; omega), hS, ha.of_sub ⟨rfl, rfl, rfl, rfl, rfl, trivial⟩⟩
  · clear hS hI_92
    rintro _ a w ⟨xin_56, x_59, fp_57, rfl, hI, h_58, hr_60, hS, ha⟩
    refine in_frame ha ?_
    clear ha
    replace hV := hV _ hI
    clear hI
    refine WC.seq ?_
    refine WC.region ?_
    refine WL.run hS rfl rfl rfl (ex_lss rfl rfl) ?_
    refine WL.nil ?_
    refine WQ.next ?_
    refine WC.seq ?_
    refine WC.cond rfl ?_ ?_
    · intro hc_91
      replace hV := hV.1 (of_decide_eq_true hc_91)
      refine WC.skip ?_
      refine WQ.next ?_
      refine WC.sub (m := [(0, .pointer (some ⟨b_2, 0, none⟩)), (5, v_37), (9, v_35), (10, .int .i64 (fs_34.length : Int)), (11, .int .i64 x_59)]) ⟨rfl, rfl, rfl, rfl, rfl, trivial⟩ ?_
      refine WC.seq ?_
      refine WC.block ?_
      refine WC.seq ?_
      refine WC.region ?_
      obtain ⟨hin_79, hV⟩ := hV
      refine WL.runx hS rfl rfl rfl (ex_index Tryd.underlying41 Tryd.sizeOf29 rfl rfl h_36 hin_79) ?_
      intro p_80 hp_81
      refine WL.runx hS rfl rfl rfl (ex_load Tryd.isAgg29 rfl rfl hp_81) ?_
      intro u_82 hu_83
      obtain ⟨rfl, hr_84⟩ := cInt_rep hu_83
      replace hr_84 := has_I64 hr_84
      replace hV := hV hr_84
      refine WL.run hS rfl rfl rfl (ex_assign rfl) ?_
      refine WL.nil ?_
      refine WQ.next ?_
      refine WC.sub (m := [(0, .pointer (some ⟨b_2, 0, none⟩)), (5, v_37), (7, .int .i64 (ix fs_34 x_59)), (9, v_35), (10, .int .i64 (fs_34.length : Int)), (11, .int .i64 x_59)]) ⟨rfl, rfl, rfl, rfl, rfl, rfl, trivial⟩ ?_
      refine WC.region ?_
      refine WL.run hS rfl rfl rfl (ex_move rfl) ?_
      refine WL.run hS rfl rfl rfl (ex_move rfl) ?_
      refine WL.run hS rfl rfl rfl (ex_move rfl) ?_
      replace hS := hS.f8
      replace hS := hS.f8
      replace hS := hS.f8
      replace hS := hS.f8
      replace hS := hS.f8
      replace hS := hS.f8
      replace hS := hS.f8
      replace hS := hS.f8
      obtain ⟨mf, hV⟩ := hV
      refine WL.call rfl rfl rfl (enters0 (vs := [.pointer (some ⟨b_2, 0, none⟩), .int .i64 (ix fs_34 x_59), v_37]) Tryd.call22 ⟨rfl, rfl, rfl, trivial⟩) (S_below mf  h_6 h_11 h_16 h_21 h_26 h_31 hr_84 h_58 hS hV) ?_
      clear hV hS
      rintro _ w ⟨m_85, fp_86, hV, rfl, h_87, hS⟩
      refine ⟨_, rfl, ?_⟩
      refine WL.nil ?_
      refine WQ.out nofun ?_
      refine WQ.next ?_
      refine WC.sub (m := [(0, .pointer (some ⟨b_2, 0, none⟩)), (5, v_37), (9, v_35), (10, .int .i64 (fs_34.length : Int)), (11, .int .i64 x_59)]) ⟨rfl, rfl, rfl, rfl, rfl, trivial⟩ ?_
      refine WC.region ?_
      obtain ⟨hi_90, hV⟩ := hV
      refine WL.run hS rfl rfl rfl (ex_add rfl rfl hi_90) ?_
      refine WL.run hS rfl rfl rfl (ex_move rfl) ?_
      refine WL.nil ?_
      replace hS := hS.f8
      replace hS := hS.f8
      replace hS := hS.f8
      replace hS := hS.f8
      replace hS := hS.f8
      replace hS := hS.f8
      replace hS := hS.f8
      replace hS := hS.f8
      exact WQ.there fun a ha => ⟨(m_85, (x_59 + 1)), ⟨m_85, (x_59 + 1), fp_86, rfl, hV.1, h_87, hi_90, hS, ha.of_sub ⟨rfl, rfl, rfl, rfl, rfl, trivial⟩⟩, hV.2⟩
    · intro hc_91
      replace hV := hV.2 (of_decide_eq_false hc_91)
      refine WC.exit ?_
      refine WQ.pass nofun ?_
      refine WQ.pass nofun ?_
      refine WQ.hit ?_
      refine WQ.next ?_
      refine WC.sub (m := [(5, v_37)]) ⟨rfl, trivial⟩ ?_
      refine WC.seq ?_
      refine WC.region ?_
      refine WL.run hS rfl rfl rfl (ex_move rfl) ?_
      refine WL.run hS rfl rfl rfl (ex_assign rfl) ?_
      refine WL.nil ?_
      refine WQ.next ?_
      refine WC.sub (m := [(4, v_37)]) ⟨rfl, trivial⟩ ?_
      refine WC.ret ?_
      replace hS := hS.f7
      replace hS := hS.f7
      replace hS := hS.f7
      replace hS := hS.f7
      replace hS := hS.f7
      replace hS := hS.f7
      replace hS := hS.f7
      replace hS := hS.f8
      exact leave1 rfl rfl ⟨xin_56, v_37, fp_57, hV, rfl, h_58, hS⟩

theorem S_Size {w0 : World} {H : View} {L : Seg} {w : World} {b_2 : Nat} {v_5 : Value} {nodes_4 : List (Int × Int × Int)} {fp_7 : Seg} {v_10 : Value} {free_9 : List Int} {fp_12 : Seg} {v_15 : Value} {xby_14 : List ((Int × Int × Int) × Int)} {fp_17 : Seg} {v_20 : Value} {order_19 : List Int} {fp_22 : Seg} {v_25 : Value} {level_24 : List Int} {fp_27 : Seg} {v_30 : Value} {memo_29 : List ((Int × Int × Int) × Int)} {fp_32 : Seg} {v_35 : Value} {fs_34 : List Int} {Q : Int → Prop} (h_6 : OwnSl H (cPair (cInt .i64) (cPair (cInt .i64) (cInt .i64))) 46 v_5 nodes_4 fp_7) (h_11 : OwnSl H (cInt .i64) 29 v_10 free_9 fp_12) (h_16 : OwnMp H kTri (cInt .i64) v_15 xby_14 fp_17) (h_21 : OwnSl H (cInt .i64) 3 v_20 order_19 fp_22) (h_26 : OwnSl H (cInt .i64) 3 v_25 level_24 fp_27) (h_31 : OwnMp H kTri (cInt .i64) v_30 memo_29 fp_32) (h_36 : IsSl H (cInt .i64) v_35 fs_34) (hS : St w0 H ([(b_2, Obj.cells #[v_5, v_10, v_15, v_20, v_25, v_30] 44 (0, 0))] ++ (fp_7 ++ (fp_12 ++ (fp_17 ++ (fp_22 ++ (fp_27 ++ (fp_32 ++ L))))))) w) (hV : V_Size nodes_4 free_9 xby_14 order_19 level_24 memo_29 fs_34 Q) :
    Calls Tryd.prog 12 #[.pointer (some ⟨b_2, 0, none⟩), v_35] w fun e w' => ∃ (r1 : Int), Q r1 ∧ e = .returned (.int .i64 r1) ∧ I64 r1 ∧ St w0 H ([(b_2, Obj.cells #[v_5, v_10, v_15, v_20, v_25, v_30] 44 (0, 0))] ++ (fp_7 ++ (fp_12 ++ (fp_17 ++ (fp_22 ++ (fp_27 ++ (fp_32 ++ L))))))) w' := by
  unfold V_Size at hV
  refine enter Tryd.func12 rfl Tryd.ntmps12 rfl (lk_args_cons (d := 0) (v := .pointer (some ⟨b_2, 0, none⟩)) rfl (lk_args_cons (d := 1) (v := v_35) rfl (lk_args_nil _))) ?_
  refine WC.seq ?_
  refine WC.region ?_
  refine WL.run hS rfl rfl rfl (ex_assign rfl) ?_
  refine WL.nil ?_
  refine WQ.next ?_
  refine WC.sub (m := [(0, .pointer (some ⟨b_2, 0, none⟩)), (1, v_35)]) ⟨rfl, rfl, trivial⟩ ?_
  refine WC.seq ?_
  refine WC.region ?_
  refine WL.run hS rfl rfl rfl (ex_move rfl) ?_
  refine WL.run hS rfl rfl rfl (ex_move rfl) ?_
  replace hS := hS.f7
  replace hS := hS.f7
  replace hS := hS.f7
  replace hS := hS.f7
  replace hS := hS.f7
  replace hS := hS.f7
  replace hS := hS.f7
  refine WL.call rfl rfl rfl (enters0 (vs := [.pointer (some ⟨b_2, 0, none⟩), v_35]) Tryd.call19 ⟨rfl, rfl, trivial⟩) (S_all  h_6 h_11 h_16 h_21 h_26 h_31 h_36 hS hV) ?_
  clear hV hS
  rintro _ w ⟨r_37, v_38, fp_39, hV, rfl, h_40, hS⟩
  refine ⟨_, rfl, ?_⟩
  obtain ⟨hl_43, hV⟩ := hV
  refine WL.run hS rfl rfl rfl (exQv (H := H) (ex_len_map Tryd.underlying51 rfl h_40) _ (fun _ h => h)) ?_
  refine WL.run hS rfl rfl rfl (ex_assign rfl) ?_
  refine WL.nil ?_
  refine WQ.next ?_
  refine WC.sub (m := [(4, .int .i64 (r_37.length : Int))]) ⟨rfl, trivial⟩ ?_
  replace hS := hS.drop
  refine WC.ret ?_
  replace hS := hS.f7
  replace hS := hS.f7
  replace hS := hS.f7
  replace hS := hS.f7
  replace hS := hS.f7
  replace hS := hS.f7
  replace hS := hS.f7
  exact leave1 rfl rfl ⟨(r_37.length : Int), hV, rfl, (Len.i64 hl_43), hS⟩

theorem S_Count1 (m0 : Nat) : ∀ {w0 : World} {H : View} {L : Seg} {w : World} {f_1 : Int} {b_4 : Nat} {v_7 : Value} {c_3_6 : List (Int × Int)} {fp_9 : Seg} {b_12 : Nat} {b_15 : Nat} {v_18 : Value} {nodes_17 : List (Int × Int × Int)} {fp_20 : Seg} {v_23 : Value} {free_22 : List Int} {fp_25 : Seg} {v_28 : Value} {xby_27 : List ((Int × Int × Int) × Int)} {fp_30 : Seg} {v_33 : Value} {order_32 : List Int} {fp_35 : Seg} {v_38 : Value} {level_37 : List Int} {fp_40 : Seg} {v_43 : Value} {memo_42 : List ((Int × Int × Int) × Int)} {fp_45 : Seg} {b_48 : Nat} {Q : Int → (List (Int × Int)) → Prop} (hr_2 : I64 f_1) (h_8 : OwnMp H kInt (cInt .i64) v_7 c_3_6 fp_9) (h_19 : OwnSl H (cPair (cInt .i64) (cPair (cInt .i64) (cInt .i64))) 46 v_18 nodes_17 fp_20) (h_24 : OwnSl H (cInt .i64) 29 v_23 free_22 fp_25) (h_29 : OwnMp H kTri (cInt .i64) v_28 xby_27 fp_30) (h_34 : OwnSl H (cInt .i64) 3 v_33 order_32 fp_35) (h_39 : OwnSl H (cInt .i64) 3 v_38 level_37 fp_40) (h_44 : OwnMp H kTri (cInt .i64) v_43 memo_42 fp_45) (hS : St w0 H ([(b_4, Obj.cells #[v_7] 51 (0, 0))] ++ (fp_9 ++ ([(b_12, Obj.cells #[.pointer (some ⟨b_15, 0, none⟩)] 23 (0, 0))] ++ ([(b_15, Obj.cells #[v_18, v_23, v_28, v_33, v_38, v_43] 44 (0, 0))] ++ (fp_20 ++ (fp_25 ++ (fp_30 ++ (fp_35 ++ (fp_40 ++ (fp_45 ++ ([(b_48, Obj.cells #[.func (.func 17) #[] #[.pointer (some ⟨b_4, 0, none⟩), .pointer (some ⟨b_12, 0, none⟩), .pointer (some ⟨b_48, 0, none⟩)]] 33 (0, 0))] ++ L))))))))))) w) (hV : V_Count1 m0 f_1 c_3_6 nodes_17 free_22 xby_27 order_32 level_37 memo_42 Q),
    Calls Tryd.prog 17 #[.int .i64 f_1, .pointer (some ⟨b_4, 0, none⟩), .pointer (some ⟨b_12, 0, none⟩), .pointer (some ⟨b_48, 0, none⟩)] w fun e w' => ∃ (r1 : Int) (r2 : List (Int × Int)) (fp2 : Seg), Q r1 r2 ∧ e = .returned (.int .i64 r1) ∧ I64 r1 ∧ OwnMp H kInt (cInt .i64) v_7 r2 fp2 ∧ St w0 H ([(b_4, Obj.cells #[v_7] 51 (0, 0))] ++ (fp2 ++ ([(b_12, Obj.cells #[.pointer (some ⟨b_15, 0, none⟩)] 23 (0, 0))] ++ ([(b_15, Obj.cells #[v_18, v_23, v_28, v_33, v_38, v_43] 44 (0, 0))] ++ (fp_20 ++ (fp_25 ++ (fp_30 ++ (fp_35 ++ (fp_40 ++ (fp_45 ++ ([(b_48, Obj.cells #[.func (.func 17) #[] #[.pointer (some ⟨b_4, 0, none⟩), .pointer (some ⟨b_12, 0, none⟩), .pointer (some ⟨b_48, 0, none⟩)]] 33 (0, 0))] ++ L))))))))))) w' := by
  induction m0 with
  | zero => intro w0 H L w f_1 b_4 v_7 c_3_6 fp_9 b_12 b_15 v_18 nodes_17 fp_20 v_23 free_22 fp_25 v_28 xby_27 fp_30 v_33 order_32 fp_35 v_38 level_37 fp_40 v_43 memo_42 fp_45 b_48 Q hr_2 h_8 h_19 h_24 h_29 h_34 h_39 h_44 hS hV; exact hV.elim
  | succ m0 ih =>
    intro w0 H L w f_1 b_4 v_7 c_3_6 fp_9 b_12 b_15 v_18 nodes_17 fp_20 v_23 free_22 fp_25 v_28 xby_27 fp_30 v_33 order_32 fp_35 v_38 level_37 fp_40 v_43 memo_42 fp_45 b_48 Q hr_2 h_8 h_19 h_24 h_29 h_34 h_39 h_44 hS hV
    unfold V_Count1 at hV
    refine enter Tryd.func17 rfl Tryd.ntmps17 rfl (lk_args_cons (d := 0) (v := .int .i64 f_1) rfl (lk_args_cons (d := 1) (v := .pointer (some ⟨b_4, 0, none⟩)) rfl (lk_args_cons (d := 2) (v := .pointer (some ⟨b_12, 0, none⟩)) rfl (lk_args_cons (d := 3) (v := .pointer (some ⟨b_48, 0, none⟩)) rfl (lk_args_nil _))))) ?_
    refine WC.seq ?_
    refine WC.region ?_
    refine WL.run hS rfl rfl rfl (ex_assign rfl) ?_
    refine WL.nil ?_
    refine WQ.next ?_
    refine WC.sub (m := [(0, .int .i64 f_1), (1, .pointer (some ⟨b_4, 0, none⟩)), (2, .pointer (some ⟨b_12, 0, none⟩)), (3, .pointer (some ⟨b_48, 0, none⟩))]) ⟨rfl, rfl, rfl, rfl, trivial⟩ ?_
    refine WC.seq ?_
    refine WC.seq ?_
    refine WC.region ?_
    refine WL.run hS rfl rfl rfl (ex_move rfl) ?_
    refine WL.run hS rfl rfl rfl (ex_leq rfl rfl) ?_
    refine WL.nil ?_
    refine WQ.next ?_
    refine WC.sub (m := [(0, .int .i64 f_1), (1, .pointer (some ⟨b_4, 0, none⟩)), (2, .pointer (some ⟨b_12, 0, none⟩)), (3, .pointer (some ⟨b_48, 0, none⟩)), (12, .bool (decide (f_1 ≤ 1)))]) ⟨rfl, rfl, rfl, rfl, rfl, trivial⟩ ?_
    refine WC.cond rfl ?_ ?_
    · intro hc_151
      replace hV := hV.1 (of_decide_eq_true hc_151)
      refine WC.seq ?_
      refine WC.region ?_
      refine WL.run hS rfl rfl rfl (ex_move rfl) ?_
      refine WL.run hS rfl rfl rfl (ex_assign rfl) ?_
      refine WL.nil ?_
      refine WQ.next ?_
      refine WC.sub (m := [(5, .int .i64 f_1)]) ⟨rfl, trivial⟩ ?_
      refine WC.ret ?_
      refine WQ.pass nofun ?_
      replace hS := hS.f11
      replace hS := hS.f11
      replace hS := hS.f11
      replace hS := hS.f11
      replace hS := hS.f11
      replace hS := hS.f11
      replace hS := hS.f11
      replace hS := hS.f11
      replace hS := hS.f11
      replace hS := hS.f11
      replace hS := hS.f11
      exact leave1 rfl rfl ⟨f_1, c_3_6, fp_9, hV, rfl, hr_2, h_8, hS⟩
    · intro hc_151
      replace hV := hV.2 (of_decide_eq_false hc_151)
      refine WC.skip ?_
      refine WQ.next ?_
      refine WC.sub (m := [(0, .int .i64 f_1), (1, .pointer (some ⟨b_4, 0, none⟩)), (2, .pointer (some ⟨b_12, 0, none⟩)), (3, .pointer (some ⟨b_48, 0, none⟩))]) ⟨rfl, rfl, rfl, rfl, trivial⟩ ?_
      refine WC.seq ?_
      refine WC.seq ?_
      refine WC.region ?_
      refine WL.run hS rfl rfl rfl (ex_load_box Tryd.isAgg51 rfl rfl) ?_
      refine WL.run hS rfl rfl rfl (ex_move rfl) ?_
      replace hS := hS.f2
      refine WL.runx hS rfl rfl rfl (exNow (H := H) (L := [(b_4, Obj.cells #[v_7] 51 (0, 0))] ++ ([(b_12, Obj.cells #[.pointer (some ⟨b_15, 0, none⟩)] 23 (0, 0))] ++ ([(b_15, Obj.cells #[v_18, v_23, v_28, v_33, v_38, v_43] 44 (0, 0))] ++ (fp_20 ++ (fp_25 ++ (fp_30 ++ (fp_35 ++ (fp_40 ++ (fp_45 ++ ([(b_48, Obj.cells #[.func (.func 17) #[] #[.pointer (some ⟨b_4, 0, none⟩), .pointer (some ⟨b_12, 0, none⟩), .pointer (some ⟨b_48, 0, none⟩)]] 33 (0, 0))] ++ L)))))))))) (ex_lookup_ok (c := (cInt .i64)) (k := f_1) (d := 0) Tryd.underlying51 Tryd.key29 Tryd.zeroValue3 ⟨rfl, I64.has (by unfold I64; omega)⟩ rfl rfl h_8)) ?_
      rintro _ ⟨u_55, rfl, hu_56⟩
      obtain ⟨rfl, hr_57⟩ := cInt_rep hu_56
      replace hr_57 := has_I64 hr_57
      replace hV := hV hr_57
      refine WL.run hS rfl rfl rfl (ex_move rfl) ?_
      refine WL.run hS rfl rfl rfl (ex_extract rfl rfl) ?_
      refine WL.run hS rfl rfl rfl (ex_extract rfl rfl) ?_
      refine WL.run hS rfl rfl rfl (ex_assign rfl) ?_
      refine WL.run hS rfl rfl rfl (ex_assign rfl) ?_
      refine WL.nil ?_
      refine WQ.next ?_
      refine WC.sub (m := [(0, .int .i64 f_1), (1, .pointer (some ⟨b_4, 0, none⟩)), (2, .pointer (some ⟨b_12, 0, none⟩)), (3, .pointer (some ⟨b_48, 0, none⟩)), (6, .int .i64 (mgetD c_3_6 f_1 0)), (7, .bool (mhas c_3_6 f_1))]) ⟨rfl, rfl, rfl, rfl, rfl, rfl, trivial⟩ ?_
      refine WC.seq ?_
      refine WC.region ?_
      refine WL.run hS rfl rfl rfl (ex_move rfl) ?_
      refine WL.nil ?_
      refine WQ.next ?_
      refine WC.sub (m := [(0, .int .i64 f_1), (1, .pointer (some ⟨b_4, 0, none⟩)), (2, .pointer (some ⟨b_12, 0, none⟩)), (3, .pointer (some ⟨b_48, 0, none⟩)), (6, .int .i64 (mgetD c_3_6 f_1 0)), (20, .bool (mhas c_3_6 f_1))]) ⟨rfl, rfl, rfl, rfl, rfl, rfl, trivial⟩ ?_
      refine WC.cond rfl ?_ ?_
      · intro hc_150
        replace hV := hV.1 hc_150
        refine WC.seq ?_
        refine WC.region ?_
        refine WL.run hS rfl rfl rfl (ex_move rfl) ?_
        refine WL.run hS rfl rfl rfl (ex_assign rfl) ?_
        refine WL.nil ?_
        refine WQ.next ?_
        refine WC.sub (m := [(5, .int .i64 (mgetD c_3_6 f_1 0))]) ⟨rfl, trivial⟩ ?_
        refine WC.ret ?_
        refine WQ.pass nofun ?_
        replace hS := hS.f11
        replace hS := hS.f11
        replace hS := hS.f11
        replace hS := hS.f11
        replace hS := hS.f11
        replace hS := hS.f11
        replace hS := hS.f11
        replace hS := hS.f11
        replace hS := hS.f11
        replace hS := hS.f10
        replace hS := hS.f11
        exact leave1 rfl rfl ⟨(mgetD c_3_6 f_1 0), c_3_6, fp_9, hV, rfl, hr_57, h_8, hS⟩
      · intro hc_150
        replace hV := hV.2 hc_150
        refine WC.skip ?_
        refine WQ.next ?_
        refine WC.sub (m := [(0, .int .i64 f_1), (1, .pointer (some ⟨b_4, 0, none⟩)), (2, .pointer (some ⟨b_12, 0, none⟩)), (3, .pointer (some ⟨b_48, 0, none⟩))]) ⟨rfl, rfl, rfl, rfl, trivial⟩ ?_
        refine WC.seq ?_
        refine WC.region ?_
        replace hS := hS.f3
        refine WL.run hS rfl rfl rfl (ex_load_box Tryd.isAgg23 rfl rfl) ?_
        refine WL.run hS rfl rfl rfl (ex_nilCheck rfl) ?_
        refine WL.run hS rfl rfl rfl (ex_fieldAddr (o' := 0) Tryd.underlying44 rfl Tryd.sizeOf38 rfl rfl) ?_
        replace hS := hS.f4
        refine WL.run hS rfl rfl rfl (ex_load_box Tryd.isAgg38 rfl rfl) ?_
        refine WL.run hS rfl rfl rfl (ex_move rfl) ?_
        obtain ⟨hin_58, hV⟩ := hV
        refine WL.runx hS rfl rfl rfl (ex_index_own Tryd.underlying38 Tryd.sizeOf46 rfl rfl h_19 hin_58) ?_
        intro p_59 hp_60
        replace hS := hS.f5
        refine WL.runx hS rfl rfl rfl (exNow (H := H) (L := [(b_15, Obj.cells #[v_18, v_23, v_28, v_33, v_38, v_43] 44 (0, 0))] ++ ([(b_12, Obj.cells #[.pointer (some ⟨b_15, 0, none⟩)] 23 (0, 0))] ++ (fp_9 ++ ([(b_4, Obj.cells #[v_7] 51 (0, 0))] ++ (fp_25 ++ (fp_30 ++ (fp_35 ++ (fp_40 ++ (fp_45 ++ ([(b_48, Obj.cells #[.func (.func 17) #[] #[.pointer (some ⟨b_4, 0, none⟩), .pointer (some ⟨b_12, 0, none⟩), .pointer (some ⟨b_48, 0, none⟩)]] 33 (0, 0))] ++ L)))))))))) (ex_load_own_agg Tryd.isAgg46 Tryd.sizeOf46 rfl h_19 hp_60 hin_58)) ?_
        rintro u_61 ⟨_, rfl, hu⟩
        obtain ⟨_, _, rfl, hu_62, hu_63⟩ := hu
        obtain ⟨rfl, hr_64⟩ := hu_62
        replace hr_64 := has_I64 hr_64
        replace hV := hV hr_64
        obtain ⟨_, _, rfl, hu_65, hu_66⟩ := hu_63
        obtain ⟨rfl, hr_67⟩ := hu_65
        replace hr_67 := has_I64 hr_67
        replace hV := hV hr_67
        obtain ⟨rfl, hr_68⟩ := hu_66
        replace hr_68 := has_I64 hr_68
        replace hV := hV hr_68
        refine WL.alloc (arr := #[.int .i64 0, .int .i64 0, .int .i64 0]) rfl Tryd.zeroValue46 rfl hS ?_
        clear hS
        intro b_69 w hS
        refine WL.store_box (pre := []) (old := [.int .i64 0, .int .i64 0, .int .i64 0]) (rst := []) (cs := [.int .i64 ((ix nodes_17 f_1).1), .int .i64 ((ix nodes_17 f_1).2.1), .int .i64 ((ix nodes_17 f_1).2.2)]) (arr' := #[.int .i64 ((ix nodes_17 f_1).1), .int .i64 ((ix nodes_17 f_1).2.1), .int .i64 ((ix nodes_17 f_1).2.2)]) Tryd.sizeOf46 rfl rfl rfl ⟨rfl, rfl, rfl, trivial⟩ rfl rfl rfl rfl hS ?_
        clear hS
        intro w hS
        refine WL.nil ?_
        refine WQ.next ?_
        refine WC.sub (m := [(0, .int .i64 f_1), (1, .pointer (some ⟨b_4, 0, none⟩)), (2, .pointer (some ⟨b_12, 0, none⟩)), (3, .pointer (some ⟨b_48, 0, none⟩)), (8, .pointer (some ⟨b_69, 0, none⟩))]) ⟨rfl, rfl, rfl, rfl, rfl, trivial⟩ ?_
        refine WC.seq ?_
        refine WC.region ?_
        replace hS := hS.f4
        refine WL.run hS rfl rfl rfl (ex_load_box Tryd.isAgg23 rfl rfl) ?_
        refine WL.run hS rfl rfl rfl (ex_move rfl) ?_
        replace hS := hS.f11
        replace hS := hS.f11
        replace hS := hS.f11
        replace hS := hS.f11
        replace hS := hS.f11
        replace hS := hS.f8
        replace hS := hS.f9
        refine WL.call rfl rfl rfl (enters0 (vs := [.pointer (some ⟨b_15, 0, none⟩), .int .i64 f_1]) Tryd.call18 ⟨rfl, rfl, trivial⟩) (S_depth  h_19 h_24 h_29 h_34 h_39 h_44 hr_2 hS hV) ?_
        clear hV hS
        rintro _ w ⟨r_71, hV, rfl, hr_72, hS⟩
        refine ⟨_, rfl, ?_⟩
        refine WL.run hS rfl rfl rfl (ex_assign rfl) ?_
        refine WL.nil ?_
        refine WQ.next ?_
        refine WC.sub (m := [(0, .int .i64 f_1), (1, .pointer (some ⟨b_4, 0, none⟩)), (2, .pointer (some ⟨b_12, 0, none⟩)), (3, .pointer (some ⟨b_48, 0, none⟩)), (8, .pointer (some ⟨b_69, 0, none⟩)), (9, .int .i64 r_71)]) ⟨rfl, rfl, rfl, rfl, rfl, rfl, trivial⟩ ?_
        refine WC.seq ?_
        refine WC.drawn (σ := [0, 1, 2, 4, 5, 6, 8, 12, 13, 14, 16, 17, 18, 20, 3, 7, 9, 10, 11, 15, 19, 21, 22, 23, 24, 25]) (C := St w0 H ([(b_15, Obj.cells #[v_18, v_23, v_28, v_33, v_38, v_43] 44 (0, 0))] ++ (fp_20 ++ (fp_25 ++ (fp_30 ++ (fp_35 ++ (fp_40 ++ (fp_45 ++ ([(b_12, Obj.cells #[.pointer (some ⟨b_15, 0, none⟩)] 23 (0, 0))] ++ ([(b_69, Obj.cells #[.int .i64 ((ix nodes_17 f_1).1), .int .i64 ((ix nodes_17 f_1).2.1), .int .i64 ((ix nodes_17 f_1).2.2)] 46 (0, 0))] ++ (fp_9 ++ ([(b_4, Obj.cells #[v_7] 51 (0, 0))] ++ ([(b_48, Obj.cells #[.func (.func 17) #[] #[.pointer (some ⟨b_4, 0, none⟩), .pointer (some ⟨b_12, 0, none⟩), .pointer (some ⟨b_48, 0, none⟩)]] 33 (0, 0))] ++ L))))))))))))) [[], [], [1], [0, 1, 2], [], [], [5], [0, 1, 2, 3, 4, 5, 6], [], [0, 1, 2, 3, 4, 5, 6, 7, 8], [0, 1, 2, 3, 4, 5, 6, 7, 8, 9], [0, 1, 2, 3, 4, 5, 6, 7, 8, 9, 10], [], [], [13], [0, 1, 2, 3, 4, 5, 6, 7, 12, 13, 14], [], [], [17], [0, 1, 2, 3, 4, 5, 6, 7, 12, 13, 14, 15, 16, 17, 18], [], [0, 1, 2, 3, 4, 5, 6, 7, 12, 13, 14, 15, 16, 17, 18, 19, 20], [0, 1, 2, 3, 4, 5, 6, 7, 12, 13, 14, 15, 16, 17, 18, 19, 20, 21], [0, 1, 2, 3, 4, 5, 6, 7, 12, 13, 14, 15, 16, 17, 18, 19, 20, 21, 22], [0, 1, 2, 3, 4, 5, 6, 7, 8, 9, 10, 11, 12, 13, 14, 15, 16, 17, 18, 19, 20, 21, 22, 23], [0, 1, 2, 3, 4, 5, 6, 7, 8, 9, 10, 11, 12, 13, 14, 15, 16, 17, 18, 19, 20, 21, 22, 23, 24]] [3, 7, 15, 19] Tryd.mixed (by kernel_rfl) (hS.drawn _) ?_
        clear hS w
        refine Wd.runb (off := 0) rfl rfl rfl rfl (fun _ _ _ h => ex_load_box Tryd.isAgg33 rfl h) rfl (fun _ h => St.f12 h) fun q_75 hq_74 => ?_
        refine Wd.run rfl rfl rfl rfl (fun _ => ex_fieldAddr (o' := 1) Tryd.underlying46 rfl Tryd.sizeOf29 rfl rfl) fun q_77 hq_76 => ?_
        refine Wd.runb (off := 1) rfl rfl rfl rfl (fun _ _ _ h => ex_load_box Tryd.isAgg29 rfl h) rfl (fun _ h => St.f9 h) fun q_79 hq_78 => ?_
        refine Wd.runb (off := 0) rfl rfl rfl rfl (fun _ _ _ h => ex_load_box Tryd.isAgg23 rfl h) rfl (fun _ h => St.f8 h) fun q_81 hq_80 => ?_
        refine Wd.run rfl rfl rfl rfl (fun _ => ex_fieldAddr (o' := 1) Tryd.underlying46 rfl Tryd.sizeOf29 rfl rfl) fun q_83 hq_82 => ?_
        refine Wd.runb (off := 1) rfl rfl rfl rfl (fun _ _ _ h => ex_load_box Tryd.isAgg29 rfl h) rfl (fun _ h => St.f9 h) fun q_85 hq_84 => ?_
        refine Wd.run rfl rfl rfl rfl (fun _ => ex_move rfl) fun q_87 hq_86 => ?_
        refine Wd.runb (off := 0) rfl rfl rfl rfl (fun _ _ _ h => ex_load_box Tryd.isAgg33 rfl h) rfl (fun _ h => St.f12 h) fun q_89 hq_88 => ?_
        refine Wd.run rfl rfl rfl rfl (fun _ => ex_fieldAddr (o' := 2) Tryd.underlying46 rfl Tryd.sizeOf29 rfl rfl) fun q_91 hq_90 => ?_
        refine Wd.runb (off := 2) rfl rfl rfl rfl (fun _ _ _ h => ex_load_box Tryd.isAgg29 rfl h) rfl (fun _ h => St.f9 h) fun q_93 hq_92 => ?_
        refine Wd.runb (off := 0) rfl rfl rfl rfl (fun _ _ _ h => ex_load_box Tryd.isAgg23 rfl h) rfl (fun _ h => St.f8 h) fun q_95 hq_94 => ?_
        refine Wd.run rfl rfl rfl rfl (fun _ => ex_fieldAddr (o' := 2) Tryd.underlying46 rfl Tryd.sizeOf29 rfl rfl) fun q_97 hq_96 => ?_
        refine Wd.runb (off := 2) rfl rfl rfl rfl (fun _ _ _ h => ex_load_box Tryd.isAgg29 rfl h) rfl (fun _ h => St.f9 h) fun q_99 hq_98 => ?_
        refine Wd.run rfl rfl rfl rfl (fun _ => ex_move rfl) fun q_101 hq_100 => ?_
        refine Wd.turn rfl rfl rfl fun w hS => ?_
        replace hS := hS.f12
        replace hS := hS.f8
        replace hS := hS.f8
        replace hS := hS.f8
        replace hS := hS.f8
        replace hS := hS.f8
        replace hS := hS.f8
        replace hS := hS.f8
        replace hS := hS.f9
        replace hS := hS.f11
        replace hS := hS.f12
        refine WL.call rfl rfl rfl (enters_c (vs := [.int .i64 ((ix nodes_17 f_1).2.1)]) (caps := [.pointer (some ⟨b_4, 0, none⟩), .pointer (some ⟨b_12, 0, none⟩), .pointer (some ⟨b_48, 0, none⟩)]) rfl Tryd.call17 ⟨rfl, trivial⟩) (ih  hr_67 h_8 h_19 h_24 h_29 h_34 h_39 h_44 hS hV) ?_
        clear hV hS
        rintro _ w ⟨r_102, m_104, fp_105, hV, rfl, hr_103, h_106, hS⟩
        refine ⟨_, rfl, ?_⟩
        refine WL.nil (DQ.mk2 (C' := St w0 H ([(b_4, Obj.cells #[v_7] 51 (0, 0))] ++ (fp_105 ++ ([(b_12, Obj.cells #[.pointer (some ⟨b_15, 0, none⟩)] 23 (0, 0))] ++ ([(b_15, Obj.cells #[v_18, v_23, v_28, v_33, v_38, v_43] 44 (0, 0))] ++ (fp_20 ++ (fp_25 ++ (fp_30 ++ (fp_35 ++ (fp_40 ++ (fp_45 ++ ([(b_48, Obj.cells #[.func (.func 17) #[] #[.pointer (some ⟨b_4, 0, none⟩), .pointer (some ⟨b_12, 0, none⟩), .pointer (some ⟨b_48, 0, none⟩)]] 33 (0, 0))] ++ ([(b_69, Obj.cells #[.int .i64 ((ix nodes_17 f_1).1), .int .i64 ((ix nodes_17 f_1).2.1), .int .i64 ((ix nodes_17 f_1).2.2)] 46 (0, 0))] ++ L))))))))))))) hS ⟨.inr (hq_100 _), .inr (hq_98 H ([(b_4, Obj.cells #[v_7] 51 (0, 0))] ++ (fp_105 ++ ([(b_12, Obj.cells #[.pointer (some ⟨b_15, 0, none⟩)] 23 (0, 0))] ++ ([(b_15, Obj.cells #[v_18, v_23, v_28, v_33, v_38, v_43] 44 (0, 0))] ++ (fp_20 ++ (fp_25 ++ (fp_30 ++ (fp_35 ++ (fp_40 ++ (fp_45 ++ ([(b_48, Obj.cells #[.func (.func 17) #[] #[.pointer (some ⟨b_4, 0, none⟩), .pointer (some ⟨b_12, 0, none⟩), .pointer (some ⟨b_48, 0, none⟩)]] 33 (0, 0))] ++ L))))))))))) #[.int .i64 ((ix nodes_17 f_1).1), .int .i64 ((ix nodes_17 f_1).2.1), .int .i64 ((ix nodes_17 f_1).2.2)] _ rfl (fun _ h => St.f12 h)), .inr (hq_96 _), .inr (hq_94 H ([(b_4, Obj.cells #[v_7] 51 (0, 0))] ++ (fp_105 ++ ([(b_15, Obj.cells #[v_18, v_23, v_28, v_33, v_38, v_43] 44 (0, 0))] ++ (fp_20 ++ (fp_25 ++ (fp_30 ++ (fp_35 ++ (fp_40 ++ (fp_45 ++ ([(b_48, Obj.cells #[.func (.func 17) #[] #[.pointer (some ⟨b_4, 0, none⟩), .pointer (some ⟨b_12, 0, none⟩), .pointer (some ⟨b_48, 0, none⟩)]] 33 (0, 0))] ++ ([(b_69, Obj.cells #[.int .i64 ((ix nodes_17 f_1).1), .int .i64 ((ix nodes_17 f_1).2.1), .int .i64 ((ix nodes_17 f_1).2.2)] 46 (0, 0))] ++ L))))))))))) #[.pointer (some ⟨b_15, 0, none⟩)] _ rfl (fun _ h => St.f3 h)), .inr (hq_92 H ([(b_4, Obj.cells #[v_7] 51 (0, 0))] ++ (fp_105 ++ ([(b_12, Obj.cells #[.pointer (some ⟨b_15, 0, none⟩)] 23 (0, 0))] ++ ([(b_15, Obj.cells #[v_18, v_23, v_28, v_33, v_38, v_43] 44 (0, 0))] ++ (fp_20 ++ (fp_25 ++ (fp_30 ++ (fp_35 ++ (fp_40 ++ (fp_45 ++ ([(b_48, Obj.cells #[.func (.func 17) #[] #[.pointer (some ⟨b_4, 0, none⟩), .pointer (some ⟨b_12, 0, none⟩), .pointer (some ⟨b_48, 0, none⟩)]] 33 (0, 0))] ++ L))))))))))) #[.int .i64 ((ix nodes_17 f_1).1), .int .i64 ((ix nodes_17 f_1).2.1), .int .i64 ((ix nodes_17 f_1).2.2)] _ rfl (fun _ h => St.f12 h)), .inr (hq_90 _), .inr (hq_88 H ([(b_4, Obj.cells #[v_7] 51 (0, 0))] ++ (fp_105 ++ ([(b_12, Obj.cells #[.pointer (some ⟨b_15, 0, none⟩)] 23 (0, 0))] ++ ([(b_15, Obj.cells #[v_18, v_23, v_28, v_33, v_38, v_43] 44 (0, 0))] ++ (fp_20 ++ (fp_25 ++ (fp_30 ++ (fp_35 ++ (fp_40 ++ (fp_45 ++ ([(b_69, Obj.cells #[.int .i64 ((ix nodes_17 f_1).1), .int .i64 ((ix nodes_17 f_1).2.1), .int .i64 ((ix nodes_17 f_1).2.2)] 46 (0, 0))] ++ L))))))))))) #[.func (.func 17) #[] #[.pointer (some ⟨b_4, 0, none⟩), .pointer (some ⟨b_12, 0, none⟩), .pointer (some ⟨b_48, 0, none⟩)]] _ rfl (fun _ h => St.f11 h)), .inr (hq_86 _), .inr (hq_84 H ([(b_4, Obj.cells #[v_7] 51 (0, 0))] ++ (fp_105 ++ ([(b_12, Obj.cells #[.pointer (some ⟨b_15, 0, none⟩)] 23 (0, 0))] ++ ([(b_15, Obj.cells #[v_18, v_23, v_28, v_33, v_38, v_43] 44 (0, 0))] ++ (fp_20 ++ (fp_25 ++ (fp_30 ++ (fp_35 ++ (fp_40 ++ (fp_45 ++ ([(b_48, Obj.cells #[.func (.func 17) #[] #[.pointer (some ⟨b_4, 0, none⟩), .pointer (some ⟨b_12, 0, none⟩), .pointer (some ⟨b_48, 0, none⟩)]] 33 (0, 0))] ++ L))))))))))) #[.int .i64 ((ix nodes_17 f_1).1), .int .i64 ((ix nodes_17 f_1).2.1), .int .i64 ((ix nodes_17 f_1).2.2)] _ rfl (fun _ h => St.f12 h)), .inr (hq_82 _), .inr (hq_80 H ([(b_4, Obj.cells #[v_7] 51 (0, 0))] ++ (fp_105 ++ ([(b_15, Obj.cells #[v_18, v_23, v_28, v_33, v_38, v_43] 44 (0, 0))] ++ (fp_20 ++ (fp_25 ++ (fp_30 ++ (fp_35 ++ (fp_40 ++ (fp_45 ++ ([(b_48, Obj.cells #[.func (.func 17) #[] #[.pointer (some ⟨b_4, 0, none⟩), .pointer (some ⟨b_12, 0, none⟩), .pointer (some ⟨b_48, 0, none⟩)]] 33 (0, 0))] ++ ([(b_69, Obj.cells #[.int .i64 ((ix nodes_17 f_1).1), .int .i64 ((ix nodes_17 f_1).2.1), .int .i64 ((ix nodes_17 f_1).2.2)] 46 (0, 0))] ++ L))))))))))) #[.pointer (some ⟨b_15, 0, none⟩)] _ rfl (fun _ h => St.f3 h)), .inl rfl, .inl rfl, .inl rfl, trivial⟩ ?_)
        clear hS w
        refine Wd.turn rfl rfl rfl fun w hS => ?_
        replace hS := hS.f10
        replace hS := hS.f10
        replace hS := hS.f10
        replace hS := hS.f10
        replace hS := hS.f10
        replace hS := hS.f10
        replace hS := hS.f10
        refine WL.call rfl rfl rfl (enters0 (vs := [.pointer (some ⟨b_15, 0, none⟩), .int .i64 ((ix nodes_17 f_1).2.1)]) Tryd.call18 ⟨rfl, rfl, trivial⟩) (S_depth  h_19 h_24 h_29 h_34 h_39 h_44 hr_67 hS hV) ?_
        clear hV hS
        rintro _ w ⟨r_108, hV, rfl, hr_109, hS⟩
        refine ⟨_, rfl, ?_⟩
        refine WL.nil (DQ.mk2 (C' := St w0 H ([(b_15, Obj.cells #[v_18, v_23, v_28, v_33, v_38, v_43] 44 (0, 0))] ++ (fp_20 ++ (fp_25 ++ (fp_30 ++ (fp_35 ++ (fp_40 ++ (fp_45 ++ ([(b_4, Obj.cells #[v_7] 51 (0, 0))] ++ (fp_105 ++ ([(b_12, Obj.cells #[.pointer (some ⟨b_15, 0, none⟩)] 23 (0, 0))] ++ ([(b_48, Obj.cells #[.func (.func 17) #[] #[.pointer (some ⟨b_4, 0, none⟩), .pointer (some ⟨b_12, 0, none⟩), .pointer (some ⟨b_48, 0, none⟩)]] 33 (0, 0))] ++ ([(b_69, Obj.cells #[.int .i64 ((ix nodes_17 f_1).1), .int .i64 ((ix nodes_17 f_1).2.1), .int .i64 ((ix nodes_17 f_1).2.2)] 46 (0, 0))] ++ L))))))))))))) hS ⟨.inr (hq_100 _), .inr (hq_98 H ([(b_15, Obj.cells #[v_18, v_23, v_28, v_33, v_38, v_43] 44 (0, 0))] ++ (fp_20 ++ (fp_25 ++ (fp_30 ++ (fp_35 ++ (fp_40 ++ (fp_45 ++ ([(b_4, Obj.cells #[v_7] 51 (0, 0))] ++ (fp_105 ++ ([(b_12, Obj.cells #[.pointer (some ⟨b_15, 0, none⟩)] 23 (0, 0))] ++ ([(b_48, Obj.cells #[.func (.func 17) #[] #[.pointer (some ⟨b_4, 0, none⟩), .pointer (some ⟨b_12, 0, none⟩), .pointer (some ⟨b_48, 0, none⟩)]] 33 (0, 0))] ++ L))))))))))) #[.int .i64 ((ix nodes_17 f_1).1), .int .i64 ((ix nodes_17 f_1).2.1), .int .i64 ((ix nodes_17 f_1).2.2)] _ rfl (fun _ h => St.f12 h)), .inr (hq_96 _), .inr (hq_94 H ([(b_15, Obj.cells #[v_18, v_23, v_28, v_33, v_38, v_43] 44 (0, 0))] ++ (fp_20 ++ (fp_25 ++ (fp_30 ++ (fp_35 ++ (fp_40 ++ (fp_45 ++ ([(b_4, Obj.cells #[v_7] 51 (0, 0))] ++ (fp_105 ++ ([(b_48, Obj.cells #[.func (.func 17) #[] #[.pointer (some ⟨b_4, 0, none⟩), .pointer (some ⟨b_12, 0, none⟩), .pointer (some ⟨b_48, 0, none⟩)]] 33 (0, 0))] ++ ([(b_69, Obj.cells #[.int .i64 ((ix nodes_17 f_1).1), .int .i64 ((ix nodes_17 f_1).2.1), .int .i64 ((ix nodes_17 f_1).2.2)] 46 (0, 0))] ++ L))))))))))) #[.pointer (some ⟨b_15, 0, none⟩)] _ rfl (fun _ h => St.f10 h)), .inr (hq_92 H ([(b_15, Obj.cells #[v_18, v_23, v_28, v_33, v_38, v_43] 44 (0, 0))] ++ (fp_20 ++ (fp_25 ++ (fp_30 ++ (fp_35 ++ (fp_40 ++ (fp_45 ++ ([(b_4, Obj.cells #[v_7] 51 (0, 0))] ++ (fp_105 ++ ([(b_12, Obj.cells #[.pointer (some ⟨b_15, 0, none⟩)] 23 (0, 0))] ++ ([(b_48, Obj.cells #[.func (.func 17) #[] #[.pointer (some ⟨b_4, 0, none⟩), .pointer (some ⟨b_12, 0, none⟩), .pointer (some ⟨b_48, 0, none⟩)]] 33 (0, 0))] ++ L))))))))))) #[.int .i64 ((ix nodes_17 f_1).1), .int .i64 ((ix nodes_17 f_1).2.1), .int .i64 ((ix nodes_17 f_1).2.2)] _ rfl (fun _ h => St.f12 h)), .inr (hq_90 _), .inr (hq_88 H ([(b_15, Obj.cells #[v_18, v_23, v_28, v_33, v_38, v_43] 44 (0, 0))] ++ (fp_20 ++ (fp_25 ++ (fp_30 ++ (fp_35 ++ (fp_40 ++ (fp_45 ++ ([(b_4, Obj.cells #[v_7] 51 (0, 0))] ++ (fp_105 ++ ([(b_12, Obj.cells #[.pointer (some ⟨b_15, 0, none⟩)] 23 (0, 0))] ++ ([(b_69, Obj.cells #[.int .i64 ((ix nodes_17 f_1).1), .int .i64 ((ix nodes_17 f_1).2.1), .int .i64 ((ix nodes_17 f_1).2.2)] 46 (0, 0))] ++ L))))))))))) #[.func (.func 17) #[] #[.pointer (some ⟨b_4, 0, none⟩), .pointer (some ⟨b_12, 0, none⟩), .pointer (some ⟨b_48, 0, none⟩)]] _ rfl (fun _ h => St.f11 h)), .inr (hq_86 _), .inl rfl, .inl rfl, .inl rfl, .inl rfl, .inl rfl, .inl rfl, trivial⟩ ?_)
        clear hS w
        obtain ⟨hi_114, hV⟩ := hV
        refine Wd.run rfl rfl rfl rfl (fun _ => ex_sub rfl rfl hi_114) fun q_112 hq_111 => ?_
        obtain ⟨hi_118, hV⟩ := hV
        refine Wd.run rfl rfl rfl rfl (fun _ => ex_sub rfl rfl hi_118) fun q_116 hq_115 => ?_
        obtain ⟨hi_121, hV⟩ := hV
        refine Wd.run rfl rfl rfl rfl (fun _ => ex_shl rfl rfl hi_121) fun q_120 hq_119 => ?_
        refine Wd.turn rfl rfl rfl fun w hS => ?_
        replace hS := hS.f11
        replace hS := hS.f8
        replace hS := hS.f8
        replace hS := hS.f8
        replace hS := hS.f8
        replace hS := hS.f8
        replace hS := hS.f8
        replace hS := hS.f8
        replace hS := hS.f11
        replace hS := hS.f11
        replace hS := hS.f11
        refine WL.call rfl rfl rfl (enters_c (vs := [.int .i64 ((ix nodes_17 f_1).2.2)]) (caps := [.pointer (some ⟨b_4, 0, none⟩), .pointer (some ⟨b_12, 0, none⟩), .pointer (some ⟨b_48, 0, none⟩)]) rfl Tryd.call17 ⟨rfl, trivial⟩) (ih  hr_68 h_106 h_19 h_24 h_29 h_34 h_39 h_44 hS hV) ?_
        clear hV hS
        rintro _ w ⟨r_122, m_124, fp_125, hV, rfl, hr_123, h_126, hS⟩
        refine ⟨_, rfl, ?_⟩
        refine WL.nil (DQ.mk2 (C' := St w0 H ([(b_4, Obj.cells #[v_7] 51 (0, 0))] ++ (fp_125 ++ ([(b_12, Obj.cells #[.pointer (some ⟨b_15, 0, none⟩)] 23 (0, 0))] ++ ([(b_15, Obj.cells #[v_18, v_23, v_28, v_33, v_38, v_43] 44 (0, 0))] ++ (fp_20 ++ (fp_25 ++ (fp_30 ++ (fp_35 ++ (fp_40 ++ (fp_45 ++ ([(b_48, Obj.cells #[.func (.func 17) #[] #[.pointer (some ⟨b_4, 0, none⟩), .pointer (some ⟨b_12, 0, none⟩), .pointer (some ⟨b_48, 0, none⟩)]] 33 (0, 0))] ++ ([(b_69, Obj.cells #[.int .i64 ((ix nodes_17 f_1).1), .int .i64 ((ix nodes_17 f_1).2.1), .int .i64 ((ix nodes_17 f_1).2.2)] 46 (0, 0))] ++ L))))))))))))) hS ⟨.inr (hq_119 _), .inr (hq_115 _), .inr (hq_111 _), .inr (hq_100 _), .inr (hq_98 H ([(b_4, Obj.cells #[v_7] 51 (0, 0))] ++ (fp_125 ++ ([(b_12, Obj.cells #[.pointer (some ⟨b_15, 0, none⟩)] 23 (0, 0))] ++ ([(b_15, Obj.cells #[v_18, v_23, v_28, v_33, v_38, v_43] 44 (0, 0))] ++ (fp_20 ++ (fp_25 ++ (fp_30 ++ (fp_35 ++ (fp_40 ++ (fp_45 ++ ([(b_48, Obj.cells #[.func (.func 17) #[] #[.pointer (some ⟨b_4, 0, none⟩), .pointer (some ⟨b_12, 0, none⟩), .pointer (some ⟨b_48, 0, none⟩)]] 33 (0, 0))] ++ L))))))))))) #[.int .i64 ((ix nodes_17 f_1).1), .int .i64 ((ix nodes_17 f_1).2.1), .int .i64 ((ix nodes_17 f_1).2.2)] _ rfl (fun _ h => St.f12 h)), .inr (hq_96 _), .inr (hq_94 H ([(b_4, Obj.cells #[v_7] 51 (0, 0))] ++ (fp_125 ++ ([(b_15, Obj.cells #[v_18, v_23, v_28, v_33, v_38, v_43] 44 (0, 0))] ++ (fp_20 ++ (fp_25 ++ (fp_30 ++ (fp_35 ++ (fp_40 ++ (fp_45 ++ ([(b_48, Obj.cells #[.func (.func 17) #[] #[.pointer (some ⟨b_4, 0, none⟩), .pointer (some ⟨b_12, 0, none⟩), .pointer (some ⟨b_48, 0, none⟩)]] 33 (0, 0))] ++ ([(b_69, Obj.cells #[.int .i64 ((ix nodes_17 f_1).1), .int .i64 ((ix nodes_17 f_1).2.1), .int .i64 ((ix nodes_17 f_1).2.2)] 46 (0, 0))] ++ L))))))))))) #[.pointer (some ⟨b_15, 0, none⟩)] _ rfl (fun _ h => St.f3 h)), .inl rfl, .inl rfl, .inl rfl, .inr (hq_86 _), .inl rfl, .inl rfl, .inl rfl, .inl rfl, .inl rfl, .inl rfl, trivial⟩ ?_)
        clear hS w
        refine Wd.turn rfl rfl rfl fun w hS => ?_
        replace hS := hS.f10
        replace hS := hS.f10
        replace hS := hS.f10
        replace hS := hS.f10
        replace hS := hS.f10
        replace hS := hS.f10
        replace hS := hS.f10
        refine WL.call rfl rfl rfl (enters0 (vs := [.pointer (some ⟨b_15, 0, none⟩), .int .i64 ((ix nodes_17 f_1).2.2)]) Tryd.call18 ⟨rfl, rfl, trivial⟩) (S_depth  h_19 h_24 h_29 h_34 h_39 h_44 hr_68 hS hV) ?_
        clear hV hS
        rintro _ w ⟨r_128, hV, rfl, hr_129, hS⟩
        refine ⟨_, rfl, ?_⟩
        refine WL.nil (DQ.mk2 (C' := St w0 H ([(b_15, Obj.cells #[v_18, v_23, v_28, v_33, v_38, v_43] 44 (0, 0))] ++ (fp_20 ++ (fp_25 ++ (fp_30 ++ (fp_35 ++ (fp_40 ++ (fp_45 ++ ([(b_4, Obj.cells #[v_7] 51 (0, 0))] ++ (fp_125 ++ ([(b_12, Obj.cells #[.pointer (some ⟨b_15, 0, none⟩)] 23 (0, 0))] ++ ([(b_48, Obj.cells #[.func (.func 17) #[] #[.pointer (some ⟨b_4, 0, none⟩), .pointer (some ⟨b_12, 0, none⟩), .pointer (some ⟨b_48, 0, none⟩)]] 33 (0, 0))] ++ ([(b_69, Obj.cells #[.int .i64 ((ix nodes_17 f_1).1), .int .i64 ((ix nodes_17 f_1).2.1), .int .i64 ((ix nodes_17 f_1).2.2)] 46 (0, 0))] ++ L))))))))))))) hS ⟨.inr (hq_119 _), .inr (hq_115 _), .inr (hq_111 _), .inr (hq_100 _), .inl rfl, .inl rfl, .inl rfl, .inl rfl, .inl rfl, .inl rfl, .inr (hq_86 _), .inl rfl, .inl rfl, .inl rfl, .inl rfl, .inl rfl, .inl rfl, trivial⟩ ?_)
        clear hS w
        obtain ⟨hi_134, hV⟩ := hV
        refine Wd.run rfl rfl rfl rfl (fun _ => ex_sub rfl rfl hi_134) fun q_132 hq_131 => ?_
        obtain ⟨hi_138, hV⟩ := hV
        refine Wd.run rfl rfl rfl rfl (fun _ => ex_sub rfl rfl hi_138) fun q_136 hq_135 => ?_
        obtain ⟨hi_141, hV⟩ := hV
        refine Wd.run rfl rfl rfl rfl (fun _ => ex_shl rfl rfl hi_141) fun q_140 hq_139 => ?_
        obtain ⟨hi_145, hV⟩ := hV
        refine Wd.run rfl rfl rfl rfl (fun _ => ex_add rfl rfl hi_145) fun q_143 hq_142 => ?_
        refine Wd.run rfl rfl rfl rfl (fun _ => ex_assign rfl) fun q_147 hq_146 => ?_
        refine Wd.nil fun w hS => ?_
        refine WQ.next ?_
        refine WC.sub (m := [(0, .int .i64 f_1), (1, .pointer (some ⟨b_4, 0, none⟩)), (10, .int .i64 (((r_102 : Int) * 2 ^ ((r_108 - r_71) - 1).toNat) + ((r_122 : Int) * 2 ^ ((r_128 - r_71) - 1).toNat)))]) ⟨rfl, rfl, rfl, trivial⟩ ?_
        replace hS := hS.f12.drop
        refine WC.seq ?_
        refine WC.region ?_
        replace hS := hS.f8
        refine WL.run hS rfl rfl rfl (ex_load_box Tryd.isAgg51 rfl rfl) ?_
        refine WL.run hS rfl rfl rfl (ex_move rfl) ?_
        refine WL.run hS rfl rfl rfl (ex_move rfl) ?_
        replace hS := hS.f9
        refine WL.mapUpdate (k := f_1) (e := (((r_102 : Int) * 2 ^ ((r_108 - r_71) - 1).toNat) + ((r_122 : Int) * 2 ^ ((r_128 - r_71) - 1).toNat))) Tryd.underlying51 Tryd.key29 hr_2 (cInt_mk (I64.has hi_145)) rfl rfl rfl hS h_126 ?_
        clear hS
        intro w fp_148 h_149 hS
        refine WL.nil ?_
        refine WQ.next ?_
        refine WC.sub (m := [(10, .int .i64 (((r_102 : Int) * 2 ^ ((r_108 - r_71) - 1).toNat) + ((r_122 : Int) * 2 ^ ((r_128 - r_71) - 1).toNat)))]) ⟨rfl, trivial⟩ ?_
        refine WC.seq ?_
        refine WC.region ?_
        refine WL.run hS rfl rfl rfl (ex_move rfl) ?_
        refine WL.run hS rfl rfl rfl (ex_assign rfl) ?_
        refine WL.nil ?_
        refine WQ.next ?_
        refine WC.sub (m := [(5, .int .i64 (((r_102 : Int) * 2 ^ ((r_108 - r_71) - 1).toNat) + ((r_122 : Int) * 2 ^ ((r_128 - r_71) - 1).toNat)))]) ⟨rfl, trivial⟩ ?_
        refine WC.ret ?_
        replace hS := hS.f11
        replace hS := hS.f10
        replace hS := hS.f10
        replace hS := hS.f10
        replace hS := hS.f10
        replace hS := hS.f10
        replace hS := hS.f10
        replace hS := hS.f10
        replace hS := hS.f11
        replace hS := hS.f10
        replace hS := hS.f11
        exact leave1 rfl rfl ⟨(((r_102 : Int) * 2 ^ ((r_108 - r_71) - 1).toNat) + ((r_122 : Int) * 2 ^ ((r_128 - r_71) - 1).toNat)), (mset m_124 f_1 (((r_102 : Int) * 2 ^ ((r_108 - r_71) - 1).toNat) + ((r_122 : Int) * 2 ^ ((r_128 - r_71) - 1).toNat))), fp_148, hV, rfl, hi_145, h_149, hS⟩

end Go.Proofs.YtceipmldngeagaaDoor
